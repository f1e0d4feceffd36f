/- CoroMatches itself, in company: its pieces. (Printed by gen_ma.py.) -/
import Derived.Test.YtolnmdanlggmhaaKrg
import Derived.Test.YtolnmdanlggmhaaKrb
import Derived.Deep.SlicePairs
import Derived.SizedLaws
namespace Go.Proofs.Ytolnmdanlggmhaa
open Go.RowKit Go.Maps Go.Conc
open Go.ConcN (upd upd_ne upd_same)

set_option maxRecDepth 100000
set_option maxHeartbeats 2000000

noncomputable abbrev bodyC11 : Code := Try.f11.body.getD .skip
/-- The slots, of which some are told. -/
def L11 (ts : Array Value) (l : List (Nat × Value)) : Array Value := List.toArray ((List.range 93).map fun i => (l.lookup i).getD (ts.getD i undef))
theorem lit_c11 (ts : Array Value) (h : ts.size = 93) : ts = List.toArray (ts.getD 0 undef :: ts.getD 1 undef :: ts.getD 2 undef :: ts.getD 3 undef :: ts.getD 4 undef :: ts.getD 5 undef :: ts.getD 6 undef :: ts.getD 7 undef :: ts.getD 8 undef :: ts.getD 9 undef :: ts.getD 10 undef :: ts.getD 11 undef :: ts.getD 12 undef :: ts.getD 13 undef :: ts.getD 14 undef :: ts.getD 15 undef :: ts.getD 16 undef :: ts.getD 17 undef :: ts.getD 18 undef :: ts.getD 19 undef :: ts.getD 20 undef :: ts.getD 21 undef :: ts.getD 22 undef :: ts.getD 23 undef :: ts.getD 24 undef :: ts.getD 25 undef :: ts.getD 26 undef :: ts.getD 27 undef :: ts.getD 28 undef :: ts.getD 29 undef :: ts.getD 30 undef :: ts.getD 31 undef :: ts.getD 32 undef :: ts.getD 33 undef :: ts.getD 34 undef :: ts.getD 35 undef :: ts.getD 36 undef :: ts.getD 37 undef :: ts.getD 38 undef :: ts.getD 39 undef :: ts.getD 40 undef :: ts.getD 41 undef :: ts.getD 42 undef :: ts.getD 43 undef :: ts.getD 44 undef :: ts.getD 45 undef :: ts.getD 46 undef :: ts.getD 47 undef :: ts.getD 48 undef :: ts.getD 49 undef :: ts.getD 50 undef :: ts.getD 51 undef :: ts.getD 52 undef :: ts.getD 53 undef :: ts.getD 54 undef :: ts.getD 55 undef :: ts.getD 56 undef :: ts.getD 57 undef :: ts.getD 58 undef :: ts.getD 59 undef :: ts.getD 60 undef :: ts.getD 61 undef :: ts.getD 62 undef :: ts.getD 63 undef :: ts.getD 64 undef :: ts.getD 65 undef :: ts.getD 66 undef :: ts.getD 67 undef :: ts.getD 68 undef :: ts.getD 69 undef :: ts.getD 70 undef :: ts.getD 71 undef :: ts.getD 72 undef :: ts.getD 73 undef :: ts.getD 74 undef :: ts.getD 75 undef :: ts.getD 76 undef :: ts.getD 77 undef :: ts.getD 78 undef :: ts.getD 79 undef :: ts.getD 80 undef :: ts.getD 81 undef :: ts.getD 82 undef :: ts.getD 83 undef :: ts.getD 84 undef :: ts.getD 85 undef :: ts.getD 86 undef :: ts.getD 87 undef :: ts.getD 88 undef :: ts.getD 89 undef :: ts.getD 90 undef :: ts.getD 91 undef :: ts.getD 92 undef :: []) := (lit_any ts 93 h).trans (by kernel_rfl)
theorem gtr_w {a : Act} {o : Oper} {x y : Operand} {t t' : TypeId} {p q : Int} {r : Bool} {w : World} (ho : o.op = .binOp .gtr t x y t') (hx : a.eval x = .int .i64 p) (hy : a.eval y = .int .i64 q) (hr : decide (q < p) = r) : (execOp a.eval o).run Try.prog w = .ok (.value (.bool r)) w := by
  unfold execOp
  simp only [ho, hx, hy]
  simp [go_sem, ← hr]
section
variable {main : Bool} {Z : Addr → Prop} {Stop : Goroutine → World → Prop} {w₀ u : World} {af : Addr} {nF cF : Nat} {A1 AW : Option Addr} {nz cz nw cw : Nat} {wb mb b3 sb n k idx : Nat} {id : Int} {bb : Bool} {v : Value} {m : RS} {R : Nat → Prop} {ts : Array Value} {fs : List (List RStep)}
structure M11A (ts : Array Value) (af : Addr) (nF : Nat) (cF : Nat) (A1 : Option Addr) (nz : Nat) (cz : Nat) (AW : Option Addr) (nw : Nat) (cw : Nat) : Prop where
  size : ts.size = 93
  t0 : ts.getD 0 undef = .slice (some af) nF cF
  t1 : ts.getD 1 undef = .slice A1 nz cz
  t2 : ts.getD 2 undef = .slice AW nw cw
theorem M11A.sh (h : M11A ts af nF cF A1 nz cz AW nw cw) : ts = (L11 ts [(0, .slice (some af) nF cF), (1, .slice A1 nz cz), (2, .slice AW nw cw)]) := by
  have e := lit_c11 ts h.size
  rw [h.t0, h.t1, h.t2] at e
  exact e.trans (by kernel_rfl)
structure M11B (ts : Array Value) (AW : Option Addr) (nw : Nat) (cw : Nat) (wb : Nat) (mb : Nat) : Prop where
  size : ts.size = 93
  t2 : ts.getD 2 undef = .slice AW nw cw
  t7 : ts.getD 7 undef = ptr wb
  t8 : ts.getD 8 undef = ptr mb
theorem M11B.sh (h : M11B ts AW nw cw wb mb) : ts = (L11 ts [(2, .slice AW nw cw), (7, ptr wb), (8, ptr mb)]) := by
  have e := lit_c11 ts h.size
  rw [h.t2, h.t7, h.t8] at e
  exact e.trans (by kernel_rfl)
structure M11D (ts : Array Value) (AW : Option Addr) (nw : Nat) (cw : Nat) (wb : Nat) (mb : Nat) (n : Nat) (k : Nat) : Prop where
  size : ts.size = 93
  t2 : ts.getD 2 undef = .slice AW nw cw
  t7 : ts.getD 7 undef = ptr wb
  t8 : ts.getD 8 undef = ptr mb
  t9 : ts.getD 9 undef = .int .i64 (n : Int)
  t10 : ts.getD 10 undef = .int .i64 (k : Int)
theorem M11D.sh (h : M11D ts AW nw cw wb mb n k) : ts = (L11 ts [(2, .slice AW nw cw), (7, ptr wb), (8, ptr mb), (9, .int .i64 (n : Int)), (10, .int .i64 (k : Int))]) := by
  have e := lit_c11 ts h.size
  rw [h.t2, h.t7, h.t8, h.t9, h.t10] at e
  exact e.trans (by kernel_rfl)
structure M11L (ts : Array Value) (AW : Option Addr) (nw : Nat) (cw : Nat) (wb : Nat) (mb : Nat) (idx : Nat) : Prop where
  size : ts.size = 93
  t7 : ts.getD 7 undef = ptr wb
  t8 : ts.getD 8 undef = ptr mb
  t53 : ts.getD 53 undef = .slice AW nw cw
  t54 : ts.getD 54 undef = .int .i64 (nw : Int)
  t55 : ts.getD 55 undef = .int .i64 (idx : Int)
theorem M11L.sh (h : M11L ts AW nw cw wb mb idx) : ts = (L11 ts [(7, ptr wb), (8, ptr mb), (53, .slice AW nw cw), (54, .int .i64 (nw : Int)), (55, .int .i64 (idx : Int))]) := by
  have e := lit_c11 ts h.size
  rw [h.t7, h.t8, h.t53, h.t54, h.t55] at e
  exact e.trans (by kernel_rfl)
structure M11W (ts : Array Value) (AW : Option Addr) (nw : Nat) (cw : Nat) (wb : Nat) (mb : Nat) (idx : Nat) (id : Int) (b3 : Nat) (bb : Bool) : Prop where
  size : ts.size = 93
  t7 : ts.getD 7 undef = ptr wb
  t8 : ts.getD 8 undef = ptr mb
  t53 : ts.getD 53 undef = .slice AW nw cw
  t54 : ts.getD 54 undef = .int .i64 (nw : Int)
  t55 : ts.getD 55 undef = .int .i64 (idx : Int)
  t12 : ts.getD 12 undef = .int .i64 id
  t13 : ts.getD 13 undef = ptr b3
  t14 : ts.getD 14 undef = .bool bb
theorem M11W.sh (h : M11W ts AW nw cw wb mb idx id b3 bb) : ts = (L11 ts [(7, ptr wb), (8, ptr mb), (12, .int .i64 id), (13, ptr b3), (14, .bool bb), (53, .slice AW nw cw), (54, .int .i64 (nw : Int)), (55, .int .i64 (idx : Int))]) := by
  have e := lit_c11 ts h.size
  rw [h.t7, h.t8, h.t53, h.t54, h.t55, h.t12, h.t13, h.t14] at e
  exact e.trans (by kernel_rfl)
structure M11X (ts : Array Value) (AW : Option Addr) (nw : Nat) (cw : Nat) (wb : Nat) (mb : Nat) (idx : Nat) (k : Nat) : Prop where
  size : ts.size = 93
  t7 : ts.getD 7 undef = ptr wb
  t8 : ts.getD 8 undef = ptr mb
  t53 : ts.getD 53 undef = .slice AW nw cw
  t54 : ts.getD 54 undef = .int .i64 (nw : Int)
  t55 : ts.getD 55 undef = .int .i64 (idx : Int)
  t10 : ts.getD 10 undef = .int .i64 (k : Int)
theorem M11X.sh (h : M11X ts AW nw cw wb mb idx k) : ts = (L11 ts [(7, ptr wb), (8, ptr mb), (10, .int .i64 (k : Int)), (53, .slice AW nw cw), (54, .int .i64 (nw : Int)), (55, .int .i64 (idx : Int))]) := by
  have e := lit_c11 ts h.size
  rw [h.t7, h.t8, h.t53, h.t54, h.t55, h.t10] at e
  exact e.trans (by kernel_rfl)
theorem ma_few (hfew : ∀ A d, Calls Try.prog 51 #[.slice (some af) nF cF] (tp u A d) fun e w' => e = .returned (.bool true) ∧ ∃ A d, w' = tp u A d) (hnw : nw ≤ 30)
    (hk : ∀ ts, M11A ts af nF cF A1 nz cz AW nw cw → OwnU Try.prog main Z Stop w₀ (stIn (some af) nF cF A1 nz cz [((base 11).at ⟨ts, []⟩ (.inRegion (opsOf (sel [1, 1, 0] bodyC11)) (2 :: [3, 4, 5, 6, 7, 8]) :: [.code (sel [1, 1, 1] bodyC11)]))]) u) : OwnU Try.prog main Z Stop w₀ (G ((base 11).at ⟨(L11 #[] [(0, .slice (some af) nF cF), (1, .slice A1 nz cz), (2, .slice AW nw cw)]), []⟩ [.code bodyC11]) []) u := by
  refine ownU_seq (x := sel [0] bodyC11) (y := sel [1] bodyC11) ?_
  refine ownU_region (id := 0) (ops := opsOf (sel [0] bodyC11)) ?_
  refine ownU_quiet (i := 0) (rest := []) (.bool false) rfl (by rfl) rfl (by decide) (fun _ => by kernel_rfl) ?_
  refine ownU_region_end ?_
  refine ownU_seq (x := sel [1, 0] bodyC11) (y := sel [1, 1] bodyC11) ?_
  refine ownU_seq (x := sel [1, 0, 0] bodyC11) (y := sel [1, 0, 1] bodyC11) ?_
  refine ownU_region (id := 1) (ops := opsOf (sel [1, 0, 0] bodyC11)) ?_
  refine ownU_quiet (i := 0) (rest := [1, 2, 3, 4, 5, 6, 7]) (.slice (some af) nF cF) rfl (by rfl) rfl (by decide) (fun _ => by kernel_rfl) ?_
  refine ownU_callK (i := 1) (rest := [2, 3, 4, 5, 6, 7]) (L := lone18) (R := fun e w' => e = .returned (.bool true) ∧ ∃ A d, w' = tp u A d) okL18 (by decide) rfl rfl (by kernel_rfl) (by kernel_rfl) (by decide) (fun A d => calls_eq (by kernel_rfl) (hfew A d)) (fun e w h => ⟨_, h.1⟩) fun z u' hR' => ?_
  obtain ⟨e, A, d, rfl⟩ := hR'
  injection e with e
  subst e
  refine ownU_tp.2 ?_
  refine ownU_quiet (i := 2) (rest := [3, 4, 5, 6, 7]) (.bool false) rfl (by kernel_rfl) rfl (by decide) (fun _ => by kernel_rfl) ?_
  refine ownU_quiet (i := 3) (rest := [4, 5, 6, 7]) (.bool false) rfl (by kernel_rfl) rfl (by decide) (fun _ => by kernel_rfl) ?_
  refine ownU_quiet (i := 4) (rest := [5, 6, 7]) (.slice AW nw cw) rfl (by kernel_rfl) rfl (by decide) (fun _ => by kernel_rfl) ?_
  refine ownU_quiet (i := 5) (rest := [6, 7]) (.int .i64 (nw : Int)) rfl (by kernel_rfl) rfl (by decide) (fun _ => by kernel_rfl) ?_
  refine ownU_quiet (i := 6) (rest := [7]) (.bool false) rfl (by kernel_rfl) rfl (by decide) (fun _ => gtr_w (p := (nw : Int)) (q := 30) rfl (by kernel_rfl) (by kernel_rfl) (by simp; omega)) ?_
  refine ownU_quiet (i := 7) (rest := []) (.bool false) rfl (by kernel_rfl) rfl (by decide) (fun _ => by kernel_rfl) ?_
  refine ownU_region_end ?_
  refine ownU_cond (c := .tmp 22) (x := sel [1, 0, 1, 2] bodyC11) (y := .skip) (t := false) (by kernel_rfl) ?_
  refine ownU_skip ?_
  refine ownU_seq (x := sel [1, 1, 0] bodyC11) (y := sel [1, 1, 1] bodyC11) ?_
  refine ownU_region (id := 3) (ops := opsOf (sel [1, 1, 0] bodyC11)) ?_
  refine ownU_quiet (i := 0) (rest := [1, 2, 3, 4, 5, 6, 7, 8]) (.slice (some af) nF cF) rfl (by rfl) rfl (by decide) (fun _ => by kernel_rfl) ?_
  refine ownU_quiet (i := 1) (rest := [2, 3, 4, 5, 6, 7, 8]) (.slice A1 nz cz) rfl (by rfl) rfl (by decide) (fun _ => by kernel_rfl) ?_
  refine ownU_lit ((L11 #[] [(0, .slice (some af) nF cF), (1, .slice A1 nz cz), (2, .slice AW nw cw), (6, .bool false), (15, .slice (some af) nF cF), (16, .bool true), (17, .bool false), (18, .bool false), (19, .slice AW nw cw), (20, .int .i64 (nw : Int)), (21, .bool false), (22, .bool false), (25, .slice (some af) nF cF), (26, .slice A1 nz cz)])) [] (by kernel_rfl) (by kernel_rfl) ?_
  refine ownU_enterT (i := 2) (rest := [3, 4, 5, 6, 7, 8]) (f := 52) rfl (by kernel_rfl) (by decide) rfl Try.func52 (by kernel_rfl) rfl fun ts' hts => ?_
  have hT : M11A ts' af nF cF A1 nz cz AW nw cw := by subst hts; exact ⟨by kernel_rfl, by kernel_rfl, by kernel_rfl, by kernel_rfl⟩
  clear hts
  exact ownU_eq (by kernel_rfl) (hk ts' hT)
theorem ma_long {AF : Option Addr} (hfew : ∀ A d, Calls Try.prog 51 #[.slice AF nF cF] (tp u A d) fun e w' => e = .returned (.bool true) ∧ ∃ A d, w' = tp u A d) (hnw : 30 < nw)
    (hk : ∀ ts, ts.size = 93 → OwnU Try.prog main Z Stop w₀ (aliveIn [((base 11).at ⟨ts, []⟩ (.inRegion (opsOf (sel [1, 0, 1, 2, 0] bodyC11)) (0 :: [1]) :: [.code (sel [1, 0, 1, 2, 1] bodyC11), .code (sel [1, 1] bodyC11)]))]) u) : OwnU Try.prog main Z Stop w₀ (G ((base 11).at ⟨(L11 #[] [(0, .slice AF nF cF), (1, .slice A1 nz cz), (2, .slice AW nw cw)]), []⟩ [.code bodyC11]) []) u := by
  refine ownU_seq (x := sel [0] bodyC11) (y := sel [1] bodyC11) ?_
  refine ownU_region (id := 0) (ops := opsOf (sel [0] bodyC11)) ?_
  refine ownU_quiet (i := 0) (rest := []) (.bool false) rfl (by rfl) rfl (by decide) (fun _ => by kernel_rfl) ?_
  refine ownU_region_end ?_
  refine ownU_seq (x := sel [1, 0] bodyC11) (y := sel [1, 1] bodyC11) ?_
  refine ownU_seq (x := sel [1, 0, 0] bodyC11) (y := sel [1, 0, 1] bodyC11) ?_
  refine ownU_region (id := 1) (ops := opsOf (sel [1, 0, 0] bodyC11)) ?_
  refine ownU_quiet (i := 0) (rest := [1, 2, 3, 4, 5, 6, 7]) (.slice AF nF cF) rfl (by rfl) rfl (by decide) (fun _ => by kernel_rfl) ?_
  refine ownU_callK (i := 1) (rest := [2, 3, 4, 5, 6, 7]) (L := lone18) (R := fun e w' => e = .returned (.bool true) ∧ ∃ A d, w' = tp u A d) okL18 (by decide) rfl rfl (by kernel_rfl) (by kernel_rfl) (by decide) (fun A d => calls_eq (by kernel_rfl) (hfew A d)) (fun e w h => ⟨_, h.1⟩) fun z u' hR' => ?_
  obtain ⟨e, A, d, rfl⟩ := hR'
  injection e with e
  subst e
  refine ownU_tp.2 ?_
  refine ownU_quiet (i := 2) (rest := [3, 4, 5, 6, 7]) (.bool false) rfl (by kernel_rfl) rfl (by decide) (fun _ => by kernel_rfl) ?_
  refine ownU_quiet (i := 3) (rest := [4, 5, 6, 7]) (.bool false) rfl (by kernel_rfl) rfl (by decide) (fun _ => by kernel_rfl) ?_
  refine ownU_quiet (i := 4) (rest := [5, 6, 7]) (.slice AW nw cw) rfl (by kernel_rfl) rfl (by decide) (fun _ => by kernel_rfl) ?_
  refine ownU_quiet (i := 5) (rest := [6, 7]) (.int .i64 (nw : Int)) rfl (by kernel_rfl) rfl (by decide) (fun _ => by kernel_rfl) ?_
  refine ownU_quiet (i := 6) (rest := [7]) (.bool true) rfl (by kernel_rfl) rfl (by decide) (fun _ => gtr_w (p := (nw : Int)) (q := 30) rfl (by kernel_rfl) (by kernel_rfl) (by simp; omega)) ?_
  refine ownU_quiet (i := 7) (rest := []) (.bool true) rfl (by kernel_rfl) rfl (by decide) (fun _ => by kernel_rfl) ?_
  refine ownU_region_end ?_
  refine ownU_cond (c := .tmp 22) (x := sel [1, 0, 1, 2] bodyC11) (y := .skip) (t := true) (by kernel_rfl) ?_
  refine ownU_seq (x := sel [1, 0, 1, 2, 0] bodyC11) (y := sel [1, 0, 1, 2, 1] bodyC11) ?_
  refine ownU_region (id := 2) (ops := opsOf (sel [1, 0, 1, 2, 0] bodyC11)) ?_
  refine ownU_lit ((L11 #[] [(0, .slice AF nF cF), (1, .slice A1 nz cz), (2, .slice AW nw cw), (6, .bool false), (15, .slice AF nF cF), (16, .bool true), (17, .bool false), (18, .bool false), (19, .slice AW nw cw), (20, .int .i64 (nw : Int)), (21, .bool true), (22, .bool true)])) [] (by kernel_rfl) (by kernel_rfl) ?_
  refine ownU_enterT (i := 0) (rest := [1]) (f := 34) rfl (by kernel_rfl) (by decide) rfl Try.func34 (by kernel_rfl) rfl fun ts' hts => ?_
  have hT : ts'.size = 93 := by subst hts; kernel_rfl
  clear hts
  exact ownU_eq (by kernel_rfl) (hk ts' hT)
theorem ma_nofew {AF : Option Addr} (hfew : ∀ A d, Calls Try.prog 51 #[.slice AF nF cF] (tp u A d) fun e w' => e = .returned (.bool false) ∧ ∃ A d, w' = tp u A d)
    (hk : ∀ ts, ts.size = 93 → OwnU Try.prog main Z Stop w₀ (aliveIn [((base 11).at ⟨ts, []⟩ (.inRegion (opsOf (sel [1, 0, 1, 2, 0] bodyC11)) (0 :: [1]) :: [.code (sel [1, 0, 1, 2, 1] bodyC11), .code (sel [1, 1] bodyC11)]))]) u) : OwnU Try.prog main Z Stop w₀ (G ((base 11).at ⟨(L11 #[] [(0, .slice AF nF cF), (1, .slice A1 nz cz), (2, .slice AW nw cw)]), []⟩ [.code bodyC11]) []) u := by
  refine ownU_seq (x := sel [0] bodyC11) (y := sel [1] bodyC11) ?_
  refine ownU_region (id := 0) (ops := opsOf (sel [0] bodyC11)) ?_
  refine ownU_quiet (i := 0) (rest := []) (.bool false) rfl (by rfl) rfl (by decide) (fun _ => by kernel_rfl) ?_
  refine ownU_region_end ?_
  refine ownU_seq (x := sel [1, 0] bodyC11) (y := sel [1, 1] bodyC11) ?_
  refine ownU_seq (x := sel [1, 0, 0] bodyC11) (y := sel [1, 0, 1] bodyC11) ?_
  refine ownU_region (id := 1) (ops := opsOf (sel [1, 0, 0] bodyC11)) ?_
  refine ownU_quiet (i := 0) (rest := [1, 2, 3, 4, 5, 6, 7]) (.slice AF nF cF) rfl (by rfl) rfl (by decide) (fun _ => by kernel_rfl) ?_
  refine ownU_callK (i := 1) (rest := [2, 3, 4, 5, 6, 7]) (L := lone18) (R := fun e w' => e = .returned (.bool false) ∧ ∃ A d, w' = tp u A d) okL18 (by decide) rfl rfl (by kernel_rfl) (by kernel_rfl) (by decide) (fun A d => calls_eq (by kernel_rfl) (hfew A d)) (fun e w h => ⟨_, h.1⟩) fun z u' hR' => ?_
  obtain ⟨e, A, d, rfl⟩ := hR'
  injection e with e
  subst e
  refine ownU_tp.2 ?_
  refine ownU_quiet (i := 2) (rest := [3, 4, 5, 6, 7]) (.bool true) rfl (by kernel_rfl) rfl (by decide) (fun _ => by kernel_rfl) ?_
  refine ownU_quiet (i := 3) (rest := [4, 5, 6, 7]) (.bool true) rfl (by kernel_rfl) rfl (by decide) (fun _ => by kernel_rfl) ?_
  refine ownU_unwanted (i := 4) (rest := [5, 6, 7]) rfl (by kernel_rfl) ?_
  refine ownU_unwanted (i := 5) (rest := [6, 7]) rfl (by kernel_rfl) ?_
  refine ownU_unwanted (i := 6) (rest := [7]) rfl (by kernel_rfl) ?_
  refine ownU_quiet (i := 7) (rest := []) (.bool true) rfl (by kernel_rfl) rfl (by decide) (fun _ => by kernel_rfl) ?_
  refine ownU_region_end ?_
  refine ownU_cond (c := .tmp 22) (x := sel [1, 0, 1, 2] bodyC11) (y := .skip) (t := true) (by kernel_rfl) ?_
  refine ownU_seq (x := sel [1, 0, 1, 2, 0] bodyC11) (y := sel [1, 0, 1, 2, 1] bodyC11) ?_
  refine ownU_region (id := 2) (ops := opsOf (sel [1, 0, 1, 2, 0] bodyC11)) ?_
  refine ownU_lit ((L11 #[] [(0, .slice AF nF cF), (1, .slice A1 nz cz), (2, .slice AW nw cw), (6, .bool false), (15, .slice AF nF cF), (16, .bool false), (17, .bool true), (18, .bool true), (22, .bool true)])) [] (by kernel_rfl) (by kernel_rfl) ?_
  refine ownU_enterT (i := 0) (rest := [1]) (f := 34) rfl (by kernel_rfl) (by decide) rfl Try.func34 (by kernel_rfl) rfl fun ts' hts => ?_
  have hT : ts'.size = 93 := by subst hts; kernel_rfl
  clear hts
  exact ownU_eq (by kernel_rfl) (hk ts' hT)
theorem ma_nofew2 (h : ts.size = 93)
    (hk : ∀ ts todo, ts.getD 6 undef = .bool true → OwnU Try.prog main Z Stop w₀ (G { (base 11).at ⟨ts, []⟩ todo with mode := .returning } [])  u) : OwnU Try.prog main Z Stop w₀ (G ((base 11).at ((⟨ts, []⟩ : Act).put ((((opsOf (sel [1, 0, 1, 2, 0] bodyC11)))[0]?).bind (·.dst)) (.bool true)) (.inRegion (opsOf (sel [1, 0, 1, 2, 0] bodyC11)) [1] :: [.code (sel [1, 0, 1, 2, 1] bodyC11), .code (sel [1, 1] bodyC11)])) []) u := by
  rw [lit_c11 ts h]
  refine ownU_quiet (i := 1) (rest := []) (.bool true) rfl (by rfl) rfl (by decide) (fun _ => by kernel_rfl) ?_
  refine ownU_region_end ?_
  refine ownU_lit ((L11 ts [(6, .bool true), (23, .bool true)])) [] (by kernel_rfl) (by kernel_rfl) ?_
  refine ownU_ret ?_
  exact hk _ _ (by kernel_rfl)
theorem ma_b (h : M11A ts af nF cF A1 nz cz AW nw cw) (hs : SAt u R (.slice (some af) nF cF) v m) (hR : ∀ b, R b → b < u.heap.size) (hw0 : u.cell? ⟨wb, 0, none⟩ = some (ptr sb))
    (hk : ∀ ts u', M11B ts AW nw cw wb u.heap.size → BoxAt u.heap.size v u' → SAt u' R (.slice (some af) nF cF) v m → New u u' → OwnU Try.prog main Z Stop w₀ (runIn sb [((base 11).at ⟨ts, [clDefer sb]⟩ (.inRegion (opsOf (sel [1, 1, 1, 1, 0] bodyC11)) (4 :: [5]) :: [.code (sel [1, 1, 1, 1, 1] bodyC11)]))]) u') : OwnU Try.prog main Z Stop w₀ (G ((base 11).at ((⟨ts, []⟩ : Act).put ((((opsOf (sel [1, 1, 0] bodyC11)))[2]?).bind (·.dst)) (.tuple #[ptr wb, v])) (.inRegion (opsOf (sel [1, 1, 0] bodyC11)) [3, 4, 5, 6, 7, 8] :: [.code (sel [1, 1, 1] bodyC11)])) []) u := by
  rw [h.sh]
  refine ownU_quiet (i := 3) (rest := [4, 5, 6, 7, 8]) (.tuple #[ptr wb, v]) rfl (by rfl) rfl (by decide) (fun _ => by kernel_rfl) ?_
  refine ownU_quiet (i := 4) (rest := [5, 6, 7, 8]) (ptr wb) rfl (by rfl) rfl (by decide) (fun _ => by kernel_rfl) ?_
  refine ownU_quiet (i := 5) (rest := [6, 7, 8]) (v) rfl (by rfl) rfl (by decide) (fun _ => by kernel_rfl) ?_
  refine ownU_new (.cells #[.slice none 0 0, .slice none 0 0, .slice none 0 0, .slice none 0 0, .bool false] 68) (i := 6) (rest := [7, 8]) rfl (by rfl) rfl (by decide) (fun _ => by kernel_rfl) ?_
  have hnew := New.alloc u (.cells #[.slice none 0 0, .slice none 0 0, .slice none 0 0, .slice none 0 0, .bool false] 68)
  have hblk : (u.alloc (.cells #[.slice none 0 0, .slice none 0 0, .slice none 0 0, .slice none 0 0, .bool false] 68)).heap[u.heap.size]? = some (.cells #[.slice none 0 0, .slice none 0 0, .slice none 0 0, .slice none 0 0, .bool false] 68 (0, 0)) := alloc_new' u _ rfl
  have hs1 := hs.keep (fun k hk _ => hnew.block k hk) hnew.size
  generalize u.alloc (.cells #[.slice none 0 0, .slice none 0 0, .slice none 0 0, .slice none 0 0, .bool false] 68) = u1 at *
  have hmb : u.heap.size = u.heap.size := rfl
  generalize hmbn : u.heap.size = mb at *
  refine ownU_quiet (i := 7) (rest := [8]) (ptr wb) rfl (by rfl) rfl (by decide) (fun _ => by kernel_rfl) ?_
  refine ownU_storeRef (i := 8) (rest := []) (p := .tmp 8) (x := .tmp 29) (v := v) rfl (by rfl) (by decide) rfl (by kernel_rfl) (by kernel_rfl) ⟨_, _, _, _, _, rfl, hblk⟩ hs1 ⟨_, _, _, rfl⟩ (fun h => by have := hR _ h; omega) fun u2 hb2 hs2 hv2 => ?_
  refine ownU_region_end ?_
  have hn2 : New u u2 := ⟨hv2.os.trans hnew.os, hv2.output.trans hnew.output, Nat.le_trans hnew.size hv2.size, fun b hb => (hv2.block b (Nat.lt_of_lt_of_le hb hnew.size) (by omega)).trans (hnew.block b hb)⟩
  have hw2 := hn2.cell hw0
  refine ownU_lit ((L11 ts [(0, .slice (some af) nF cF), (1, .slice A1 nz cz), (2, .slice AW nw cw), (7, ptr wb), (8, ptr mb), (24, .tuple #[ptr wb, v]), (27, .tuple #[ptr wb, v]), (28, ptr wb), (29, v)])) [] (by kernel_rfl) (by kernel_rfl) ?_
  refine ownU_seq (x := sel [1, 1, 1, 0] bodyC11) (y := sel [1, 1, 1, 1] bodyC11) ?_
  refine ownU_region (id := 4) (ops := opsOf (sel [1, 1, 1, 0] bodyC11)) ?_
  refine ownU_quiet (i := 0) (rest := [1, 2, 3, 4]) (ptr wb) rfl (by rfl) rfl (by decide) (fun _ => by kernel_rfl) ?_
  refine ownU_quiet (i := 1) (rest := [2, 3, 4]) (ptr wb) rfl (by rfl) rfl (by decide) (fun _ => by kernel_rfl) ?_
  refine ownU_quiet (i := 2) (rest := [3, 4]) (.pointer (some ⟨wb, 0, none⟩)) rfl (by rfl) rfl (by decide) (fun _ => by kernel_rfl) ?_
  refine ownU_load (i := 3) (rest := [4]) ⟨wb, 0, none⟩ (ptr sb) rfl (by rfl) (by decide) loads_sched rfl (by kernel_rfl) hw2 ?_
  refine ownU_defer (i := 4) (rest := []) (d := clDefer sb) rfl (by rfl) (by decide) (fun _ => by kernel_rfl) (fun _ => by kernel_rfl) ?_
  refine ownU_region_end ?_
  refine ownU_lit ((L11 ts [(0, .slice (some af) nF cF), (1, .slice A1 nz cz), (2, .slice AW nw cw), (7, ptr wb), (8, ptr mb), (24, .tuple #[ptr wb, v]), (27, .tuple #[ptr wb, v]), (28, ptr wb), (29, v), (30, ptr wb), (31, ptr wb), (32, .pointer (some ⟨wb, 0, none⟩)), (33, ptr sb)])) [clDefer sb] (by kernel_rfl) (by kernel_rfl) ?_
  refine ownU_seq (x := sel [1, 1, 1, 1, 0] bodyC11) (y := sel [1, 1, 1, 1, 1] bodyC11) ?_
  refine ownU_region (id := 5) (ops := opsOf (sel [1, 1, 1, 1, 0] bodyC11)) ?_
  refine ownU_quiet (i := 0) (rest := [1, 2, 3, 4, 5]) (ptr wb) rfl (by rfl) rfl (by decide) (fun _ => by kernel_rfl) ?_
  refine ownU_quiet (i := 1) (rest := [2, 3, 4, 5]) (ptr wb) rfl (by rfl) rfl (by decide) (fun _ => by kernel_rfl) ?_
  refine ownU_quiet (i := 2) (rest := [3, 4, 5]) (.pointer (some ⟨wb, 0, none⟩)) rfl (by rfl) rfl (by decide) (fun _ => by kernel_rfl) ?_
  refine ownU_load (i := 3) (rest := [4, 5]) ⟨wb, 0, none⟩ (ptr sb) rfl (by rfl) (by decide) loads_sched rfl (by kernel_rfl) hw2 ?_
  refine ownU_lit ((L11 ts [(0, .slice (some af) nF cF), (1, .slice A1 nz cz), (2, .slice AW nw cw), (7, ptr wb), (8, ptr mb), (24, .tuple #[ptr wb, v]), (27, .tuple #[ptr wb, v]), (28, ptr wb), (29, v), (30, ptr wb), (31, ptr wb), (32, .pointer (some ⟨wb, 0, none⟩)), (33, ptr sb), (34, ptr wb), (35, ptr wb), (36, .pointer (some ⟨wb, 0, none⟩)), (37, ptr sb)])) [clDefer sb] (by kernel_rfl) (by kernel_rfl) ?_
  refine ownU_enterT (i := 4) (rest := [5]) (f := 42) rfl (by kernel_rfl) (by decide) rfl Try.func42 (by kernel_rfl) rfl fun ts' hts => ?_
  have hT : M11B ts' AW nw cw wb mb := by subst hts; exact ⟨by kernel_rfl, by kernel_rfl, by kernel_rfl, by kernel_rfl⟩
  clear hts
  exact ownU_eq (by kernel_rfl) (hk ts' u2 hT hb2 hs2 hn2)
theorem FAt.tp' {w : World} {AF : Option Addr} (h : FAt w AF fs) (A : Nat → Question → Nat) (d : Nat) : FAt (Go.Proofs.Ytolnmdanlggmhaa.tp w A d) AF fs := by
  obtain ⟨vs, h1, h2⟩ := h
  refine ⟨vs, ⟨h1.len, h1.at'⟩, fun f l hl => ?_⟩
  obtain ⟨A', c, h3, h4⟩ := h2 f l hl
  exact ⟨A', c, h3, ⟨h4.len, h4.at'⟩⟩
theorem ma_ran (h : M11B ts AW nw cw wb mb) (D : BoxAt mb v u) (hs : SAt u R (.slice (some af) nF cF) v m) (hR : ∀ b, R b → b < u.heap.size) (hRm : ¬ R mb) (hFA : FAt u (some af) fs) (hnF : fs.length = nF) (h60 : ∀ l ∈ fs, l.length ≤ 60) (hsz : ∀ l ∈ fs, ∀ x ∈ l, x.text.size ≤ 140737488355328) (h0 : 0 < fs.length) (h8 : fs.length ≤ 8) (hI : RInv fs m) (hM : rMeas fs m ≤ 5000)
    (hk : ∀ ts u' v', M11D ts AW nw cw wb mb n (rRun fs 5000 m).2 → BoxAt mb v' u' → SAt u' (fun b => R b ∨ u.heap.size ≤ b) (.slice (some af) nF cF) v' (rRun fs 5000 m).1 → Vol mb u u' → OwnU Try.prog main Z Stop w₀ (G ((base 11).at ⟨ts, [clDefer sb]⟩ [.code (sel [1, 1, 1, 1, 1, 1] bodyC11)]) []) u') : OwnU Try.prog main Z Stop w₀ (G ((base 11).at ((⟨ts, [clDefer sb]⟩ : Act).put ((((opsOf (sel [1, 1, 1, 1, 0] bodyC11)))[4]?).bind (·.dst)) (.int .i64 (n : Int))) (.inRegion (opsOf (sel [1, 1, 1, 1, 0] bodyC11)) [5] :: [.code (sel [1, 1, 1, 1, 1] bodyC11)])) []) u := by
  rw [h.sh]
  refine ownU_quiet (i := 5) (rest := []) (.int .i64 (n : Int)) rfl (by rfl) rfl (by decide) (fun _ => by kernel_rfl) ?_
  refine ownU_region_end ?_
  refine ownU_lit (List.toArray (ts.getD 0 undef :: ts.getD 1 undef :: .slice AW nw cw :: ts.getD 3 undef :: ts.getD 4 undef :: ts.getD 5 undef :: ts.getD 6 undef :: ptr wb :: ptr mb :: .int .i64 (n : Int) :: ts.getD 10 undef :: ts.getD 11 undef :: ts.getD 12 undef :: ts.getD 13 undef :: ts.getD 14 undef :: ts.getD 15 undef :: ts.getD 16 undef :: ts.getD 17 undef :: ts.getD 18 undef :: ts.getD 19 undef :: ts.getD 20 undef :: ts.getD 21 undef :: ts.getD 22 undef :: ts.getD 23 undef :: ts.getD 24 undef :: ts.getD 25 undef :: ts.getD 26 undef :: ts.getD 27 undef :: ts.getD 28 undef :: ts.getD 29 undef :: ts.getD 30 undef :: ts.getD 31 undef :: ts.getD 32 undef :: ts.getD 33 undef :: ts.getD 34 undef :: ts.getD 35 undef :: ts.getD 36 undef :: ts.getD 37 undef :: .int .i64 (n : Int) :: ts.getD 39 undef :: ts.getD 40 undef :: ts.getD 41 undef :: ts.getD 42 undef :: ts.getD 43 undef :: ts.getD 44 undef :: ts.getD 45 undef :: ts.getD 46 undef :: ts.getD 47 undef :: ts.getD 48 undef :: ts.getD 49 undef :: ts.getD 50 undef :: ts.getD 51 undef :: ts.getD 52 undef :: ts.getD 53 undef :: ts.getD 54 undef :: ts.getD 55 undef :: ts.getD 56 undef :: ts.getD 57 undef :: ts.getD 58 undef :: ts.getD 59 undef :: ts.getD 60 undef :: ts.getD 61 undef :: ts.getD 62 undef :: ts.getD 63 undef :: ts.getD 64 undef :: ts.getD 65 undef :: ts.getD 66 undef :: ts.getD 67 undef :: ts.getD 68 undef :: ts.getD 69 undef :: ts.getD 70 undef :: ts.getD 71 undef :: ts.getD 72 undef :: ts.getD 73 undef :: ts.getD 74 undef :: ts.getD 75 undef :: ts.getD 76 undef :: ts.getD 77 undef :: ts.getD 78 undef :: ts.getD 79 undef :: ts.getD 80 undef :: ts.getD 81 undef :: ts.getD 82 undef :: ts.getD 83 undef :: ts.getD 84 undef :: ts.getD 85 undef :: ts.getD 86 undef :: ts.getD 87 undef :: ts.getD 88 undef :: ts.getD 89 undef :: ts.getD 90 undef :: ts.getD 91 undef :: ts.getD 92 undef :: [])) [clDefer sb] (by kernel_rfl) (by kernel_rfl) ?_
  refine ownU_seq (x := sel [1, 1, 1, 1, 1, 0] bodyC11) (y := sel [1, 1, 1, 1, 1, 1] bodyC11) ?_
  refine ownU_codeM okL18 (by kernel_rfl) (by decide) ⟨_, Try.func11⟩ fun A d => ?_
  conv => arg 2; whnf
  have D1 : BoxAt mb v (tp u A d) := D
  have hs1 : SAt (tp u A d) R (.slice (some af) nF cF) v m := hs.keep (fun _ _ _ => rfl) (Nat.le_refl _)
  have hR1 : ∀ b, R b → b < (tp u A d).heap.size := hR
  have HFA := Lib.hid (hFA.tp' A d)
  have hk2 := fun ts' u' v' a b c (e : Vol mb (tp u A d) u') => hk ts' u' v' a b c ⟨e.os, e.output, e.size, e.block⟩
  replace hk2 := show ∀ ts' u' v', M11D ts' AW nw cw wb mb n (rRun fs 5000 m).2 → BoxAt mb v' u' → SAt u' (fun b => R b ∨ (tp u A d).heap.size ≤ b) (.slice (some af) nF cF) v' (rRun fs 5000 m).1 → Vol mb (tp u A d) u' → OwnU Try.prog main Z Stop w₀ (G ((base 11).at ⟨ts', [clDefer sb]⟩ [.code (sel [1, 1, 1, 1, 1, 1] bodyC11)]) []) u' from hk2
  clear hk D hs hR hFA
  generalize tp u A d = u1 at *
  obtain ⟨A1', p1, r1, A2, p2, r2, A3, p3, r3, b9, rfl⟩ := hs1.five
  obtain ⟨y0, y1, y2, y3, y4, hv, D⟩ := D1
  simp only [Value.agg.injEq, Array.mk.injEq, List.cons.injEq, and_true] at hv
  obtain ⟨rfl, rfl, rfl, rfl, rfl⟩ := hv
  obtain ⟨c0, c1, c2, c3, c4, fb⟩ := five_cells D
  have hlt := blk_lt D
  have HS := Lib.hid hs1
  have HK := Lib.hid hk2
  have HR := Lib.hid hR1
  clear hs1 hk2 hR1
  have HM := Lib.hid hRm
  clear hRm h
  unfold ptr at *
  go_wp2_with fail
  refine (refrun fs (some af) nF cF hnF _ m u1 R HFA.out HS.out HR.out h60 hsz h0 h8 hI 5000 hM (by omega)).mono ?_
  rintro e w5 ⟨v', rfl, hs5, hb5⟩
  obtain ⟨A4, p4, r4, A5, p5, r5, A6, p6, r6, b6, rfl⟩ := hs5.five
  have D5 := (hb5.block _ hlt).trans D
  obtain ⟨_, _, _, _, _, f5⟩ := five_cells D5
  have hlt5 := blk_lt D5
  have HS5 := Lib.hid hs5
  clear hs5
  go_wp2_with fail
  refine atEndU ?_
  obtain ⟨q1, q2, q3⟩ := ref_stored D5 HS5.out hb5 rfl HM.out hlt rfl
  exact HK.out _ _ _ ⟨by kernel_rfl, by kernel_rfl, by kernel_rfl, by kernel_rfl, by kernel_rfl, by kernel_rfl⟩ q1 q2 q3
theorem ma_same0 (h : M11D ts AW nw cw wb mb n n) (D : BoxAt mb v u) (hsame : ∀ A d, Calls Try.prog 54 #[ptr wb, v] (tp u A d) fun e w' => e = .returned (.bool true) ∧ New u w')
    (hk : ∀ ts u', M11L ts AW nw cw wb mb 0 → New u u' → OwnU Try.prog main Z Stop w₀ (G ((base 11).at ⟨ts, [clDefer sb]⟩ [.code (sel [1, 1, 1, 1, 1, 1, 1, 0, 1, 4, 4] bodyC11), .inLoop (sel [1, 1, 1, 1, 1, 1, 1, 0, 1, 4, 4] bodyC11), .inBlock 0, .code (sel [1, 1, 1, 1, 1, 1, 1, 1] bodyC11)]) []) u') : OwnU Try.prog main Z Stop w₀ (G ((base 11).at ⟨ts, [clDefer sb]⟩ [.code (sel [1, 1, 1, 1, 1, 1] bodyC11)]) []) u := by
  have e := lit_c11 ts h.size
  rw [h.t2, h.t7, h.t8, h.t9, h.t10] at e
  rw [e]
  clear e
  refine ownU_seq (x := sel [1, 1, 1, 1, 1, 1, 0] bodyC11) (y := sel [1, 1, 1, 1, 1, 1, 1] bodyC11) ?_
  refine ownU_seq (x := sel [1, 1, 1, 1, 1, 1, 0, 0] bodyC11) (y := sel [1, 1, 1, 1, 1, 1, 0, 1] bodyC11) ?_
  refine ownU_region (id := 7) (ops := opsOf (sel [1, 1, 1, 1, 1, 1, 0, 0] bodyC11)) ?_
  refine ownU_quiet (i := 0) (rest := [1, 2, 3, 4, 5, 6, 7, 8]) (.int .i64 (n : Int)) rfl (by rfl) rfl (by decide) (fun _ => by kernel_rfl) ?_
  refine ownU_quiet (i := 1) (rest := [2, 3, 4, 5, 6, 7, 8]) (.int .i64 (n : Int)) rfl (by rfl) rfl (by decide) (fun _ => by kernel_rfl) ?_
  refine ownU_quiet (i := 2) (rest := [3, 4, 5, 6, 7, 8]) (.bool false) rfl (by kernel_rfl) rfl (by decide) (fun _ => neq_v (p := (n : Int)) (q := (n : Int)) rfl (by kernel_rfl) (by kernel_rfl) (by simp)) ?_
  refine ownU_quiet (i := 3) (rest := [4, 5, 6, 7, 8]) (.bool false) rfl (by rfl) rfl (by decide) (fun _ => by kernel_rfl) ?_
  refine ownU_quiet (i := 4) (rest := [5, 6, 7, 8]) (ptr wb) rfl (by kernel_rfl) rfl (by decide) (fun _ => by kernel_rfl) ?_
  refine ownU_loadRef (i := 5) (rest := [6, 7, 8]) (v := v) rfl (by kernel_rfl) (by decide) rfl (by kernel_rfl) D ?_
  refine ownU_callK (i := 6) (rest := [7, 8]) (L := lone18) (R := fun e w' => e = .returned (.bool true) ∧ New u w') okL18 (by decide) rfl rfl (by kernel_rfl) (by kernel_rfl) (by decide) (fun A d => calls_eq (by kernel_rfl) (hsame A d)) (fun e w h => ⟨_, h.1⟩) fun z u' hR' => ?_
  obtain ⟨e, hn2⟩ := hR'
  injection e with e
  subst e
  refine ownU_quiet (i := 7) (rest := [8]) (.bool false) rfl (by kernel_rfl) rfl (by decide) (fun _ => by kernel_rfl) ?_
  refine ownU_quiet (i := 8) (rest := []) (.bool false) rfl (by kernel_rfl) rfl (by decide) (fun _ => by kernel_rfl) ?_
  refine ownU_region_end ?_
  refine ownU_cond (c := .tmp 52) (x := sel [1, 1, 1, 1, 1, 1, 0, 1, 2] bodyC11) (y := .skip) (t := false) (by kernel_rfl) ?_
  refine ownU_skip ?_
  refine ownU_lit ((L11 ts [(2, .slice AW nw cw), (7, ptr wb), (8, ptr mb), (9, .int .i64 (n : Int)), (10, .int .i64 (n : Int)), (44, .int .i64 (n : Int)), (45, .int .i64 (n : Int)), (46, .bool false), (47, .bool false), (48, ptr wb), (49, v), (50, .bool true), (51, .bool false), (52, .bool false)])) [clDefer sb] (by kernel_rfl) (by kernel_rfl) ?_
  refine ownU_seq (x := sel [1, 1, 1, 1, 1, 1, 1, 0] bodyC11) (y := sel [1, 1, 1, 1, 1, 1, 1, 1] bodyC11) ?_
  refine ownU_seq (x := sel [1, 1, 1, 1, 1, 1, 1, 0, 0] bodyC11) (y := sel [1, 1, 1, 1, 1, 1, 1, 0, 1] bodyC11) ?_
  refine ownU_region (id := 9) (ops := opsOf (sel [1, 1, 1, 1, 1, 1, 1, 0, 0] bodyC11)) ?_
  refine ownU_quiet (i := 0) (rest := [1, 2]) (.slice AW nw cw) rfl (by rfl) rfl (by decide) (fun _ => by kernel_rfl) ?_
  refine ownU_quiet (i := 1) (rest := [2]) (.int .i64 (nw : Int)) rfl (by rfl) rfl (by decide) (fun _ => by kernel_rfl) ?_
  refine ownU_quiet (i := 2) (rest := []) (.int .i64 0) rfl (by rfl) rfl (by decide) (fun _ => by kernel_rfl) ?_
  refine ownU_region_end ?_
  refine ownU_block (id := 0) (c := sel [1, 1, 1, 1, 1, 1, 1, 0, 1, 4] bodyC11) ?_
  refine ownU_loop (c := sel [1, 1, 1, 1, 1, 1, 1, 0, 1, 4, 4] bodyC11) ?_
  exact hk _ u' ⟨by kernel_rfl, by kernel_rfl, by kernel_rfl, by kernel_rfl, by kernel_rfl, by kernel_rfl⟩ hn2
theorem idx_ints {a : Act} {o : Oper} {x y : Operand} {A : Addr} {n cap i : Nat} (w : World) (ho : o.op = .indexAddr 22 x y) (hx : a.eval x = .slice (some A) n cap) (hy : a.eval y = .int .i64 (i : Int)) (hi : i < n) : (execOp a.eval o).run Try.prog w = .ok (.value (.pointer (some (A.add i)))) w := by
  have h := idx_any (k := 1) Try.underlying22 (fun w => by kernel_rfl) w ho hx hy hi
  rw [Nat.mul_one] at h
  exact h
/-- A call of the reference's, then a box of its own for what it gave. -/
theorem ref_boxed {u w5 : World} {F : Value} {m' : RS} {x0 x1 x2 x3 x4 : Value} (hs : SAt w5 (fun b => R b ∨ u.heap.size ≤ b) F (.agg #[x0, x1, x2, x3, x4]) m') (hb : Below u.heap.size u w5) : BoxAt w5.heap.size (.agg #[x0, x1, x2, x3, x4]) (w5.alloc (.cells #[x0, x1, x2, x3, x4] 68)) ∧ SAt (w5.alloc (.cells #[x0, x1, x2, x3, x4] 68)) (fun b => R b ∨ u.heap.size ≤ b) F (.agg #[x0, x1, x2, x3, x4]) m' ∧ New u (w5.alloc (.cells #[x0, x1, x2, x3, x4] 68)) := by
  have hn := New.alloc w5 (.cells #[x0, x1, x2, x3, x4] 68)
  exact ⟨⟨_, _, _, _, _, rfl, alloc_new' w5 _ rfl⟩, hs.keep (fun k hl _ => hn.block k hl) hn.size, ⟨hn.os.trans hb.os, hn.output.trans hb.output, Nat.le_trans hb.size hn.size, fun b hl => (hn.block b (Nat.lt_of_lt_of_le hl hb.size)).trans (hb.block b hl)⟩⟩
theorem ma_w1 {ad : Addr} (h : M11L ts AW nw cw wb mb idx) (hidx : idx < nw) (hA : AW = some ad) (hc : u.cell? (ad.add idx) = some (.int .i64 id)) (D : BoxAt mb v u) (hs : SAt u R (.slice (some af) nF cF) v m) (hR : ∀ b, R b → b < u.heap.size) (hl : m.cos.length ≤ 20) (hq : m.q.length ≤ 100)
    (hk : ∀ ts u' v' b3, M11W ts AW nw cw wb mb idx id b3 (rCan m id) → BoxAt b3 v' u' → SAt u' (fun b => R b ∨ u.heap.size ≤ b) (.slice (some af) nF cF) v' (rWake m id) → New u u' → u.heap.size ≤ b3 → OwnU Try.prog main Z Stop w₀ (G ((base 11).at ⟨ts, [clDefer sb]⟩ (.code (sel [1, 1, 1, 1, 1, 1, 1, 0, 1, 4, 4, 1, 1, 0, 4, 1, 1] bodyC11) :: [.inBlock 1, .code (sel [1, 1, 1, 1, 1, 1, 1, 0, 1, 4, 4, 1, 1, 1] bodyC11), .inLoop (sel [1, 1, 1, 1, 1, 1, 1, 0, 1, 4, 4] bodyC11), .inBlock 0, .code (sel [1, 1, 1, 1, 1, 1, 1, 1] bodyC11)])) []) u') : OwnU Try.prog main Z Stop w₀ (G ((base 11).at ⟨ts, [clDefer sb]⟩ [.code (sel [1, 1, 1, 1, 1, 1, 1, 0, 1, 4, 4] bodyC11), .inLoop (sel [1, 1, 1, 1, 1, 1, 1, 0, 1, 4, 4] bodyC11), .inBlock 0, .code (sel [1, 1, 1, 1, 1, 1, 1, 1] bodyC11)]) []) u := by
  rw [h.sh]
  refine ownU_seq (x := sel [1, 1, 1, 1, 1, 1, 1, 0, 1, 4, 4, 0] bodyC11) (y := sel [1, 1, 1, 1, 1, 1, 1, 0, 1, 4, 4, 1] bodyC11) ?_
  refine ownU_region (id := 10) (ops := opsOf (sel [1, 1, 1, 1, 1, 1, 1, 0, 1, 4, 4, 0] bodyC11)) ?_
  refine ownU_quiet (i := 0) (rest := []) (.bool true) rfl (by rfl) rfl (by decide) (fun _ => lss_v (p := (idx : Int)) (q := (nw : Int)) rfl (by kernel_rfl) (by kernel_rfl) (by simp; omega)) ?_
  refine ownU_region_end ?_
  refine ownU_seq (x := sel [1, 1, 1, 1, 1, 1, 1, 0, 1, 4, 4, 1, 0] bodyC11) (y := sel [1, 1, 1, 1, 1, 1, 1, 0, 1, 4, 4, 1, 1] bodyC11) ?_
  refine ownU_cond (c := .tmp 56) (x := .skip) (y := .exit 0) (t := true) (by kernel_rfl) ?_
  refine ownU_skip ?_
  refine ownU_seq (x := sel [1, 1, 1, 1, 1, 1, 1, 0, 1, 4, 4, 1, 1, 0] bodyC11) (y := sel [1, 1, 1, 1, 1, 1, 1, 0, 1, 4, 4, 1, 1, 1] bodyC11) ?_
  refine ownU_block (id := 1) (c := sel [1, 1, 1, 1, 1, 1, 1, 0, 1, 4, 4, 1, 1, 0, 4] bodyC11) ?_
  refine ownU_seq (x := sel [1, 1, 1, 1, 1, 1, 1, 0, 1, 4, 4, 1, 1, 0, 4, 0] bodyC11) (y := sel [1, 1, 1, 1, 1, 1, 1, 0, 1, 4, 4, 1, 1, 0, 4, 1] bodyC11) ?_
  subst hA
  refine ownU_region (id := 11) (ops := opsOf (sel [1, 1, 1, 1, 1, 1, 1, 0, 1, 4, 4, 1, 1, 0, 4, 0] bodyC11)) ?_
  refine ownU_quiet (i := 0) (rest := [1, 2]) (.pointer (some (ad.add idx))) rfl (by kernel_rfl) rfl (by decide) (fun w => idx_ints (A := ad) (n := nw) (cap := cw) (i := idx) w rfl (by kernel_rfl) (by kernel_rfl) hidx) ?_
  refine ownU_load (i := 1) (rest := [2]) (ad.add idx) (.int .i64 id) rfl (by rfl) (by decide) loads_int rfl (by kernel_rfl) hc ?_
  refine ownU_quiet (i := 2) (rest := []) (.int .i64 id) rfl (by rfl) rfl (by decide) (fun _ => by kernel_rfl) ?_
  refine ownU_region_end ?_
  refine ownU_lit (List.toArray (ts.getD 0 undef :: ts.getD 1 undef :: ts.getD 2 undef :: ts.getD 3 undef :: ts.getD 4 undef :: ts.getD 5 undef :: ts.getD 6 undef :: ptr wb :: ptr mb :: ts.getD 9 undef :: ts.getD 10 undef :: ts.getD 11 undef :: .int .i64 id :: ts.getD 13 undef :: ts.getD 14 undef :: ts.getD 15 undef :: ts.getD 16 undef :: ts.getD 17 undef :: ts.getD 18 undef :: ts.getD 19 undef :: ts.getD 20 undef :: ts.getD 21 undef :: ts.getD 22 undef :: ts.getD 23 undef :: ts.getD 24 undef :: ts.getD 25 undef :: ts.getD 26 undef :: ts.getD 27 undef :: ts.getD 28 undef :: ts.getD 29 undef :: ts.getD 30 undef :: ts.getD 31 undef :: ts.getD 32 undef :: ts.getD 33 undef :: ts.getD 34 undef :: ts.getD 35 undef :: ts.getD 36 undef :: ts.getD 37 undef :: ts.getD 38 undef :: ts.getD 39 undef :: ts.getD 40 undef :: ts.getD 41 undef :: ts.getD 42 undef :: ts.getD 43 undef :: ts.getD 44 undef :: ts.getD 45 undef :: ts.getD 46 undef :: ts.getD 47 undef :: ts.getD 48 undef :: ts.getD 49 undef :: ts.getD 50 undef :: ts.getD 51 undef :: ts.getD 52 undef :: .slice (some ad) nw cw :: .int .i64 (nw : Int) :: .int .i64 (idx : Int) :: .bool true :: .pointer (some (ad.add idx)) :: .int .i64 id :: ts.getD 59 undef :: ts.getD 60 undef :: ts.getD 61 undef :: ts.getD 62 undef :: ts.getD 63 undef :: ts.getD 64 undef :: ts.getD 65 undef :: ts.getD 66 undef :: ts.getD 67 undef :: ts.getD 68 undef :: ts.getD 69 undef :: ts.getD 70 undef :: ts.getD 71 undef :: ts.getD 72 undef :: ts.getD 73 undef :: ts.getD 74 undef :: ts.getD 75 undef :: ts.getD 76 undef :: ts.getD 77 undef :: ts.getD 78 undef :: ts.getD 79 undef :: ts.getD 80 undef :: ts.getD 81 undef :: ts.getD 82 undef :: ts.getD 83 undef :: ts.getD 84 undef :: ts.getD 85 undef :: ts.getD 86 undef :: ts.getD 87 undef :: ts.getD 88 undef :: ts.getD 89 undef :: ts.getD 90 undef :: ts.getD 91 undef :: ts.getD 92 undef :: [])) [clDefer sb] (by kernel_rfl) (by kernel_rfl) ?_
  refine ownU_seq (x := sel [1, 1, 1, 1, 1, 1, 1, 0, 1, 4, 4, 1, 1, 0, 4, 1, 0] bodyC11) (y := sel [1, 1, 1, 1, 1, 1, 1, 0, 1, 4, 4, 1, 1, 0, 4, 1, 1] bodyC11) ?_
  refine ownU_codeM okL18 (by kernel_rfl) (by decide) ⟨_, Try.func11⟩ fun A d => ?_
  conv => arg 2; whnf
  have D1 : BoxAt mb v (tp u A d) := D
  have hs1 : SAt (tp u A d) R (.slice (some af) nF cF) v m := hs.keep (fun _ _ _ => rfl) (Nat.le_refl _)
  have hR1 : ∀ b, R b → b < (tp u A d).heap.size := hR
  have hk2 := fun ts' u' v' b3 a b c (e : New (tp u A d) u') => hk ts' u' v' b3 a b c ⟨e.os, e.output, e.size, e.block⟩
  replace hk2 := show ∀ ts' u' v' b3, M11W ts' (some ad) nw cw wb mb idx id b3 (rCan m id) → BoxAt b3 v' u' → SAt u' (fun b => R b ∨ (tp u A d).heap.size ≤ b) (.slice (some af) nF cF) v' (rWake m id) → New (tp u A d) u' → (tp u A d).heap.size ≤ b3 → OwnU Try.prog main Z Stop w₀ (G ((base 11).at ⟨ts', [clDefer sb]⟩ (.code (sel [1, 1, 1, 1, 1, 1, 1, 0, 1, 4, 4, 1, 1, 0, 4, 1, 1] bodyC11) :: [.inBlock 1, .code (sel [1, 1, 1, 1, 1, 1, 1, 0, 1, 4, 4, 1, 1, 1] bodyC11), .inLoop (sel [1, 1, 1, 1, 1, 1, 1, 0, 1, 4, 4] bodyC11), .inBlock 0, .code (sel [1, 1, 1, 1, 1, 1, 1, 1] bodyC11)])) []) u' from hk2
  clear hk D hs hR
  generalize tp u A d = u1 at *
  obtain ⟨A1', p1, r1, A2, p2, r2, A3, p3, r3, b9, rfl⟩ := hs1.five
  obtain ⟨y0, y1, y2, y3, y4, hv, D⟩ := D1
  simp only [Value.agg.injEq, Array.mk.injEq, List.cons.injEq, and_true] at hv
  obtain ⟨rfl, rfl, rfl, rfl, rfl⟩ := hv
  obtain ⟨c0, c1, c2, c3, c4, fb⟩ := five_cells D
  have hlt := blk_lt D
  have HS := Lib.hid hs1
  have HK := Lib.hid hk2
  have HR := Lib.hid hR1
  clear hs1 hk2 hR1
  have hlt0 := cell_lt hc
  clear h hc
  unfold ptr at *
  go_wp2_with fail
  refine (refwake (some af) nF cF id _ m u1 R HS.out hl hq HR.out).mono ?_
  rintro e w5 ⟨v', rfl, hs5, hb5⟩
  obtain ⟨A4, p4, r4, A5, p5, r5, A6, p6, r6, b6, rfl⟩ := hs5.five
  have HS5 := Lib.hid hs5
  have HB5 := Lib.hid hb5
  clear hs5 hb5
  go_wp2_with fail
  refine atEndU ?_
  obtain ⟨q1, q2, q3⟩ := ref_boxed HS5.out HB5.out
  exact HK.out _ _ _ _ ⟨by kernel_rfl, by kernel_rfl, by kernel_rfl, by kernel_rfl, by kernel_rfl, by kernel_rfl, by kernel_rfl, by kernel_rfl, by kernel_rfl⟩ q1 q2 q3 HB5.out.size
theorem neq_bb {a : Act} {o : Oper} {x y : Operand} {t : Bool} (w : World) (ho : o.op = .binOp .neq 4 x y 4) (hx : a.eval x = .bool t) (hy : a.eval y = .bool t) : (execOp a.eval o).run Try.prog w = .ok (.value (.bool false)) w := by
  unfold execOp
  simp only [ho, hx, hy]
  cases t <;> simp [go_sem]
theorem ma_w2 {Qw : World → Prop} (h : M11W ts AW nw cw wb mb idx id b3 bb) (hw0 : u.cell? ⟨wb, 0, none⟩ = some (ptr sb)) (hwk : ∀ A d, Calls Try.prog 49 #[ptr sb, .int .i64 id] (tp u A d) fun e w' => e = .returned (.bool bb) ∧ Qw w')
    (hk : ∀ ts u', M11W ts AW nw cw wb mb idx id b3 bb → Qw u' → OwnU Try.prog main Z Stop w₀ (G ((base 11).at ⟨ts, [clDefer sb]⟩ (.code (sel [1, 1, 1, 1, 1, 1, 1, 0, 1, 4, 4, 1, 1, 0, 4, 1, 1, 1] bodyC11) :: [.inBlock 1, .code (sel [1, 1, 1, 1, 1, 1, 1, 0, 1, 4, 4, 1, 1, 1] bodyC11), .inLoop (sel [1, 1, 1, 1, 1, 1, 1, 0, 1, 4, 4] bodyC11), .inBlock 0, .code (sel [1, 1, 1, 1, 1, 1, 1, 1] bodyC11)])) []) u') : OwnU Try.prog main Z Stop w₀ (G ((base 11).at ⟨ts, [clDefer sb]⟩ (.code (sel [1, 1, 1, 1, 1, 1, 1, 0, 1, 4, 4, 1, 1, 0, 4, 1, 1] bodyC11) :: [.inBlock 1, .code (sel [1, 1, 1, 1, 1, 1, 1, 0, 1, 4, 4, 1, 1, 1] bodyC11), .inLoop (sel [1, 1, 1, 1, 1, 1, 1, 0, 1, 4, 4] bodyC11), .inBlock 0, .code (sel [1, 1, 1, 1, 1, 1, 1, 1] bodyC11)])) []) u := by
  rw [h.sh]
  refine ownU_seq (x := sel [1, 1, 1, 1, 1, 1, 1, 0, 1, 4, 4, 1, 1, 0, 4, 1, 1, 0] bodyC11) (y := sel [1, 1, 1, 1, 1, 1, 1, 0, 1, 4, 4, 1, 1, 0, 4, 1, 1, 1] bodyC11) ?_
  refine ownU_seq (x := sel [1, 1, 1, 1, 1, 1, 1, 0, 1, 4, 4, 1, 1, 0, 4, 1, 1, 0, 0] bodyC11) (y := sel [1, 1, 1, 1, 1, 1, 1, 0, 1, 4, 4, 1, 1, 0, 4, 1, 1, 0, 1] bodyC11) ?_
  refine ownU_region (id := 13) (ops := opsOf (sel [1, 1, 1, 1, 1, 1, 1, 0, 1, 4, 4, 1, 1, 0, 4, 1, 1, 0, 0] bodyC11)) ?_
  refine ownU_quiet (i := 0) (rest := [1, 2, 3, 4, 5, 6, 7]) (ptr wb) rfl (by rfl) rfl (by decide) (fun _ => by kernel_rfl) ?_
  refine ownU_quiet (i := 1) (rest := [2, 3, 4, 5, 6, 7]) (ptr wb) rfl (by rfl) rfl (by decide) (fun _ => by kernel_rfl) ?_
  refine ownU_quiet (i := 2) (rest := [3, 4, 5, 6, 7]) (.pointer (some ⟨wb, 0, none⟩)) rfl (by rfl) rfl (by decide) (fun _ => by kernel_rfl) ?_
  refine ownU_load (i := 3) (rest := [4, 5, 6, 7]) ⟨wb, 0, none⟩ (ptr sb) rfl (by rfl) (by decide) loads_sched rfl (by kernel_rfl) hw0 ?_
  refine ownU_quiet (i := 4) (rest := [5, 6, 7]) (.int .i64 id) rfl (by rfl) rfl (by decide) (fun _ => by kernel_rfl) ?_
  refine ownU_callK (i := 5) (rest := [6, 7]) (L := lone18) (R := fun e w' => e = .returned (.bool bb) ∧ Qw w') okL18 (by decide) rfl rfl (by kernel_rfl) (by kernel_rfl) (by decide) (fun A d => calls_eq (by kernel_rfl) (hwk A d)) (fun e w h => ⟨_, h.1⟩) fun z u' hR' => ?_
  obtain ⟨e, hQ⟩ := hR'
  injection e with e
  subst e
  refine ownU_quiet (i := 6) (rest := [7]) (.bool bb) rfl (by kernel_rfl) rfl (by decide) (fun _ => by kernel_rfl) ?_
  refine ownU_quiet (i := 7) (rest := []) (.bool false) rfl (by kernel_rfl) rfl (by decide) (fun w => neq_bb (t := bb) w rfl (by kernel_rfl) (by kernel_rfl)) ?_
  refine ownU_region_end ?_
  refine ownU_cond (c := .tmp 72) (x := sel [1, 1, 1, 1, 1, 1, 1, 0, 1, 4, 4, 1, 1, 0, 4, 1, 1, 0, 1, 2] bodyC11) (y := .skip) (t := false) (by kernel_rfl) ?_
  refine ownU_skip ?_
  exact hk _ u' ⟨by kernel_rfl, by kernel_rfl, by kernel_rfl, by kernel_rfl, by kernel_rfl, by kernel_rfl, by kernel_rfl, by kernel_rfl, by kernel_rfl⟩ hQ
theorem ma_w3 (h : M11W ts AW nw cw wb mb idx id b3 bb) {y : Value} (D : BoxAt b3 v u) (Y : BoxAt mb y u) (hs : SAt u R (.slice (some af) nF cF) v m) (hR : ∀ b, R b → b < u.heap.size) (hRm : ¬ R mb) (hFA : FAt u (some af) fs) (hnF : fs.length = nF) (h60 : ∀ l ∈ fs, l.length ≤ 60) (hsz : ∀ l ∈ fs, ∀ x ∈ l, x.text.size ≤ 140737488355328) (h0 : 0 < fs.length) (h8 : fs.length ≤ 8) (hI : RInv fs m) (hM : rMeas fs m ≤ 5000)
    (hk : ∀ ts u' v', M11X ts AW nw cw wb mb idx (rRun fs 5000 m).2 → BoxAt mb v' u' → SAt u' (fun b => R b ∨ u.heap.size ≤ b) (.slice (some af) nF cF) v' (rRun fs 5000 m).1 → Vol mb u u' → OwnU Try.prog main Z Stop w₀ (G ((base 11).at ⟨ts, [clDefer sb]⟩ (.code (sel [1, 1, 1, 1, 1, 1, 1, 0, 1, 4, 4, 1, 1, 0, 4, 1, 1, 1, 1] bodyC11) :: [.inBlock 1, .code (sel [1, 1, 1, 1, 1, 1, 1, 0, 1, 4, 4, 1, 1, 1] bodyC11), .inLoop (sel [1, 1, 1, 1, 1, 1, 1, 0, 1, 4, 4] bodyC11), .inBlock 0, .code (sel [1, 1, 1, 1, 1, 1, 1, 1] bodyC11)])) []) u') : OwnU Try.prog main Z Stop w₀ (G ((base 11).at ⟨ts, [clDefer sb]⟩ (.code (sel [1, 1, 1, 1, 1, 1, 1, 0, 1, 4, 4, 1, 1, 0, 4, 1, 1, 1] bodyC11) :: [.inBlock 1, .code (sel [1, 1, 1, 1, 1, 1, 1, 0, 1, 4, 4, 1, 1, 1] bodyC11), .inLoop (sel [1, 1, 1, 1, 1, 1, 1, 0, 1, 4, 4] bodyC11), .inBlock 0, .code (sel [1, 1, 1, 1, 1, 1, 1, 1] bodyC11)])) []) u := by
  have e := lit_c11 ts h.size
  rw [h.t7, h.t8, h.t53, h.t54, h.t55, h.t12, h.t13, h.t14] at e
  rw [e]
  clear e
  refine ownU_seq (x := sel [1, 1, 1, 1, 1, 1, 1, 0, 1, 4, 4, 1, 1, 0, 4, 1, 1, 1, 0] bodyC11) (y := sel [1, 1, 1, 1, 1, 1, 1, 0, 1, 4, 4, 1, 1, 0, 4, 1, 1, 1, 1] bodyC11) ?_
  refine ownU_codeM okL18 (by kernel_rfl) (by decide) ⟨_, Try.func11⟩ fun A d => ?_
  conv => arg 2; whnf
  have D1 : BoxAt b3 v (tp u A d) := D
  have hs1 : SAt (tp u A d) R (.slice (some af) nF cF) v m := hs.keep (fun _ _ _ => rfl) (Nat.le_refl _)
  have hR1 : ∀ b, R b → b < (tp u A d).heap.size := hR
  have Y1 : BoxAt mb y (tp u A d) := Y
  have HFA := Lib.hid (hFA.tp' A d)
  have hk2 := fun ts' u' v' a b c (e : Vol mb (tp u A d) u') => hk ts' u' v' a b c ⟨e.os, e.output, e.size, e.block⟩
  replace hk2 := show ∀ ts' u' v', M11X ts' AW nw cw wb mb idx (rRun fs 5000 m).2 → BoxAt mb v' u' → SAt u' (fun b => R b ∨ (tp u A d).heap.size ≤ b) (.slice (some af) nF cF) v' (rRun fs 5000 m).1 → Vol mb (tp u A d) u' → OwnU Try.prog main Z Stop w₀ (G ((base 11).at ⟨ts', [clDefer sb]⟩ (.code (sel [1, 1, 1, 1, 1, 1, 1, 0, 1, 4, 4, 1, 1, 0, 4, 1, 1, 1, 1] bodyC11) :: [.inBlock 1, .code (sel [1, 1, 1, 1, 1, 1, 1, 0, 1, 4, 4, 1, 1, 1] bodyC11), .inLoop (sel [1, 1, 1, 1, 1, 1, 1, 0, 1, 4, 4] bodyC11), .inBlock 0, .code (sel [1, 1, 1, 1, 1, 1, 1, 1] bodyC11)])) []) u' from hk2
  clear hk D hs hR Y hFA
  generalize tp u A d = u1 at *
  obtain ⟨A1', p1, r1, A2, p2, r2, A3, p3, r3, b9, rfl⟩ := hs1.five
  obtain ⟨y0, y1, y2, y3, y4, hv, D⟩ := D1
  simp only [Value.agg.injEq, Array.mk.injEq, List.cons.injEq, and_true] at hv
  obtain ⟨rfl, rfl, rfl, rfl, rfl⟩ := hv
  obtain ⟨c0, c1, c2, c3, c4, fb⟩ := five_cells D
  have hlt := blk_lt D
  obtain ⟨x0, x1, x2, x3, x4, _, YD⟩ := Y1
  have hlty := blk_lt YD
  have HS := Lib.hid hs1
  have HK := Lib.hid hk2
  have HR := Lib.hid hR1
  clear hs1 hk2 hR1
  have HM := Lib.hid hRm
  clear hRm h
  unfold ptr at *
  go_wp2_with fail
  refine (refrun fs (some af) nF cF hnF _ m u1 R HFA.out HS.out HR.out h60 hsz h0 h8 hI 5000 hM (by omega)).mono ?_
  rintro e w5 ⟨v', rfl, hs5, hb5⟩
  obtain ⟨A4, p4, r4, A5, p5, r5, A6, p6, r6, b6, rfl⟩ := hs5.five
  have D5 := (hb5.block _ hlty).trans YD
  obtain ⟨_, _, _, _, _, f5⟩ := five_cells D5
  have hlt5 := blk_lt D5
  have HS5 := Lib.hid hs5
  clear hs5
  go_wp2_with fail
  refine atEndU ?_
  obtain ⟨q1, q2, q3⟩ := ref_stored D5 HS5.out hb5 rfl HM.out hlty rfl
  exact HK.out _ _ _ ⟨by kernel_rfl, by kernel_rfl, by kernel_rfl, by kernel_rfl, by kernel_rfl, by kernel_rfl, by kernel_rfl⟩ q1 q2 q3
theorem ma_w4 (h : M11X ts AW nw cw wb mb idx k) (hw0 : u.cell? ⟨wb, 0, none⟩ = some (ptr sb))
    (hk : ∀ ts, M11X ts AW nw cw wb mb idx k → OwnU Try.prog main Z Stop w₀ (runIn sb [((base 11).at ⟨ts, [clDefer sb]⟩ (.inRegion (opsOf (sel [1, 1, 1, 1, 1, 1, 1, 0, 1, 4, 4, 1, 1, 0, 4, 1, 1, 1, 1, 0] bodyC11)) (4 :: [5, 6, 7, 8, 9, 10, 11, 12]) :: [.code (sel [1, 1, 1, 1, 1, 1, 1, 0, 1, 4, 4, 1, 1, 0, 4, 1, 1, 1, 1, 1] bodyC11), .inBlock 1, .code (sel [1, 1, 1, 1, 1, 1, 1, 0, 1, 4, 4, 1, 1, 1] bodyC11), .inLoop (sel [1, 1, 1, 1, 1, 1, 1, 0, 1, 4, 4] bodyC11), .inBlock 0, .code (sel [1, 1, 1, 1, 1, 1, 1, 1] bodyC11)]))]) u) : OwnU Try.prog main Z Stop w₀ (G ((base 11).at ⟨ts, [clDefer sb]⟩ (.code (sel [1, 1, 1, 1, 1, 1, 1, 0, 1, 4, 4, 1, 1, 0, 4, 1, 1, 1, 1] bodyC11) :: [.inBlock 1, .code (sel [1, 1, 1, 1, 1, 1, 1, 0, 1, 4, 4, 1, 1, 1] bodyC11), .inLoop (sel [1, 1, 1, 1, 1, 1, 1, 0, 1, 4, 4] bodyC11), .inBlock 0, .code (sel [1, 1, 1, 1, 1, 1, 1, 1] bodyC11)])) []) u := by
  rw [h.sh]
  refine ownU_seq (x := sel [1, 1, 1, 1, 1, 1, 1, 0, 1, 4, 4, 1, 1, 0, 4, 1, 1, 1, 1, 0] bodyC11) (y := sel [1, 1, 1, 1, 1, 1, 1, 0, 1, 4, 4, 1, 1, 0, 4, 1, 1, 1, 1, 1] bodyC11) ?_
  refine ownU_region (id := 16) (ops := opsOf (sel [1, 1, 1, 1, 1, 1, 1, 0, 1, 4, 4, 1, 1, 0, 4, 1, 1, 1, 1, 0] bodyC11)) ?_
  refine ownU_quiet (i := 0) (rest := [1, 2, 3, 4, 5, 6, 7, 8, 9, 10, 11, 12]) (ptr wb) rfl (by rfl) rfl (by decide) (fun _ => by kernel_rfl) ?_
  refine ownU_quiet (i := 1) (rest := [2, 3, 4, 5, 6, 7, 8, 9, 10, 11, 12]) (ptr wb) rfl (by rfl) rfl (by decide) (fun _ => by kernel_rfl) ?_
  refine ownU_quiet (i := 2) (rest := [3, 4, 5, 6, 7, 8, 9, 10, 11, 12]) (.pointer (some ⟨wb, 0, none⟩)) rfl (by rfl) rfl (by decide) (fun _ => by kernel_rfl) ?_
  refine ownU_load (i := 3) (rest := [4, 5, 6, 7, 8, 9, 10, 11, 12]) ⟨wb, 0, none⟩ (ptr sb) rfl (by rfl) (by decide) loads_sched rfl (by kernel_rfl) hw0 ?_
  refine ownU_lit ((L11 ts [(7, ptr wb), (8, ptr mb), (10, .int .i64 (k : Int)), (53, .slice AW nw cw), (54, .int .i64 (nw : Int)), (55, .int .i64 (idx : Int)), (78, ptr wb), (79, ptr wb), (80, .pointer (some ⟨wb, 0, none⟩)), (81, ptr sb)])) [clDefer sb] (by kernel_rfl) (by kernel_rfl) ?_
  refine ownU_enterT (i := 4) (rest := [5, 6, 7, 8, 9, 10, 11, 12]) (f := 42) rfl (by kernel_rfl) (by decide) rfl Try.func42 (by kernel_rfl) rfl fun ts' hts => ?_
  have hT : M11X ts' AW nw cw wb mb idx k := by subst hts; exact ⟨by kernel_rfl, by kernel_rfl, by kernel_rfl, by kernel_rfl, by kernel_rfl, by kernel_rfl, by kernel_rfl⟩
  clear hts
  exact ownU_eq (by kernel_rfl) (hk ts' hT)
theorem ma_w5 (h : M11X ts AW nw cw wb mb idx n) (hidx : idx < 9223372036854775807) (D : BoxAt mb v u) (hsame : ∀ A d, Calls Try.prog 54 #[ptr wb, v] (tp u A d) fun e w' => e = .returned (.bool true) ∧ New u w')
    (hk : ∀ ts u', M11L ts AW nw cw wb mb (idx + 1) → New u u' → OwnU Try.prog main Z Stop w₀ (G ((base 11).at ⟨ts, [clDefer sb]⟩ [.code (sel [1, 1, 1, 1, 1, 1, 1, 0, 1, 4, 4] bodyC11), .inLoop (sel [1, 1, 1, 1, 1, 1, 1, 0, 1, 4, 4] bodyC11), .inBlock 0, .code (sel [1, 1, 1, 1, 1, 1, 1, 1] bodyC11)]) []) u') : OwnU Try.prog main Z Stop w₀ (G ((base 11).at ((⟨ts, [clDefer sb]⟩ : Act).put ((((opsOf (sel [1, 1, 1, 1, 1, 1, 1, 0, 1, 4, 4, 1, 1, 0, 4, 1, 1, 1, 1, 0] bodyC11)))[4]?).bind (·.dst)) (.int .i64 (n : Int))) (.inRegion (opsOf (sel [1, 1, 1, 1, 1, 1, 1, 0, 1, 4, 4, 1, 1, 0, 4, 1, 1, 1, 1, 0] bodyC11)) [5, 6, 7, 8, 9, 10, 11, 12] :: [.code (sel [1, 1, 1, 1, 1, 1, 1, 0, 1, 4, 4, 1, 1, 0, 4, 1, 1, 1, 1, 1] bodyC11), .inBlock 1, .code (sel [1, 1, 1, 1, 1, 1, 1, 0, 1, 4, 4, 1, 1, 1] bodyC11), .inLoop (sel [1, 1, 1, 1, 1, 1, 1, 0, 1, 4, 4] bodyC11), .inBlock 0, .code (sel [1, 1, 1, 1, 1, 1, 1, 1] bodyC11)])) []) u := by
  have e := lit_c11 ts h.size
  rw [h.t7, h.t8, h.t53, h.t54, h.t55, h.t10] at e
  rw [e]
  clear e
  have hi : IntKind.i64.wrap ((idx : Int) + 1) = ((idx + 1 : Nat) : Int) := by rw [show ((idx + 1 : Nat) : Int) = (idx : Int) + 1 by omega]; exact wrap_id (by omega) (by omega)
  refine ownU_quiet (i := 5) (rest := [6, 7, 8, 9, 10, 11, 12]) (.int .i64 (n : Int)) rfl (by rfl) rfl (by decide) (fun _ => by kernel_rfl) ?_
  refine ownU_quiet (i := 6) (rest := [7, 8, 9, 10, 11, 12]) (.bool false) rfl (by kernel_rfl) rfl (by decide) (fun _ => neq_v (p := (n : Int)) (q := (n : Int)) rfl (by kernel_rfl) (by kernel_rfl) (by simp)) ?_
  refine ownU_quiet (i := 7) (rest := [8, 9, 10, 11, 12]) (.bool false) rfl (by rfl) rfl (by decide) (fun _ => by kernel_rfl) ?_
  refine ownU_quiet (i := 8) (rest := [9, 10, 11, 12]) (ptr wb) rfl (by kernel_rfl) rfl (by decide) (fun _ => by kernel_rfl) ?_
  refine ownU_loadRef (i := 9) (rest := [10, 11, 12]) (v := v) rfl (by kernel_rfl) (by decide) rfl (by kernel_rfl) D ?_
  refine ownU_callK (i := 10) (rest := [11, 12]) (L := lone18) (R := fun e w' => e = .returned (.bool true) ∧ New u w') okL18 (by decide) rfl rfl (by kernel_rfl) (by kernel_rfl) (by decide) (fun A d => calls_eq (by kernel_rfl) (hsame A d)) (fun e w h => ⟨_, h.1⟩) fun z u' hR' => ?_
  obtain ⟨e, hn2⟩ := hR'
  injection e with e
  subst e
  refine ownU_quiet (i := 11) (rest := [12]) (.bool false) rfl (by kernel_rfl) rfl (by decide) (fun _ => by kernel_rfl) ?_
  refine ownU_quiet (i := 12) (rest := []) (.bool false) rfl (by kernel_rfl) rfl (by decide) (fun _ => by kernel_rfl) ?_
  refine ownU_region_end ?_
  refine ownU_cond (c := .tmp 90) (x := sel [1, 1, 1, 1, 1, 1, 1, 0, 1, 4, 4, 1, 1, 0, 4, 1, 1, 1, 1, 1, 2] bodyC11) (y := .skip) (t := false) (by kernel_rfl) ?_
  refine ownU_skip ?_
  refine ownU_inBlock ?_
  refine ownU_region (id := 18) (ops := opsOf (sel [1, 1, 1, 1, 1, 1, 1, 0, 1, 4, 4, 1, 1, 1] bodyC11)) ?_
  refine ownU_quiet (i := 0) (rest := [1]) (.int .i64 ((idx + 1 : Nat) : Int)) rfl (by kernel_rfl) rfl (by decide) (fun _ => by rw [← hi]; kernel_rfl) ?_
  refine ownU_quiet (i := 1) (rest := []) (.int .i64 ((idx + 1 : Nat) : Int)) rfl (by kernel_rfl) rfl (by decide) (fun _ => by kernel_rfl) ?_
  refine ownU_region_end ?_
  refine ownU_inLoop ?_
  exact hk _ u' ⟨by kernel_rfl, by kernel_rfl, by kernel_rfl, by kernel_rfl, by kernel_rfl, by kernel_rfl⟩ hn2
theorem ma_end (h : M11L ts AW nw cw wb mb idx) (hi : nw ≤ idx)
    (hk : ∀ ts, ts.size = 93 → OwnU Try.prog main Z Stop w₀ (aliveIn [((base 11).at ⟨ts, [clDefer sb]⟩ (.inRegion (opsOf (sel [1, 1, 1, 1, 1, 1, 1, 1, 0] bodyC11)) (0 :: [1]) :: [.code .ret]))]) u) : OwnU Try.prog main Z Stop w₀ (G ((base 11).at ⟨ts, [clDefer sb]⟩ [.code (sel [1, 1, 1, 1, 1, 1, 1, 0, 1, 4, 4] bodyC11), .inLoop (sel [1, 1, 1, 1, 1, 1, 1, 0, 1, 4, 4] bodyC11), .inBlock 0, .code (sel [1, 1, 1, 1, 1, 1, 1, 1] bodyC11)]) []) u := by
  rw [h.sh]
  refine ownU_seq (x := sel [1, 1, 1, 1, 1, 1, 1, 0, 1, 4, 4, 0] bodyC11) (y := sel [1, 1, 1, 1, 1, 1, 1, 0, 1, 4, 4, 1] bodyC11) ?_
  refine ownU_region (id := 10) (ops := opsOf (sel [1, 1, 1, 1, 1, 1, 1, 0, 1, 4, 4, 0] bodyC11)) ?_
  refine ownU_quiet (i := 0) (rest := []) (.bool false) rfl (by rfl) rfl (by decide) (fun _ => lss_v (p := (idx : Int)) (q := (nw : Int)) rfl (by kernel_rfl) (by kernel_rfl) (by simp; omega)) ?_
  refine ownU_region_end ?_
  refine ownU_seq (x := sel [1, 1, 1, 1, 1, 1, 1, 0, 1, 4, 4, 1, 0] bodyC11) (y := sel [1, 1, 1, 1, 1, 1, 1, 0, 1, 4, 4, 1, 1] bodyC11) ?_
  refine ownU_cond (c := .tmp 56) (x := .skip) (y := .exit 0) (t := false) (by kernel_rfl) ?_
  refine ownU_exit (k' := [.code (sel [1, 1, 1, 1, 1, 1, 1, 1] bodyC11)]) rfl ?_
  refine ownU_lit ((L11 ts [(7, ptr wb), (8, ptr mb), (53, .slice AW nw cw), (54, .int .i64 (nw : Int)), (55, .int .i64 (idx : Int)), (56, .bool false)])) [clDefer sb] (by kernel_rfl) (by kernel_rfl) ?_
  refine ownU_seq (x := sel [1, 1, 1, 1, 1, 1, 1, 1, 0] bodyC11) (y := sel [1, 1, 1, 1, 1, 1, 1, 1, 1] bodyC11) ?_
  refine ownU_region (id := 19) (ops := opsOf (sel [1, 1, 1, 1, 1, 1, 1, 1, 0] bodyC11)) ?_
  refine ownU_enterT (i := 0) (rest := [1]) (f := 34) rfl (by kernel_rfl) (by decide) rfl Try.func34 (by kernel_rfl) rfl fun ts' hts => ?_
  have hT : ts'.size = 93 := by subst hts; kernel_rfl
  clear hts
  exact ownU_eq (by kernel_rfl) (hk ts' hT)
theorem ma_end2 (h : ts.size = 93)
    (hk : ∀ ts, ts.getD 6 undef = .bool true → OwnU Try.prog main Z Stop w₀ (closeIn .deferred sb [{ (base 11).at ⟨ts, []⟩ [.code .ret] with mode := .returning }]) u) : OwnU Try.prog main Z Stop w₀ (G ((base 11).at ((⟨ts, [clDefer sb]⟩ : Act).put ((((opsOf (sel [1, 1, 1, 1, 1, 1, 1, 1, 0] bodyC11)))[0]?).bind (·.dst)) (.bool true)) (.inRegion (opsOf (sel [1, 1, 1, 1, 1, 1, 1, 1, 0] bodyC11)) [1] :: [.code .ret])) []) u := by
  rw [lit_c11 ts h]
  refine ownU_quiet (i := 1) (rest := []) (.bool true) rfl (by rfl) rfl (by decide) (fun _ => by kernel_rfl) ?_
  refine ownU_region_end ?_
  refine ownU_lit ((L11 ts [(6, .bool true), (92, .bool true)])) [clDefer sb] (by kernel_rfl) (by kernel_rfl) ?_
  refine ownU_ret ?_
  refine ownU_deferred (args := #[ptr sb]) (ca := #[]) (ds := []) (by simp) rfl Try.func36 (by kernel_rfl) rfl ?_
  exact ownU_eq (by kernel_rfl) (hk (L11 ts [(6, .bool true), (92, .bool true)]) (by kernel_rfl))
end
end Go.Proofs.Ytolnmdanlggmhaa

/- CoroMatches: for every row of functions, every row of bytes and every row of wakes the law returns true (its run, on whatever schedule). -/
namespace Go.Proofs.Ytolnmdanlggmhaa
open Go.RowKit Go.Maps Go.Conc
open Go.ConcN (upd upd_ne upd_same)

set_option maxRecDepth 100000
set_option maxHeartbeats 2000000

noncomputable def maHead (ts : Array Value) (sb : Nat) : Goroutine := G ((base 11).at ⟨ts, [clDefer sb]⟩ [.code (sel [1, 1, 1, 1, 1, 1, 1, 0, 1, 4, 4] bodyC11), .inLoop (sel [1, 1, 1, 1, 1, 1, 1, 0, 1, 4, 4] bodyC11), .inBlock 0, .code (sel [1, 1, 1, 1, 1, 1, 1, 1] bodyC11)]) []
noncomputable def maRef (ts : Array Value) (sb : Nat) : Goroutine := G ((base 11).at ⟨ts, [clDefer sb]⟩ (.code (sel [1, 1, 1, 1, 1, 1, 1, 0, 1, 4, 4, 1, 1, 0, 4, 1, 1, 1] bodyC11) :: [.inBlock 1, .code (sel [1, 1, 1, 1, 1, 1, 1, 0, 1, 4, 4, 1, 1, 1] bodyC11), .inLoop (sel [1, 1, 1, 1, 1, 1, 1, 0, 1, 4, 4] bodyC11), .inBlock 0, .code (sel [1, 1, 1, 1, 1, 1, 1, 1] bodyC11)])) []
/-- What a walk is told of a row of ints that came in. -/
def IntsAt (u : World) (A : Option Addr) (zs : List Int) : Prop := ∀ (i : Nat) z, zs[i]? = some z → ∃ ad, A = some ad ∧ u.cell? (ad.add i) = some (.int .i64 z)

section
variable {W : World} {wb mb nF cF nw cw : Nat} {fs : List (List RStep)} {af : Addr} {AW : Option Addr} {ids : List Int}
/-- The loop is over: alive, the deferred Close. -/
theorem matches_end {own : Nat → Nat} {S : Sch} {ks : List Kid} {FC : List Row} {n idx : Nat} {Inb : Nat → Option Seat} {w : World} {m : RS} {ts : Array Value} (C : CI ⟨W, [], fun _ => none⟩ 0 own S ks FC n Inb w) (J : MJ W own S ks FC wb fs af nF cF m (fun _ => False) w) (hI : RInv fs m) (hmc : m.cl = false) (hfr : S.fr + rMeas fs m ≤ 90000) (hts : M11L ts AW nw cw wb mb idx) (hi : nw ≤ idx) :
    Won Try.prog (LawPost W) FC n Inb 0 (maHead ts S.sb) w := by
  have hcl : S.closed = false := J.mt.cl.trans hmc
  have h20 := hI.len
  unfold maHead
  refine win_own C.fi.wf (ma_end hts hi fun ts1 hts1 => ownU_stop fun w1 hs hkp => ?_)
  obtain ⟨C1, s1⟩ := CI.rest' C hs hkp (New.refl _)
  clear hs hkp
  refine win_unseat ?_
  refine alive_won C1.ground fun FC5 n5 w5 H5 hsub5 hsup5 ex5 hn5 => ?_
  refine won_kf fun hK5 => ?_
  obtain ⟨C5, s5⟩ := C1.unseat.over H5 hsub5 hsup5 ex5 hK5 hn5
  refine win_own C5.fi.wf (ma_end2 hts1 fun ts6 h6 => ownU_stop fun w6 hs hkp => ?_)
  obtain ⟨C6, s6⟩ := CI.rest' C5 hs hkp (New.refl _)
  clear hs hkp
  refine close_enter_won (by decide) C6 hcl fun g7 w7 hg7 C7 s7 => ?_
  have s17 := ((s1.trans s5 (OLe.refl _)).trans s6 (OLe.refl _)).trans s7 (OLe.refl _)
  have eS : ({ S with closed := true } : Sch).open' m.cl = S := by
    rw [← J.mt.cl]
    cases S; rfl
  have J7 : MJ W own (({ S with closed := true } : Sch).open' m.cl) ks FC5 wb fs af nF cF (endTo m 0) (fun _ => False) w7 := by
    rw [eS, endTo_zero]
    exact J.keep (OLe.refl _) s17 hsub5
  have e0 : ((endCnt m 0 : Nat) : Int) = 0 := by simp [endCnt]
  refine close_laps (κ := .deferred) (S := { S with closed := true }) (m := m) (by decide) S.cos.length 0 (by simp) h20 C7 rfl J7 hfr (show AtClose .deferred g7 S.sb S.v (S.cos.length : Int) ((0 : Nat) : Int) ((endCnt m 0 : Nat) : Int) _ from by rw [e0]; exact hg7) fun own8 S8 ks8 Inb8 w8 g8 hg8 C8 hcl8 J8 hsb8 le8 s8 => ?_
  refine win_own C8.fi.wf (clOut_deferred hg8 rfl (ownU_stop fun w9 hs hkp => ?_))
  obtain ⟨C9, _⟩ := CI.rest' C8 hs hkp (New.refl _)
  obtain ⟨_, hf9⟩ := C9.ends (J8.over C8) rfl
  refine won_end Try.func11 (t := 6) rfl (by kernel_rfl) (fun i hi => ?_) h6 (C9.base.below (Nat.le_refl _))
  have := congrFun hf9 i
  rw [upd_ne _ _ hi] at this
  exact this

/-- THE LOOP over the wakes. -/
theorem matches_loop (hFA : FAt W (some af) fs) (hnF : fs.length = nF) (h60 : ∀ l ∈ fs, l.length ≤ 60) (hsz : ∀ l ∈ fs, ∀ x ∈ l, x.text.size ≤ 140737488355328) (h0 : 0 < fs.length) (h8 : fs.length ≤ 8) (hWk : IntsAt W AW ids) (hil : ids.length = nw) (hnw : nw ≤ 30) : ∀ (N idx : Nat) {own : Nat → Nat} {S : Sch} {ks : List Kid} {FC : List Row} {n : Nat} {Inb : Nat → Option Seat} {w : World} {m : RS} {v : Value} {ts : Array Value}, N + idx = nw →
    CI ⟨W, [], fun _ => none⟩ 0 own S ks FC n Inb w → MJ W own S ks FC wb fs af nF cF m (fun _ => False) w → RInv fs m → m.cl = false → S.fr + rMeas fs m ≤ 90000 → RefAt own mb (.slice (some af) nF cF) v m w → M11L ts AW nw cw wb mb idx → Won Try.prog (LawPost W) FC n Inb 0 (maHead ts S.sb) w
  | 0, idx, own, S, ks, FC, n, Inb, w, m, v, ts, hN, C, J, hI, hmc, hfr, hr, hts => matches_end C J hI hmc hfr hts (by omega)
  | N + 1, idx, own, S, ks, FC, n, Inb, w, m, v, ts, hN, C, J, hI, hmc, hfr, hr, hts => by
    have hidx : idx < nw := by omega
    obtain ⟨id, hid⟩ : ∃ id, ids[idx]? = some id := ⟨_, List.getElem?_eq_getElem (by omega)⟩
    obtain ⟨ad, hA1, hA2⟩ := hWk idx id hid
    have h20 := hI.len
    have hql := hI.qlen
    have hroom := hI.room
    have h10 := hr.tag
    obtain ⟨hb, hsat⟩ := C.refG hr
    have hlmb : mb < (guardW FC w).heap.size := C.ltG mb (by omega)
    unfold maHead
    refine win_own C.fi.wf (ma_w1 hts hidx hA1 (C.old rfl hA2) hb hsat (fun b hb => C.ltG b (by omega)) h20 (by omega) fun ts1 u1 v1 b3 hts1 hb3 hs1 hn1 hge => ownU_stop fun w1 hs hkp => ?_)
    obtain ⟨own1, C1, le1, s1, e1, hin⟩ := C.vol (mb := mb) hs hkp h10 ⟨hn1.os, hn1.output, hn1.size, fun b hl _ => hn1.block b hl⟩
    clear hs hkp
    have hb3l : b3 < u1.heap.size := by obtain ⟨_, _, _, _, _, _, h⟩ := hb3; exact obj_lt h
    have t3 : own1 b3 = 9 := hin b3 hge hb3l
    have hb3w : BoxAt b3 v1 w1 := hb3.keep (e1 b3 (by omega))
    have t10 : own1 mb = 10 := le1.tag h10 (by omega)
    have hbm : BoxAt mb v w1 := (hb.keep (hn1.block mb hlmb)).keep (e1 mb (by omega))
    have hS1 : SAt w1 (fun b => own1 b = 9) (.slice (some af) nF cF) v1 (rWake m id) := by
      have h9 : SAt u1 (fun b => own1 b = 9) (.slice (some af) nF cF) v1 (rWake m id) := hs1.imp fun k hk hR => hR.elim (fun h => le1.tag h (by omega)) fun h => hin k h hk
      exact h9.nine (OLe.refl _) (fun b hb => e1 b (by omega)) C1.lt
    have J1 := J.keepB h10 le1 s1 (FC' := FC) fun _ h => h
    have hI' : RInv fs (rWake m id) := rWake_inv hI
    have hms : rMeas fs (rWake m id) = rMeas fs m := rWake_meas
    have hmc' : (rWake m id).cl = false := by
      rw [← hmc]
      unfold rWake
      split
      · split
        · rfl
        · rfl
      · rfl
    clear hb hsat hb3 hs1 hn1 hge e1 hin hb3l C J hr s1 hts
    -- what follows the real Wake
    have cont : ∀ own2 S2 w2 ts2, CI ⟨W, [], fun _ => none⟩ 0 own2 S2 ks FC n Inb w2 → MJ W own2 S2 ks FC wb fs af nF cF (rWake m id) (fun _ => False) w2 → S2.sb = S.sb → S2.fr = S.fr → OLe own1 own2 → Same6 own1 w1 w2 → M11W ts2 AW nw cw wb mb idx id b3 (rCan m id) → Won Try.prog (LawPost W) FC n Inb 0 (maRef ts2 S.sb) w2 := by
      intro own2 S2 w2 ts2 C2 J2 hsb2 hfr2 le2 s2 hts2
      rw [← hsb2]
      have hb32 : BoxAt b3 v1 w2 := hb3w.keep (s2 b3 (by omega))
      have t32 : own2 b3 = 9 := le2.tag t3 (by omega)
      have hbm2 : BoxAt mb v w2 := hbm.keep (s2 mb (by omega))
      have t102 : own2 mb = 10 := le2.tag t10 (by omega)
      have hS2 := hS1.nine le2 (fun b hb => s2 b (by omega)) C2.lt
      have g3 : BoxAt b3 v1 (guardW FC w2) := hb32.keep (C2.agr.eq b3 (by omega) (C2.fi.ne (by omega) (by omega) (by omega)))
      have gm : BoxAt mb v (guardW FC w2) := hbm2.keep (C2.agr.eq mb (by omega) (C2.fi.ne (by omega) (by omega) (by omega)))
      have hroom' := hI'.room
      unfold maRef
      refine win_own C2.fi.wf (ma_w3 hts2 g3 gm (C2.nine hS2) (fun b hb => C2.ltG b (by omega)) (by omega) (C2.fns rfl hFA) hnF h60 hsz h0 h8 hI' (by omega) fun ts3 u3 v3 hts3 hb3' hs3 hv3 => ownU_stop fun w3 hs hkp => ?_)
      obtain ⟨own3, C3, le3, s3, r3⟩ := C2.refstep hs hkp t102 hv3 hb3' hs3
      clear hs hkp
      have J3 := J2.keepB t102 le3 s3 (FC' := FC) fun _ h => h
      refine win_own C3.fi.wf (ma_w4 hts3 ((J3.sj hI').w0 C3) fun ts4 hts4 => ownU_stop fun w4 hs hkp => ?_)
      obtain ⟨C4, s4⟩ := CI.rest' C3 hs hkp (New.refl _)
      clear hs hkp
      have hri := rRun_inv h60 h0 5000 hI'
      refine run_laps (E := ⟨W, [], fun _ => none⟩) rfl hFA hnF h60 hsz (by omega) 5000 C4 hI' (by omega) (by omega) (J3.keep (OLe.refl _) s4 fun _ h => h) (Int.le_refl 0) (by omega) atHead_in fun own5 S5 ks5 FC5 n5 Inb5 w5 C5 J5 hfr5 hsb5 le5 s5 => ?_
      have r5 := (r3.same8 (OLe.refl _) s4.s8 C4.lt).same8 le5 s5 C5.lt
      obtain ⟨hb5, hs5⟩ := C5.refG r5
      rw [← hsb5, Int.zero_add]
      refine win_own C5.fi.wf (ma_w5 hts4 (by omega) hb5 ((J5.sj hri.1).at C5 (New.refl _) hs5) fun ts6 u6 hts6 hn6 => ownU_stop fun w6 hs hkp => ?_)
      obtain ⟨C6, s6⟩ := CI.rest' C5 hs hkp hn6
      exact matches_loop hFA hnF h60 hsz h0 h8 hWk hil hnw N (idx + 1) (by omega) C6 (J5.keep (OLe.refl _) s6 fun _ h => h) hri.1 (hri.2.1.trans hmc') hfr5 (r5.same8 (OLe.refl _) s6.s8 C6.lt) hts6
    have hmcan := J1.mt.can id
    have hgs1 : (guardW FC w1).heap.size = w1.heap.size := by simp [guardW]
    have sG := C1.siG
    by_cases hcan : rCan m id = true
    · have hcan' := hcan
      unfold rCan at hcan'
      simp only [Bool.and_eq_true, decide_eq_true_eq] at hcan'
      obtain ⟨q1, q2, q3⟩ := hcan'
      obtain ⟨j, hj⟩ : ∃ j : Nat, id = (j : Int) + 1 := ⟨(id - 1).toNat, by omega⟩
      rw [hj] at q2 q3
      rw [show ((j : Int) + 1 - 1).toNat = j by omega] at q3
      obtain ⟨rj, hrj⟩ : ∃ rj, m.cos[j]? = some rj := ⟨_, List.getElem?_eq_getElem (by omega)⟩
      obtain ⟨cj, hcj, hcs, _⟩ := J1.mt.get hrj
      rw [hrj] at q3
      simp only [Option.any_some, beq_iff_eq] at q3
      have hjq : j ∉ m.q := fun hq => by
        obtain ⟨c', e1, e2⟩ := hI.rdy j hq
        rw [hrj] at e1
        obtain rfl := Option.some.inj e1
        omega
      have hjnq := J1.mt.notIn hjq
      have eW : rWake m id = rWakeC m j rj := by
        unfold rWake
        rw [if_pos hcan, hj, show ((j : Int) + 1 - 1).toNat = j by omega, hrj]
      have hcjst : cj.st = 2 := by rw [hcs, q3]
      have hqs : S.qs.length ≤ 20 := by rw [J1.mt.qs, List.length_map]; exact hql
      refine win_own C1.fi.wf (ma_w2 (Qw := fun u' => ∃ own', SI own' (coWake S j cj) u' ∧ Stp (fun t => t = 2 ∨ t = 4) own1 own' (guardW FC w1) u') hts1 ((J1.sj hI).w0 C1) (fun A d => ?_) fun ts2 u2 hts2 ⟨own2, si2, st2⟩ => ownU_stop fun w2 hs hkp => ?_)
      · rw [hcan, hj]
        refine (wake_on (sG.tp A d) C1.ltG hcj hcjst hjnq (by omega)).mono ?_
        rintro e w' ⟨rfl, own', a, b⟩
        exact ⟨rfl, own', a, b.unl⟩
      · have fi2 : FI own2 (coWake S j cj) FC := by
          have f1 := C1.fi.stp (u := guardW FC w1) st2 (fun r hr => by rw [hgs1]; exact C1.rows r hr)
          have f2 := f1.setCo hcj { cj with st := 1 } rfl rfl rfl
          exact ⟨f2.wf, f2.rco, f2.rsb, f2.off⟩
        obtain ⟨a, C2⟩ := C1.step (S' := coWake S j cj) hs hkp st2 (by omega) si2 fi2 rfl (by simp [coWake]) (hkid_set hcj rfl rfl)
        have s2 : Same6 own1 w1 w2 := same6_step a fi2 st2 (fun t h => by omega) C1.lw C1.fi
        have J2 := J1.wake hcj hrj q3 st2.le s2
        rw [← eW] at J2
        exact cont own2 (coWake S j cj) w2 ts2 C2 J2 rfl rfl st2.le s2 hts2
    · have hcan0 : rCan m id = false := by simpa using hcan
      have eW : rWake m id = m := by unfold rWake; rw [if_neg hcan]
      refine win_own C1.fi.wf (ma_w2 (Qw := fun u' => New (guardW FC w1) u') hts1 ((J1.sj hI).w0 C1) (fun A d => ?_) fun ts2 u2 hts2 hn2 => ownU_stop fun w2 hs hkp => ?_)
      · rw [hcan0]
        exact (wake_off (sG.tp A d) (hmcan.trans hcan0)).mono fun e w' ⟨h1, h2⟩ => ⟨h1, new_ofTp h2⟩
      · obtain ⟨C2, s2⟩ := CI.rest' C1 hs hkp hn2
        exact cont own1 S w2 ts2 C2 (by rw [eW]; exact J1.keep (OLe.refl _) s2 fun _ h => h) rfl rfl (OLe.refl _) s2 hts2
end

theorem rFew_af' {W : World} {AF : Option Addr} {fs : List (List RStep)} (hFA : FAt W AF fs) (h0 : 0 < fs.length) : ∃ af, AF = some af := by
  obtain ⟨l, hl⟩ : ∃ l, fs[0]? = some l := ⟨_, List.getElem?_eq_getElem h0⟩
  obtain ⟨ad, _, _, e, _⟩ := hFA.fn hl
  exact ⟨_, e⟩
/-- THE LAW. -/
theorem law_matches (AF : Option Addr) (nF cF : Nat) (fs : List (List RStep)) (A1 : Option Addr) (nz cz : Nat) (zs : List Int) (AW : Option Addr) (nw cw : Nat) (zw : List Int) (W : World) (hFA : FAt W AF fs) (hnF : fs.length = nF) (hbd : nF ≤ 140737488355328) (hsz : ∀ l ∈ fs, ∀ x ∈ l, x.text.size ≤ 140737488355328) (hW : IsRow .u8 W A1 nz cz zs) (hWw : IsRow .i64 W AW nw cw zw) :
    ∃ M last o w' t', runNT Try.prog (M + 1) (solo (G (Frame.enter Try.prog 11 #[.slice AF nF cF, .slice A1 nz cz, .slice AW nw cw] .normal) []) W) #[] = (.ended o w', t') ∧
    runN Try.prog M (solo (G (Frame.enter Try.prog 11 #[.slice AF nF cF, .slice A1 nz cz, .slice AW nw cw] .normal) []) W) = .next last ∧ step Try.prog last = .ended o w' ∧ Conc.Good Try.prog (LawPost W) last o w' t' := by
  have H := ground_zero W
  have hfew : ∀ A d, Calls Try.prog 51 #[.slice AF nF cF] (tp (guardW [] W) A d) fun e w' => e = .returned (.bool (rFew fs)) ∧ ∃ A' d', w' = tp (guardW [] W) A' d' := fun A d =>
    (reffew fs AF nF cF hnF (tp (guardW [] W) A d) ((fns_ground hFA).tp' A d) hbd).mono fun e w' ⟨h1, h2⟩ => ⟨h1, A, d, h2⟩
  have e : G (Frame.enter Try.prog 11 #[.slice AF nF cF, .slice A1 nz cz, .slice AW nw cw] .normal) [] = (G ((base 11).at ⟨(L11 #[] [(0, .slice AF nF cF), (1, .slice A1 nz cz), (2, .slice AW nw cw)]), []⟩ [.code bodyC11]) []) := by kernel_rfl
  rw [e]
  clear e
  refine wins_start ?_
  -- not few, or too many wakes: alive alone
  have off : (∀ {u : World}, u = guardW [] W → (∀ ts, ts.size = 93 → OwnU Try.prog (0 == 0) (ZF []) (fun g' w' => Won Try.prog (LawPost W) [] 1 (fun _ => none) 0 g' w') W (aliveIn [((base 11).at ⟨ts, []⟩ (.inRegion (opsOf (sel [1, 0, 1, 2, 0] bodyC11)) (0 :: [1]) :: [.code (sel [1, 0, 1, 2, 1] bodyC11), .code (sel [1, 1] bodyC11)]))]) u) → OwnU Try.prog (0 == 0) (ZF []) (fun g' w' => Won Try.prog (LawPost W) [] 1 (fun _ => none) 0 g' w') W (G ((base 11).at ⟨(L11 #[] [(0, .slice AF nF cF), (1, .slice A1 nz cz), (2, .slice AW nw cw)]), []⟩ [.code bodyC11]) []) u) → Won Try.prog (LawPost W) [] 1 (fun _ => none) 0 (G ((base 11).at ⟨(L11 #[] [(0, .slice AF nF cF), (1, .slice A1 nz cz), (2, .slice AW nw cw)]), []⟩ [.code bodyC11]) []) W := fun hoff => by
    refine win_own H.wf (hoff rfl fun ts hts => ownU_stop fun w1 hs hkp => ?_)
    obtain ⟨H1, ex1⟩ := ground_own H hs hkp (New.refl _)
    clear hs hkp
    refine alive_won H1 fun FC4 n4 w4 H4 hsub4 hsup4 ex4 hn4 => ?_
    refine win_own H4.wf (ma_nofew2 hts fun ts k h6 => ownU_stop fun w5 hs hkp => ?_)
    obtain ⟨H5, ex5⟩ := ground_own H4 hs hkp (New.refl _)
    refine won_end Try.func11 (t := 6) rfl (by kernel_rfl) (fun i hi => rfl) h6 ?_
    have hsz1 := ex1.size
    have hsz4 := ex4.size
    refine Ext.below (B := W.heap.size) (((ext_none ex1 fun b _ h => h).then (O := fun b => W.heap.size ≤ b) ex4 (fun b hb h => ?_) (fun r hr => hr) (fun r hr => .inl hr)).then (O := fun b => W.heap.size ≤ b) ex5 (fun b hb h => ?_) (fun r hr => hsub4 r hr) (fun r hr => ?_)) (Nat.le_refl _)
    · have h' : w1.heap.size ≤ b := h; omega
    · have h' : w4.heap.size ≤ b := h; omega
    · rcases hsup4 r hr with h | h
      · exact .inl h
      · exact .inr (by omega)
  cases hfw : rFew fs with
  | false =>
    rw [hfw] at hfew
    exact off fun hu hk => ma_nofew (by rw [hu]; exact hfew) hk
  | true =>
    rw [hfw] at hfew
    by_cases hnw : 30 < nw
    · exact off fun hu hk => ma_long (by rw [hu]; exact hfew) hnw hk
    clear off
    obtain ⟨h0, h8, h60⟩ := rFew_use hfw
    obtain ⟨af, rfl⟩ := rFew_af' hFA h0
    -- the arguments
    obtain ⟨zs', hzl, hA, hz, hnz⟩ : ∃ zs' : List Int, zs'.length = nz ∧ ArgAt W A1 zs' ∧ (∀ z ∈ zs', 0 ≤ z ∧ z < 256) ∧ nz ≤ 9223372036854775807 := by
      rcases hW with ⟨_, rfl, _, _⟩ | ⟨x, rfl, h1, h2, h3, h4, h5⟩
      · exact ⟨[], rfl, fun i z h => by simp at h, (fun z h => by cases h), by omega⟩
      · unfold maxLen at h2
        refine ⟨zs.take nz, by rw [List.length_take]; omega, fun i z hi => ⟨x, rfl, ?_⟩, fun z hz => ?_, by omega⟩
        · rw [List.getElem?_take] at hi
          split at hi
          · have hil := (List.getElem?_eq_some_iff.1 hi).1
            rw [h4 i hil, List.getD_eq_getElem?_getD, hi]
            rfl
          · cases hi
        · have := h5 z (List.mem_of_mem_take hz)
          simp [Lit.wf, IntKind.min, IntKind.max, IntKind.signed, IntKind.bits] at this
          omega
    obtain ⟨ids, hil, hWk⟩ : ∃ ids : List Int, ids.length = nw ∧ IntsAt W AW ids := by
      rcases hWw with ⟨_, rfl, _, _⟩ | ⟨x, rfl, h1, h2, h3, h4, h5⟩
      · exact ⟨[], rfl, fun i z h => by simp at h⟩
      · refine ⟨zw.take nw, by rw [List.length_take]; omega, fun i z hi => ⟨x, rfl, ?_⟩⟩
        rw [List.getElem?_take] at hi
        split at hi
        · have hil := (List.getElem?_eq_some_iff.1 hi).1
          rw [h4 i hil, List.getD_eq_getElem?_getD, hi]
          rfl
        · cases hi
    clear hW hWw
    refine win_own H.wf (ma_few hfew (by omega) fun ts hts => ownU_stop fun w1 hs hkp => ?_)
    obtain ⟨H1, ex1⟩ := ground_own H hs hkp (New.refl _)
    clear hs hkp
    refine start_won (zs := zs') ex1 H1 hnF h60 (by omega) hA hz hzl hnz fun own S ks FC w2 m v wb C2 hfr hcl hmc J hI hM hS => ?_
    refine win_own C2.fi.wf (ma_b hts (C2.nine hS) (fun b hb => C2.ltG b (by omega)) ((J.sj hI).w0 C2) fun ts3 u3 hts3 hb3 hs3 hn3 => ownU_stop fun w3 hs hkp => ?_)
    obtain ⟨own3, C3, le3, s3, h10, e3⟩ := C2.newbox (t := 10) hs hkp (by omega) hn3 (Nat.le_refl _) (by obtain ⟨_, _, _, _, _, _, hb⟩ := hb3; exact obj_lt hb)
    clear hs hkp
    have r3 : RefAt own3 (guardW FC w2).heap.size (.slice (some af) nF cF) v m w3 := ⟨hb3.keep e3, h10, hS.nine le3 (fun b hb => s3 b (by omega)) C3.lt⟩
    have J3 := J.keep le3 s3 (FC' := FC) fun _ h => h
    generalize (guardW FC w2).heap.size = mb at *
    clear hb3 hs3 hn3 e3 s3 J C2 hS
    have hri := rRun_inv h60 h0 5000 hI
    refine run_laps (E := ⟨W, [], fun _ => none⟩) rfl hFA hnF h60 hsz (by omega) 5000 C3 hI (by omega) (by omega) J3 (Int.le_refl 0) (by omega) atHead_in fun own5 S5 ks5 FC5 n5 Inb5 w5 C5 J5 hfr5 hsb5 le5 s5 => ?_
    have r5 := r3.same8 le5 s5 C5.lt
    obtain ⟨hb5, hs5⟩ := C5.refG r5
    have h105 := r5.tag
    rw [← hsb5, Int.zero_add]
    refine win_own C5.fi.wf (ma_ran hts3 hb5 hs5 (fun b hb => C5.ltG b (by omega)) (by omega) (C5.fns rfl hFA) hnF h60 hsz h0 h8 hI (by omega) fun ts6 u6 v6 hts6 hb6 hs6 hv6 => ownU_stop fun w6 hs hkp => ?_)
    obtain ⟨own6, C6, le6, s6, r6⟩ := C5.refstep hs hkp h105 hv6 hb6 hs6
    clear hs hkp
    have J6 := J5.keepB h105 le6 s6 (FC' := FC5) fun _ h => h
    obtain ⟨hb7, hs7⟩ := C6.refG r6
    refine win_own C6.fi.wf (ma_same0 hts6 hb7 ((J6.sj hri.1).at C6 (New.refl _) hs7) fun ts8 u8 hts8 hn8 => ownU_stop fun w8 hs hkp => ?_)
    obtain ⟨C8, s8⟩ := CI.rest' C6 hs hkp hn8
    exact matches_loop hFA hnF h60 hsz h0 h8 hWk hil (by omega) nw 0 (by omega) C8 (J6.keep (OLe.refl _) s8 fun _ h => h) hri.1 (hri.2.1.trans hmc) hfr5 (r6.same8 (OLe.refl _) s8.s8 C8.lt) hts8
end Go.Proofs.Ytolnmdanlggmhaa

/- An argument that is a slice of slices of steps, opened. -/
namespace Go.Proofs.Ytolnmdanlggmhaa
open Go.RowKit Go.ChangeShapes Go.WideShapes Go.Deep

theorem flat3 {α : Type} {g : α → List Value} (hg : ∀ a, (g a).length = 3) : ∀ {l : List α} {j : Nat} {u : Value}, (l.flatMap g)[j]? = some u → ∃ i s r, l[i]? = some s ∧ j = i * 3 + r ∧ r < 3 ∧ (g s)[r]? = some u
  | [], j, u, h => by simp at h
  | a :: l, j, u, h => by
    rw [List.flatMap_cons] at h
    rcases Nat.lt_or_ge j 3 with hj | hj
    · rw [List.getElem?_append_left (by rw [hg]; exact hj)] at h
      exact ⟨0, a, j, rfl, by omega, hj, h⟩
    · rw [List.getElem?_append_right (by rw [hg]; exact hj), hg] at h
      obtain ⟨i, s, r, h1, h2, h3, h4⟩ := flat3 hg h
      exact ⟨i + 1, s, r, by simpa using h1, by omega, h3, h4⟩

section
variable {H : Type} {enc : TypeId × Value → H} {P : Program} {w : World} {base : Nat} {held : Bool}
theorem weightsAll_mem {e : TypeId} {d : DataW H} {n : Nat} (hn : n ∈ d.weights P e) : ∀ {ds : List (DataW H)}, d ∈ ds → n ∈ DataW.weightsAll P e ds
  | [], h => by cases h
  | d' :: ds, h => by
    simp only [DataW.weightsAll, List.mem_append]
    rcases List.mem_cons.1 h with h | h
    · subst h; exact .inl hn
    · exact .inr (weightsAll_mem hn h)
theorem open_steps {t e i64 st : TypeId} {f0 f1 f2 : Field} {fuel : Nat} {v : Value} {x : DataW H × List MemPlace} (ht : P.underlying t = some (.slice e)) (he : P.underlying e = some (.struct #[f0, f1, f2]))
    (ce : P.cellsOf e = 3) (o0 : f0.offset = 0) (o1 : f1.offset = 1) (o2 : f2.offset = 2) (c0 : P.cellsOf f0.type = 1) (c2 : P.cellsOf f2.type = 1) (t0 : f0.type = i64) (t1 : f1.type = i64) (t2 : f2.type = st) (hi : P.underlying i64 = some (.int .i64)) (hs : P.underlying st = some .string)
    (h : DataW.trod enc P w base (fun _ => true) held fuel t [v] = some x) :
    ∃ (A : Option Addr) (n c : Nat) (l : List RStep), v = .slice A n c ∧ l.length = n ∧ Rd w w.heap.size A (n * 3) (stepsL l) ∧ ∀ s ∈ l, s.text.size ∈ x.1.weights P t := by
  rcases open_slice ht h with ⟨hcs, _⟩ | ⟨a, len, cap, m, n, D, Pl, hcs, hb, hl, hm, hmm, rfl, hx⟩
  · simp at hcs
    exact ⟨none, 0, 0, [], hcs, rfl, Rd.nil _ _ _, fun s h => by cases h⟩
  · simp at hcs
    have hlm : len ≤ m := by rw [hmm]; simp; exact hl
    rw [t0] at c0
    rw [t2] at c2
    have each : ∀ i, i < len → ∃ q : RStep, w.cell? (a.add (i * 3)) = some (.int .i64 q.op) ∧ w.cell? (a.add (i * 3 + 1)) = some (.int .i64 q.n) ∧ w.cell? (a.add (i * 3 + 2)) = some (.string q.text) ∧ q.text.size ∈ (D i).weights P e := by
      intro i hi'
      obtain ⟨cs', h1, h2⟩ := hx i (by omega)
      rw [ce] at h1
      obtain ⟨_, hlen, hcell⟩ := World.cells?_some h1
      obtain ⟨xs, k, hk, hxy, _, hxl, hf⟩ := DataW.trod_struct he h2
      match xs, hxl, cs', hlen with
      | [y0, y1, y2], _, [v0, v1, v2], _ =>
        have g0 := hf 0 f0 rfl
        have g1 := hf 1 f1 rfl
        have g2 := hf 2 f2 rfl
        simp [o0, o1, o2, c0, c2, t0, t1, t2] at g0 g1 g2
        have e0 := hcell 0 (by omega)
        have e1 := hcell 1 (by omega)
        have e2 := hcell 2 (by omega)
        rw [add_add] at e0 e1 e2
        obtain ⟨x0, q0, r0, _⟩ := DataW.trod_int hi g0
        obtain ⟨x1, q1, r1, _⟩ := DataW.trod_int hi g1
        obtain ⟨x2, q2, r2, _⟩ := DataW.trod_string hs g2
        simp at q0 q1 q2
        subst q0 q1 q2 r0 r1 r2
        simp only [Prod.mk.injEq] at hxy
        refine ⟨⟨x0, x1, x2⟩, by simpa using e0, by simpa using e1, by simpa using e2, ?_⟩
        rw [hxy.1]
        have hwt : DataW.weights P e (DataW.agg (List.map (fun y : DataW H × List MemPlace => y.1) [(.lit (.int .i64 x0), []), (.lit (.int .i64 x1), []), (.lit (.string x2.data.toList), [])])) = [x2.data.toList.length] := by
          simp only [DataW.weights, he]
          rfl
        show x2.size ∈ DataW.weights P e _
        rw [hwt]
        exact List.mem_singleton.2 rfl
    haveI : Inhabited RStep := ⟨⟨0, 0, ByteArray.empty⟩⟩
    obtain ⟨f, hf⟩ := choose_lt each
    refine ⟨some a, len, cap, (List.range len).map f, hcs, by simp, ⟨?_, fun j u hu => ?_⟩, fun s hs' => ?_⟩
    · rw [stepsL_len]
      simp
    · obtain ⟨i, s, r, h1, rfl, h3, h4⟩ := flat3 (fun s => rfl) hu
      rw [List.getElem?_map, Option.map_eq_some_iff] at h1
      obtain ⟨r', hr', rfl⟩ := h1
      have hj : i < len ∧ r' = i := by
        rw [List.getElem?_eq_some_iff] at hr'
        obtain ⟨h1, h2⟩ := hr'
        simp at h1 h2
        exact ⟨h1, h2.symm⟩
      obtain ⟨hj, rfl⟩ := hj
      obtain ⟨q0, q1, q2, _⟩ := hf r' hj
      have hblk : a.block < w.heap.size := by
        have := World.block_lt_of_cell? _ _ q0
        rwa [add_block] at this
      refine ⟨a, rfl, hblk, ?_⟩
      match r, h3 with
      | 0, _ => simp [stL] at h4; rw [← h4]; exact q0
      | 1, _ => simp [stL] at h4; rw [← h4]; exact q1
      | 2, _ => simp [stL] at h4; rw [← h4]; exact q2
    · obtain ⟨i, hi', rfl⟩ := List.mem_map.1 hs'
      have hi' : i < len := by simpa using hi'
      simp only [DataW.weights, ht, List.mem_cons, List.mem_append]
      exact .inr (.inl (weightsAll_mem (hf i hi').2.2.2 (List.mem_map.2 ⟨i, by simpa using hi', rfl⟩)))
theorem open_fns {tt t e i64 st : TypeId} {f0 f1 f2 : Field} {fuel : Nat} {v : Value} {x : DataW H × List MemPlace} (htt : P.underlying tt = some (.slice t)) (ct : P.cellsOf t = 1) (ht : P.underlying t = some (.slice e)) (he : P.underlying e = some (.struct #[f0, f1, f2]))
    (ce : P.cellsOf e = 3) (o0 : f0.offset = 0) (o1 : f1.offset = 1) (o2 : f2.offset = 2) (c0 : P.cellsOf f0.type = 1) (c2 : P.cellsOf f2.type = 1) (t0 : f0.type = i64) (t1 : f1.type = i64) (t2 : f2.type = st) (hi : P.underlying i64 = some (.int .i64)) (hs : P.underlying st = some .string)
    (h : DataW.trod enc P w base (fun _ => true) held fuel tt [v] = some x) :
    ∃ (A : Option Addr) (n c : Nat) (fs : List (List RStep)), v = .slice A n c ∧ fs.length = n ∧ FAt w A fs ∧ (∀ l ∈ fs, ∀ s ∈ l, s.text.size ∈ x.1.weights P tt) ∧ (n = 0 ∨ ∃ k, n * P.bytesOf t ≤ k ∧ k ∈ x.1.weights P tt) := by
  rcases open_slice1 htt ct h with ⟨hcs, _⟩ | ⟨a, len, cap, m, n, V, D, Pl, hcs, hb, hl, hm, hmm, rfl, hx⟩
  · simp at hcs
    exact ⟨none, 0, 0, [], hcs, rfl, ⟨[], Rd.nil _ _ _, fun f l h => by simp at h⟩, fun s h => (by cases h), .inl rfl⟩
  · simp at hcs
    have hlm : len ≤ m := by rw [hmm]; simp; exact hl
    have each : ∀ i, i < len → ∃ q : List RStep, ∃ A c, w.cell? (a.add i) = some (.slice A q.length c) ∧ Rd w w.heap.size A (q.length * 3) (stepsL q) ∧ ∀ s ∈ q, s.text.size ∈ (D i).weights P t := by
      intro i hi'
      obtain ⟨h1, h2⟩ := hx i (by omega)
      obtain ⟨A, k, c, l, e1, rfl, e3, e4⟩ := open_steps ht he ce o0 o1 o2 c0 c2 t0 t1 t2 hi hs h2
      exact ⟨l, A, c, by rw [h1, e1], e3, e4⟩
    obtain ⟨f, hf⟩ := choose_lt each
    obtain ⟨B, hB⟩ := choose_lt hf
    obtain ⟨C, hC⟩ := choose_lt hB
    refine ⟨some a, len, cap, (List.range len).map f, hcs, by simp, ⟨(List.range len).map fun i => .slice (B i) (f i).length (C i), ⟨by simp, fun j u hu => ?_⟩, fun i l hl' => ?_⟩, fun l hl' s hs' => ?_, .inr ⟨_, ?_, by simp only [DataW.weights, htt]; exact List.mem_cons_self⟩⟩
    · rw [List.getElem?_map, Option.map_eq_some_iff] at hu
      obtain ⟨r', hr', rfl⟩ := hu
      have hj : j < len ∧ r' = j := by
        rw [List.getElem?_eq_some_iff] at hr'
        obtain ⟨h1, h2⟩ := hr'
        simp at h1 h2
        exact ⟨h1, h2.symm⟩
      obtain ⟨hj, rfl⟩ := hj
      have hc := (hC r' hj).1
      exact ⟨a, rfl, by have := World.block_lt_of_cell? _ _ hc; rwa [add_block] at this, hc⟩
    · rw [List.getElem?_map, Option.map_eq_some_iff] at hl'
      obtain ⟨r', hr', rfl⟩ := hl'
      have hj : i < len ∧ r' = i := by
        rw [List.getElem?_eq_some_iff] at hr'
        obtain ⟨h1, h2⟩ := hr'
        simp at h1 h2
        exact ⟨h1, h2.symm⟩
      obtain ⟨hj, rfl⟩ := hj
      exact ⟨B r', C r', by simp [hj], (hC r' hj).2.1⟩
    · obtain ⟨i, hi', rfl⟩ := List.mem_map.1 hl'
      have hi' : i < len := by simpa using hi'
      simp only [DataW.weights, htt, List.mem_cons, List.mem_append]
      exact .inr (.inl (weightsAll_mem ((hC i hi').2.2 s hs') (List.mem_map.2 ⟨i, by simpa using hi', rfl⟩)))
    · simp only [List.length_map, List.length_range]
      exact Nat.mul_le_mul_right _ (by omega)
end
end Go.Proofs.Ytolnmdanlggmhaa
