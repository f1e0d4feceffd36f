/- CoroCloses itself, in company: its pieces. (Printed by gen_cl.py.) -/
import Derived.Test.YtolnmdanlggmhaaKrg
import Derived.Test.YtolnmdanlggmhaaKrb
import Derived.Deep.SlicePairs
import Derived.SizedLaws
namespace Go.Proofs.Ytolnmdanlggmhaa
open Go.RowKit Go.Maps Go.Conc
open Go.ConcN (upd upd_ne upd_same)

set_option maxRecDepth 100000
set_option maxHeartbeats 2000000

noncomputable abbrev bodyC12 : Code := Try.f12.body.getD .skip
/-- The slots, of which some are told. -/
def L12 (ts : Array Value) (l : List (Nat × Value)) : Array Value := List.toArray ((List.range 86).map fun i => (l.lookup i).getD (ts.getD i undef))
theorem lit_c12 (ts : Array Value) (h : ts.size = 86) : ts = List.toArray (ts.getD 0 undef :: ts.getD 1 undef :: ts.getD 2 undef :: ts.getD 3 undef :: ts.getD 4 undef :: ts.getD 5 undef :: ts.getD 6 undef :: ts.getD 7 undef :: ts.getD 8 undef :: ts.getD 9 undef :: ts.getD 10 undef :: ts.getD 11 undef :: ts.getD 12 undef :: ts.getD 13 undef :: ts.getD 14 undef :: ts.getD 15 undef :: ts.getD 16 undef :: ts.getD 17 undef :: ts.getD 18 undef :: ts.getD 19 undef :: ts.getD 20 undef :: ts.getD 21 undef :: ts.getD 22 undef :: ts.getD 23 undef :: ts.getD 24 undef :: ts.getD 25 undef :: ts.getD 26 undef :: ts.getD 27 undef :: ts.getD 28 undef :: ts.getD 29 undef :: ts.getD 30 undef :: ts.getD 31 undef :: ts.getD 32 undef :: ts.getD 33 undef :: ts.getD 34 undef :: ts.getD 35 undef :: ts.getD 36 undef :: ts.getD 37 undef :: ts.getD 38 undef :: ts.getD 39 undef :: ts.getD 40 undef :: ts.getD 41 undef :: ts.getD 42 undef :: ts.getD 43 undef :: ts.getD 44 undef :: ts.getD 45 undef :: ts.getD 46 undef :: ts.getD 47 undef :: ts.getD 48 undef :: ts.getD 49 undef :: ts.getD 50 undef :: ts.getD 51 undef :: ts.getD 52 undef :: ts.getD 53 undef :: ts.getD 54 undef :: ts.getD 55 undef :: ts.getD 56 undef :: ts.getD 57 undef :: ts.getD 58 undef :: ts.getD 59 undef :: ts.getD 60 undef :: ts.getD 61 undef :: ts.getD 62 undef :: ts.getD 63 undef :: ts.getD 64 undef :: ts.getD 65 undef :: ts.getD 66 undef :: ts.getD 67 undef :: ts.getD 68 undef :: ts.getD 69 undef :: ts.getD 70 undef :: ts.getD 71 undef :: ts.getD 72 undef :: ts.getD 73 undef :: ts.getD 74 undef :: ts.getD 75 undef :: ts.getD 76 undef :: ts.getD 77 undef :: ts.getD 78 undef :: ts.getD 79 undef :: ts.getD 80 undef :: ts.getD 81 undef :: ts.getD 82 undef :: ts.getD 83 undef :: ts.getD 84 undef :: ts.getD 85 undef :: []) := (lit_any ts 86 h).trans (by kernel_rfl)
section
variable {main : Bool} {Z : Addr → Prop} {Stop : Goroutine → World → Prop} {w₀ u : World} {af : Addr} {nF cF : Nat} {A1 : Option Addr} {nz cz : Nat} {run : Bool} {wb mb sb n : Nat} {v : Value} {m : RS} {R : Nat → Prop} {ts : Array Value}
structure C12A (ts : Array Value) (af : Addr) (nF : Nat) (cF : Nat) (A1 : Option Addr) (nz : Nat) (cz : Nat) (run : Bool) : Prop where
  size : ts.size = 86
  t0 : ts.getD 0 undef = .slice (some af) nF cF
  t1 : ts.getD 1 undef = .slice A1 nz cz
  t2 : ts.getD 2 undef = .bool run
theorem C12A.sh (h : C12A ts af nF cF A1 nz cz run) : ts = (L12 ts [(0, .slice (some af) nF cF), (1, .slice A1 nz cz), (2, .bool run)]) := by
  have e := lit_c12 ts h.size
  rw [h.t0, h.t1, h.t2] at e
  exact e.trans (by kernel_rfl)
theorem C12A.put (h : C12A ts af nF cF A1 nz cz run) {d : Nat} (hd : d ≠ 0 ∧ d ≠ 1 ∧ d ≠ 2) (v : Value) : C12A (ts.setIfInBounds d v) af nF cF A1 nz cz run :=
  ⟨by rw [Array.size_setIfInBounds]; exact h.size, (set_getD_ne hd.1).trans h.t0, (set_getD_ne hd.2.1).trans h.t1, (set_getD_ne hd.2.2).trans h.t2⟩
structure C12B (ts : Array Value) (af : Addr) (nF : Nat) (cF : Nat) (A1 : Option Addr) (nz : Nat) (cz : Nat) (run : Bool) (wb : Nat) (mb : Nat) : Prop where
  size : ts.size = 86
  t0 : ts.getD 0 undef = .slice (some af) nF cF
  t1 : ts.getD 1 undef = .slice A1 nz cz
  t2 : ts.getD 2 undef = .bool run
  t7 : ts.getD 7 undef = ptr wb
  t8 : ts.getD 8 undef = ptr mb
theorem C12B.sh (h : C12B ts af nF cF A1 nz cz run wb mb) : ts = (L12 ts [(0, .slice (some af) nF cF), (1, .slice A1 nz cz), (2, .bool run), (7, ptr wb), (8, ptr mb)]) := by
  have e := lit_c12 ts h.size
  rw [h.t0, h.t1, h.t2, h.t7, h.t8] at e
  exact e.trans (by kernel_rfl)
theorem C12B.put (h : C12B ts af nF cF A1 nz cz run wb mb) {d : Nat} (hd : d ≠ 0 ∧ d ≠ 1 ∧ d ≠ 2 ∧ d ≠ 7 ∧ d ≠ 8) (v : Value) : C12B (ts.setIfInBounds d v) af nF cF A1 nz cz run wb mb :=
  ⟨by rw [Array.size_setIfInBounds]; exact h.size, (set_getD_ne hd.1).trans h.t0, (set_getD_ne hd.2.1).trans h.t1, (set_getD_ne hd.2.2.1).trans h.t2, (set_getD_ne hd.2.2.2.1).trans h.t7, (set_getD_ne hd.2.2.2.2).trans h.t8⟩
structure C12C (ts : Array Value) (af : Addr) (nF : Nat) (cF : Nat) (A1 : Option Addr) (nz : Nat) (cz : Nat) (run : Bool) (wb : Nat) (mb : Nat) (n : Nat) (k : Nat) : Prop where
  size : ts.size = 86
  t0 : ts.getD 0 undef = .slice (some af) nF cF
  t1 : ts.getD 1 undef = .slice A1 nz cz
  t2 : ts.getD 2 undef = .bool run
  t7 : ts.getD 7 undef = ptr wb
  t8 : ts.getD 8 undef = ptr mb
  t9 : ts.getD 9 undef = .int .i64 (n : Int)
  t10 : ts.getD 10 undef = .int .i64 (k : Int)
theorem C12C.sh {k : Nat} (h : C12C ts af nF cF A1 nz cz run wb mb n k) : ts = (L12 ts [(0, .slice (some af) nF cF), (1, .slice A1 nz cz), (2, .bool run), (7, ptr wb), (8, ptr mb), (9, .int .i64 (n : Int)), (10, .int .i64 (k : Int))]) := by
  have e := lit_c12 ts h.size
  rw [h.t0, h.t1, h.t2, h.t7, h.t8, h.t9, h.t10] at e
  exact e.trans (by kernel_rfl)
theorem C12C.put {k : Nat} (h : C12C ts af nF cF A1 nz cz run wb mb n k) {d : Nat} (hd : d ≠ 0 ∧ d ≠ 1 ∧ d ≠ 2 ∧ d ≠ 7 ∧ d ≠ 8 ∧ d ≠ 9 ∧ d ≠ 10) (v : Value) : C12C (ts.setIfInBounds d v) af nF cF A1 nz cz run wb mb n k :=
  ⟨by rw [Array.size_setIfInBounds]; exact h.size, (set_getD_ne hd.1).trans h.t0, (set_getD_ne hd.2.1).trans h.t1, (set_getD_ne hd.2.2.1).trans h.t2, (set_getD_ne hd.2.2.2.1).trans h.t7, (set_getD_ne hd.2.2.2.2.1).trans h.t8, (set_getD_ne hd.2.2.2.2.2.1).trans h.t9, (set_getD_ne hd.2.2.2.2.2.2).trans h.t10⟩
noncomputable def c12In (af : Addr) (nF : Nat) (cF : Nat) (A1 : Option Addr) (nz : Nat) (cz : Nat) (run : Bool) : Goroutine := (G ((base 12).at ⟨(L12 #[] [(0, .slice (some af) nF cF), (1, .slice A1 nz cz), (2, .bool run)]), []⟩ [.code bodyC12]) [])
theorem cl_few (hfew : ∀ A d, Calls Try.prog 51 #[.slice (some af) nF cF] (tp u A d) fun e w' => e = .returned (.bool true) ∧ ∃ A d, w' = tp u A d) (hk : ∀ ts, C12A ts af nF cF A1 nz cz run → OwnU Try.prog main Z Stop w₀ (stIn (some af) nF cF A1 nz cz [((base 12).at ⟨ts, []⟩ (.inRegion (opsOf (sel [1, 1, 0] bodyC12)) (2 :: [3, 4, 5, 6, 7, 8]) :: [.code (sel [1, 1, 1] bodyC12)]))]) u) : OwnU Try.prog main Z Stop w₀ (c12In af nF cF A1 nz cz run) u := by
  unfold c12In
  refine ownU_seq (x := sel [0] bodyC12) (y := sel [1] bodyC12) ?_
  refine ownU_region (id := 0) (ops := opsOf (sel [0] bodyC12)) ?_
  refine ownU_quiet (i := 0) (rest := []) (.bool false) rfl (by rfl) rfl (by decide) (fun _ => by kernel_rfl) ?_
  refine ownU_region_end ?_
  refine ownU_seq (x := sel [1, 0] bodyC12) (y := sel [1, 1] bodyC12) ?_
  refine ownU_seq (x := sel [1, 0, 0] bodyC12) (y := sel [1, 0, 1] bodyC12) ?_
  refine ownU_region (id := 1) (ops := opsOf (sel [1, 0, 0] bodyC12)) ?_
  refine ownU_quiet (i := 0) (rest := [1, 2]) (.slice (some af) nF cF) rfl (by rfl) rfl (by decide) (fun _ => by kernel_rfl) ?_
  refine ownU_callK (i := 1) (rest := [2]) (L := lone18) (R := fun e w' => e = .returned (.bool true) ∧ ∃ A d, w' = tp u A d) okL18 (by decide) rfl rfl (by kernel_rfl) (by kernel_rfl) (by decide) (fun A d => calls_eq (by kernel_rfl) (hfew A d)) (fun e w h => ⟨_, h.1⟩) fun z u' hR => ?_
  obtain ⟨e, A, d, rfl⟩ := hR
  injection e with e
  subst e
  refine ownU_tp.2 ?_
  refine ownU_quiet (i := 2) (rest := []) (.bool false) rfl (by rfl) rfl (by decide) (fun _ => by kernel_rfl) ?_
  refine ownU_region_end ?_
  refine ownU_cond (c := .tmp 13) (x := sel [1, 0, 1, 2] bodyC12) (y := .skip) (t := false) (by kernel_rfl) ?_
  refine ownU_skip ?_
  refine ownU_seq (x := sel [1, 1, 0] bodyC12) (y := sel [1, 1, 1] bodyC12) ?_
  refine ownU_region (id := 3) (ops := opsOf (sel [1, 1, 0] bodyC12)) ?_
  refine ownU_quiet (i := 0) (rest := [1, 2, 3, 4, 5, 6, 7, 8]) (.slice (some af) nF cF) rfl (by rfl) rfl (by decide) (fun _ => by kernel_rfl) ?_
  refine ownU_quiet (i := 1) (rest := [2, 3, 4, 5, 6, 7, 8]) (.slice A1 nz cz) rfl (by rfl) rfl (by decide) (fun _ => by kernel_rfl) ?_
  refine ownU_lit ((L12 #[] [(0, .slice (some af) nF cF), (1, .slice A1 nz cz), (2, .bool run), (6, .bool false), (11, .slice (some af) nF cF), (12, .bool true), (13, .bool false), (16, .slice (some af) nF cF), (17, .slice A1 nz cz)])) [] (by kernel_rfl) (by kernel_rfl) ?_
  refine ownU_enterT (i := 2) (rest := [3, 4, 5, 6, 7, 8]) (f := 52) rfl (by kernel_rfl) (by decide) rfl Try.func52 (by kernel_rfl) rfl fun ts' hts => ?_
  have hR : C12A ts' af nF cF A1 nz cz run := by subst hts; exact ⟨by kernel_rfl, by kernel_rfl, by kernel_rfl, by kernel_rfl⟩
  clear hts
  exact ownU_eq (by kernel_rfl) (hk ts' hR)
theorem cl_nofew {AF : Option Addr} {nF : Nat} {cF : Nat} {A1 : Option Addr} {nz : Nat} {cz : Nat} (hfew : ∀ A d, Calls Try.prog 51 #[.slice AF nF cF] (tp u A d) fun e w' => e = .returned (.bool false) ∧ ∃ A d, w' = tp u A d) (hk : ∀ ts, ts.size = 86 → OwnU Try.prog main Z Stop w₀ (aliveIn [((base 12).at ⟨ts, []⟩ (.inRegion (opsOf (sel [1, 0, 1, 2, 0] bodyC12)) (0 :: [1]) :: [.code (sel [1, 0, 1, 2, 1] bodyC12), .code (sel [1, 1] bodyC12)]))]) u) : OwnU Try.prog main Z Stop w₀ (G ((base 12).at ⟨(L12 #[] [(0, .slice AF nF cF), (1, .slice A1 nz cz), (2, .bool run)]), []⟩ [.code bodyC12]) []) u := by
  refine ownU_seq (x := sel [0] bodyC12) (y := sel [1] bodyC12) ?_
  refine ownU_region (id := 0) (ops := opsOf (sel [0] bodyC12)) ?_
  refine ownU_quiet (i := 0) (rest := []) (.bool false) rfl (by rfl) rfl (by decide) (fun _ => by kernel_rfl) ?_
  refine ownU_region_end ?_
  refine ownU_seq (x := sel [1, 0] bodyC12) (y := sel [1, 1] bodyC12) ?_
  refine ownU_seq (x := sel [1, 0, 0] bodyC12) (y := sel [1, 0, 1] bodyC12) ?_
  refine ownU_region (id := 1) (ops := opsOf (sel [1, 0, 0] bodyC12)) ?_
  refine ownU_quiet (i := 0) (rest := [1, 2]) (.slice AF nF cF) rfl (by rfl) rfl (by decide) (fun _ => by kernel_rfl) ?_
  refine ownU_callK (i := 1) (rest := [2]) (L := lone18) (R := fun e w' => e = .returned (.bool false) ∧ ∃ A d, w' = tp u A d) okL18 (by decide) rfl rfl (by kernel_rfl) (by kernel_rfl) (by decide) (fun A d => calls_eq (by kernel_rfl) (hfew A d)) (fun e w h => ⟨_, h.1⟩) fun z u' hR => ?_
  obtain ⟨e, A, d, rfl⟩ := hR
  injection e with e
  subst e
  refine ownU_tp.2 ?_
  refine ownU_quiet (i := 2) (rest := []) (.bool true) rfl (by rfl) rfl (by decide) (fun _ => by kernel_rfl) ?_
  refine ownU_region_end ?_
  refine ownU_cond (c := .tmp 13) (x := sel [1, 0, 1, 2] bodyC12) (y := .skip) (t := true) (by kernel_rfl) ?_
  refine ownU_seq (x := sel [1, 0, 1, 2, 0] bodyC12) (y := sel [1, 0, 1, 2, 1] bodyC12) ?_
  refine ownU_region (id := 2) (ops := opsOf (sel [1, 0, 1, 2, 0] bodyC12)) ?_
  refine ownU_lit ((L12 #[] [(0, .slice AF nF cF), (1, .slice A1 nz cz), (2, .bool run), (6, .bool false), (11, .slice AF nF cF), (12, .bool false), (13, .bool true)])) [] (by kernel_rfl) (by kernel_rfl) ?_
  refine ownU_enterT (i := 0) (rest := [1]) (f := 34) rfl (by kernel_rfl) (by decide) rfl Try.func34 (by kernel_rfl) rfl fun ts' hts => ?_
  have hR : ts'.size = 86 := by subst hts; kernel_rfl
  clear hts
  exact ownU_eq (by kernel_rfl) (hk ts' hR)
theorem cl_nofew2 (h : ts.size = 86) (hk : ∀ ts todo, ts.getD 6 undef = .bool true → OwnU Try.prog main Z Stop w₀ (G { (base 12).at ⟨ts, []⟩ todo with mode := .returning } []) u) : OwnU Try.prog main Z Stop w₀ (G ((base 12).at ((⟨ts, []⟩ : Act).put ((((opsOf (sel [1, 0, 1, 2, 0] bodyC12)))[0]?).bind (·.dst)) (.bool true)) (.inRegion (opsOf (sel [1, 0, 1, 2, 0] bodyC12)) [1] :: [.code (sel [1, 0, 1, 2, 1] bodyC12), .code (sel [1, 1] bodyC12)])) []) u := by
  rw [lit_c12 ts h]
  refine ownU_quiet (i := 1) (rest := []) (.bool true) rfl (by rfl) rfl (by decide) (fun _ => by kernel_rfl) ?_
  refine ownU_region_end ?_
  refine ownU_lit ((L12 ts [(6, .bool true), (14, .bool true)])) [] (by kernel_rfl) (by kernel_rfl) ?_
  refine ownU_ret ?_
  exact hk _ _ (by kernel_rfl)
theorem cl_b (h : C12A ts af nF cF A1 nz cz run) (hs : SAt u R (.slice (some af) nF cF) v m) (hR : ∀ b, R b → b < u.heap.size) (hw0 : u.cell? ⟨wb, 0, none⟩ = some (ptr sb))
    (hk : ∀ ts u', C12B ts af nF cF A1 nz cz run wb u.heap.size → BoxAt u.heap.size v u' → SAt u' R (.slice (some af) nF cF) v m → New u u' → OwnU Try.prog main Z Stop w₀ (G ((base 12).at ⟨ts, [clDefer sb]⟩ [.code (sel [1, 1, 1, 1] bodyC12)]) []) u') : OwnU Try.prog main Z Stop w₀ (G ((base 12).at ((⟨ts, []⟩ : Act).put ((((opsOf (sel [1, 1, 0] bodyC12)))[2]?).bind (·.dst)) (.tuple #[ptr wb, v])) (.inRegion (opsOf (sel [1, 1, 0] bodyC12)) [3, 4, 5, 6, 7, 8] :: [.code (sel [1, 1, 1] bodyC12)])) []) u := by
  rw [h.sh]
  refine ownU_quiet (i := 3) (rest := [4, 5, 6, 7, 8]) (.tuple #[ptr wb, v]) rfl (by rfl) rfl (by decide) (fun _ => by kernel_rfl) ?_
  refine ownU_quiet (i := 4) (rest := [5, 6, 7, 8]) (ptr wb) rfl (by rfl) rfl (by decide) (fun _ => by kernel_rfl) ?_
  refine ownU_quiet (i := 5) (rest := [6, 7, 8]) (v) rfl (by rfl) rfl (by decide) (fun _ => by kernel_rfl) ?_
  refine ownU_new (.cells #[.slice none 0 0, .slice none 0 0, .slice none 0 0, .slice none 0 0, .bool false] 68) (i := 6) (rest := [7, 8]) rfl (by rfl) rfl (by decide) (fun _ => by kernel_rfl) ?_
  have hnew := New.alloc u (.cells #[.slice none 0 0, .slice none 0 0, .slice none 0 0, .slice none 0 0, .bool false] 68)
  have hblk : (u.alloc (.cells #[.slice none 0 0, .slice none 0 0, .slice none 0 0, .slice none 0 0, .bool false] 68)).heap[u.heap.size]? = some (.cells #[.slice none 0 0, .slice none 0 0, .slice none 0 0, .slice none 0 0, .bool false] 68 (0, 0)) := alloc_new' u _ rfl
  have hs1 := hs.keep (fun k hk _ => hnew.block k hk) hnew.size
  generalize u.alloc (.cells #[.slice none 0 0, .slice none 0 0, .slice none 0 0, .slice none 0 0, .bool false] 68) = u1 at *
  have hmb : u.heap.size = u.heap.size := rfl
  generalize hmbn : u.heap.size = mb at *
  refine ownU_quiet (i := 7) (rest := [8]) (ptr wb) rfl (by rfl) rfl (by decide) (fun _ => by kernel_rfl) ?_
  refine ownU_storeRef (i := 8) (rest := []) (p := .tmp 8) (x := .tmp 20) (v := v) rfl (by rfl) (by decide) rfl (by kernel_rfl) (by kernel_rfl) ⟨_, _, _, _, _, rfl, hblk⟩ hs1 ⟨_, _, _, rfl⟩ (fun h => by have := hR _ h; omega) fun u2 hb2 hs2 hv2 => ?_
  refine ownU_region_end ?_
  have hn2 : New u u2 := ⟨hv2.os.trans hnew.os, hv2.output.trans hnew.output, Nat.le_trans hnew.size hv2.size, fun b hb => (hv2.block b (Nat.lt_of_lt_of_le hb hnew.size) (by omega)).trans (hnew.block b hb)⟩
  have hw2 := hn2.cell hw0
  refine ownU_lit ((L12 ts [(0, .slice (some af) nF cF), (1, .slice A1 nz cz), (2, .bool run), (7, ptr wb), (8, ptr mb), (15, .tuple #[ptr wb, v]), (18, .tuple #[ptr wb, v]), (19, ptr wb), (20, v)])) [] (by kernel_rfl) (by kernel_rfl) ?_
  refine ownU_seq (x := sel [1, 1, 1, 0] bodyC12) (y := sel [1, 1, 1, 1] bodyC12) ?_
  refine ownU_region (id := 4) (ops := opsOf (sel [1, 1, 1, 0] bodyC12)) ?_
  refine ownU_quiet (i := 0) (rest := [1, 2, 3, 4]) (ptr wb) rfl (by rfl) rfl (by decide) (fun _ => by kernel_rfl) ?_
  refine ownU_quiet (i := 1) (rest := [2, 3, 4]) (ptr wb) rfl (by rfl) rfl (by decide) (fun _ => by kernel_rfl) ?_
  refine ownU_quiet (i := 2) (rest := [3, 4]) (.pointer (some ⟨wb, 0, none⟩)) rfl (by rfl) rfl (by decide) (fun _ => by kernel_rfl) ?_
  refine ownU_load (i := 3) (rest := [4]) ⟨wb, 0, none⟩ (ptr sb) rfl (by rfl) (by decide) loads_sched rfl (by kernel_rfl) hw2 ?_
  refine ownU_defer (i := 4) (rest := []) (d := clDefer sb) rfl (by rfl) (by decide) (fun _ => by kernel_rfl) (fun _ => by kernel_rfl) ?_
  refine ownU_region_end ?_
  refine ownU_lit ((L12 ts [(0, .slice (some af) nF cF), (1, .slice A1 nz cz), (2, .bool run), (7, ptr wb), (8, ptr mb), (15, .tuple #[ptr wb, v]), (18, .tuple #[ptr wb, v]), (19, ptr wb), (20, v), (21, ptr wb), (22, ptr wb), (23, .pointer (some ⟨wb, 0, none⟩)), (24, ptr sb)])) [clDefer sb] (by kernel_rfl) (by kernel_rfl) ?_
  exact hk _ u2 ⟨by kernel_rfl, by kernel_rfl, by kernel_rfl, by kernel_rfl, by kernel_rfl, by kernel_rfl⟩ hb2 hs2 hn2
theorem cl_run (h : C12B ts af nF cF A1 nz cz true wb mb) (hw0 : u.cell? ⟨wb, 0, none⟩ = some (ptr sb)) (hk : ∀ ts, C12B ts af nF cF A1 nz cz true wb mb → OwnU Try.prog main Z Stop w₀ (runIn sb [((base 12).at ⟨ts, [clDefer sb]⟩ (.inRegion (opsOf (sel [1, 1, 1, 1, 0, 1, 2, 0] bodyC12)) (4 :: []) :: [.code (sel [1, 1, 1, 1, 0, 1, 2, 1] bodyC12), .code (sel [1, 1, 1, 1, 1] bodyC12)]))]) u) : OwnU Try.prog main Z Stop w₀ (G ((base 12).at ⟨ts, [clDefer sb]⟩ [.code (sel [1, 1, 1, 1] bodyC12)]) []) u := by
  rw [h.sh]
  refine ownU_seq (x := sel [1, 1, 1, 1, 0] bodyC12) (y := sel [1, 1, 1, 1, 1] bodyC12) ?_
  refine ownU_seq (x := sel [1, 1, 1, 1, 0, 0] bodyC12) (y := sel [1, 1, 1, 1, 0, 1] bodyC12) ?_
  refine ownU_region (id := 5) (ops := opsOf (sel [1, 1, 1, 1, 0, 0] bodyC12)) ?_
  refine ownU_quiet (i := 0) (rest := []) (.bool true) rfl (by rfl) rfl (by decide) (fun _ => by kernel_rfl) ?_
  refine ownU_region_end ?_
  refine ownU_cond (c := .tmp 25) (x := sel [1, 1, 1, 1, 0, 1, 2] bodyC12) (y := .skip) (t := true) (by kernel_rfl) ?_
  refine ownU_seq (x := sel [1, 1, 1, 1, 0, 1, 2, 0] bodyC12) (y := sel [1, 1, 1, 1, 0, 1, 2, 1] bodyC12) ?_
  refine ownU_region (id := 6) (ops := opsOf (sel [1, 1, 1, 1, 0, 1, 2, 0] bodyC12)) ?_
  refine ownU_quiet (i := 0) (rest := [1, 2, 3, 4]) (ptr wb) rfl (by rfl) rfl (by decide) (fun _ => by kernel_rfl) ?_
  refine ownU_quiet (i := 1) (rest := [2, 3, 4]) (ptr wb) rfl (by rfl) rfl (by decide) (fun _ => by kernel_rfl) ?_
  refine ownU_quiet (i := 2) (rest := [3, 4]) (.pointer (some ⟨wb, 0, none⟩)) rfl (by rfl) rfl (by decide) (fun _ => by kernel_rfl) ?_
  refine ownU_load (i := 3) (rest := [4]) ⟨wb, 0, none⟩ (ptr sb) rfl (by rfl) (by decide) loads_sched rfl (by kernel_rfl) hw0 ?_
  refine ownU_lit ((L12 ts [(0, .slice (some af) nF cF), (1, .slice A1 nz cz), (2, .bool true), (7, ptr wb), (8, ptr mb), (25, .bool true), (26, ptr wb), (27, ptr wb), (28, .pointer (some ⟨wb, 0, none⟩)), (29, ptr sb)])) [clDefer sb] (by kernel_rfl) (by kernel_rfl) ?_
  refine ownU_enterT (i := 4) (rest := []) (f := 42) rfl (by kernel_rfl) (by decide) rfl Try.func42 (by kernel_rfl) rfl fun ts' hts => ?_
  have hR : C12B ts' af nF cF A1 nz cz true wb mb := by subst hts; exact ⟨by kernel_rfl, by kernel_rfl, by kernel_rfl, by kernel_rfl, by kernel_rfl, by kernel_rfl⟩
  clear hts
  exact ownU_eq (by kernel_rfl) (hk ts' hR)
theorem cl_norun (h : C12B ts af nF cF A1 nz cz false wb mb) (hk : ∀ ts, C12B ts af nF cF A1 nz cz false wb mb → OwnU Try.prog main Z Stop w₀ (G ((base 12).at ⟨ts, [clDefer sb]⟩ [.code (sel [1, 1, 1, 1, 1] bodyC12)]) []) u) : OwnU Try.prog main Z Stop w₀ (G ((base 12).at ⟨ts, [clDefer sb]⟩ [.code (sel [1, 1, 1, 1] bodyC12)]) []) u := by
  rw [h.sh]
  refine ownU_seq (x := sel [1, 1, 1, 1, 0] bodyC12) (y := sel [1, 1, 1, 1, 1] bodyC12) ?_
  refine ownU_seq (x := sel [1, 1, 1, 1, 0, 0] bodyC12) (y := sel [1, 1, 1, 1, 0, 1] bodyC12) ?_
  refine ownU_region (id := 5) (ops := opsOf (sel [1, 1, 1, 1, 0, 0] bodyC12)) ?_
  refine ownU_quiet (i := 0) (rest := []) (.bool false) rfl (by rfl) rfl (by decide) (fun _ => by kernel_rfl) ?_
  refine ownU_region_end ?_
  refine ownU_cond (c := .tmp 25) (x := sel [1, 1, 1, 1, 0, 1, 2] bodyC12) (y := .skip) (t := false) (by kernel_rfl) ?_
  refine ownU_skip ?_
  exact hk _ ⟨by kernel_rfl, by kernel_rfl, by kernel_rfl, by kernel_rfl, by kernel_rfl, by kernel_rfl⟩
theorem FAt.tp {w : World} {AF : Option Addr} {fs : List (List RStep)} (h : FAt w AF fs) (A : Nat → Question → Nat) (d : Nat) : FAt (Go.Proofs.Ytolnmdanlggmhaa.tp w A d) AF fs := by
  obtain ⟨vs, h1, h2⟩ := h
  refine ⟨vs, ⟨h1.len, h1.at'⟩, fun f l hl => ?_⟩
  obtain ⟨A', c, h3, h4⟩ := h2 f l hl
  exact ⟨A', c, h3, ⟨h4.len, h4.at'⟩⟩
theorem cl_ran {x : Value} {fs : List (List RStep)} (h : C12B ts af nF cF A1 nz cz run wb mb) (D : BoxAt mb v u) (hs : SAt u R (.slice (some af) nF cF) v m) (hR : ∀ b, R b → b < u.heap.size) (hRm : ¬ R mb) (hFA : FAt u (some af) fs) (hnF : fs.length = nF) (h60 : ∀ l ∈ fs, l.length ≤ 60) (hsz : ∀ l ∈ fs, ∀ x ∈ l, x.text.size ≤ 140737488355328) (h0 : 0 < fs.length) (h8 : fs.length ≤ 8) (hI : RInv fs m) (hM : rMeas fs m ≤ 1240)
    (hk : ∀ ts u' v', C12B ts af nF cF A1 nz cz run wb mb → BoxAt mb v' u' → SAt u' (fun b => R b ∨ u.heap.size ≤ b) (.slice (some af) nF cF) v' (rRun fs 1240 m).1 → Vol mb u u' → OwnU Try.prog main Z Stop w₀ (G ((base 12).at ⟨ts, [clDefer sb]⟩ [.code (sel [1, 1, 1, 1, 1] bodyC12)]) []) u') : OwnU Try.prog main Z Stop w₀ (G ((base 12).at ((⟨ts, [clDefer sb]⟩ : Act).put ((((opsOf (sel [1, 1, 1, 1, 0, 1, 2, 0] bodyC12)))[4]?).bind (·.dst)) (x)) (.inRegion (opsOf (sel [1, 1, 1, 1, 0, 1, 2, 0] bodyC12)) [] :: [.code (sel [1, 1, 1, 1, 0, 1, 2, 1] bodyC12), .code (sel [1, 1, 1, 1, 1] bodyC12)])) []) u := by
  refine ownU_region_end ?_
  have hT : C12B ((⟨ts, [clDefer sb]⟩ : Act).put ((((opsOf (sel [1, 1, 1, 1, 0, 1, 2, 0] bodyC12)))[4]?).bind (·.dst)) (x)).tmps af nF cF A1 nz cz run wb mb := h.put (d := 30) (by omega) x
  have hA : ((⟨ts, [clDefer sb]⟩ : Act).put ((((opsOf (sel [1, 1, 1, 1, 0, 1, 2, 0] bodyC12)))[4]?).bind (·.dst)) (x)) = ⟨((⟨ts, [clDefer sb]⟩ : Act).put ((((opsOf (sel [1, 1, 1, 1, 0, 1, 2, 0] bodyC12)))[4]?).bind (·.dst)) (x)).tmps, [clDefer sb]⟩ := rfl
  rw [hA]
  generalize ((⟨ts, [clDefer sb]⟩ : Act).put ((((opsOf (sel [1, 1, 1, 1, 0, 1, 2, 0] bodyC12)))[4]?).bind (·.dst)) (x)).tmps = ts2 at *
  clear hA
  have e := lit_c12 ts2 hT.size
  rw [hT.t0, hT.t1, hT.t2, hT.t7, hT.t8] at e
  rw [e]
  clear e
  refine ownU_codeM okL18 (by kernel_rfl) (by decide) ⟨_, Try.func12⟩ fun A d => ?_
  conv => arg 2; whnf
  have hk2 := fun ts' u' v' a b c (e : Vol mb (tp u A d) u') => hk ts' u' v' a b c ⟨e.os, e.output, e.size, e.block⟩
  have D1 : BoxAt mb v (tp u A d) := D
  have hs1 : SAt (tp u A d) R (.slice (some af) nF cF) v m := hs.keep (fun _ _ _ => rfl) (Nat.le_refl _)
  have hR1 : ∀ b, R b → b < (tp u A d).heap.size := hR
  replace hk2 := show ∀ ts' u' v', C12B ts' af nF cF A1 nz cz run wb mb → BoxAt mb v' u' → SAt u' (fun b => R b ∨ (tp u A d).heap.size ≤ b) (.slice (some af) nF cF) v' (rRun fs 1240 m).1 → Vol mb (tp u A d) u' → OwnU Try.prog main Z Stop w₀ (G ((base 12).at ⟨ts', [clDefer sb]⟩ [.code (sel [1, 1, 1, 1, 1] bodyC12)]) []) u' from hk2
  clear hk D hs hR
  have hFA1 : FAt (tp u A d) (some af) fs := hFA.tp A d
  have HFA := Lib.hid hFA1
  clear hFA hFA1
  generalize tp u A d = u1 at *
  obtain ⟨A1', p1, r1, A2, p2, r2, A3, p3, r3, bb, rfl⟩ := hs1.five
  obtain ⟨y0, y1, y2, y3, y4, hv, D⟩ := D1
  simp only [Value.agg.injEq, Array.mk.injEq, List.cons.injEq, and_true] at hv
  obtain ⟨rfl, rfl, rfl, rfl, rfl⟩ := hv
  obtain ⟨c0, c1, c2, c3, c4, fb⟩ := five_cells D
  have hlt := blk_lt D
  have HS := Lib.hid hs1
  have HK := Lib.hid hk2
  have HR := Lib.hid hR1
  have HM := Lib.hid hRm
  clear hs1 hk2 hR1 hRm
  unfold ptr at *
  go_wp2_with fail
  clear h hT
  refine (refrun fs (some af) nF cF hnF _ m u1 R HFA.out HS.out HR.out h60 hsz h0 h8 hI 1240 hM (by omega)).mono ?_
  rintro e w5 ⟨v', rfl, hs5, hb5⟩
  obtain ⟨A4, p4, r4, A5, p5, r5, A6, p6, r6, b6, rfl⟩ := hs5.five
  have D5 := (hb5.block _ hlt).trans D
  obtain ⟨_, _, _, _, _, f5⟩ := five_cells D5
  have hlt5 := blk_lt D5
  have HS5 := Lib.hid hs5
  clear hs5
  go_wp2_with fail
  refine atEndU ?_
  obtain ⟨q1, q2, q3⟩ := ref_stored D5 HS5.out hb5 rfl HM.out hlt rfl
  exact HK.out _ _ _ ⟨by kernel_rfl, by kernel_rfl, by kernel_rfl, by kernel_rfl, by kernel_rfl, by kernel_rfl⟩ q1 q2 q3
theorem cl_close (h : C12B ts af nF cF A1 nz cz run wb mb) (hw0 : u.cell? ⟨wb, 0, none⟩ = some (ptr sb)) (hk : ∀ ts, C12B ts af nF cF A1 nz cz run wb mb → OwnU Try.prog main Z Stop w₀ (closeIn .normal sb [((base 12).at ⟨ts, [clDefer sb]⟩ (.inRegion (opsOf (sel [1, 1, 1, 1, 1, 0] bodyC12)) (4 :: [5]) :: [.code (sel [1, 1, 1, 1, 1, 1] bodyC12)]))]) u) : OwnU Try.prog main Z Stop w₀ (G ((base 12).at ⟨ts, [clDefer sb]⟩ [.code (sel [1, 1, 1, 1, 1] bodyC12)]) []) u := by
  rw [h.sh]
  refine ownU_seq (x := sel [1, 1, 1, 1, 1, 0] bodyC12) (y := sel [1, 1, 1, 1, 1, 1] bodyC12) ?_
  refine ownU_region (id := 8) (ops := opsOf (sel [1, 1, 1, 1, 1, 0] bodyC12)) ?_
  refine ownU_quiet (i := 0) (rest := [1, 2, 3, 4, 5]) (ptr wb) rfl (by rfl) rfl (by decide) (fun _ => by kernel_rfl) ?_
  refine ownU_quiet (i := 1) (rest := [2, 3, 4, 5]) (ptr wb) rfl (by rfl) rfl (by decide) (fun _ => by kernel_rfl) ?_
  refine ownU_quiet (i := 2) (rest := [3, 4, 5]) (.pointer (some ⟨wb, 0, none⟩)) rfl (by rfl) rfl (by decide) (fun _ => by kernel_rfl) ?_
  refine ownU_load (i := 3) (rest := [4, 5]) ⟨wb, 0, none⟩ (ptr sb) rfl (by rfl) (by decide) loads_sched rfl (by kernel_rfl) hw0 ?_
  refine ownU_lit ((L12 ts [(0, .slice (some af) nF cF), (1, .slice A1 nz cz), (2, .bool run), (7, ptr wb), (8, ptr mb), (36, ptr wb), (37, ptr wb), (38, .pointer (some ⟨wb, 0, none⟩)), (39, ptr sb)])) [clDefer sb] (by kernel_rfl) (by kernel_rfl) ?_
  refine ownU_enterT (i := 4) (rest := [5]) (f := 36) rfl (by kernel_rfl) (by decide) rfl Try.func36 (by kernel_rfl) rfl fun ts' hts => ?_
  have hR : C12B ts' af nF cF A1 nz cz run wb mb := by subst hts; exact ⟨by kernel_rfl, by kernel_rfl, by kernel_rfl, by kernel_rfl, by kernel_rfl, by kernel_rfl⟩
  clear hts
  exact ownU_eq (by kernel_rfl) (hk ts' hR)
theorem cl_closed (h : C12B ts af nF cF A1 nz cz run wb mb) (D : BoxAt mb v u) (hs : SAt u R (.slice (some af) nF cF) v m) (hR : ∀ b, R b → b < u.heap.size) (hRm : ¬ R mb) (hl : m.cos.length ≤ 20) (hcl : m.cl = false)
    (hk : ∀ ts u' v', C12C ts af nF cF A1 nz cz run wb mb n (rClose m).2 → BoxAt mb v' u' → SAt u' (fun b => R b ∨ u.heap.size ≤ b) (.slice (some af) nF cF) v' (rClose m).1 → Vol mb u u' → OwnU Try.prog main Z Stop w₀ (aliveIn [((base 12).at ⟨ts, [clDefer sb]⟩ (.inRegion (opsOf (sel [1, 1, 1, 1, 1, 1, 1, 0] bodyC12)) (0 :: [1, 2, 3, 4, 5, 6, 7, 8, 9, 10, 11, 12, 13, 14, 15, 16, 17, 18, 19, 20, 21, 22, 23, 24, 25, 26, 27, 28, 29, 30, 31, 32, 33, 34, 35, 36, 37, 38, 39, 40]) :: [.code .ret]))]) u') : OwnU Try.prog main Z Stop w₀ (G ((base 12).at ((⟨ts, [clDefer sb]⟩ : Act).put ((((opsOf (sel [1, 1, 1, 1, 1, 0] bodyC12)))[4]?).bind (·.dst)) (.int .i64 (n : Int))) (.inRegion (opsOf (sel [1, 1, 1, 1, 1, 0] bodyC12)) [5] :: [.code (sel [1, 1, 1, 1, 1, 1] bodyC12)])) []) u := by
  rw [h.sh]
  refine ownU_quiet (i := 5) (rest := []) (.int .i64 (n : Int)) rfl (by rfl) rfl (by decide) (fun _ => by kernel_rfl) ?_
  refine ownU_region_end ?_
  refine ownU_lit (List.toArray (.slice (some af) nF cF :: .slice A1 nz cz :: .bool run :: ts.getD 3 undef :: ts.getD 4 undef :: ts.getD 5 undef :: ts.getD 6 undef :: ptr wb :: ptr mb :: .int .i64 (n : Int) :: ts.getD 10 undef :: ts.getD 11 undef :: ts.getD 12 undef :: ts.getD 13 undef :: ts.getD 14 undef :: ts.getD 15 undef :: ts.getD 16 undef :: ts.getD 17 undef :: ts.getD 18 undef :: ts.getD 19 undef :: ts.getD 20 undef :: ts.getD 21 undef :: ts.getD 22 undef :: ts.getD 23 undef :: ts.getD 24 undef :: ts.getD 25 undef :: ts.getD 26 undef :: ts.getD 27 undef :: ts.getD 28 undef :: ts.getD 29 undef :: ts.getD 30 undef :: ts.getD 31 undef :: ts.getD 32 undef :: ts.getD 33 undef :: ts.getD 34 undef :: ts.getD 35 undef :: ts.getD 36 undef :: ts.getD 37 undef :: ts.getD 38 undef :: ts.getD 39 undef :: .int .i64 (n : Int) :: ts.getD 41 undef :: ts.getD 42 undef :: ts.getD 43 undef :: ts.getD 44 undef :: ts.getD 45 undef :: ts.getD 46 undef :: ts.getD 47 undef :: ts.getD 48 undef :: ts.getD 49 undef :: ts.getD 50 undef :: ts.getD 51 undef :: ts.getD 52 undef :: ts.getD 53 undef :: ts.getD 54 undef :: ts.getD 55 undef :: ts.getD 56 undef :: ts.getD 57 undef :: ts.getD 58 undef :: ts.getD 59 undef :: ts.getD 60 undef :: ts.getD 61 undef :: ts.getD 62 undef :: ts.getD 63 undef :: ts.getD 64 undef :: ts.getD 65 undef :: ts.getD 66 undef :: ts.getD 67 undef :: ts.getD 68 undef :: ts.getD 69 undef :: ts.getD 70 undef :: ts.getD 71 undef :: ts.getD 72 undef :: ts.getD 73 undef :: ts.getD 74 undef :: ts.getD 75 undef :: ts.getD 76 undef :: ts.getD 77 undef :: ts.getD 78 undef :: ts.getD 79 undef :: ts.getD 80 undef :: ts.getD 81 undef :: ts.getD 82 undef :: ts.getD 83 undef :: ts.getD 84 undef :: ts.getD 85 undef :: [])) [clDefer sb] (by kernel_rfl) (by kernel_rfl) ?_
  refine ownU_seq (x := sel [1, 1, 1, 1, 1, 1, 0] bodyC12) (y := sel [1, 1, 1, 1, 1, 1, 1] bodyC12) ?_
  refine ownU_codeM okL18 (by kernel_rfl) (by decide) ⟨_, Try.func12⟩ fun A d => ?_
  conv => arg 2; whnf
  have hk2 := fun ts' u' v' a b c (e : Vol mb (tp u A d) u') => hk ts' u' v' a b c ⟨e.os, e.output, e.size, e.block⟩
  have D1 : BoxAt mb v (tp u A d) := D
  have hs1 : SAt (tp u A d) R (.slice (some af) nF cF) v m := hs.keep (fun _ _ _ => rfl) (Nat.le_refl _)
  have hR1 : ∀ b, R b → b < (tp u A d).heap.size := hR
  replace hk2 := show ∀ ts' u' v', C12C ts' af nF cF A1 nz cz run wb mb n (rClose m).2 → BoxAt mb v' u' → SAt u' (fun b => R b ∨ (tp u A d).heap.size ≤ b) (.slice (some af) nF cF) v' (rClose m).1 → Vol mb (tp u A d) u' → OwnU Try.prog main Z Stop w₀ (aliveIn [((base 12).at ⟨ts', [clDefer sb]⟩ (.inRegion (opsOf (sel [1, 1, 1, 1, 1, 1, 1, 0] bodyC12)) (0 :: [1, 2, 3, 4, 5, 6, 7, 8, 9, 10, 11, 12, 13, 14, 15, 16, 17, 18, 19, 20, 21, 22, 23, 24, 25, 26, 27, 28, 29, 30, 31, 32, 33, 34, 35, 36, 37, 38, 39, 40]) :: [.code .ret]))]) u' from hk2
  clear hk D hs hR
  generalize tp u A d = u1 at *
  obtain ⟨A1', p1, r1, A2, p2, r2, A3, p3, r3, bb, rfl⟩ := hs1.five
  obtain ⟨y0, y1, y2, y3, y4, hv, D⟩ := D1
  simp only [Value.agg.injEq, Array.mk.injEq, List.cons.injEq, and_true] at hv
  obtain ⟨rfl, rfl, rfl, rfl, rfl⟩ := hv
  obtain ⟨c0, c1, c2, c3, c4, fb⟩ := five_cells D
  have hlt := blk_lt D
  have HS := Lib.hid hs1
  have HK := Lib.hid hk2
  have HR := Lib.hid hR1
  have HM := Lib.hid hRm
  clear hs1 hk2 hR1 hRm
  unfold ptr at *
  go_wp2_with fail
  refine (refclose (some af) nF cF _ m u1 R HS.out HR.out hl hcl).mono ?_
  rintro e w5 ⟨v', rfl, hs5, hb5⟩
  obtain ⟨A4, p4, r4, A5, p5, r5, A6, p6, r6, b6, rfl⟩ := hs5.five
  have D5 := (hb5.block _ hlt).trans D
  obtain ⟨_, _, _, _, _, f5⟩ := five_cells D5
  have hlt5 := blk_lt D5
  have HS5 := Lib.hid hs5
  clear hs5
  go_wp2_with fail
  refine atEndU ?_
  obtain ⟨q1, q2, q3⟩ := ref_stored D5 HS5.out hb5 rfl HM.out hlt rfl
  refine ownU_seq (x := sel [1, 1, 1, 1, 1, 1, 1, 0] bodyC12) (y := sel [1, 1, 1, 1, 1, 1, 1, 1] bodyC12) ?_
  refine ownU_region (id := 10) (ops := opsOf (sel [1, 1, 1, 1, 1, 1, 1, 0] bodyC12)) ?_
  refine ownU_enterT (i := 0) (rest := [1, 2, 3, 4, 5, 6, 7, 8, 9, 10, 11, 12, 13, 14, 15, 16, 17, 18, 19, 20, 21, 22, 23, 24, 25, 26, 27, 28, 29, 30, 31, 32, 33, 34, 35, 36, 37, 38, 39, 40]) (f := 34) rfl (by kernel_rfl) (by decide) rfl Try.func34 (by kernel_rfl) rfl fun ts' hts => ?_
  have hR : C12C ts' af nF cF A1 nz cz run wb mb n (rClose m).2 := by subst hts; exact ⟨by kernel_rfl, by kernel_rfl, by kernel_rfl, by kernel_rfl, by kernel_rfl, by kernel_rfl, by kernel_rfl, by kernel_rfl⟩
  clear hts
  exact ownU_eq (by kernel_rfl) (HK.out ts' _ _ hR q1 q2 q3)
theorem cl_g1 (h : C12C ts af nF cF A1 nz cz run wb mb n n) (D : BoxAt mb v u) (hw0 : u.cell? ⟨wb, 0, none⟩ = some (ptr sb)) (hsame : ∀ A d, Calls Try.prog 54 #[ptr wb, v] (tp u A d) fun e w' => e = .returned (.bool true) ∧ New u w')
    (hk : ∀ ts u', C12C ts af nF cF A1 nz cz run wb mb n n → ts.getD 57 undef = .bool true → New u u' → OwnU Try.prog main Z Stop w₀ (closeIn .normal sb [((base 12).at ⟨ts, [clDefer sb]⟩ (.inRegion (opsOf (sel [1, 1, 1, 1, 1, 1, 1, 0] bodyC12)) (16 :: [17, 18, 19, 20, 21, 22, 23, 24, 25, 26, 27, 28, 29, 30, 31, 32, 33, 34, 35, 36, 37, 38, 39, 40]) :: [.code .ret]))]) u') : OwnU Try.prog main Z Stop w₀ (G ((base 12).at ((⟨ts, [clDefer sb]⟩ : Act).put ((((opsOf (sel [1, 1, 1, 1, 1, 1, 1, 0] bodyC12)))[0]?).bind (·.dst)) (.bool true)) (.inRegion (opsOf (sel [1, 1, 1, 1, 1, 1, 1, 0] bodyC12)) [1, 2, 3, 4, 5, 6, 7, 8, 9, 10, 11, 12, 13, 14, 15, 16, 17, 18, 19, 20, 21, 22, 23, 24, 25, 26, 27, 28, 29, 30, 31, 32, 33, 34, 35, 36, 37, 38, 39, 40] :: [.code .ret])) []) u := by
  rw [h.sh]
  refine ownU_quiet (i := 1) (rest := [2, 3, 4, 5, 6, 7, 8, 9, 10, 11, 12, 13, 14, 15, 16, 17, 18, 19, 20, 21, 22, 23, 24, 25, 26, 27, 28, 29, 30, 31, 32, 33, 34, 35, 36, 37, 38, 39, 40]) (.bool true) rfl (by rfl) rfl (by decide) (fun _ => by kernel_rfl) ?_
  refine ownU_quiet (i := 2) (rest := [3, 4, 5, 6, 7, 8, 9, 10, 11, 12, 13, 14, 15, 16, 17, 18, 19, 20, 21, 22, 23, 24, 25, 26, 27, 28, 29, 30, 31, 32, 33, 34, 35, 36, 37, 38, 39, 40]) (.int .i64 (n : Int)) rfl (by kernel_rfl) rfl (by decide) (fun _ => by kernel_rfl) ?_
  refine ownU_quiet (i := 3) (rest := [4, 5, 6, 7, 8, 9, 10, 11, 12, 13, 14, 15, 16, 17, 18, 19, 20, 21, 22, 23, 24, 25, 26, 27, 28, 29, 30, 31, 32, 33, 34, 35, 36, 37, 38, 39, 40]) (.int .i64 (n : Int)) rfl (by kernel_rfl) rfl (by decide) (fun _ => by kernel_rfl) ?_
  refine ownU_quiet (i := 4) (rest := [5, 6, 7, 8, 9, 10, 11, 12, 13, 14, 15, 16, 17, 18, 19, 20, 21, 22, 23, 24, 25, 26, 27, 28, 29, 30, 31, 32, 33, 34, 35, 36, 37, 38, 39, 40]) (.bool true) rfl (by kernel_rfl) rfl (by decide) (fun _ => eql_v (p := (n : Int)) (q := (n : Int)) rfl (by kernel_rfl) (by kernel_rfl) rfl) ?_
  refine ownU_quiet (i := 5) (rest := [6, 7, 8, 9, 10, 11, 12, 13, 14, 15, 16, 17, 18, 19, 20, 21, 22, 23, 24, 25, 26, 27, 28, 29, 30, 31, 32, 33, 34, 35, 36, 37, 38, 39, 40]) (.bool true) rfl (by kernel_rfl) rfl (by decide) (fun _ => by kernel_rfl) ?_
  refine ownU_quiet (i := 6) (rest := [7, 8, 9, 10, 11, 12, 13, 14, 15, 16, 17, 18, 19, 20, 21, 22, 23, 24, 25, 26, 27, 28, 29, 30, 31, 32, 33, 34, 35, 36, 37, 38, 39, 40]) (.bool true) rfl (by rfl) rfl (by decide) (fun _ => by kernel_rfl) ?_
  refine ownU_quiet (i := 7) (rest := [8, 9, 10, 11, 12, 13, 14, 15, 16, 17, 18, 19, 20, 21, 22, 23, 24, 25, 26, 27, 28, 29, 30, 31, 32, 33, 34, 35, 36, 37, 38, 39, 40]) (ptr wb) rfl (by kernel_rfl) rfl (by decide) (fun _ => by kernel_rfl) ?_
  refine ownU_loadRef (i := 8) (rest := [9, 10, 11, 12, 13, 14, 15, 16, 17, 18, 19, 20, 21, 22, 23, 24, 25, 26, 27, 28, 29, 30, 31, 32, 33, 34, 35, 36, 37, 38, 39, 40]) (v := v) rfl (by kernel_rfl) (by decide) rfl (by kernel_rfl) D ?_
  refine ownU_callK (i := 9) (rest := [10, 11, 12, 13, 14, 15, 16, 17, 18, 19, 20, 21, 22, 23, 24, 25, 26, 27, 28, 29, 30, 31, 32, 33, 34, 35, 36, 37, 38, 39, 40]) (L := lone18) (R := fun e w' => e = .returned (.bool true) ∧ New u w') okL18 (by decide) rfl rfl (by kernel_rfl) (by kernel_rfl) (by decide) (fun A d => calls_eq (by kernel_rfl) (hsame A d)) (fun e w h => ⟨_, h.1⟩) fun z u' hR => ?_
  obtain ⟨e, hn2⟩ := hR
  injection e with e
  subst e
  refine ownU_quiet (i := 10) (rest := [11, 12, 13, 14, 15, 16, 17, 18, 19, 20, 21, 22, 23, 24, 25, 26, 27, 28, 29, 30, 31, 32, 33, 34, 35, 36, 37, 38, 39, 40]) (.bool true) rfl (by kernel_rfl) rfl (by decide) (fun _ => by kernel_rfl) ?_
  refine ownU_quiet (i := 11) (rest := [12, 13, 14, 15, 16, 17, 18, 19, 20, 21, 22, 23, 24, 25, 26, 27, 28, 29, 30, 31, 32, 33, 34, 35, 36, 37, 38, 39, 40]) (.bool true) rfl (by rfl) rfl (by decide) (fun _ => by kernel_rfl) ?_
  refine ownU_quiet (i := 12) (rest := [13, 14, 15, 16, 17, 18, 19, 20, 21, 22, 23, 24, 25, 26, 27, 28, 29, 30, 31, 32, 33, 34, 35, 36, 37, 38, 39, 40]) (ptr wb) rfl (by kernel_rfl) rfl (by decide) (fun _ => by kernel_rfl) ?_
  refine ownU_quiet (i := 13) (rest := [14, 15, 16, 17, 18, 19, 20, 21, 22, 23, 24, 25, 26, 27, 28, 29, 30, 31, 32, 33, 34, 35, 36, 37, 38, 39, 40]) (ptr wb) rfl (by kernel_rfl) rfl (by decide) (fun _ => by kernel_rfl) ?_
  refine ownU_quiet (i := 14) (rest := [15, 16, 17, 18, 19, 20, 21, 22, 23, 24, 25, 26, 27, 28, 29, 30, 31, 32, 33, 34, 35, 36, 37, 38, 39, 40]) (.pointer (some ⟨wb, 0, none⟩)) rfl (by kernel_rfl) rfl (by decide) (fun _ => by kernel_rfl) ?_
  refine ownU_load (i := 15) (rest := [16, 17, 18, 19, 20, 21, 22, 23, 24, 25, 26, 27, 28, 29, 30, 31, 32, 33, 34, 35, 36, 37, 38, 39, 40]) ⟨wb, 0, none⟩ (ptr sb) rfl (by kernel_rfl) (by decide) loads_sched rfl (by kernel_rfl) (hn2.cell hw0) ?_
  refine ownU_lit ((L12 ts [(0, .slice (some af) nF cF), (1, .slice A1 nz cz), (2, .bool run), (7, ptr wb), (8, ptr mb), (9, .int .i64 (n : Int)), (10, .int .i64 (n : Int)), (46, .bool true), (47, .bool true), (48, .int .i64 (n : Int)), (49, .int .i64 (n : Int)), (50, .bool true), (51, .bool true), (52, .bool true), (53, ptr wb), (54, v), (55, .bool true), (56, .bool true), (57, .bool true), (58, ptr wb), (59, ptr wb), (60, .pointer (some ⟨wb, 0, none⟩)), (61, ptr sb)])) [clDefer sb] (by kernel_rfl) (by kernel_rfl) ?_
  refine ownU_enterT (i := 16) (rest := [17, 18, 19, 20, 21, 22, 23, 24, 25, 26, 27, 28, 29, 30, 31, 32, 33, 34, 35, 36, 37, 38, 39, 40]) (f := 36) rfl (by kernel_rfl) (by decide) rfl Try.func36 (by kernel_rfl) rfl fun ts' hts => ?_
  have hR : C12C ts' af nF cF A1 nz cz run wb mb n n ∧ ts'.getD 57 undef = .bool true := by subst hts; exact ⟨⟨by kernel_rfl, by kernel_rfl, by kernel_rfl, by kernel_rfl, by kernel_rfl, by kernel_rfl, by kernel_rfl, by kernel_rfl⟩, by kernel_rfl⟩
  clear hts
  exact ownU_eq (by kernel_rfl) (hk ts' u' hR.1 hR.2 hn2)
theorem cl_g2 (h : C12C ts af nF cF A1 nz cz run wb mb n n) (hX : ts.getD 57 undef = .bool true) (hw0 : u.cell? ⟨wb, 0, none⟩ = some (ptr sb))
    (hk : ∀ ts, C12C ts af nF cF A1 nz cz run wb mb n n → ts.getD 65 undef = .bool true → OwnU Try.prog main Z Stop w₀ (runIn sb [((base 12).at ⟨ts, [clDefer sb]⟩ (.inRegion (opsOf (sel [1, 1, 1, 1, 1, 1, 1, 0] bodyC12)) (24 :: [25, 26, 27, 28, 29, 30, 31, 32, 33, 34, 35, 36, 37, 38, 39, 40]) :: [.code .ret]))]) u) : OwnU Try.prog main Z Stop w₀ (G ((base 12).at ((⟨ts, [clDefer sb]⟩ : Act).put ((((opsOf (sel [1, 1, 1, 1, 1, 1, 1, 0] bodyC12)))[16]?).bind (·.dst)) (.int .i64 0)) (.inRegion (opsOf (sel [1, 1, 1, 1, 1, 1, 1, 0] bodyC12)) [17, 18, 19, 20, 21, 22, 23, 24, 25, 26, 27, 28, 29, 30, 31, 32, 33, 34, 35, 36, 37, 38, 39, 40] :: [.code .ret])) []) u := by
  have e := lit_c12 ts h.size
  rw [h.t0, h.t1, h.t2, h.t7, h.t8, h.t9, h.t10, hX] at e
  rw [e]
  refine ownU_quiet (i := 17) (rest := [18, 19, 20, 21, 22, 23, 24, 25, 26, 27, 28, 29, 30, 31, 32, 33, 34, 35, 36, 37, 38, 39, 40]) (.bool true) rfl (by kernel_rfl) rfl (by decide) (fun _ => eql_v (p := 0) (q := 0) rfl (by kernel_rfl) (by kernel_rfl) rfl) ?_
  refine ownU_quiet (i := 18) (rest := [19, 20, 21, 22, 23, 24, 25, 26, 27, 28, 29, 30, 31, 32, 33, 34, 35, 36, 37, 38, 39, 40]) (.bool true) rfl (by kernel_rfl) rfl (by decide) (fun _ => by kernel_rfl) ?_
  refine ownU_quiet (i := 19) (rest := [20, 21, 22, 23, 24, 25, 26, 27, 28, 29, 30, 31, 32, 33, 34, 35, 36, 37, 38, 39, 40]) (.bool true) rfl (by rfl) rfl (by decide) (fun _ => by kernel_rfl) ?_
  refine ownU_quiet (i := 20) (rest := [21, 22, 23, 24, 25, 26, 27, 28, 29, 30, 31, 32, 33, 34, 35, 36, 37, 38, 39, 40]) (ptr wb) rfl (by kernel_rfl) rfl (by decide) (fun _ => by kernel_rfl) ?_
  refine ownU_quiet (i := 21) (rest := [22, 23, 24, 25, 26, 27, 28, 29, 30, 31, 32, 33, 34, 35, 36, 37, 38, 39, 40]) (ptr wb) rfl (by kernel_rfl) rfl (by decide) (fun _ => by kernel_rfl) ?_
  refine ownU_quiet (i := 22) (rest := [23, 24, 25, 26, 27, 28, 29, 30, 31, 32, 33, 34, 35, 36, 37, 38, 39, 40]) (.pointer (some ⟨wb, 0, none⟩)) rfl (by kernel_rfl) rfl (by decide) (fun _ => by kernel_rfl) ?_
  refine ownU_load (i := 23) (rest := [24, 25, 26, 27, 28, 29, 30, 31, 32, 33, 34, 35, 36, 37, 38, 39, 40]) ⟨wb, 0, none⟩ (ptr sb) rfl (by kernel_rfl) (by decide) loads_sched rfl (by kernel_rfl) hw0 ?_
  refine ownU_lit ((L12 ts [(0, .slice (some af) nF cF), (1, .slice A1 nz cz), (2, .bool run), (7, ptr wb), (8, ptr mb), (9, .int .i64 (n : Int)), (10, .int .i64 (n : Int)), (57, .bool true), (62, .int .i64 0), (63, .bool true), (64, .bool true), (65, .bool true), (66, ptr wb), (67, ptr wb), (68, .pointer (some ⟨wb, 0, none⟩)), (69, ptr sb)])) [clDefer sb] (by kernel_rfl) (by kernel_rfl) ?_
  refine ownU_enterT (i := 24) (rest := [25, 26, 27, 28, 29, 30, 31, 32, 33, 34, 35, 36, 37, 38, 39, 40]) (f := 42) rfl (by kernel_rfl) (by decide) rfl Try.func42 (by kernel_rfl) rfl fun ts' hts => ?_
  have hR : C12C ts' af nF cF A1 nz cz run wb mb n n ∧ ts'.getD 65 undef = .bool true := by subst hts; exact ⟨⟨by kernel_rfl, by kernel_rfl, by kernel_rfl, by kernel_rfl, by kernel_rfl, by kernel_rfl, by kernel_rfl, by kernel_rfl⟩, by kernel_rfl⟩
  clear hts
  exact ownU_eq (by kernel_rfl) (hk ts' hR.1 hR.2)
theorem cl_g3 (h : C12C ts af nF cF A1 nz cz run wb mb n n) (hX : ts.getD 65 undef = .bool true) (hw0 : u.cell? ⟨wb, 0, none⟩ = some (ptr sb)) {qb sc : Nat} {sv : Value} (hsc : SchAt u sb qb sc sv true)
    (hk : ∀ ts, C12C ts af nF cF A1 nz cz run wb mb n n → ts.getD 73 undef = .bool true → OwnU Try.prog main Z Stop w₀ (G ((base 12).at ((⟨ts, [clDefer sb]⟩ : Act).put ((((opsOf (sel [1, 1, 1, 1, 1, 1, 1, 0] bodyC12)))[32]?).bind (·.dst)) (.int .i64 0)) (.inRegion (opsOf (sel [1, 1, 1, 1, 1, 1, 1, 0] bodyC12)) [33, 34, 35, 36, 37, 38, 39, 40] :: [.code .ret])) []) u) : OwnU Try.prog main Z Stop w₀ (G ((base 12).at ((⟨ts, [clDefer sb]⟩ : Act).put ((((opsOf (sel [1, 1, 1, 1, 1, 1, 1, 0] bodyC12)))[24]?).bind (·.dst)) (.int .i64 0)) (.inRegion (opsOf (sel [1, 1, 1, 1, 1, 1, 1, 0] bodyC12)) [25, 26, 27, 28, 29, 30, 31, 32, 33, 34, 35, 36, 37, 38, 39, 40] :: [.code .ret])) []) u := by
  have e := lit_c12 ts h.size
  rw [h.t0, h.t1, h.t2, h.t7, h.t8, h.t9, h.t10, hX] at e
  rw [e]
  refine ownU_quiet (i := 25) (rest := [26, 27, 28, 29, 30, 31, 32, 33, 34, 35, 36, 37, 38, 39, 40]) (.bool true) rfl (by kernel_rfl) rfl (by decide) (fun _ => eql_v (p := 0) (q := 0) rfl (by kernel_rfl) (by kernel_rfl) rfl) ?_
  refine ownU_quiet (i := 26) (rest := [27, 28, 29, 30, 31, 32, 33, 34, 35, 36, 37, 38, 39, 40]) (.bool true) rfl (by kernel_rfl) rfl (by decide) (fun _ => by kernel_rfl) ?_
  refine ownU_quiet (i := 27) (rest := [28, 29, 30, 31, 32, 33, 34, 35, 36, 37, 38, 39, 40]) (.bool true) rfl (by rfl) rfl (by decide) (fun _ => by kernel_rfl) ?_
  refine ownU_quiet (i := 28) (rest := [29, 30, 31, 32, 33, 34, 35, 36, 37, 38, 39, 40]) (ptr wb) rfl (by kernel_rfl) rfl (by decide) (fun _ => by kernel_rfl) ?_
  refine ownU_quiet (i := 29) (rest := [30, 31, 32, 33, 34, 35, 36, 37, 38, 39, 40]) (ptr wb) rfl (by kernel_rfl) rfl (by decide) (fun _ => by kernel_rfl) ?_
  refine ownU_quiet (i := 30) (rest := [31, 32, 33, 34, 35, 36, 37, 38, 39, 40]) (.pointer (some ⟨wb, 0, none⟩)) rfl (by kernel_rfl) rfl (by decide) (fun _ => by kernel_rfl) ?_
  refine ownU_load (i := 31) (rest := [32, 33, 34, 35, 36, 37, 38, 39, 40]) ⟨wb, 0, none⟩ (ptr sb) rfl (by kernel_rfl) (by decide) loads_sched rfl (by kernel_rfl) hw0 ?_
  refine ownU_lit ((L12 ts [(0, .slice (some af) nF cF), (1, .slice A1 nz cz), (2, .bool run), (7, ptr wb), (8, ptr mb), (9, .int .i64 (n : Int)), (10, .int .i64 (n : Int)), (65, .bool true), (70, .int .i64 0), (71, .bool true), (72, .bool true), (73, .bool true), (74, ptr wb), (75, ptr wb), (76, .pointer (some ⟨wb, 0, none⟩)), (77, ptr sb)])) [clDefer sb] (by kernel_rfl) (by kernel_rfl) ?_
  refine ownU_enterT (i := 32) (rest := [33, 34, 35, 36, 37, 38, 39, 40]) (f := 37) rfl (by kernel_rfl) (by decide) rfl Try.func37 (by kernel_rfl) rfl fun ts' hts => ?_
  have hR : C12C ts' af nF cF A1 nz cz run wb mb n n ∧ ts'.getD 73 undef = .bool true := by subst hts; exact ⟨⟨by kernel_rfl, by kernel_rfl, by kernel_rfl, by kernel_rfl, by kernel_rfl, by kernel_rfl, by kernel_rfl, by kernel_rfl⟩, by kernel_rfl⟩
  clear hts
  refine ownU_eq (g := spawnIn sb (.func (.func 57) #[] #[]) [((base 12).at ⟨ts', [clDefer sb]⟩ (.inRegion (opsOf (sel [1, 1, 1, 1, 1, 1, 1, 0] bodyC12)) (32 :: [33, 34, 35, 36, 37, 38, 39, 40]) :: [.code .ret]))]) (by kernel_rfl) (spawn_shut hsc ?_)
  exact hk ts' hR.1 hR.2
theorem cl_g4 (h : C12C ts af nF cF A1 nz cz run wb mb n n) (hX : ts.getD 73 undef = .bool true) (D : BoxAt mb v u) (hsame : ∀ A d, Calls Try.prog 54 #[ptr wb, v] (tp u A d) fun e w' => e = .returned (.bool true) ∧ New u w')
    (hk : ∀ ts u', New u u' → ts.getD 6 undef = .bool true → OwnU Try.prog main Z Stop w₀ (closeIn .deferred sb [{ (base 12).at ⟨ts, []⟩ [.code .ret] with mode := .returning }]) u') : OwnU Try.prog main Z Stop w₀ (G ((base 12).at ((⟨ts, [clDefer sb]⟩ : Act).put ((((opsOf (sel [1, 1, 1, 1, 1, 1, 1, 0] bodyC12)))[32]?).bind (·.dst)) (.int .i64 0)) (.inRegion (opsOf (sel [1, 1, 1, 1, 1, 1, 1, 0] bodyC12)) [33, 34, 35, 36, 37, 38, 39, 40] :: [.code .ret])) []) u := by
  have e := lit_c12 ts h.size
  rw [h.t0, h.t1, h.t2, h.t7, h.t8, h.t9, h.t10, hX] at e
  rw [e]
  refine ownU_quiet (i := 33) (rest := [34, 35, 36, 37, 38, 39, 40]) (.bool true) rfl (by kernel_rfl) rfl (by decide) (fun _ => eql_v (p := 0) (q := 0) rfl (by kernel_rfl) (by kernel_rfl) rfl) ?_
  refine ownU_quiet (i := 34) (rest := [35, 36, 37, 38, 39, 40]) (.bool true) rfl (by kernel_rfl) rfl (by decide) (fun _ => by kernel_rfl) ?_
  refine ownU_quiet (i := 35) (rest := [36, 37, 38, 39, 40]) (.bool true) rfl (by rfl) rfl (by decide) (fun _ => by kernel_rfl) ?_
  refine ownU_quiet (i := 36) (rest := [37, 38, 39, 40]) (ptr wb) rfl (by kernel_rfl) rfl (by decide) (fun _ => by kernel_rfl) ?_
  refine ownU_loadRef (i := 37) (rest := [38, 39, 40]) (v := v) rfl (by kernel_rfl) (by decide) rfl (by kernel_rfl) D ?_
  refine ownU_callK (i := 38) (rest := [39, 40]) (L := lone18) (R := fun e w' => e = .returned (.bool true) ∧ New u w') okL18 (by decide) rfl rfl (by kernel_rfl) (by kernel_rfl) (by decide) (fun A d => calls_eq (by kernel_rfl) (hsame A d)) (fun e w h => ⟨_, h.1⟩) fun z u' hR => ?_
  obtain ⟨e, hn2⟩ := hR
  injection e with e
  subst e
  refine ownU_quiet (i := 39) (rest := [40]) (.bool true) rfl (by kernel_rfl) rfl (by decide) (fun _ => by kernel_rfl) ?_
  refine ownU_quiet (i := 40) (rest := []) (.bool true) rfl (by rfl) rfl (by decide) (fun _ => by kernel_rfl) ?_
  refine ownU_region_end ?_
  refine ownU_lit ((L12 ts [(0, .slice (some af) nF cF), (1, .slice A1 nz cz), (2, .bool run), (6, .bool true), (7, ptr wb), (8, ptr mb), (9, .int .i64 (n : Int)), (10, .int .i64 (n : Int)), (73, .bool true), (78, .int .i64 0), (79, .bool true), (80, .bool true), (81, .bool true), (82, ptr wb), (83, v), (84, .bool true), (85, .bool true)])) [clDefer sb] (by kernel_rfl) (by kernel_rfl) ?_
  refine ownU_ret ?_
  refine ownU_deferred (args := #[ptr sb]) (ca := #[]) (ds := []) (by simp) rfl Try.func36 (by kernel_rfl) rfl ?_
  exact ownU_eq (by kernel_rfl) (hk (L12 ts [(0, .slice (some af) nF cF), (1, .slice A1 nz cz), (2, .bool run), (6, .bool true), (7, ptr wb), (8, ptr mb), (9, .int .i64 (n : Int)), (10, .int .i64 (n : Int)), (73, .bool true), (78, .int .i64 0), (79, .bool true), (80, .bool true), (81, .bool true), (82, ptr wb), (83, v), (84, .bool true), (85, .bool true)]) u' hn2 (by kernel_rfl))
end
end Go.Proofs.Ytolnmdanlggmhaa

/- CoroCloses: for every row of functions, every row of bytes and either flag the law returns true (its run, on whatever schedule). -/
namespace Go.Proofs.Ytolnmdanlggmhaa
open Go.RowKit Go.Maps Go.Conc
open Go.ConcN (upd upd_ne upd_same)

set_option maxRecDepth 100000
set_option maxHeartbeats 2000000

section
variable {W : World} {wb mb nF cF nz cz : Nat} {fs : List (List RStep)} {af : Addr} {A1 : Option Addr} {run : Bool}
/-- From Close on. -/
theorem closes_rest {own : Nat → Nat} {S : Sch} {ks : List Kid} {FC : List Row} {n : Nat} {Inb : Nat → Option Seat} {w : World} {m : RS} {v : Value} {ts : Array Value} (C : CI ⟨W, [], fun _ => none⟩ 0 own S ks FC n Inb w) (J : MJ W own S ks FC wb fs af nF cF m (fun _ => False) w) (hI : RInv fs m) (hmc : m.cl = false) (hfr : S.fr + rMeas fs m ≤ 90000) (hr : RefAt own mb (.slice (some af) nF cF) v m w) (hts : C12B ts af nF cF A1 nz cz run wb mb) :
    Won Try.prog (LawPost W) FC n Inb 0 (G ((base 12).at ⟨ts, [clDefer S.sb]⟩ [.code (sel [1, 1, 1, 1, 1] bodyC12)]) []) w := by
  have hcl : S.closed = false := J.mt.cl.trans hmc
  have hlen := J.mt.len
  have h20 := hI.len
  have hroom := hI.room
  refine win_own C.fi.wf (cl_close hts ((J.sj hI).w0 C) fun ts1 hts1 => ownU_stop fun w1 hs hkp => ?_)
  obtain ⟨C1, s1⟩ := CI.rest' C hs hkp (New.refl _)
  clear hs hkp
  refine close_enter_won (by decide) C1 hcl fun g2 w2 hg2 C2 s2 => ?_
  have s12 := s1.trans s2 (OLe.refl _)
  have eS : ({ S with closed := true } : Sch).open' m.cl = S := by
    rw [← J.mt.cl]
    cases S; rfl
  have J2 : MJ W own (({ S with closed := true } : Sch).open' m.cl) ks FC wb fs af nF cF (endTo m 0) (fun _ => False) w2 := by
    rw [eS, endTo_zero]
    exact J.keep (OLe.refl _) s12 fun _ h => h
  have e0 : ((endCnt m 0 : Nat) : Int) = 0 := by simp [endCnt]
  refine close_laps (κ := .normal) (S := { S with closed := true }) (m := m) (by decide) S.cos.length 0 (by simp) h20 C2 rfl J2 hfr (show AtClose .normal g2 S.sb S.v (S.cos.length : Int) ((0 : Nat) : Int) ((endCnt m 0 : Nat) : Int) _ from by rw [e0]; exact hg2) fun own3 S3 ks3 Inb3 w3 g3 hg3 C3 hcl3 J3 hsb3 le3 s3 => ?_
  replace hsb3 : S3.sb = S.sb := hsb3
  rw [← hsb3] at hg3
  have hr3 : RefAt own3 mb (.slice (some af) nF cF) v m w3 := hr.same8 le3 (s12.s8.trans s3 (OLe.refl _)) C3.lt
  have hk3 := J3.over C3
  have K3 := J3.closed hcl3 hmc h20 (by omega)
  obtain ⟨hb3, hs3⟩ := C3.refG hr3
  have h10 := hr3.tag
  have ecnt : endCnt m m.cos.length = (rClose m).2 := by rw [rClose_eq hmc]
  refine win_own C3.fi.wf (clOut_normal hg3 (cl_closed (sb := S3.sb) hts1 hb3 hs3 (fun b hb => C3.ltG b (by omega)) (by omega) h20 hmc fun ts4 u4 v4 hts4 hb4 hs4 hv4 => ownU_stop fun w4 hs hkp => ?_))
  obtain ⟨own4, C4, le4, s4, r4⟩ := C3.refstep hs hkp h10 hv4 hb4 hs4
  have K4 := K3.sameB h10 le4 s4
  rw [ecnt] at hts4
  generalize (rClose m).2 = nn at *
  generalize (rClose m).1 = m' at *
  clear hs hkp s4 K3 hr3 hb3 hs3 le3 s3 J2 J3 hg3 hg2 C3
  -- alive, beside the crew
  refine win_unseat ?_
  refine alive_won C4.ground fun FC5 n5 w5 H5 hsub5 hsup5 ex5 hn5 => ?_
  refine won_kf fun hK5 => ?_
  obtain ⟨C5, s5⟩ := C4.unseat.over H5 hsub5 hsup5 ex5 hK5 hn5
  have K5 := K4.same6 (OLe.refl _) s5
  have r5 : RefAt own4 mb (.slice (some af) nF cF) v4 m' w5 := r4.same8 (OLe.refl _) s5.s8 C5.lt
  obtain ⟨hb5, hs5⟩ := C5.refG r5
  refine win_own C5.fi.wf (cl_g1 hts4 hb5 (K5.w0 C5) (K5.at C5 (New.refl _) hs5) fun ts6 u6 hts6 h57 hn6 => ownU_stop fun w6 hs hkp => ?_)
  obtain ⟨C6, s6⟩ := CI.rest' C5 hs hkp hn6
  clear hs hkp
  refine close_again_won (by decide) C6 hcl3 fun g7 w7 hg7 C7 s7 => ?_
  have K7 := (K5.same6 (OLe.refl _) s6).same6 (OLe.refl _) s7
  refine win_own C7.fi.wf (clOut_normal hg7 (cl_g2 hts6 h57 (K7.w0 C7) fun ts8 hts8 h65 => ownU_stop fun w8 hs hkp => ?_))
  obtain ⟨C8, s8⟩ := CI.rest' C7 hs hkp (New.refl _)
  clear hs hkp
  refine loop_end C8 atHead_in (.inl hcl3) fun w9 C9 s9 => ?_
  have K9 := (K7.same6 (OLe.refl _) s8).same6 (OLe.refl _) s9
  have r9 : RefAt own4 mb (.slice (some af) nF cF) v4 m' w9 := r5.same8 (OLe.refl _) (((s6.trans s7 (OLe.refl _)).trans s8 (OLe.refl _)).trans s9 (OLe.refl _)).s8 C9.lt
  obtain ⟨hb9, hs9⟩ := C9.refG r9
  have hsch := C9.siG.sch
  rw [hcl3] at hsch
  refine win_own C9.fi.wf (cl_g3 hts8 h65 (K9.w0 C9) hsch fun ts10 hts10 h73 => cl_g4 hts10 h73 hb9 (K9.at C9 (New.refl _) hs9) fun ts11 u11 hn11 h6 => ownU_stop fun w11 hs hkp => ?_)
  obtain ⟨C11, _⟩ := CI.rest' C9 hs hkp hn11
  clear hs hkp
  refine close_again_won (by decide) C11 hcl3 fun g12 w12 hg12 C12 _ => ?_
  refine win_own C12.fi.wf (clOut_deferred hg12 rfl (ownU_stop fun w13 hs hkp => ?_))
  obtain ⟨C13, _⟩ := CI.rest' C12 hs hkp (New.refl _)
  obtain ⟨_, hf13⟩ := C13.ends hk3 rfl
  refine won_end Try.func12 (t := 6) rfl (by kernel_rfl) (fun i hi => ?_) h6 (C13.base.below (Nat.le_refl _))
  have := congrFun hf13 i
  rw [upd_ne _ _ hi] at this
  exact this
end

theorem rFew_af {W : World} {AF : Option Addr} {fs : List (List RStep)} (hFA : FAt W AF fs) (h0 : 0 < fs.length) : ∃ af, AF = some af := by
  obtain ⟨l, hl⟩ : ∃ l, fs[0]? = some l := ⟨_, List.getElem?_eq_getElem h0⟩
  obtain ⟨ad, _, _, e, _⟩ := hFA.fn hl
  exact ⟨_, e⟩
/-- THE LAW. -/
theorem law_closes (AF : Option Addr) (nF cF : Nat) (fs : List (List RStep)) (A1 : Option Addr) (nz cz : Nat) (zs : List Int) (run : Bool) (W : World) (hFA : FAt W AF fs) (hnF : fs.length = nF) (hbd : nF ≤ 140737488355328) (hsz : ∀ l ∈ fs, ∀ x ∈ l, x.text.size ≤ 140737488355328) (hW : IsRow .u8 W A1 nz cz zs) :
    ∃ M last o w' t', runNT Try.prog (M + 1) (solo (G (Frame.enter Try.prog 12 #[.slice AF nF cF, .slice A1 nz cz, .bool run] .normal) []) W) #[] = (.ended o w', t') ∧
    runN Try.prog M (solo (G (Frame.enter Try.prog 12 #[.slice AF nF cF, .slice A1 nz cz, .bool run] .normal) []) W) = .next last ∧ step Try.prog last = .ended o w' ∧ Conc.Good Try.prog (LawPost W) last o w' t' := by
  have H := ground_zero W
  have hfew : ∀ A d, Calls Try.prog 51 #[.slice AF nF cF] (tp (guardW [] W) A d) fun e w' => e = .returned (.bool (rFew fs)) ∧ ∃ A' d', w' = tp (guardW [] W) A' d' := fun A d =>
    (reffew fs AF nF cF hnF (tp (guardW [] W) A d) ((fns_ground hFA).tp A d) hbd).mono fun e w' ⟨h1, h2⟩ => ⟨h1, A, d, h2⟩
  cases hfw : rFew fs with
  | false =>
    rw [hfw] at hfew
    have e : G (Frame.enter Try.prog 12 #[.slice AF nF cF, .slice A1 nz cz, .bool run] .normal) [] = G ((base 12).at ⟨List.toArray (.slice AF nF cF :: .slice A1 nz cz :: .bool run :: undef :: undef :: undef :: undef :: undef :: undef :: undef :: undef :: undef :: undef :: undef :: undef :: undef :: undef :: undef :: undef :: undef :: undef :: undef :: undef :: undef :: undef :: undef :: undef :: undef :: undef :: undef :: undef :: undef :: undef :: undef :: undef :: undef :: undef :: undef :: undef :: undef :: undef :: undef :: undef :: undef :: undef :: undef :: undef :: undef :: undef :: undef :: undef :: undef :: undef :: undef :: undef :: undef :: undef :: undef :: undef :: undef :: undef :: undef :: undef :: undef :: undef :: undef :: undef :: undef :: undef :: undef :: undef :: undef :: undef :: undef :: undef :: undef :: undef :: undef :: undef :: undef :: undef :: undef :: undef :: undef :: undef :: undef :: []), []⟩ [.code bodyC12]) [] := by kernel_rfl
    rw [e]
    clear e
    refine wins_start ?_
    refine win_own H.wf (cl_nofew hfew fun ts hts => ownU_stop fun w1 hs hkp => ?_)
    obtain ⟨H1, ex1⟩ := ground_own H hs hkp (New.refl _)
    clear hs hkp
    refine alive_won H1 fun FC4 n4 w4 H4 hsub4 hsup4 ex4 hn4 => ?_
    refine win_own H4.wf (cl_nofew2 hts fun ts k h6 => ownU_stop fun w5 hs hkp => ?_)
    obtain ⟨H5, ex5⟩ := ground_own H4 hs hkp (New.refl _)
    refine won_end Try.func12 (t := 6) rfl (by kernel_rfl) (fun i hi => rfl) h6 ?_
    have hsz1 := ex1.size
    have hsz4 := ex4.size
    refine Ext.below (B := W.heap.size) (((ext_none ex1 fun b _ h => h).then (O := fun b => W.heap.size ≤ b) ex4 (fun b hb h => ?_) (fun r hr => hr) (fun r hr => .inl hr)).then (O := fun b => W.heap.size ≤ b) ex5 (fun b hb h => ?_) (fun r hr => hsub4 r hr) (fun r hr => ?_)) (Nat.le_refl _)
    · have h' : w1.heap.size ≤ b := h; omega
    · have h' : w4.heap.size ≤ b := h; omega
    · rcases hsup4 r hr with h | h
      · exact .inl h
      · exact .inr (by omega)
  | true =>
    rw [hfw] at hfew
    obtain ⟨h0, h8, h60⟩ := rFew_use hfw
    obtain ⟨af, rfl⟩ := rFew_af hFA h0
    have e : G (Frame.enter Try.prog 12 #[.slice (some af) nF cF, .slice A1 nz cz, .bool run] .normal) [] = c12In af nF cF A1 nz cz run := by kernel_rfl
    rw [e]
    clear e
    refine wins_start ?_
    -- the argument
    obtain ⟨zs', hzl, hA, hz, hnz⟩ : ∃ zs' : List Int, zs'.length = nz ∧ ArgAt W A1 zs' ∧ (∀ z ∈ zs', 0 ≤ z ∧ z < 256) ∧ nz ≤ 9223372036854775807 := by
      rcases hW with ⟨_, rfl, _, _⟩ | ⟨x, rfl, h1, h2, h3, h4, h5⟩
      · exact ⟨[], rfl, fun i z h => by simp at h, (fun z h => by cases h), by omega⟩
      · unfold maxLen at h2
        refine ⟨zs.take nz, by rw [List.length_take]; omega, fun i z hi => ⟨x, rfl, ?_⟩, fun z hz => ?_, by omega⟩
        · rw [List.getElem?_take] at hi
          split at hi
          · have hil := (List.getElem?_eq_some_iff.1 hi).1
            rw [h4 i hil, List.getD_eq_getElem?_getD, hi]
            rfl
          · cases hi
        · have := h5 z (List.mem_of_mem_take hz)
          simp [Lit.wf, IntKind.min, IntKind.max, IntKind.signed, IntKind.bits] at this
          omega
    clear hW
    refine win_own H.wf (cl_few hfew fun ts hts => ownU_stop fun w1 hs hkp => ?_)
    obtain ⟨H1, ex1⟩ := ground_own H hs hkp (New.refl _)
    clear hs hkp
    refine start_won (zs := zs') ex1 H1 hnF h60 (by omega) hA hz hzl hnz fun own S ks FC w2 m v wb C2 hfr hcl hmc J hI hM hS => ?_
    have K2 := J.sj hI
    refine win_own C2.fi.wf (cl_b hts (C2.nine hS) (fun b hb => C2.ltG b (by omega)) (K2.w0 C2) fun ts3 u3 hts3 hb3 hs3 hn3 => ownU_stop fun w3 hs hkp => ?_)
    obtain ⟨own3, C3, le3, s3, h10, e3⟩ := C2.newbox (t := 10) hs hkp (by omega) hn3 (Nat.le_refl _) (by obtain ⟨_, _, _, _, _, _, hb⟩ := hb3; exact obj_lt hb)
    clear hs hkp
    have r3 : RefAt own3 (guardW FC w2).heap.size (.slice (some af) nF cF) v m w3 := ⟨hb3.keep e3, h10, hS.nine le3 (fun b hb => s3 b (by omega)) C3.lt⟩
    have J3 := J.keep le3 s3 (FC' := FC) fun _ h => h
    generalize (guardW FC w2).heap.size = mb at *
    clear hb3 hs3 hn3 e3 s3 K2 J C2 hS
    have K3 := J3.sj hI
    cases run with
    | false =>
      refine win_own C3.fi.wf (cl_norun hts3 fun ts4 hts4 => ownU_stop fun w4 hs hkp => ?_)
      obtain ⟨C4, s4⟩ := CI.rest' C3 hs hkp (New.refl _)
      exact closes_rest C4 (J3.keep (OLe.refl _) s4 fun _ h => h) hI hmc (by omega) (r3.same8 (OLe.refl _) s4.s8 C4.lt) hts4
    | true =>
      refine win_own C3.fi.wf (cl_run hts3 (K3.w0 C3) fun ts4 hts4 => ownU_stop fun w4 hs hkp => ?_)
      obtain ⟨C4, s4⟩ := CI.rest' C3 hs hkp (New.refl _)
      clear hs hkp
      refine run_laps (E := ⟨W, [], fun _ => none⟩) rfl hFA hnF h60 hsz (by omega) 1240 C4 hI hM (by omega) (J3.keep (OLe.refl _) s4 fun _ h => h) (Int.le_refl 0) (by omega) atHead_in fun own5 S5 ks5 FC5 n5 Inb5 w5 C5 J5 hfr5 hsb5 le5 s5 => ?_
      have r5 := (r3.same8 (OLe.refl _) s4.s8 C4.lt).same8 le5 s5 C5.lt
      obtain ⟨hb5, hs5⟩ := C5.refG r5
      have h105 := r5.tag
      have hri := rRun_inv h60 h0 1240 hI
      rw [← hsb5]
      refine win_own C5.fi.wf (cl_ran hts4 hb5 hs5 (fun b hb => C5.ltG b (by omega)) (by omega) (C5.fns rfl hFA) hnF h60 hsz h0 h8 hI hM fun ts6 u6 v6 hts6 hb6 hs6 hv6 => ownU_stop fun w6 hs hkp => ?_)
      obtain ⟨own6, C6, le6, s6, r6⟩ := C5.refstep hs hkp h105 hv6 hb6 hs6
      exact closes_rest C6 (J5.keepB h105 le6 s6 fun _ h => h) hri.1 (hri.2.1.trans hmc) hfr5 r6 hts6
end Go.Proofs.Ytolnmdanlggmhaa

/- An argument that is a slice of slices of steps, opened. -/
namespace Go.Proofs.Ytolnmdanlggmhaa
open Go.RowKit Go.ChangeShapes Go.WideShapes Go.Deep

theorem flat3 {α : Type} {g : α → List Value} (hg : ∀ a, (g a).length = 3) : ∀ {l : List α} {j : Nat} {u : Value}, (l.flatMap g)[j]? = some u → ∃ i s r, l[i]? = some s ∧ j = i * 3 + r ∧ r < 3 ∧ (g s)[r]? = some u
  | [], j, u, h => by simp at h
  | a :: l, j, u, h => by
    rw [List.flatMap_cons] at h
    rcases Nat.lt_or_ge j 3 with hj | hj
    · rw [List.getElem?_append_left (by rw [hg]; exact hj)] at h
      exact ⟨0, a, j, rfl, by omega, hj, h⟩
    · rw [List.getElem?_append_right (by rw [hg]; exact hj), hg] at h
      obtain ⟨i, s, r, h1, h2, h3, h4⟩ := flat3 hg h
      exact ⟨i + 1, s, r, by simpa using h1, by omega, h3, h4⟩

section
variable {H : Type} {enc : TypeId × Value → H} {P : Program} {w : World} {base : Nat} {held : Bool}
theorem weightsAll_mem {e : TypeId} {d : DataW H} {n : Nat} (hn : n ∈ d.weights P e) : ∀ {ds : List (DataW H)}, d ∈ ds → n ∈ DataW.weightsAll P e ds
  | [], h => by cases h
  | d' :: ds, h => by
    simp only [DataW.weightsAll, List.mem_append]
    rcases List.mem_cons.1 h with h | h
    · subst h; exact .inl hn
    · exact .inr (weightsAll_mem hn h)
theorem open_steps {t e i64 st : TypeId} {f0 f1 f2 : Field} {fuel : Nat} {v : Value} {x : DataW H × List MemPlace} (ht : P.underlying t = some (.slice e)) (he : P.underlying e = some (.struct #[f0, f1, f2]))
    (ce : P.cellsOf e = 3) (o0 : f0.offset = 0) (o1 : f1.offset = 1) (o2 : f2.offset = 2) (c0 : P.cellsOf f0.type = 1) (c2 : P.cellsOf f2.type = 1) (t0 : f0.type = i64) (t1 : f1.type = i64) (t2 : f2.type = st) (hi : P.underlying i64 = some (.int .i64)) (hs : P.underlying st = some .string)
    (h : DataW.trod enc P w base (fun _ => true) held fuel t [v] = some x) :
    ∃ (A : Option Addr) (n c : Nat) (l : List RStep), v = .slice A n c ∧ l.length = n ∧ Rd w w.heap.size A (n * 3) (stepsL l) ∧ ∀ s ∈ l, s.text.size ∈ x.1.weights P t := by
  rcases open_slice ht h with ⟨hcs, _⟩ | ⟨a, len, cap, m, n, D, Pl, hcs, hb, hl, hm, hmm, rfl, hx⟩
  · simp at hcs
    exact ⟨none, 0, 0, [], hcs, rfl, Rd.nil _ _ _, fun s h => by cases h⟩
  · simp at hcs
    have hlm : len ≤ m := by rw [hmm]; simp; exact hl
    rw [t0] at c0
    rw [t2] at c2
    have each : ∀ i, i < len → ∃ q : RStep, w.cell? (a.add (i * 3)) = some (.int .i64 q.op) ∧ w.cell? (a.add (i * 3 + 1)) = some (.int .i64 q.n) ∧ w.cell? (a.add (i * 3 + 2)) = some (.string q.text) ∧ q.text.size ∈ (D i).weights P e := by
      intro i hi'
      obtain ⟨cs', h1, h2⟩ := hx i (by omega)
      rw [ce] at h1
      obtain ⟨_, hlen, hcell⟩ := World.cells?_some h1
      obtain ⟨xs, k, hk, hxy, _, hxl, hf⟩ := DataW.trod_struct he h2
      match xs, hxl, cs', hlen with
      | [y0, y1, y2], _, [v0, v1, v2], _ =>
        have g0 := hf 0 f0 rfl
        have g1 := hf 1 f1 rfl
        have g2 := hf 2 f2 rfl
        simp [o0, o1, o2, c0, c2, t0, t1, t2] at g0 g1 g2
        have e0 := hcell 0 (by omega)
        have e1 := hcell 1 (by omega)
        have e2 := hcell 2 (by omega)
        rw [add_add] at e0 e1 e2
        obtain ⟨x0, q0, r0, _⟩ := DataW.trod_int hi g0
        obtain ⟨x1, q1, r1, _⟩ := DataW.trod_int hi g1
        obtain ⟨x2, q2, r2, _⟩ := DataW.trod_string hs g2
        simp at q0 q1 q2
        subst q0 q1 q2 r0 r1 r2
        simp only [Prod.mk.injEq] at hxy
        refine ⟨⟨x0, x1, x2⟩, by simpa using e0, by simpa using e1, by simpa using e2, ?_⟩
        rw [hxy.1]
        have hwt : DataW.weights P e (DataW.agg (List.map (fun y : DataW H × List MemPlace => y.1) [(.lit (.int .i64 x0), []), (.lit (.int .i64 x1), []), (.lit (.string x2.data.toList), [])])) = [x2.data.toList.length] := by
          simp only [DataW.weights, he]
          rfl
        show x2.size ∈ DataW.weights P e _
        rw [hwt]
        exact List.mem_singleton.2 rfl
    haveI : Inhabited RStep := ⟨⟨0, 0, ByteArray.empty⟩⟩
    obtain ⟨f, hf⟩ := choose_lt each
    refine ⟨some a, len, cap, (List.range len).map f, hcs, by simp, ⟨?_, fun j u hu => ?_⟩, fun s hs' => ?_⟩
    · rw [stepsL_len]
      simp
    · obtain ⟨i, s, r, h1, rfl, h3, h4⟩ := flat3 (fun s => rfl) hu
      rw [List.getElem?_map, Option.map_eq_some_iff] at h1
      obtain ⟨r', hr', rfl⟩ := h1
      have hj : i < len ∧ r' = i := by
        rw [List.getElem?_eq_some_iff] at hr'
        obtain ⟨h1, h2⟩ := hr'
        simp at h1 h2
        exact ⟨h1, h2.symm⟩
      obtain ⟨hj, rfl⟩ := hj
      obtain ⟨q0, q1, q2, _⟩ := hf r' hj
      have hblk : a.block < w.heap.size := by
        have := World.block_lt_of_cell? _ _ q0
        rwa [add_block] at this
      refine ⟨a, rfl, hblk, ?_⟩
      match r, h3 with
      | 0, _ => simp [stL] at h4; rw [← h4]; exact q0
      | 1, _ => simp [stL] at h4; rw [← h4]; exact q1
      | 2, _ => simp [stL] at h4; rw [← h4]; exact q2
    · obtain ⟨i, hi', rfl⟩ := List.mem_map.1 hs'
      have hi' : i < len := by simpa using hi'
      simp only [DataW.weights, ht, List.mem_cons, List.mem_append]
      exact .inr (.inl (weightsAll_mem (hf i hi').2.2.2 (List.mem_map.2 ⟨i, by simpa using hi', rfl⟩)))
theorem open_fns {tt t e i64 st : TypeId} {f0 f1 f2 : Field} {fuel : Nat} {v : Value} {x : DataW H × List MemPlace} (htt : P.underlying tt = some (.slice t)) (ct : P.cellsOf t = 1) (ht : P.underlying t = some (.slice e)) (he : P.underlying e = some (.struct #[f0, f1, f2]))
    (ce : P.cellsOf e = 3) (o0 : f0.offset = 0) (o1 : f1.offset = 1) (o2 : f2.offset = 2) (c0 : P.cellsOf f0.type = 1) (c2 : P.cellsOf f2.type = 1) (t0 : f0.type = i64) (t1 : f1.type = i64) (t2 : f2.type = st) (hi : P.underlying i64 = some (.int .i64)) (hs : P.underlying st = some .string)
    (h : DataW.trod enc P w base (fun _ => true) held fuel tt [v] = some x) :
    ∃ (A : Option Addr) (n c : Nat) (fs : List (List RStep)), v = .slice A n c ∧ fs.length = n ∧ FAt w A fs ∧ (∀ l ∈ fs, ∀ s ∈ l, s.text.size ∈ x.1.weights P tt) ∧ (n = 0 ∨ ∃ k, n * P.bytesOf t ≤ k ∧ k ∈ x.1.weights P tt) := by
  rcases open_slice1 htt ct h with ⟨hcs, _⟩ | ⟨a, len, cap, m, n, V, D, Pl, hcs, hb, hl, hm, hmm, rfl, hx⟩
  · simp at hcs
    exact ⟨none, 0, 0, [], hcs, rfl, ⟨[], Rd.nil _ _ _, fun f l h => by simp at h⟩, fun s h => (by cases h), .inl rfl⟩
  · simp at hcs
    have hlm : len ≤ m := by rw [hmm]; simp; exact hl
    have each : ∀ i, i < len → ∃ q : List RStep, ∃ A c, w.cell? (a.add i) = some (.slice A q.length c) ∧ Rd w w.heap.size A (q.length * 3) (stepsL q) ∧ ∀ s ∈ q, s.text.size ∈ (D i).weights P t := by
      intro i hi'
      obtain ⟨h1, h2⟩ := hx i (by omega)
      obtain ⟨A, k, c, l, e1, rfl, e3, e4⟩ := open_steps ht he ce o0 o1 o2 c0 c2 t0 t1 t2 hi hs h2
      exact ⟨l, A, c, by rw [h1, e1], e3, e4⟩
    obtain ⟨f, hf⟩ := choose_lt each
    obtain ⟨B, hB⟩ := choose_lt hf
    obtain ⟨C, hC⟩ := choose_lt hB
    refine ⟨some a, len, cap, (List.range len).map f, hcs, by simp, ⟨(List.range len).map fun i => .slice (B i) (f i).length (C i), ⟨by simp, fun j u hu => ?_⟩, fun i l hl' => ?_⟩, fun l hl' s hs' => ?_, .inr ⟨_, ?_, by simp only [DataW.weights, htt]; exact List.mem_cons_self⟩⟩
    · rw [List.getElem?_map, Option.map_eq_some_iff] at hu
      obtain ⟨r', hr', rfl⟩ := hu
      have hj : j < len ∧ r' = j := by
        rw [List.getElem?_eq_some_iff] at hr'
        obtain ⟨h1, h2⟩ := hr'
        simp at h1 h2
        exact ⟨h1, h2.symm⟩
      obtain ⟨hj, rfl⟩ := hj
      have hc := (hC r' hj).1
      exact ⟨a, rfl, by have := World.block_lt_of_cell? _ _ hc; rwa [add_block] at this, hc⟩
    · rw [List.getElem?_map, Option.map_eq_some_iff] at hl'
      obtain ⟨r', hr', rfl⟩ := hl'
      have hj : i < len ∧ r' = i := by
        rw [List.getElem?_eq_some_iff] at hr'
        obtain ⟨h1, h2⟩ := hr'
        simp at h1 h2
        exact ⟨h1, h2.symm⟩
      obtain ⟨hj, rfl⟩ := hj
      exact ⟨B r', C r', by simp [hj], (hC r' hj).2.1⟩
    · obtain ⟨i, hi', rfl⟩ := List.mem_map.1 hl'
      have hi' : i < len := by simpa using hi'
      simp only [DataW.weights, htt, List.mem_cons, List.mem_append]
      exact .inr (.inl (weightsAll_mem ((hC i hi').2.2 s hs') (List.mem_map.2 ⟨i, by simpa using hi', rfl⟩)))
    · simp only [List.length_map, List.length_range]
      exact Nat.mul_le_mul_right _ (by omega)
end
end Go.Proofs.Ytolnmdanlggmhaa
