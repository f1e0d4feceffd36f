/- start, in company: its pieces. (Printed by gen_st.py.) -/
import Derived.Test.YtolnmdanlggmhaaKrd
import Derived.Test.YtolnmdanlggmhaaKre
namespace Go.Proofs.Ytolnmdanlggmhaa
open Go.RowKit Go.Maps Go.Conc
open Go.ConcN (upd upd_ne upd_same)

set_option maxRecDepth 100000
set_option maxHeartbeats 2000000

noncomputable abbrev bodySt : Code := Try.f52.body.getD .skip
structure St0 (ts : Array Value) (AF : Option Addr) (nF cF : Nat) (A1 : Option Addr) (nz cz rb : Nat) : Prop where
  size : ts.size = 47
  t0 : ts.getD 0 undef = .slice AF nF cF
  t1 : ts.getD 1 undef = .slice A1 nz cz
  t5 : ts.getD 5 undef = ptr rb
/-- start's slots at the head of its loop. -/
structure StTs (ts : Array Value) (AF : Option Addr) (nF cF : Nat) (A1 : Option Addr) (nz cz rb wb mb idx : Nat) : Prop where
  size : ts.size = 47
  t0 : ts.getD 0 undef = .slice AF nF cF
  t5 : ts.getD 5 undef = ptr rb
  t6 : ts.getD 6 undef = ptr wb
  t7 : ts.getD 7 undef = ptr mb
  t17 : ts.getD 17 undef = .slice A1 nz cz
  t18 : ts.getD 18 undef = .int .i64 (nz : Int)
  t19 : ts.getD 19 undef = .int .i64 (idx : Int)
theorem lit_st (ts : Array Value) (h : ts.size = 47) : ts = List.toArray (ts.getD 0 undef :: ts.getD 1 undef :: ts.getD 2 undef :: ts.getD 3 undef :: ts.getD 4 undef :: ts.getD 5 undef :: ts.getD 6 undef :: ts.getD 7 undef :: ts.getD 8 undef :: ts.getD 9 undef :: ts.getD 10 undef :: ts.getD 11 undef :: ts.getD 12 undef :: ts.getD 13 undef :: ts.getD 14 undef :: ts.getD 15 undef :: ts.getD 16 undef :: ts.getD 17 undef :: ts.getD 18 undef :: ts.getD 19 undef :: ts.getD 20 undef :: ts.getD 21 undef :: ts.getD 22 undef :: ts.getD 23 undef :: ts.getD 24 undef :: ts.getD 25 undef :: ts.getD 26 undef :: ts.getD 27 undef :: ts.getD 28 undef :: ts.getD 29 undef :: ts.getD 30 undef :: ts.getD 31 undef :: ts.getD 32 undef :: ts.getD 33 undef :: ts.getD 34 undef :: ts.getD 35 undef :: ts.getD 36 undef :: ts.getD 37 undef :: ts.getD 38 undef :: ts.getD 39 undef :: ts.getD 40 undef :: ts.getD 41 undef :: ts.getD 42 undef :: ts.getD 43 undef :: ts.getD 44 undef :: ts.getD 45 undef :: ts.getD 46 undef :: []) := (lit_any ts 47 h).trans (by kernel_rfl)
def litSt (ts : Array Value) (AF : Option Addr) (nF cF : Nat) (A1 : Option Addr) (nz cz rb wb mb idx : Nat) : Array Value := List.toArray (.slice AF nF cF :: ts.getD 1 undef :: ts.getD 2 undef :: ts.getD 3 undef :: ts.getD 4 undef :: ptr rb :: ptr wb :: ptr mb :: ts.getD 8 undef :: ts.getD 9 undef :: ts.getD 10 undef :: ts.getD 11 undef :: ts.getD 12 undef :: ts.getD 13 undef :: ts.getD 14 undef :: ts.getD 15 undef :: ts.getD 16 undef :: .slice A1 nz cz :: .int .i64 (nz : Int) :: .int .i64 (idx : Int) :: ts.getD 20 undef :: ts.getD 21 undef :: ts.getD 22 undef :: ts.getD 23 undef :: ts.getD 24 undef :: ts.getD 25 undef :: ts.getD 26 undef :: ts.getD 27 undef :: ts.getD 28 undef :: ts.getD 29 undef :: ts.getD 30 undef :: ts.getD 31 undef :: ts.getD 32 undef :: ts.getD 33 undef :: ts.getD 34 undef :: ts.getD 35 undef :: ts.getD 36 undef :: ts.getD 37 undef :: ts.getD 38 undef :: ts.getD 39 undef :: ts.getD 40 undef :: ts.getD 41 undef :: ts.getD 42 undef :: ts.getD 43 undef :: ts.getD 44 undef :: ts.getD 45 undef :: ts.getD 46 undef :: [])
theorem StTs.lit {ts : Array Value} {nF cF nz cz rb wb mb idx : Nat} {AF A1 : Option Addr} (h : StTs ts AF nF cF A1 nz cz rb wb mb idx) : ts = litSt ts AF nF cF A1 nz cz rb wb mb idx := by
  have e := lit_st ts h.size
  rw [h.t0, h.t5, h.t6, h.t7, h.t17, h.t18, h.t19] at e
  exact e
theorem St0.lit {ts : Array Value} {nF cF nz cz rb : Nat} {AF A1 : Option Addr} (h : St0 ts AF nF cF A1 nz cz rb) : ts = List.toArray (.slice AF nF cF :: .slice A1 nz cz :: ts.getD 2 undef :: ts.getD 3 undef :: ts.getD 4 undef :: ptr rb :: ts.getD 6 undef :: ts.getD 7 undef :: ts.getD 8 undef :: ts.getD 9 undef :: ts.getD 10 undef :: ts.getD 11 undef :: ts.getD 12 undef :: ts.getD 13 undef :: ts.getD 14 undef :: ts.getD 15 undef :: ts.getD 16 undef :: ts.getD 17 undef :: ts.getD 18 undef :: ts.getD 19 undef :: ts.getD 20 undef :: ts.getD 21 undef :: ts.getD 22 undef :: ts.getD 23 undef :: ts.getD 24 undef :: ts.getD 25 undef :: ts.getD 26 undef :: ts.getD 27 undef :: ts.getD 28 undef :: ts.getD 29 undef :: ts.getD 30 undef :: ts.getD 31 undef :: ts.getD 32 undef :: ts.getD 33 undef :: ts.getD 34 undef :: ts.getD 35 undef :: ts.getD 36 undef :: ts.getD 37 undef :: ts.getD 38 undef :: ts.getD 39 undef :: ts.getD 40 undef :: ts.getD 41 undef :: ts.getD 42 undef :: ts.getD 43 undef :: ts.getD 44 undef :: ts.getD 45 undef :: ts.getD 46 undef :: []) := by
  have e := lit_st ts h.size
  rw [h.t0, h.t1, h.t5] at e
  exact e
theorem StTs.put {ts : Array Value} {nF cF nz cz rb wb mb idx : Nat} {AF A1 : Option Addr} (h : StTs ts AF nF cF A1 nz cz rb wb mb idx) {d : Nat} (hd : d ≠ 0 ∧ d ≠ 5 ∧ d ≠ 6 ∧ d ≠ 7 ∧ d ≠ 17 ∧ d ≠ 18 ∧ d ≠ 19) (v : Value) : StTs (ts.setIfInBounds d v) AF nF cF A1 nz cz rb wb mb idx := by
  obtain ⟨h0, h1, h2, h3, h4, h5, h6⟩ := hd
  have key : ∀ k x, d ≠ k → ts.getD k undef = x → (ts.setIfInBounds d v).getD k undef = x := fun k x hk hx => by
    rw [← hx]
    simp [hk]
  exact ⟨by rw [Array.size_setIfInBounds]; exact h.size, key _ _ h0 h.t0, key _ _ h1 h.t5, key _ _ h2 h.t6, key _ _ h3 h.t7, key _ _ h4 h.t17, key _ _ h5 h.t18, key _ _ h6 h.t19⟩
noncomputable def stIn (AF : Option Addr) (nF cF : Nat) (A1 : Option Addr) (nz cz : Nat) (cs : List Frame) : Goroutine := G ((base 52).at ⟨List.toArray (.slice AF nF cF :: .slice A1 nz cz :: undef :: undef :: undef :: undef :: undef :: undef :: undef :: undef :: undef :: undef :: undef :: undef :: undef :: undef :: undef :: undef :: undef :: undef :: undef :: undef :: undef :: undef :: undef :: undef :: undef :: undef :: undef :: undef :: undef :: undef :: undef :: undef :: undef :: undef :: undef :: undef :: undef :: undef :: undef :: undef :: undef :: undef :: undef :: undef :: undef :: []), []⟩ [.code bodySt]) cs
noncomputable def stFr0 (ts : Array Value) : Frame := (base 52).at ⟨ts, []⟩ [.inRegion (opsOf (sel [1, 0] bodySt)) [0, 1, 2, 3, 4], .code (sel [1, 1] bodySt)]
noncomputable def stFr1 (ts : Array Value) : Frame := (base 52).at ⟨ts, []⟩ (.inRegion (opsOf (sel [1, 1, 1, 0, 1, 4, 4, 1, 1, 0, 4, 1, 1, 2, 1, 0] bodySt)) [7] :: .code (sel [1, 1, 1, 0, 1, 4, 4, 1, 1, 0, 4, 1, 1, 2, 1, 1] bodySt) :: [.inBlock 1, .code (sel [1, 1, 1, 0, 1, 4, 4, 1, 1, 1] bodySt), .inLoop (sel [1, 1, 1, 0, 1, 4, 4] bodySt), .inBlock 0, .code (sel [1, 1, 1, 1] bodySt)])
noncomputable def stHead (ts : Array Value) (cs : List Frame) : Goroutine := G ((base 52).at ⟨ts, []⟩ (.code (sel [1, 1, 1, 0, 1, 4, 4] bodySt) :: [.inLoop (sel [1, 1, 1, 0, 1, 4, 4] bodySt), .inBlock 0, .code (sel [1, 1, 1, 1] bodySt)])) cs
theorem st_new {main : Bool} {Z : Addr → Prop} {Stop : Goroutine → World → Prop} {w₀ u : World} {nF cF nz cz : Nat} {AF A1 : Option Addr} {cs : List Frame} (hk : ∀ ts, St0 ts AF nF cF A1 nz cz u.heap.size → OwnU Try.prog main Z Stop w₀ (newIn (stFr0 ts :: cs)) (u.alloc (.cells #[.slice none 0 0, .slice none 0 0, .slice none 0 0, .slice none 0 0, .bool false] 68))) : OwnU Try.prog main Z Stop w₀ (stIn AF nF cF A1 nz cz cs) u := by
  unfold stIn
  refine ownU_seq (x := sel [0] bodySt) (y := sel [1] bodySt) ?_
  refine ownU_codeM okL18 (by kernel_rfl) (by decide) ⟨_, Try.func52⟩ fun A d => ?_
  conv => arg 2; whnf
  have hk2 := fun ts h => (ownU_tp (u := u.alloc (.cells #[.slice none 0 0, .slice none 0 0, .slice none 0 0, .slice none 0 0, .bool false] 68)) (A := A) (d := d)).2 (hk ts h)
  replace hk2 := show ∀ ts, St0 ts AF nF cF A1 nz cz (tp u A d).heap.size → OwnU Try.prog main Z Stop w₀ (newIn (stFr0 ts :: cs)) ((tp u A d).alloc (.cells #[.slice none 0 0, .slice none 0 0, .slice none 0 0, .slice none 0 0, .bool false] 68)) from hk2
  clear hk
  generalize tp u A d = u1 at *
  go_wp2_with fail
  refine atEndU ?_
  refine ownU_seq (x := sel [1, 0] bodySt) (y := sel [1, 1] bodySt) ?_
  refine ownU_region (id := 1) (ops := opsOf (sel [1, 0] bodySt)) ?_
  refine ownU_enterT (i := 0) (rest := [1, 2, 3, 4]) (f := 35) rfl (by rfl) (by decide) rfl Try.func35 (by kernel_rfl) rfl fun ts hts => ?_
  have hR : St0 ts AF nF cF A1 nz cz u1.heap.size := by subst hts; exact ⟨by kernel_rfl, by kernel_rfl, by kernel_rfl, by kernel_rfl⟩
  clear hts
  exact ownU_eq (by kernel_rfl) (hk2 ts hR)
theorem st_b {main : Bool} {Z : Addr → Prop} {Stop : Goroutine → World → Prop} {w₀ u : World} {nF cF nz cz rb sb : Nat} {AF A1 : Option Addr} {ts : Array Value} {cs : List Frame} (h : St0 ts AF nF cF A1 nz cz rb)
    (hk : ∀ ts, StTs ts AF nF cF A1 nz cz rb u.heap.size (u.heap.size + 1) 0 → OwnU Try.prog main Z Stop w₀ (stHead ts cs) ((u.alloc (.cells #[ptr sb, .slice AF nF cF, .int .i64 0, .slice none 0 0] 72)).alloc (.cells #[.slice AF nF cF, .slice none 0 0, .slice none 0 0, .slice none 0 0, .bool false] 68))) :
    OwnU Try.prog main Z Stop w₀ (G ((base 52).at ((⟨ts, []⟩ : Act).put (((opsOf (sel [1, 0] bodySt))[0]?).bind (·.dst)) (ptr sb)) (.inRegion (opsOf (sel [1, 0] bodySt)) [1, 2, 3, 4] :: [.code (sel [1, 1] bodySt)])) cs) u := by
  rw [h.lit]
  refine ownU_quiet (i := 1) (rest := [2, 3, 4]) (.slice AF nF cF) rfl (by rfl) rfl (by decide) (fun _ => by kernel_rfl) ?_
  refine ownU_quiet (i := 2) (rest := [3, 4]) (.agg #[ptr sb, .slice AF nF cF, .int .i64 0, .slice none 0 0]) rfl (by rfl) rfl (by decide) (fun _ => by kernel_rfl) ?_
  refine ownU_new (.cells #[ptr sb, .slice AF nF cF, .int .i64 0, .slice none 0 0] 72) (i := 3) (rest := [4]) rfl (by rfl) rfl (by decide) (fun _ => by kernel_rfl) ?_
  have hwb : u.heap.size = u.heap.size := rfl
  generalize hwbn : u.heap.size = wb at *
  refine ownU_quiet (i := 4) (rest := []) (ptr wb) rfl (by rfl) rfl (by decide) (fun _ => by kernel_rfl) ?_
  refine ownU_region_end ?_
  refine ownU_lit (List.toArray (.slice AF nF cF :: .slice A1 nz cz :: ts.getD 2 undef :: ts.getD 3 undef :: ts.getD 4 undef :: ptr rb :: ptr wb :: ts.getD 7 undef :: ts.getD 8 undef :: ts.getD 9 undef :: ts.getD 10 undef :: ptr sb :: .slice AF nF cF :: .agg #[ptr sb, .slice AF nF cF, .int .i64 0, .slice none 0 0] :: ptr wb :: ts.getD 15 undef :: ts.getD 16 undef :: ts.getD 17 undef :: ts.getD 18 undef :: ts.getD 19 undef :: ts.getD 20 undef :: ts.getD 21 undef :: ts.getD 22 undef :: ts.getD 23 undef :: ts.getD 24 undef :: ts.getD 25 undef :: ts.getD 26 undef :: ts.getD 27 undef :: ts.getD 28 undef :: ts.getD 29 undef :: ts.getD 30 undef :: ts.getD 31 undef :: ts.getD 32 undef :: ts.getD 33 undef :: ts.getD 34 undef :: ts.getD 35 undef :: ts.getD 36 undef :: ts.getD 37 undef :: ts.getD 38 undef :: ts.getD 39 undef :: ts.getD 40 undef :: ts.getD 41 undef :: ts.getD 42 undef :: ts.getD 43 undef :: ts.getD 44 undef :: ts.getD 45 undef :: ts.getD 46 undef :: [])) [] (by kernel_rfl) rfl ?_
  refine ownU_seq (x := sel [1, 1, 0] bodySt) (y := sel [1, 1, 1] bodySt) ?_
  refine ownU_codeM okL18 (by kernel_rfl) (by decide) ⟨_, Try.func52⟩ fun A d => ?_
  conv => arg 2; whnf
  have hk2 := fun ts h => (ownU_tp (u := (u.alloc (.cells #[ptr sb, .slice AF nF cF, .int .i64 0, .slice none 0 0] 72)).alloc (.cells #[.slice AF nF cF, .slice none 0 0, .slice none 0 0, .slice none 0 0, .bool false] 68)) (A := A) (d := d)).2 (hk ts h)
  have hsz : (tp (u.alloc (.cells #[ptr sb, .slice AF nF cF, .int .i64 0, .slice none 0 0] 72)) A d).heap.size = wb + 1 := by rw [← hwbn]; exact World.size_alloc _ _
  replace hk2 := show ∀ ts, StTs ts AF nF cF A1 nz cz rb wb (wb + 1) 0 → OwnU Try.prog main Z Stop w₀ (stHead ts cs) ((tp (u.alloc (.cells #[ptr sb, .slice AF nF cF, .int .i64 0, .slice none 0 0] 72)) A d).alloc (.cells #[.slice AF nF cF, .slice none 0 0, .slice none 0 0, .slice none 0 0, .bool false] 68)) from hk2
  clear hk
  generalize tp (u.alloc (.cells #[ptr sb, .slice AF nF cF, .int .i64 0, .slice none 0 0] 72)) A d = u1 at *
  go_wp2_with fail
  refine atEndU ?_
  refine ownU_seq (x := sel [1, 1, 1, 0] bodySt) (y := sel [1, 1, 1, 1] bodySt) ?_
  refine ownU_seq (x := sel [1, 1, 1, 0, 0] bodySt) (y := sel [1, 1, 1, 0, 1] bodySt) ?_
  refine ownU_region (id := 3) (ops := opsOf (sel [1, 1, 1, 0, 0] bodySt)) ?_
  refine ownU_quiet (i := 0) (rest := [1, 2]) (.slice A1 nz cz) rfl (by rfl) rfl (by decide) (fun _ => by kernel_rfl) ?_
  refine ownU_quiet (i := 1) (rest := [2]) (.int .i64 (nz : Int)) rfl (by rfl) rfl (by decide) (fun _ => by kernel_rfl) ?_
  refine ownU_quiet (i := 2) (rest := []) (.int .i64 0) rfl (by rfl) rfl (by decide) (fun _ => by kernel_rfl) ?_
  refine ownU_region_end ?_
  refine ownU_block (id := 0) (c := sel [1, 1, 1, 0, 1, 4] bodySt) ?_
  refine ownU_loop (c := sel [1, 1, 1, 0, 1, 4, 4] bodySt) ?_
  exact hk2 _ ⟨by kernel_rfl, by kernel_rfl, by kernel_rfl, by kernel_rfl, (by rw [← hsz]; kernel_rfl), by kernel_rfl, by kernel_rfl, by kernel_rfl⟩
theorem conv_u8s {a : Act} {o : Oper} {x : Operand} {z : Int} (w : World) (ho : o.op = .convert 5 3 x) (hx : a.eval x = .int .u8 z) (hz : 0 ≤ z ∧ z < 256) : (execOp a.eval o).run Try.prog w = .ok (.value (.int .i64 z)) w := by
  have h5 := Try.underlying5
  have h3 := Try.underlying3
  have hw := wrap_id (x := z) (by omega) (by omega)
  unfold execOp
  simp only [ho, hx]
  simp [go_sem, h5, h3, hw]
theorem idx_u8 {a : Act} {o : Oper} {x y : Operand} {A : Addr} {n cap i : Nat} (w : World) (ho : o.op = .indexAddr 32 x y) (hx : a.eval x = .slice (some A) n cap) (hy : a.eval y = .int .i64 (i : Int)) (hi : i < n) : (execOp a.eval o).run Try.prog w = .ok (.value (.pointer (some (A.add i)))) w := by
  have h := idx_any (k := 1) Try.underlying32 (fun w => by kernel_rfl) w ho hx hy hi
  rw [Nat.mul_one] at h
  exact h
theorem rem_nf {a : Act} {o : Oper} {x y : Operand} {p q r : Int} (w : World) (ho : o.op = .binOp .rem 3 x y 3) (hx : a.eval x = .int .i64 p) (hy : a.eval y = .int .i64 q) (hp : 0 ≤ p) (hq : 0 < q) (hr : p % q = r) : (execOp a.eval o).run Try.prog w = .ok (.value (.int .i64 r)) w := ev_rem w ho hx hy hp hq hr
theorem st_skip {main : Bool} {Z : Addr → Prop} {Stop : Goroutine → World → Prop} {w₀ u : World} {nF cF nz cz rb wb mb idx : Nat} {AF A1 : Option Addr} {n : Nat} {z : Int} {ad : Addr} {ts : Array Value} {cs : List Frame} (h : StTs ts AF nF cF A1 nz cz rb wb mb idx) (hidx : idx < nz) (hA : A1 = some ad) (hc : u.cell? (ad.add idx) = some (.int .u8 z)) (hw2 : u.cell? ⟨wb, 2, none⟩ = some (.int .i64 (n : Int))) (hn : 20 ≤ n) (hidm : idx < 9223372036854775807)
    (hk : ∀ ts, StTs ts AF nF cF A1 nz cz rb wb mb (idx + 1) → OwnU Try.prog main Z Stop w₀ (stHead ts cs) u) : OwnU Try.prog main Z Stop w₀ (stHead ts cs) u := by
  have hi : IntKind.i64.wrap ((idx : Int) + 1) = ((idx + 1 : Nat) : Int) := by rw [show ((idx + 1 : Nat) : Int) = (idx : Int) + 1 by omega]; exact wrap_id (by omega) (by omega)
  unfold stHead
  rw [h.lit]
  refine ownU_seq (x := sel [1, 1, 1, 0, 1, 4, 4, 0] bodySt) (y := sel [1, 1, 1, 0, 1, 4, 4, 1] bodySt) ?_
  refine ownU_region (id := 4) (ops := opsOf (sel [1, 1, 1, 0, 1, 4, 4, 0] bodySt)) ?_
  refine ownU_quiet (i := 0) (rest := []) (.bool true) rfl (by rfl) rfl (by decide) (fun _ => lss_v (p := (idx : Int)) (q := (nz : Int)) rfl (by kernel_rfl) (by kernel_rfl) (by simp; omega)) ?_
  refine ownU_region_end ?_
  refine ownU_seq (x := sel [1, 1, 1, 0, 1, 4, 4, 1, 0] bodySt) (y := sel [1, 1, 1, 0, 1, 4, 4, 1, 1] bodySt) ?_
  refine ownU_cond (c := .tmp 20) (x := .skip) (y := .exit 0) (t := true) (by kernel_rfl) ?_
  refine ownU_skip ?_
  refine ownU_seq (x := sel [1, 1, 1, 0, 1, 4, 4, 1, 1, 0] bodySt) (y := sel [1, 1, 1, 0, 1, 4, 4, 1, 1, 1] bodySt) ?_
  refine ownU_block (id := 1) (c := sel [1, 1, 1, 0, 1, 4, 4, 1, 1, 0, 4] bodySt) ?_
  refine ownU_seq (x := sel [1, 1, 1, 0, 1, 4, 4, 1, 1, 0, 4, 0] bodySt) (y := sel [1, 1, 1, 0, 1, 4, 4, 1, 1, 0, 4, 1] bodySt) ?_
  refine ownU_region (id := 5) (ops := opsOf (sel [1, 1, 1, 0, 1, 4, 4, 1, 1, 0, 4, 0] bodySt)) ?_
  subst hA
  refine ownU_quiet (i := 0) (rest := [1, 2]) (.pointer (some (ad.add idx))) rfl (by rfl) rfl (by decide) (fun w => idx_u8 (A := ad) (n := nz) (cap := cz) (i := idx) w rfl (by kernel_rfl) (by kernel_rfl) hidx) ?_
  refine ownU_load (i := 1) (rest := [2]) (ad.add idx) (.int .u8 z) rfl (by rfl) (by decide) loads_u8 rfl (by kernel_rfl) hc ?_
  refine ownU_quiet (i := 2) (rest := []) (.int .u8 z) rfl (by rfl) rfl (by decide) (fun _ => by kernel_rfl) ?_
  refine ownU_region_end ?_
  refine ownU_seq (x := sel [1, 1, 1, 0, 1, 4, 4, 1, 1, 0, 4, 1, 0] bodySt) (y := sel [1, 1, 1, 0, 1, 4, 4, 1, 1, 0, 4, 1, 1] bodySt) ?_
  refine ownU_region (id := 6) (ops := opsOf (sel [1, 1, 1, 0, 1, 4, 4, 1, 1, 0, 4, 1, 0] bodySt)) ?_
  refine ownU_quiet (i := 0) (rest := [1, 2, 3, 4]) (ptr wb) rfl (by rfl) rfl (by decide) (fun _ => by kernel_rfl) ?_
  refine ownU_quiet (i := 1) (rest := [2, 3, 4]) (ptr wb) rfl (by rfl) rfl (by decide) (fun _ => by kernel_rfl) ?_
  refine ownU_quiet (i := 2) (rest := [3, 4]) (.pointer (some ⟨wb, 2, none⟩)) rfl (by rfl) rfl (by decide) (fun _ => by kernel_rfl) ?_
  refine ownU_load (i := 3) (rest := [4]) ⟨wb, 2, none⟩ (.int .i64 (n : Int)) rfl (by rfl) (by decide) loads_int rfl (by kernel_rfl) hw2 ?_
  refine ownU_quiet (i := 4) (rest := []) (.bool false) rfl (by rfl) rfl (by decide) (fun _ => lss_v (p := (n : Int)) (q := 20) rfl (by kernel_rfl) (by kernel_rfl) (by simp; omega)) ?_
  refine ownU_region_end ?_
  refine ownU_cond (c := .tmp 27) (x := sel [1, 1, 1, 0, 1, 4, 4, 1, 1, 0, 4, 1, 1, 2] bodySt) (y := .skip) (t := false) (by kernel_rfl) ?_
  refine ownU_skip ?_
  refine ownU_inBlock ?_
  refine ownU_region (id := 10) (ops := opsOf (sel [1, 1, 1, 0, 1, 4, 4, 1, 1, 1] bodySt)) ?_
  refine ownU_quiet (i := 0) (rest := [1]) (.int .i64 ((idx + 1 : Nat) : Int)) rfl (by rfl) rfl (by decide) (fun _ => by rw [← hi]; kernel_rfl) ?_
  refine ownU_quiet (i := 1) (rest := []) (.int .i64 ((idx + 1 : Nat) : Int)) rfl (by rfl) rfl (by decide) (fun _ => by kernel_rfl) ?_
  refine ownU_region_end ?_
  refine ownU_inLoop ?_
  exact hk _ ⟨by kernel_rfl, by kernel_rfl, by kernel_rfl, by kernel_rfl, by kernel_rfl, by kernel_rfl, by kernel_rfl, by kernel_rfl⟩
theorem st_spawn {main : Bool} {Z : Addr → Prop} {Stop : Goroutine → World → Prop} {w₀ u : World} {nF cF nz cz rb wb mb idx : Nat} {AF A1 : Option Addr} {n k sb : Nat} {z : Int} {ad : Addr} {ts : Array Value} {cs : List Frame} (h : StTs ts AF nF cF A1 nz cz rb wb mb idx) (hidx : idx < nz) (hA : A1 = some ad) (hc : u.cell? (ad.add idx) = some (.int .u8 z)) (hw2 : u.cell? ⟨wb, 2, none⟩ = some (.int .i64 (n : Int))) (hz : 0 ≤ z ∧ z < 256) (hw0 : u.cell? ⟨wb, 0, none⟩ = some (ptr sb)) (hn : n < 20) (hF : 0 < nF) (hk0 : z % (nF : Int) = (k : Int))
    (hk : ∀ ts', StTs ts' AF nF cF A1 nz cz rb wb mb idx → ts'.getD 10 undef = .int .i64 (k : Int) → OwnU Try.prog main Z Stop w₀ (wsIn wb k (.func (.func 37) #[ptr sb] #[]) (stFr1 ts' :: cs)) u) : OwnU Try.prog main Z Stop w₀ (stHead ts cs) u := by
  unfold stHead
  rw [h.lit]
  refine ownU_seq (x := sel [1, 1, 1, 0, 1, 4, 4, 0] bodySt) (y := sel [1, 1, 1, 0, 1, 4, 4, 1] bodySt) ?_
  refine ownU_region (id := 4) (ops := opsOf (sel [1, 1, 1, 0, 1, 4, 4, 0] bodySt)) ?_
  refine ownU_quiet (i := 0) (rest := []) (.bool true) rfl (by rfl) rfl (by decide) (fun _ => lss_v (p := (idx : Int)) (q := (nz : Int)) rfl (by kernel_rfl) (by kernel_rfl) (by simp; omega)) ?_
  refine ownU_region_end ?_
  refine ownU_seq (x := sel [1, 1, 1, 0, 1, 4, 4, 1, 0] bodySt) (y := sel [1, 1, 1, 0, 1, 4, 4, 1, 1] bodySt) ?_
  refine ownU_cond (c := .tmp 20) (x := .skip) (y := .exit 0) (t := true) (by kernel_rfl) ?_
  refine ownU_skip ?_
  refine ownU_seq (x := sel [1, 1, 1, 0, 1, 4, 4, 1, 1, 0] bodySt) (y := sel [1, 1, 1, 0, 1, 4, 4, 1, 1, 1] bodySt) ?_
  refine ownU_block (id := 1) (c := sel [1, 1, 1, 0, 1, 4, 4, 1, 1, 0, 4] bodySt) ?_
  refine ownU_seq (x := sel [1, 1, 1, 0, 1, 4, 4, 1, 1, 0, 4, 0] bodySt) (y := sel [1, 1, 1, 0, 1, 4, 4, 1, 1, 0, 4, 1] bodySt) ?_
  refine ownU_region (id := 5) (ops := opsOf (sel [1, 1, 1, 0, 1, 4, 4, 1, 1, 0, 4, 0] bodySt)) ?_
  subst hA
  refine ownU_quiet (i := 0) (rest := [1, 2]) (.pointer (some (ad.add idx))) rfl (by rfl) rfl (by decide) (fun w => idx_u8 (A := ad) (n := nz) (cap := cz) (i := idx) w rfl (by kernel_rfl) (by kernel_rfl) hidx) ?_
  refine ownU_load (i := 1) (rest := [2]) (ad.add idx) (.int .u8 z) rfl (by rfl) (by decide) loads_u8 rfl (by kernel_rfl) hc ?_
  refine ownU_quiet (i := 2) (rest := []) (.int .u8 z) rfl (by rfl) rfl (by decide) (fun _ => by kernel_rfl) ?_
  refine ownU_region_end ?_
  refine ownU_seq (x := sel [1, 1, 1, 0, 1, 4, 4, 1, 1, 0, 4, 1, 0] bodySt) (y := sel [1, 1, 1, 0, 1, 4, 4, 1, 1, 0, 4, 1, 1] bodySt) ?_
  refine ownU_region (id := 6) (ops := opsOf (sel [1, 1, 1, 0, 1, 4, 4, 1, 1, 0, 4, 1, 0] bodySt)) ?_
  refine ownU_quiet (i := 0) (rest := [1, 2, 3, 4]) (ptr wb) rfl (by rfl) rfl (by decide) (fun _ => by kernel_rfl) ?_
  refine ownU_quiet (i := 1) (rest := [2, 3, 4]) (ptr wb) rfl (by rfl) rfl (by decide) (fun _ => by kernel_rfl) ?_
  refine ownU_quiet (i := 2) (rest := [3, 4]) (.pointer (some ⟨wb, 2, none⟩)) rfl (by rfl) rfl (by decide) (fun _ => by kernel_rfl) ?_
  refine ownU_load (i := 3) (rest := [4]) ⟨wb, 2, none⟩ (.int .i64 (n : Int)) rfl (by rfl) (by decide) loads_int rfl (by kernel_rfl) hw2 ?_
  refine ownU_quiet (i := 4) (rest := []) (.bool true) rfl (by rfl) rfl (by decide) (fun _ => lss_v (p := (n : Int)) (q := 20) rfl (by kernel_rfl) (by kernel_rfl) (by simp; omega)) ?_
  refine ownU_region_end ?_
  refine ownU_cond (c := .tmp 27) (x := sel [1, 1, 1, 0, 1, 4, 4, 1, 1, 0, 4, 1, 1, 2] bodySt) (y := .skip) (t := true) (by kernel_rfl) ?_
  refine ownU_seq (x := sel [1, 1, 1, 0, 1, 4, 4, 1, 1, 0, 4, 1, 1, 2, 0] bodySt) (y := sel [1, 1, 1, 0, 1, 4, 4, 1, 1, 0, 4, 1, 1, 2, 1] bodySt) ?_
  refine ownU_region (id := 7) (ops := opsOf (sel [1, 1, 1, 0, 1, 4, 4, 1, 1, 0, 4, 1, 1, 2, 0] bodySt)) ?_
  refine ownU_quiet (i := 0) (rest := [1, 2, 3, 4, 5]) (.int .u8 z) rfl (by rfl) rfl (by decide) (fun _ => by kernel_rfl) ?_
  refine ownU_quiet (i := 1) (rest := [2, 3, 4, 5]) (.int .i64 z) rfl (by rfl) rfl (by decide) (fun w => conv_u8s w rfl (by kernel_rfl) hz) ?_
  refine ownU_quiet (i := 2) (rest := [3, 4, 5]) (.slice AF nF cF) rfl (by rfl) rfl (by decide) (fun _ => by kernel_rfl) ?_
  refine ownU_quiet (i := 3) (rest := [4, 5]) (.int .i64 (nF : Int)) rfl (by rfl) rfl (by decide) (fun _ => by kernel_rfl) ?_
  refine ownU_quiet (i := 4) (rest := [5]) (.int .i64 (k : Int)) rfl (by rfl) rfl (by decide) (fun w => rem_nf (p := z) (q := (nF : Int)) w rfl (by kernel_rfl) (by kernel_rfl) hz.1 (by omega) hk0) ?_
  refine ownU_quiet (i := 5) (rest := []) (.int .i64 (k : Int)) rfl (by rfl) rfl (by decide) (fun _ => by kernel_rfl) ?_
  refine ownU_region_end ?_
  refine ownU_seq (x := sel [1, 1, 1, 0, 1, 4, 4, 1, 1, 0, 4, 1, 1, 2, 1, 0] bodySt) (y := sel [1, 1, 1, 0, 1, 4, 4, 1, 1, 0, 4, 1, 1, 2, 1, 1] bodySt) ?_
  refine ownU_region (id := 8) (ops := opsOf (sel [1, 1, 1, 0, 1, 4, 4, 1, 1, 0, 4, 1, 1, 2, 1, 0] bodySt)) ?_
  refine ownU_quiet (i := 0) (rest := [1, 2, 3, 4, 5, 6, 7]) (ptr wb) rfl (by rfl) rfl (by decide) (fun _ => by kernel_rfl) ?_
  refine ownU_quiet (i := 1) (rest := [2, 3, 4, 5, 6, 7]) (ptr wb) rfl (by rfl) rfl (by decide) (fun _ => by kernel_rfl) ?_
  refine ownU_quiet (i := 2) (rest := [3, 4, 5, 6, 7]) (ptr wb) rfl (by rfl) rfl (by decide) (fun _ => by kernel_rfl) ?_
  refine ownU_quiet (i := 3) (rest := [4, 5, 6, 7]) (.pointer (some ⟨wb, 0, none⟩)) rfl (by rfl) rfl (by decide) (fun _ => by kernel_rfl) ?_
  refine ownU_load (i := 4) (rest := [5, 6, 7]) ⟨wb, 0, none⟩ (ptr sb) rfl (by rfl) (by decide) loads_sched rfl (by kernel_rfl) hw0 ?_
  refine ownU_quiet (i := 5) (rest := [6, 7]) (.func (.func 37) #[ptr sb] #[]) rfl (by rfl) rfl (by decide) (fun _ => by kernel_rfl) ?_
  refine ownU_quiet (i := 6) (rest := [7]) (.int .i64 (k : Int)) rfl (by rfl) rfl (by decide) (fun _ => by kernel_rfl) ?_
  refine ownU_lit (List.toArray (.slice AF nF cF :: ts.getD 1 undef :: ts.getD 2 undef :: ts.getD 3 undef :: ts.getD 4 undef :: ptr rb :: ptr wb :: ptr mb :: ts.getD 8 undef :: .int .u8 z :: .int .i64 (k : Int) :: ts.getD 11 undef :: ts.getD 12 undef :: ts.getD 13 undef :: ts.getD 14 undef :: ts.getD 15 undef :: ts.getD 16 undef :: .slice (some ad) nz cz :: .int .i64 (nz : Int) :: .int .i64 (idx : Int) :: .bool true :: .pointer (some (ad.add idx)) :: .int .u8 z :: ptr wb :: ptr wb :: .pointer (some ⟨wb, 2, none⟩) :: .int .i64 (n : Int) :: .bool true :: .int .u8 z :: .int .i64 z :: .slice AF nF cF :: .int .i64 (nF : Int) :: .int .i64 (k : Int) :: ptr wb :: ptr wb :: ptr wb :: .pointer (some ⟨wb, 0, none⟩) :: ptr sb :: .func (.func 37) #[ptr sb] #[] :: .int .i64 (k : Int) :: ts.getD 40 undef :: ts.getD 41 undef :: ts.getD 42 undef :: ts.getD 43 undef :: ts.getD 44 undef :: ts.getD 45 undef :: ts.getD 46 undef :: [])) [] (by kernel_rfl) (by kernel_rfl) ?_
  refine ownU_enterT (i := 7) (rest := []) (f := 67) rfl (by rfl) (by decide) rfl Try.func67 (by kernel_rfl) rfl fun ts' hts => ?_
  have hR : StTs ts' AF nF cF (some ad) nz cz rb wb mb idx ∧ ts'.getD 10 undef = .int .i64 (k : Int) := by subst hts; exact ⟨⟨by kernel_rfl, by kernel_rfl, by kernel_rfl, by kernel_rfl, by kernel_rfl, by kernel_rfl, by kernel_rfl, by kernel_rfl⟩, by kernel_rfl⟩
  clear hts
  exact ownU_eq (by kernel_rfl) (hk ts' hR.1 hR.2)
end Go.Proofs.Ytolnmdanlggmhaa

/- start, in company: the reference's spawn beside it; its end. (Printed by gen_st2.py.) -/
namespace Go.Proofs.Ytolnmdanlggmhaa
open Go.RowKit Go.Maps Go.Conc
open Go.ConcN (upd upd_ne upd_same)

set_option maxRecDepth 100000
set_option maxHeartbeats 2000000

/-- The box of the reference's scheduler. -/
def BoxAt (b : Nat) (v : Value) (w : World) : Prop := ∃ x0 x1 x2 x3 x4, v = .agg #[x0, x1, x2, x3, x4] ∧ w.heap[b]? = some (.cells #[x0, x1, x2, x3, x4] 68 (0, 0))
/-- Only one block has turned. -/
structure Vol (mb : Nat) (u u' : World) : Prop where
  os : u'.os = u.os
  output : u'.output = u.output
  size : u.heap.size ≤ u'.heap.size
  block : ∀ b, b < u.heap.size → b ≠ mb → u'.heap[b]? = u.heap[b]?
theorem BoxAt.keep {b : Nat} {v : Value} {w w' : World} (h : BoxAt b v w) (e : w'.heap[b]? = w.heap[b]?) : BoxAt b v w' := by
  obtain ⟨x0, x1, x2, x3, x4, h1, h2⟩ := h
  exact ⟨x0, x1, x2, x3, x4, h1, e.trans h2⟩
theorem SAt.five {w : World} {R : Nat → Prop} {F v : Value} {m : RS} (h : SAt w R F v m) : ∃ A1 p1 r1 A2 p2 r2 A3 p3 r3 bb, v = .agg #[F, .slice A1 p1 r1, .slice A2 p2 r2, .slice A3 p3 r3, .bool bb] := by
  obtain ⟨_, _, _, _, _, _, _, e, _⟩ := h
  exact ⟨_, _, _, _, _, _, _, _, _, _, e⟩
/-- A call of the reference's, then its box written anew. -/
theorem ref_stored {u w5 W : World} {mb : Nat} {R : Nat → Prop} {F v' : Value} {m' : RS} {x0 x1 x2 x3 x4 y0 y1 y2 y3 y4 : Value} (D : w5.heap[mb]? = some (.cells #[y0, y1, y2, y3, y4] 68 (0, 0))) (hs : SAt w5 (fun b => R b ∨ u.heap.size ≤ b) F v' m') (hb : Below u.heap.size u w5) (hv : v' = .agg #[x0, x1, x2, x3, x4]) (hR : ¬ R mb) (hl : mb < u.heap.size)
    (hW : W = ((((w5.setCell ⟨mb, 0, none⟩ x0).setCell ⟨mb, 1, none⟩ x1).setCell ⟨mb, 2, none⟩ x2).setCell ⟨mb, 3, none⟩ x3).setCell ⟨mb, 4, none⟩ x4) : BoxAt mb v' W ∧ SAt W (fun b => R b ∨ u.heap.size ≤ b) F v' m' ∧ Vol mb u W := by
  obtain ⟨h1, h2, h3, h4⟩ := st5_at D hW
  have h5 := h4 0 (Nat.zero_le _)
  refine ⟨⟨_, _, _, _, _, hv, h1⟩, hs.keep (fun k _ hk => h2 k fun e => ?_) (Nat.le_of_eq h3.symm), h5.os.trans hb.os, h5.output.trans hb.output, by rw [h3]; exact hb.size, fun b hl' hb' => (h2 b hb').trans (hb.block b hl')⟩
  subst e
  rcases hk with hk | hk
  · exact hR hk
  · omega
theorem ownU_leaveTC {P : Program} {main : Bool} {Z : Addr → Prop} {Stop : Goroutine → World → Prop} {w₀ u : World} {b : Frame} {a : Act} {k : List Item} {cs : List Frame} {ops : Array Oper} {i : Nat} {rest : List Nat} {fn : Func} {b₀ : Frame} {a₀ : Act} {todo : List Item} {t r : Tmp} {ty : TypeId} {ad : Addr} {v : Value} (hn : b.kind = .normal) (hd : a.defers = []) (hf : P.funcs[b.fn]? = some fn) (hr : fn.results = #[.tmp t, .cell r ty]) (ha : a.tmps.getD r undef = .pointer (some ad))
    (hl : ∀ A d, (loadVar ty ad).run P (tp u A d) = .ok v (tp u A d))
    (hk : OwnU P main Z Stop w₀ (G (b₀.at (a₀.put ((ops[i]?).bind (·.dst)) (.tuple #[a.tmps.getD t undef, v])) (.inRegion ops rest :: k)) cs) u) : OwnU P main Z Stop w₀ (G { b.at a todo with mode := .returning } (b₀.at a₀ (.inRegion ops (i :: rest) :: k) :: cs)) u := by
  have e : results fn a.tmps = (loadVar ty ad >>= fun v => pure (.tuple #[a.tmps.getD t undef, v])) := by
    unfold results
    rw [hr]
    have ha' : a.tmps[r]?.getD undef = .pointer (some ad) := by rw [← ha]; simp
    simp [asAddr, ha']
  have hg : Good P [] (results fn a.tmps) := by rw [e]; exact good_bind (g_loadVar _ _ _) fun _ => good_pure _ _
  refine ownU_term (e := results fn a.tmps) (f := b.fn) hg rfl fun A d => ⟨.tuple #[a.tmps.getD t undef, v], tp u A d, G (b₀.at (a₀.put ((ops[i]?).bind (·.dst)) (.tuple #[a.tmps.getD t undef, v])) (.inRegion ops rest :: k)) cs, ?_, fun w w' h => ?_, ownU_tp.2 hk⟩
  · rw [e, Sem.run_bind, hl A d]
    rfl
  · have hfin : (b₀.at a₀ (.inRegion ops (i :: rest) :: k)).finish (.tuple #[a.tmps.getD t undef, v]) = b₀.at (a₀.put ((ops[i]?).bind (·.dst)) (.tuple #[a.tmps.getD t undef, v])) (.inRegion ops rest :: k) := by rw [Frame.finish_at]
    rw [stepG_unw (by simp), ← hfin]
    simp [unwind, Frame.at, hd, hf, h, doReturn, hn, GStep.after, G]
theorem loads_box {b : Nat} {v : Value} {w : World} (h : BoxAt b v w) (A : Nat → Question → Nat) (d : Nat) : (loadVar 68 ⟨b, 0, none⟩).run Try.prog (tp w A d) = .ok v (tp w A d) := by
  obtain ⟨x0, x1, x2, x3, x4, rfl, hb⟩ := h
  exact run_loadVar_row (tp w A d) b 68 68 _ _ _ hb Try.underlying68 rfl infoRS
theorem set_getD_ne {ts : Array Value} {d k : Nat} {v : Value} (h : d ≠ k) : (ts.setIfInBounds d v).getD k undef = ts.getD k undef := by simp [h]
/-- Behind the real spawn: the reference's. -/
theorem st_ref {main : Bool} {Z : Addr → Prop} {Stop : Goroutine → World → Prop} {w₀ u : World} {nF cF nz cz rb wb mb idx : Nat} {AF A1 : Option Addr} {k : Nat} {ts : Array Value} {cs : List Frame} {m : RS} {R : Nat → Prop} {v : Value} (h : StTs ts AF nF cF A1 nz cz rb wb mb idx) (h10 : ts.getD 10 undef = .int .i64 (k : Int)) (D : BoxAt mb v u) (hs : SAt u R (.slice AF nF cF) v m) (hR : ¬ R mb) (hl : m.cos.length ≤ 20) (hq : m.q.length ≤ 100) (hidm : idx < 9223372036854775807)
    (hk : ∀ ts' u' v', StTs ts' AF nF cF A1 nz cz rb wb mb (idx + 1) → BoxAt mb v' u' → SAt u' (fun b => R b ∨ u.heap.size ≤ b) (.slice AF nF cF) v' (rSpawn m k) → Vol mb u u' → OwnU Try.prog main Z Stop w₀ (stHead ts' cs) u') : OwnU Try.prog main Z Stop w₀ (G ((base 52).at ((⟨ts, []⟩ : Act).put (((opsOf (sel [1, 1, 1, 0, 1, 4, 4, 1, 1, 0, 4, 1, 1, 2, 1, 0] bodySt))[7]?).bind (·.dst)) (.tuple #[])) (.inRegion (opsOf (sel [1, 1, 1, 0, 1, 4, 4, 1, 1, 0, 4, 1, 1, 2, 1, 0] bodySt)) [] :: .code (sel [1, 1, 1, 0, 1, 4, 4, 1, 1, 0, 4, 1, 1, 2, 1, 1] bodySt) :: [.inBlock 1, .code (sel [1, 1, 1, 0, 1, 4, 4, 1, 1, 1] bodySt), .inLoop (sel [1, 1, 1, 0, 1, 4, 4] bodySt), .inBlock 0, .code (sel [1, 1, 1, 1] bodySt)])) cs) u := by
  refine ownU_region_end ?_
  have hT : StTs ((⟨ts, []⟩ : Act).put (((opsOf (sel [1, 1, 1, 0, 1, 4, 4, 1, 1, 0, 4, 1, 1, 2, 1, 0] bodySt))[7]?).bind (·.dst)) (.tuple #[])).tmps AF nF cF A1 nz cz rb wb mb idx := h.put (d := 40) (by omega) (.tuple #[])
  have hK : ((⟨ts, []⟩ : Act).put (((opsOf (sel [1, 1, 1, 0, 1, 4, 4, 1, 1, 0, 4, 1, 1, 2, 1, 0] bodySt))[7]?).bind (·.dst)) (.tuple #[])).tmps.getD 10 undef = .int .i64 (k : Int) := by rw [← h10]; exact set_getD_ne (by omega)
  have hA : (⟨ts, []⟩ : Act).put (((opsOf (sel [1, 1, 1, 0, 1, 4, 4, 1, 1, 0, 4, 1, 1, 2, 1, 0] bodySt))[7]?).bind (·.dst)) (.tuple #[]) = ⟨((⟨ts, []⟩ : Act).put (((opsOf (sel [1, 1, 1, 0, 1, 4, 4, 1, 1, 0, 4, 1, 1, 2, 1, 0] bodySt))[7]?).bind (·.dst)) (.tuple #[])).tmps, []⟩ := rfl
  rw [hA]
  generalize ((⟨ts, []⟩ : Act).put (((opsOf (sel [1, 1, 1, 0, 1, 4, 4, 1, 1, 0, 4, 1, 1, 2, 1, 0] bodySt))[7]?).bind (·.dst)) (.tuple #[])).tmps = ts2 at *
  clear hA
  have e := hT.lit
  unfold litSt at e
  rw [hK] at e
  rw [e]
  refine ownU_codeM okL18 (by kernel_rfl) (by decide) ⟨_, Try.func52⟩ fun A d => ?_
  conv => arg 2; whnf
  have hk2 := fun ts' u' v' (a : StTs ts' AF nF cF A1 nz cz rb wb mb (idx + 1)) (b : BoxAt mb v' u') (c : SAt u' (fun b => R b ∨ (tp u A d).heap.size ≤ b) (.slice AF nF cF) v' (rSpawn m k)) (e : Vol mb (tp u A d) u') => hk ts' u' v' a b c ⟨e.os, e.output, e.size, e.block⟩
  have D1 : BoxAt mb v (tp u A d) := D
  have hs1 : SAt (tp u A d) R (.slice AF nF cF) v m := hs.keep (fun _ _ _ => rfl) (Nat.le_refl _)
  clear hk D hs
  generalize tp u A d = u1 at *
  have hmb := D1
  obtain ⟨A1', p1, r1, A2, p2, r2, A3, p3, r3, bb, rfl⟩ := hs1.five
  obtain ⟨y0, y1, y2, y3, y4, hv, D⟩ := D1
  simp only [Value.agg.injEq, Array.mk.injEq, List.cons.injEq, and_true] at hv
  obtain ⟨rfl, rfl, rfl, rfl, rfl⟩ := hv
  obtain ⟨c0, c1, c2, c3, c4, fb⟩ := five_cells D
  have hlt := blk_lt D
  have HS := Lib.hid hs1
  have HK := Lib.hid hk2
  clear hs1 hk2 hmb e hT hK h h10
  unfold ptr at *
  go_wp2_with fail
  refine (refspawn AF nF cF k _ m u1 R HS.out hl hq).mono ?_
  rintro e w5 ⟨v', rfl, hs5, hb5⟩
  obtain ⟨A4, p4, r4, A5, p5, r5, A6, p6, r6, b6, rfl⟩ := hs5.five
  have D5 := (hb5.block _ hlt).trans D
  obtain ⟨_, _, _, _, _, f5⟩ := five_cells D5
  have hlt5 := blk_lt D5
  have HS5 := Lib.hid hs5
  clear hs5
  go_wp2_with fail
  refine atEndU ?_
  obtain ⟨q1, q2, q3⟩ := ref_stored D5 HS5.out hb5 rfl hR hlt rfl
  have hi : IntKind.i64.wrap ((idx : Int) + 1) = ((idx + 1 : Nat) : Int) := by rw [show ((idx + 1 : Nat) : Int) = (idx : Int) + 1 by omega]; exact wrap_id (by omega) (by omega)
  refine ownU_inBlock ?_
  refine ownU_region (id := 10) (ops := opsOf (sel [1, 1, 1, 0, 1, 4, 4, 1, 1, 1] bodySt)) ?_
  refine ownU_quiet (i := 0) (rest := [1]) (.int .i64 ((idx + 1 : Nat) : Int)) rfl (by rfl) rfl (by decide) (fun _ => by rw [← hi]; kernel_rfl) ?_
  refine ownU_quiet (i := 1) (rest := []) (.int .i64 ((idx + 1 : Nat) : Int)) rfl (by rfl) rfl (by decide) (fun _ => by kernel_rfl) ?_
  refine ownU_region_end ?_
  refine ownU_inLoop ?_
  exact HK.out _ _ _ ⟨by kernel_rfl, by kernel_rfl, by kernel_rfl, by kernel_rfl, by kernel_rfl, by kernel_rfl, by kernel_rfl, by kernel_rfl⟩ q1 q2 q3
theorem st_end {main : Bool} {Z : Addr → Prop} {Stop : Goroutine → World → Prop} {w₀ u : World} {nF cF nz cz rb wb mb idx : Nat} {AF A1 : Option Addr} {ts : Array Value} {cs : List Frame} {v z : Value} {m : RS} {R : Nat → Prop} {b₀ : Frame} {a₀ : Act} {ops : Array Oper} {j : Nat} {rest : List Nat} {k₀ : List Item} (h : StTs ts AF nF cF A1 nz cz rb wb mb idx) (hi : nz ≤ idx) (D : BoxAt mb v u) (hs : SAt u R (.slice AF nF cF) v m) (Z0 : BoxAt rb z u)
    (hk : ∀ u', Vol rb u u' → OwnU Try.prog main Z Stop w₀ (G (b₀.at (a₀.put ((ops[j]?).bind (·.dst)) (.tuple #[ptr wb, v])) (.inRegion ops rest :: k₀)) cs) u') : OwnU Try.prog main Z Stop w₀ (stHead ts (b₀.at a₀ (.inRegion ops (j :: rest) :: k₀) :: cs)) u := by
  unfold stHead
  rw [h.lit]
  refine ownU_seq (x := sel [1, 1, 1, 0, 1, 4, 4, 0] bodySt) (y := sel [1, 1, 1, 0, 1, 4, 4, 1] bodySt) ?_
  refine ownU_region (id := 4) (ops := opsOf (sel [1, 1, 1, 0, 1, 4, 4, 0] bodySt)) ?_
  refine ownU_quiet (i := 0) (rest := []) (.bool false) rfl (by rfl) rfl (by decide) (fun _ => lss_v (p := (idx : Int)) (q := (nz : Int)) rfl (by kernel_rfl) (by kernel_rfl) (by simp; omega)) ?_
  refine ownU_region_end ?_
  refine ownU_seq (x := sel [1, 1, 1, 0, 1, 4, 4, 1, 0] bodySt) (y := sel [1, 1, 1, 0, 1, 4, 4, 1, 1] bodySt) ?_
  refine ownU_cond (c := .tmp 20) (x := .skip) (y := .exit 0) (t := false) (by kernel_rfl) ?_
  refine ownU_exit (k' := [.code (sel [1, 1, 1, 1] bodySt)]) rfl ?_
  refine ownU_seq (x := sel [1, 1, 1, 1, 0] bodySt) (y := sel [1, 1, 1, 1, 1] bodySt) ?_
  refine ownU_lit (List.toArray (.slice AF nF cF :: ts.getD 1 undef :: ts.getD 2 undef :: ts.getD 3 undef :: ts.getD 4 undef :: ptr rb :: ptr wb :: ptr mb :: ts.getD 8 undef :: ts.getD 9 undef :: ts.getD 10 undef :: ts.getD 11 undef :: ts.getD 12 undef :: ts.getD 13 undef :: ts.getD 14 undef :: ts.getD 15 undef :: ts.getD 16 undef :: .slice A1 nz cz :: .int .i64 (nz : Int) :: .int .i64 (idx : Int) :: .bool false :: ts.getD 21 undef :: ts.getD 22 undef :: ts.getD 23 undef :: ts.getD 24 undef :: ts.getD 25 undef :: ts.getD 26 undef :: ts.getD 27 undef :: ts.getD 28 undef :: ts.getD 29 undef :: ts.getD 30 undef :: ts.getD 31 undef :: ts.getD 32 undef :: ts.getD 33 undef :: ts.getD 34 undef :: ts.getD 35 undef :: ts.getD 36 undef :: ts.getD 37 undef :: ts.getD 38 undef :: ts.getD 39 undef :: ts.getD 40 undef :: ts.getD 41 undef :: ts.getD 42 undef :: ts.getD 43 undef :: ts.getD 44 undef :: ts.getD 45 undef :: ts.getD 46 undef :: [])) [] (by kernel_rfl) (by kernel_rfl) ?_
  refine ownU_codeM okL18 (by kernel_rfl) (by decide) ⟨_, Try.func52⟩ fun A d => ?_
  conv => arg 2; whnf
  have hk2 := fun u' (e : Vol rb (tp u A d) u') => hk u' ⟨e.os, e.output, e.size, e.block⟩
  have D1 : BoxAt mb v (tp u A d) := D
  have Z1 : BoxAt rb z (tp u A d) := Z0
  clear hk D Z0
  generalize tp u A d = u1 at *
  obtain ⟨A1', p1, r1, A2, p2, r2, A3, p3, r3, bb, rfl⟩ := hs.five
  obtain ⟨x0, x1, x2, x3, x4, hv, D⟩ := D1
  simp only [Value.agg.injEq, Array.mk.injEq, List.cons.injEq, and_true] at hv
  obtain ⟨rfl, rfl, rfl, rfl, rfl⟩ := hv
  obtain ⟨y0, y1, y2, y3, y4, rfl, Y⟩ := Z1
  clear hs
  obtain ⟨c0, c1, c2, c3, c4, fb⟩ := five_cells D
  have YD : u1.drew.heap[rb]? = _ := Y
  have DD : u1.drew.heap[mb]? = _ := D
  obtain ⟨c0', c1', c2', c3', c4', fb'⟩ := five_cells DD
  obtain ⟨d0, d1, d2, d3, d4, fy⟩ := five_cells YD
  obtain ⟨e0, e1, e2, e3, e4, fz⟩ := five_cells Y
  have hlt := blk_lt D
  have hlty := blk_lt Y
  have hmix : Try.prog.follows .mixedOrders = true := by kernel_rfl
  unfold ptr at *
  go_region_law (fail)
  all_goals
    refine atEndU ?_
    refine ownU_ret ?_
    obtain ⟨E1, E2, E3, E4⟩ := st5_at Y rfl
    refine ownU_leaveTC (t := 4) (r := 5) (ty := 68) (ad := ⟨rb, 0, none⟩) (fn := Try.f52) (v := _) rfl (by rfl) Try.func52 rfl (by kernel_rfl) (loads_box ⟨_, _, _, _, _, rfl, E1⟩) ?_
    have E5 := E4 0 (Nat.zero_le _)
    exact hk2 _ ⟨E5.os, E5.output, E5.size, fun b _ hb => E2 b hb⟩
end Go.Proofs.Ytolnmdanlggmhaa
