/- The coroutines of CoroDefers: a deferred append; a panic, a Block, or neither. (Printed by gen_defers1.py.) -/
import Derived.Test.YtolnmdanlggmhaaKpan
import Derived.Test.YtolnmdanlggmhaaProg
import Derived.Test.YtolnmdanlggmhaaKa
import Derived.LoopTactic
import Derived.IntWalk
import Derived.Outline
import Derived.Lib.AppendZeros
namespace Go.Proofs.Ytolnmdanlggmhaa
open Go.RowKit Go.Maps Go.Conc
open Go.ConcN (upd upd_ne upd_same)

set_option maxRecDepth 100000
set_option maxHeartbeats 2000000

noncomputable abbrev bodyD1 : Code := Try.f58.body.getD .skip
noncomputable abbrev bodyD2 : Code := Try.f59.body.getD .skip
def fvD1 (ob kb : Nat) : Value := .func (.func 58) #[] #[ptr ob, ptr kb]
def dDefer (ob xb : Nat) : Deferred := { target := .fn (.func 59) #[ptr ob, ptr xb], args := #[] }
/-- The box of a coroutine's parameter. -/
def BxAt (own : Nat → Nat) (xb c : Nat) (w : World) : Prop := own xb = 8 ∧ w.heap[xb]? = some (.cells #[ptr c] 58 (0, 0))
theorem BxAt.keep {own own' : Nat → Nat} {xb c : Nat} {w w' : World} (h : BxAt own xb c w) (le : OLe own own') (s : Same8 own w w') : BxAt own' xb c w' := ⟨le.tag h.1 (by omega), (s xb (by rw [h.1]; omega)).trans h.2⟩
/-- The slots, as far as the region has come. -/
def odAct (c : Nat) (ob : Nat) (v : Value) (v2 : Value) (nb : Nat) (id : Int) (xb : Nat) (l : Array Bool) : Act := ⟨List.toArray ((ptr ob) :: (ptr xb) :: (cond (l.getD 0 false) (v) (undef)) :: (cond (l.getD 1 false) (ptr c) (undef)) :: (cond (l.getD 2 false) (.int .i64 id) (undef)) :: (cond (l.getD 3 false) (.slice (some ⟨nb, 0, none⟩) 1 1) (undef)) :: (cond (l.getD 4 false) (v2) (undef)) :: []), []⟩
def odSt (main : Bool) (Z : Addr → Prop) (Stop : Goroutine → World → Prop) (w₀ : World) (k : List Item) (cs : List Frame) (c : Nat) (ob : Nat) (v : Value) (v2 : Value) (nb : Nat) (id : Int) (xb : Nat) (f : Nat) (l : Array Bool) (w : World) : Prop :=
  ∀ A d, SchedU Try.prog main Z Stop w₀ (baseD 59) (opsOf bodyD2) k cs f l (odAct c ob v v2 nb id xb l) (tp w A d)
/-- The deferred function: append. -/
theorem od_own {main : Bool} {Z : Addr → Prop} {Stop : Goroutine → World → Prop} {w₀ u : World} {k : List Item} {cs : List Frame} {c : Nat} {ob : Nat} {xb : Nat} {id : Int} {own : Nat → Nat} {xs : List Value} (h : OrdAt own ob xs u) (hlt : ∀ b, own b ≠ 0 → b < u.heap.size) (hlen : xs.length < 1000000)
    (hid : ∀ A d, Calls Try.prog 46 #[ptr c] (tp u A d) fun e w' => e = .returned (.int .i64 id) ∧ ∃ A d, w' = tp u A d) (hxb : u.cell? ⟨xb, 0, none⟩ = some (ptr c))
    (hk : ∀ v v2 nb own' u', OrdAt own' ob (xs ++ [.int .i64 id]) u' → Stp (fun t => t = 6 ∨ t = 7) own own' u u' → OwnU Try.prog main Z Stop w₀ (G ((baseD 59).at (odAct c ob v v2 nb id xb #[true, true, true, true, true, true]) k) cs) u') :
    OwnU Try.prog main Z Stop w₀ (G ((baseD 59).at ⟨#[ptr ob, ptr xb, undef, undef, undef, undef, undef], []⟩ (.code bodyD2 :: k)) cs) u := by
  have hh := h
  obtain ⟨⟨v, hbox, hrow, h7⟩, hob6⟩ := hh
  have hob : u.cell? ⟨ob, 0, none⟩ = some v := blk_cell hbox 0 _ rfl
  have hnew : New u (u.alloc (.cells #[.int .i64 id] 3)) := New.alloc u _
  have hob1 := hnew.cell hob
  have hxb1 := hnew.cell hxb
  obtain ⟨i0, hi, hz0, hz1, hz2⟩ := info_parts infoInt
  have hrow1 : QRow (u.alloc (.cells #[.int .i64 id] 3)) v xs := hrow.keep fun g hg => hnew.block g (hrow.lt g hg)
  have hcell : (u.alloc (.cells #[.int .i64 id] 3)).cell? ⟨u.heap.size, 0, none⟩ = some (.int .i64 id) := blk_cell (alloc_new' u _ rfl) 0 _ rfl
  obtain ⟨A0, n0, rfl, _, _⟩ := hrow.slice
  generalize hv : (Value.slice A0 xs.length n0) = v at *
  have hlast : odSt main Z Stop w₀ k cs c ob v undef u.heap.size id xb 2 #[true, true, true, true, false, false] (u.alloc (.cells #[.int .i64 id] 3)) := by
    intro A d t
    rw [go_one (i := 4) (by kernel_rfl), go_one (i := 5) (by kernel_rfl)]
    refine ownU_append (j := 4) (xs := xs) (v := v) (c := 1) (ad := ⟨u.heap.size, 0, none⟩) (y := .int .i64 id) rfl rfl (by rfl) rfl (by decide) Try.underlying22 hi hz0 hz1 hz2 rfl (by kernel_rfl) (hrow1.keep fun _ _ => rfl) (by kernel_rfl) hcell rfl (by unfold maxLen; omega) (by omega) fun v2 u2 q1 q2 q3 q4 q5 q6 => ?_
    obtain ⟨own', r1, r2, r3, r4⟩ := ord_stp (v' := v2) (u1 := u.alloc (.cells #[.int .i64 id] 3)) (u2 := u2) hlt hob6 h7 hbox hnew q1 q2 q3 q4 q5 q6
    obtain ⟨A2, n2, hv2, _, _⟩ := q1.slice
    refine ownU_store (i := 5) ⟨ob, 0, none⟩ v2 rfl (by rfl) rfl (by decide) (fun w e1 e2 => store_op (by rw [hv2]; exact stores_ints _ _ _) rfl (by kernel_rfl) (by kernel_rfl) (e1.trans r3) (e2.trans r4)) ?_
    refine ownU_region_end ?_
    exact ownU_eq (by kernel_rfl) (hk v v2 u.heap.size own' _ r1 r2)
  have h_0_1_2 : odSt main Z Stop w₀ k cs c ob v undef u.heap.size id xb 3 #[true, true, true, false, false, false] (u) := by
    intro A d
    refine schedU_succ (rs := [3]) (by kernel_rfl) (by decide) fun i hi t => ?_
    have hi' : i = 3 := by simpa using hi
    subst hi'
    refine ownU_newV (fun n => .slice (some ⟨n, 0, none⟩) 1 1) (.cells #[.int .i64 id] 3) (i := 3) rfl (by rfl) rfl (by decide) (fun _ => by kernel_rfl) ?_
    exact schedU_to (by kernel_rfl) (by kernel_rfl) (hlast _ _) t
  have h_1_2_3 : odSt main Z Stop w₀ k cs c ob v undef u.heap.size id xb 3 #[false, true, true, true, false, false] (u.alloc (.cells #[.int .i64 id] 3)) := by
    intro A d
    refine schedU_succ (rs := [0]) (by kernel_rfl) (by decide) fun i hi t => ?_
    have hi' : i = 0 := by simpa using hi
    subst hi'
    refine ownU_load (i := 0) ⟨ob, 0, none⟩ (v) rfl (by rfl) (by decide) loads_ints rfl (by kernel_rfl) hob1 ?_
    exact schedU_to (by kernel_rfl) (by kernel_rfl) (hlast _ _) t
  have h_0_1 : odSt main Z Stop w₀ k cs c ob v undef u.heap.size id xb 4 #[true, true, false, false, false, false] (u) := by
    intro A d
    refine schedU_succ (rs := [2]) (by kernel_rfl) (by decide) fun i hi t => ?_
    have hi' : i = 2 := by simpa using hi
    subst hi'
    refine ownU_callK (i := 2) (L := lone18) (R := fun e w' => e = .returned (.int .i64 id) ∧ ∃ A d, w' = tp u A d) okL18 (by decide) rfl rfl (by kernel_rfl) (by rfl) (by decide) (fun A d => calls_eq (by kernel_rfl) (hid A d)) (fun e w h => ⟨_, h.1⟩) fun z u' hR => ?_
    obtain ⟨e, A, d, rfl⟩ := hR
    injection e with e
    subst e
    exact schedU_to (by kernel_rfl) (by kernel_rfl) (h_0_1_2 _ _) t
  have h_1_2 : odSt main Z Stop w₀ k cs c ob v undef u.heap.size id xb 4 #[false, true, true, false, false, false] (u) := by
    intro A d
    refine schedU_succ (rs := [0, 3]) (by kernel_rfl) (by decide) fun i hi t => ?_
    have hi' : i = 0 ∨ i = 3 := by simpa using hi
    rcases hi' with rfl | rfl
    · skip
      refine ownU_load (i := 0) ⟨ob, 0, none⟩ (v) rfl (by rfl) (by decide) loads_ints rfl (by kernel_rfl) hob ?_
      exact schedU_to (by kernel_rfl) (by kernel_rfl) (h_0_1_2 _ _) t
    · skip
      refine ownU_newV (fun n => .slice (some ⟨n, 0, none⟩) 1 1) (.cells #[.int .i64 id] 3) (i := 3) rfl (by rfl) rfl (by decide) (fun _ => by kernel_rfl) ?_
      exact schedU_to (by kernel_rfl) (by kernel_rfl) (h_1_2_3 _ _) t
  have h_0 : odSt main Z Stop w₀ k cs c ob v undef u.heap.size id xb 5 #[true, false, false, false, false, false] (u) := by
    intro A d
    refine schedU_succ (rs := [1]) (by kernel_rfl) (by decide) fun i hi t => ?_
    have hi' : i = 1 := by simpa using hi
    subst hi'
    refine ownU_load (i := 1) ⟨xb, 0, none⟩ (ptr c) rfl (by rfl) (by decide) loads_co rfl (by kernel_rfl) hxb ?_
    exact schedU_to (by kernel_rfl) (by kernel_rfl) (h_0_1 _ _) t
  have h_1 : odSt main Z Stop w₀ k cs c ob v undef u.heap.size id xb 5 #[false, true, false, false, false, false] (u) := by
    intro A d
    refine schedU_succ (rs := [0, 2]) (by kernel_rfl) (by decide) fun i hi t => ?_
    have hi' : i = 0 ∨ i = 2 := by simpa using hi
    rcases hi' with rfl | rfl
    · skip
      refine ownU_load (i := 0) ⟨ob, 0, none⟩ (v) rfl (by rfl) (by decide) loads_ints rfl (by kernel_rfl) hob ?_
      exact schedU_to (by kernel_rfl) (by kernel_rfl) (h_0_1 _ _) t
    · skip
      refine ownU_callK (i := 2) (L := lone18) (R := fun e w' => e = .returned (.int .i64 id) ∧ ∃ A d, w' = tp u A d) okL18 (by decide) rfl rfl (by kernel_rfl) (by rfl) (by decide) (fun A d => calls_eq (by kernel_rfl) (hid A d)) (fun e w h => ⟨_, h.1⟩) fun z u' hR => ?_
      obtain ⟨e, A, d, rfl⟩ := hR
      injection e with e
      subst e
      exact schedU_to (by kernel_rfl) (by kernel_rfl) (h_1_2 _ _) t
  have h : odSt main Z Stop w₀ k cs c ob v undef u.heap.size id xb 6 #[false, false, false, false, false, false] (u) := by
    intro A d
    refine schedU_succ (rs := [0, 1]) (by kernel_rfl) (by decide) fun i hi t => ?_
    have hi' : i = 0 ∨ i = 1 := by simpa using hi
    rcases hi' with rfl | rfl
    · skip
      refine ownU_load (i := 0) ⟨ob, 0, none⟩ (v) rfl (by rfl) (by decide) loads_ints rfl (by kernel_rfl) hob ?_
      exact schedU_to (by kernel_rfl) (by kernel_rfl) (h_0 _ _) t
    · skip
      refine ownU_load (i := 1) ⟨xb, 0, none⟩ (ptr c) rfl (by rfl) (by decide) loads_co rfl (by kernel_rfl) hxb ?_
      exact schedU_to (by kernel_rfl) (by kernel_rfl) (h_1 _ _) t
  exact schedU_start (n := 6) (by kernel_rfl) rfl fun A d => by
    intro t
    exact schedU_to (act := odAct c ob v undef u.heap.size id xb #[false, false, false, false, false, false]) (by kernel_rfl) rfl (h A d) t
/-- A frame on its way out makes its deferred call. -/
theorem dfr_own {main : Bool} {Z : Addr → Prop} {Stop : Goroutine → World → Prop} {w₀ u : World} {fr : Frame} {cs : List Frame} {c ob xb : Nat} {id : Int} {own : Nat → Nat} {xs : List Value} (hm : fr.mode = .returning ∨ ∃ v, fr.mode = .panicking [{ v := v, recovered := false }]) (hd : fr.defers = [dDefer ob xb]) (ho : OrdAt own ob xs u) (hlt : ∀ b, own b ≠ 0 → b < u.heap.size) (hlen : xs.length < 1000000)
    (hid : ∀ A d, Calls Try.prog 46 #[ptr c] (tp u A d) fun e w' => e = .returned (.int .i64 id) ∧ ∃ A d, w' = tp u A d) (hxb : u.cell? ⟨xb, 0, none⟩ = some (ptr c))
    (hk : ∀ own' u', OrdAt own' ob (xs ++ [.int .i64 id]) u' → Stp (fun t => t = 6 ∨ t = 7) own own' u u' → OwnU Try.prog main Z Stop w₀ (G { fr with defers := [] } cs) u') : OwnU Try.prog main Z Stop w₀ (G fr cs) u := by
  refine ownU_deferred (args := #[]) (ca := #[ptr ob, ptr xb]) (ds := []) (by rcases hm with h | ⟨v, h⟩ <;> rw [h] <;> simp) hd Try.func59 (by kernel_rfl) rfl ?_
  refine ownU_fr (fr2 := (baseD 59).at ⟨#[ptr ob, ptr xb, undef, undef, undef, undef, undef], []⟩ [.code bodyD2]) (by kernel_rfl) ?_
  refine od_own ho hlt hlen hid hxb fun v v2 nb own' u' h1 h2 => ?_
  refine ownU_end ?_
  refine ownU_popD (fn := Try.f59) rfl rfl Try.func59 rfl ?_ (hk own' u' h1 h2)
  rcases hm with h | ⟨v, h⟩
  · exact .inl h
  · exact .inr ⟨v, h⟩
theorem rem_3 {a : Act} {o : Oper} {x : Operand} {z m : Int} (w : World) (ho : o.op = .binOp .rem 5 x (.const (.int .u8 3)) 5) (hx : a.eval x = .int .u8 z) (hz : 0 ≤ z ∧ z < 256) (hm : z % 3 = m) : (execOp a.eval o).run Try.prog w = .ok (.value (.int .u8 m)) w := by
  have h4 : z.tmod 3 = z % 3 := Int.tmod_eq_emod_of_nonneg hz.1
  have hc : a.eval (.const (.int .u8 3)) = .int .u8 3 := rfl
  unfold execOp
  simp only [ho, hx, hc]
  simp [go_sem, h4, hm]
theorem eql_u8 {a : Act} {o : Oper} {x y : Operand} {p q : Int} {r : Bool} {w : World} (ho : o.op = .binOp .eql 5 x y 5) (hx : a.eval x = .int .u8 p) (hy : a.eval y = .int .u8 q) (hr : decide (p = q) = r) : (execOp a.eval o).run Try.prog w = .ok (.value (.bool r)) w := by
  unfold execOp
  simp only [ho, hx, hy]
  by_cases h : p = q <;> simp [go_sem, ← hr, h]
/-- What follows the deferred call in a frame that panics: the caller panics. -/
theorem d_panic {main : Bool} {Z : Addr → Prop} {Stop : Goroutine → World → Prop} {w₀ u : World} {c ob kb : Nat} {z m : Int} {cs : List Frame} {fr : Frame} (hkb : u.cell? ⟨kb, 0, none⟩ = some (.int .u8 z)) (hz : 0 ≤ z ∧ z < 256) (hm : z % 3 = m) (h0 : m = 0)
    (hk : ∀ xb, u.heap.size = xb → ∀ u1, New u u1 → u1.heap.size = u.heap.size + 1 → u1.heap[xb]? = some (.cells #[ptr c] 58 (0, 0)) → ∀ v u2 out fr2, New u1 u2 → NotEnd v → TextOf v out → fr2.mode = .panicking [{ v := v, recovered := false }] → fr2.defers = [dDefer ob xb] → fr2.fn = 58 → OwnU Try.prog main Z Stop w₀ (G fr2 (fr :: cs)) u2) : OwnU Try.prog main Z Stop w₀ (G ((base 58).at ⟨#[ptr c, ptr ob, ptr kb, undef, undef, undef, undef, undef, undef, undef, undef, undef, undef, undef, undef, undef, undef, undef], []⟩ [.code bodyD1]) (fr :: cs)) u := by
  refine ownU_seq (x := sel [0] bodyD1) (y := sel [1] bodyD1) ?_
  refine ownU_region (id := 0) (ops := opsOf (sel [0] bodyD1)) ?_
  refine ownU_new (.cells #[ptr c] 58) (i := 0) (rest := []) rfl (by rfl) rfl (by decide) (fun _ => by kernel_rfl) ?_
  have hnew := New.alloc u (.cells #[ptr c] 58)
  have hblk : (u.alloc (.cells #[ptr c] 58)).heap[u.heap.size]? = some (.cells #[ptr c] 58) := alloc_new' u _ rfl
  have hsz : (u.alloc (.cells #[ptr c] 58)).heap.size = u.heap.size + 1 := World.size_alloc _ _
  replace hk := hk u.heap.size rfl
  generalize u.alloc (.cells #[ptr c] 58) = u1 at *
  generalize hxbn : u.heap.size = xb at *
  replace hkb := hnew.cell hkb
  refine ownU_region_end ?_
  refine ownU_seq (x := sel [1, 0] bodyD1) (y := sel [1, 1] bodyD1) ?_
  refine ownU_region (id := 1) (ops := opsOf (sel [1, 0] bodyD1)) ?_
  refine ownU_quiet (i := 0) (rest := [1]) (.func (.func 59) #[] #[ptr ob, ptr xb]) rfl (by rfl) rfl (by decide) (fun _ => by kernel_rfl) ?_
  refine ownU_defer (i := 1) (rest := []) (d := dDefer ob xb) rfl (by rfl) (by decide) (fun _ => by kernel_rfl) (fun _ => by kernel_rfl) ?_
  refine ownU_region_end ?_
  refine ownU_lit (#[ptr c, ptr ob, ptr kb, ptr xb, .func (.func 59) #[] #[ptr ob, ptr xb], undef, undef, undef, undef, undef, undef, undef, undef, undef, undef, undef, undef, undef]) [dDefer ob xb] (by kernel_rfl) (by kernel_rfl) ?_
  refine ownU_seq (x := sel [1, 1, 0] bodyD1) (y := sel [1, 1, 1] bodyD1) ?_
  refine ownU_region (id := 2) (ops := opsOf (sel [1, 1, 0] bodyD1)) ?_
  refine ownU_load (i := 0) (rest := [1]) ⟨kb, 0, none⟩ (.int .u8 z) rfl (by rfl) (by decide) loads_u8 rfl (by kernel_rfl) hkb ?_
  refine ownU_quiet (i := 1) (rest := []) (.int .u8 m) rfl (by rfl) rfl (by decide) (fun w => rem_3 w rfl (by kernel_rfl) hz hm) ?_
  refine ownU_region_end ?_
  refine ownU_block (id := 0) (c := sel [1, 1, 1, 4] bodyD1) ?_
  refine ownU_lit (#[ptr c, ptr ob, ptr kb, ptr xb, .func (.func 59) #[] #[ptr ob, ptr xb], .int .u8 z, .int .u8 m, undef, undef, undef, undef, undef, undef, undef, undef, undef, undef, undef]) [dDefer ob xb] (by kernel_rfl) (by kernel_rfl) ?_
  refine ownU_seq (x := sel [1, 1, 1, 4, 0] bodyD1) (y := sel [1, 1, 1, 4, 1] bodyD1) ?_
  refine ownU_region (id := 3) (ops := opsOf (sel [1, 1, 1, 4, 0] bodyD1)) ?_
  refine ownU_quiet (i := 0) (rest := [1]) (.bool true) rfl (by rfl) rfl (by decide) (fun _ => eql_u8 (p := m) (q := 0) rfl (by kernel_rfl) (by kernel_rfl) (by simp [h0])) ?_
  refine ownU_quiet (i := 1) (rest := []) (.bool true) rfl (by rfl) rfl (by decide) (fun _ => by kernel_rfl) ?_
  refine ownU_region_end ?_
  have hxc : u1.cell? ⟨xb, 0, none⟩ = some (ptr c) := blk_cell hblk 0 _ rfl
  refine ownU_cond (c := .tmp 7) (x := sel [1, 1, 1, 4, 1, 2] bodyD1) (y := sel [1, 1, 1, 4, 1, 3] bodyD1) (t := true) (by kernel_rfl) ?_
  refine ownU_region (id := 4) (ops := opsOf (sel [1, 1, 1, 4, 1, 2] bodyD1)) ?_
  refine ownU_load (i := 0) (rest := [1]) ⟨xb, 0, none⟩ (ptr c) rfl (by rfl) (by decide) loads_co rfl (by kernel_rfl) hxc ?_
  refine ownU_lit (#[ptr c, ptr ob, ptr kb, ptr xb, .func (.func 59) #[] #[ptr ob, ptr xb], .int .u8 z, .int .u8 m, .bool true, .bool true, ptr c, undef, undef, undef, undef, undef, undef, undef, undef]) [dDefer ob xb] (by kernel_rfl) (by kernel_rfl) ?_
  refine ownU_enter (i := 1) (rest := []) (f := 39) rfl (by rfl) (by decide) rfl Try.func39 (by kernel_rfl) rfl ?_
  refine ownU_fr (fr2 := (base 39).at ⟨#[ptr c, .nilIface, undef, undef, undef], []⟩ [.code bodyPn]) (by kernel_rfl) ?_
  refine ownU_region (id := 0) (ops := opsOf bodyPn) ?_
  refine ownU_quiet (i := 0) (rest := [1]) .nilIface rfl (by rfl) rfl (by decide) (fun _ => by kernel_rfl) ?_
  refine ownU_panicNil (i := 1) (rest := []) (x := .tmp 4) rfl rfl (by kernel_rfl) (by rfl) (by decide) fun v u2 out hn2 hv hT => ?_
  refine ownU_unwind rfl rfl Try.func39 ?_
  rw [raise_raise rfl]
  exact hk u1 hnew (by omega) hblk v u2 out _ hn2 hv hT rfl rfl rfl
/-- A coroutine's slots at its call of Block. -/
noncomputable def dAct (c ob kb xb : Nat) (z m : Int) : Act := ⟨#[ptr c, ptr ob, ptr kb, ptr xb, .func (.func 59) #[] #[ptr ob, ptr xb], .int .u8 z, .int .u8 m, .bool false, .bool false, undef, undef, .bool true, .bool true, ptr c, undef, undef, undef, undef], [dDefer ob xb]⟩
theorem d_block {main : Bool} {Z : Addr → Prop} {Stop : Goroutine → World → Prop} {w₀ u : World} {c ob kb : Nat} {z m : Int} {cs : List Frame} (hkb : u.cell? ⟨kb, 0, none⟩ = some (.int .u8 z)) (hz : 0 ≤ z ∧ z < 256) (hm : z % 3 = m) (h1 : m = 1)
    (hk : ∀ xb, u.heap.size = xb → ∀ u1, New u u1 → u1.heap.size = u.heap.size + 1 → u1.heap[xb]? = some (.cells #[ptr c] 58 (0, 0)) → OwnU Try.prog main Z Stop w₀ (blockIn c ((base 58).at (dAct c ob kb xb z m) (.inRegion (opsOf (sel [1, 1, 1, 4, 1, 3, 1, 2, 0] bodyD1)) (1 :: []) :: [.code (sel [1, 1, 1, 4, 1, 3, 1, 2, 1] bodyD1), .inBlock 0]) :: cs)) u1) : OwnU Try.prog main Z Stop w₀ (G ((base 58).at ⟨#[ptr c, ptr ob, ptr kb, undef, undef, undef, undef, undef, undef, undef, undef, undef, undef, undef, undef, undef, undef, undef], []⟩ [.code bodyD1]) cs) u := by
  refine ownU_seq (x := sel [0] bodyD1) (y := sel [1] bodyD1) ?_
  refine ownU_region (id := 0) (ops := opsOf (sel [0] bodyD1)) ?_
  refine ownU_new (.cells #[ptr c] 58) (i := 0) (rest := []) rfl (by rfl) rfl (by decide) (fun _ => by kernel_rfl) ?_
  have hnew := New.alloc u (.cells #[ptr c] 58)
  have hblk : (u.alloc (.cells #[ptr c] 58)).heap[u.heap.size]? = some (.cells #[ptr c] 58) := alloc_new' u _ rfl
  have hsz : (u.alloc (.cells #[ptr c] 58)).heap.size = u.heap.size + 1 := World.size_alloc _ _
  replace hk := hk u.heap.size rfl
  generalize u.alloc (.cells #[ptr c] 58) = u1 at *
  generalize hxbn : u.heap.size = xb at *
  replace hkb := hnew.cell hkb
  refine ownU_region_end ?_
  refine ownU_seq (x := sel [1, 0] bodyD1) (y := sel [1, 1] bodyD1) ?_
  refine ownU_region (id := 1) (ops := opsOf (sel [1, 0] bodyD1)) ?_
  refine ownU_quiet (i := 0) (rest := [1]) (.func (.func 59) #[] #[ptr ob, ptr xb]) rfl (by rfl) rfl (by decide) (fun _ => by kernel_rfl) ?_
  refine ownU_defer (i := 1) (rest := []) (d := dDefer ob xb) rfl (by rfl) (by decide) (fun _ => by kernel_rfl) (fun _ => by kernel_rfl) ?_
  refine ownU_region_end ?_
  refine ownU_lit (#[ptr c, ptr ob, ptr kb, ptr xb, .func (.func 59) #[] #[ptr ob, ptr xb], undef, undef, undef, undef, undef, undef, undef, undef, undef, undef, undef, undef, undef]) [dDefer ob xb] (by kernel_rfl) (by kernel_rfl) ?_
  refine ownU_seq (x := sel [1, 1, 0] bodyD1) (y := sel [1, 1, 1] bodyD1) ?_
  refine ownU_region (id := 2) (ops := opsOf (sel [1, 1, 0] bodyD1)) ?_
  refine ownU_load (i := 0) (rest := [1]) ⟨kb, 0, none⟩ (.int .u8 z) rfl (by rfl) (by decide) loads_u8 rfl (by kernel_rfl) hkb ?_
  refine ownU_quiet (i := 1) (rest := []) (.int .u8 m) rfl (by rfl) rfl (by decide) (fun w => rem_3 w rfl (by kernel_rfl) hz hm) ?_
  refine ownU_region_end ?_
  refine ownU_block (id := 0) (c := sel [1, 1, 1, 4] bodyD1) ?_
  refine ownU_lit (#[ptr c, ptr ob, ptr kb, ptr xb, .func (.func 59) #[] #[ptr ob, ptr xb], .int .u8 z, .int .u8 m, undef, undef, undef, undef, undef, undef, undef, undef, undef, undef, undef]) [dDefer ob xb] (by kernel_rfl) (by kernel_rfl) ?_
  refine ownU_seq (x := sel [1, 1, 1, 4, 0] bodyD1) (y := sel [1, 1, 1, 4, 1] bodyD1) ?_
  refine ownU_region (id := 3) (ops := opsOf (sel [1, 1, 1, 4, 0] bodyD1)) ?_
  refine ownU_quiet (i := 0) (rest := [1]) (.bool false) rfl (by rfl) rfl (by decide) (fun _ => eql_u8 (p := m) (q := 0) rfl (by kernel_rfl) (by kernel_rfl) (by simp [h1])) ?_
  refine ownU_quiet (i := 1) (rest := []) (.bool false) rfl (by rfl) rfl (by decide) (fun _ => by kernel_rfl) ?_
  refine ownU_region_end ?_
  have hxc : u1.cell? ⟨xb, 0, none⟩ = some (ptr c) := blk_cell hblk 0 _ rfl
  refine ownU_cond (c := .tmp 7) (x := sel [1, 1, 1, 4, 1, 2] bodyD1) (y := sel [1, 1, 1, 4, 1, 3] bodyD1) (t := false) (by kernel_rfl) ?_
  refine ownU_seq (x := sel [1, 1, 1, 4, 1, 3, 0] bodyD1) (y := sel [1, 1, 1, 4, 1, 3, 1] bodyD1) ?_
  refine ownU_region (id := 5) (ops := opsOf (sel [1, 1, 1, 4, 1, 3, 0] bodyD1)) ?_
  refine ownU_quiet (i := 0) (rest := [1]) (.bool true) rfl (by rfl) rfl (by decide) (fun _ => eql_u8 (p := m) (q := 1) rfl (by kernel_rfl) (by kernel_rfl) (by simp [h1])) ?_
  refine ownU_quiet (i := 1) (rest := []) (.bool true) rfl (by rfl) rfl (by decide) (fun _ => by kernel_rfl) ?_
  refine ownU_region_end ?_
  refine ownU_cond (c := .tmp 11) (x := sel [1, 1, 1, 4, 1, 3, 1, 2] bodyD1) (y := .skip) (t := true) (by kernel_rfl) ?_
  refine ownU_seq (x := sel [1, 1, 1, 4, 1, 3, 1, 2, 0] bodyD1) (y := sel [1, 1, 1, 4, 1, 3, 1, 2, 1] bodyD1) ?_
  refine ownU_region (id := 6) (ops := opsOf (sel [1, 1, 1, 4, 1, 3, 1, 2, 0] bodyD1)) ?_
  refine ownU_load (i := 0) (rest := [1]) ⟨xb, 0, none⟩ (ptr c) rfl (by rfl) (by decide) loads_co rfl (by kernel_rfl) hxc ?_
  refine ownU_lit (#[ptr c, ptr ob, ptr kb, ptr xb, .func (.func 59) #[] #[ptr ob, ptr xb], .int .u8 z, .int .u8 m, .bool false, .bool false, undef, undef, .bool true, .bool true, ptr c, undef, undef, undef, undef]) [dDefer ob xb] (by kernel_rfl) (by kernel_rfl) ?_
  refine ownU_enter (i := 1) (rest := []) (f := 60) rfl (by rfl) (by decide) rfl Try.func60 (by kernel_rfl) rfl ?_
  exact ownU_eq (by kernel_rfl) (hk u1 hnew (by omega) hblk)
theorem d_ret {main : Bool} {Z : Addr → Prop} {Stop : Goroutine → World → Prop} {w₀ u : World} {c ob kb : Nat} {z m : Int} {cs : List Frame} (hkb : u.cell? ⟨kb, 0, none⟩ = some (.int .u8 z)) (hz : 0 ≤ z ∧ z < 256) (hm : z % 3 = m) (h2 : m = 2)
    (hk : ∀ xb, u.heap.size = xb → ∀ u1, New u u1 → u1.heap.size = u.heap.size + 1 → u1.heap[xb]? = some (.cells #[ptr c] 58 (0, 0)) → ∀ ts, OwnU Try.prog main Z Stop w₀ (G { (base 58).at ⟨ts, [dDefer ob xb]⟩ [] with mode := .returning } cs) u1) : OwnU Try.prog main Z Stop w₀ (G ((base 58).at ⟨#[ptr c, ptr ob, ptr kb, undef, undef, undef, undef, undef, undef, undef, undef, undef, undef, undef, undef, undef, undef, undef], []⟩ [.code bodyD1]) cs) u := by
  refine ownU_seq (x := sel [0] bodyD1) (y := sel [1] bodyD1) ?_
  refine ownU_region (id := 0) (ops := opsOf (sel [0] bodyD1)) ?_
  refine ownU_new (.cells #[ptr c] 58) (i := 0) (rest := []) rfl (by rfl) rfl (by decide) (fun _ => by kernel_rfl) ?_
  have hnew := New.alloc u (.cells #[ptr c] 58)
  have hblk : (u.alloc (.cells #[ptr c] 58)).heap[u.heap.size]? = some (.cells #[ptr c] 58) := alloc_new' u _ rfl
  have hsz : (u.alloc (.cells #[ptr c] 58)).heap.size = u.heap.size + 1 := World.size_alloc _ _
  replace hk := hk u.heap.size rfl
  generalize u.alloc (.cells #[ptr c] 58) = u1 at *
  generalize hxbn : u.heap.size = xb at *
  replace hkb := hnew.cell hkb
  refine ownU_region_end ?_
  refine ownU_seq (x := sel [1, 0] bodyD1) (y := sel [1, 1] bodyD1) ?_
  refine ownU_region (id := 1) (ops := opsOf (sel [1, 0] bodyD1)) ?_
  refine ownU_quiet (i := 0) (rest := [1]) (.func (.func 59) #[] #[ptr ob, ptr xb]) rfl (by rfl) rfl (by decide) (fun _ => by kernel_rfl) ?_
  refine ownU_defer (i := 1) (rest := []) (d := dDefer ob xb) rfl (by rfl) (by decide) (fun _ => by kernel_rfl) (fun _ => by kernel_rfl) ?_
  refine ownU_region_end ?_
  refine ownU_lit (#[ptr c, ptr ob, ptr kb, ptr xb, .func (.func 59) #[] #[ptr ob, ptr xb], undef, undef, undef, undef, undef, undef, undef, undef, undef, undef, undef, undef, undef]) [dDefer ob xb] (by kernel_rfl) (by kernel_rfl) ?_
  refine ownU_seq (x := sel [1, 1, 0] bodyD1) (y := sel [1, 1, 1] bodyD1) ?_
  refine ownU_region (id := 2) (ops := opsOf (sel [1, 1, 0] bodyD1)) ?_
  refine ownU_load (i := 0) (rest := [1]) ⟨kb, 0, none⟩ (.int .u8 z) rfl (by rfl) (by decide) loads_u8 rfl (by kernel_rfl) hkb ?_
  refine ownU_quiet (i := 1) (rest := []) (.int .u8 m) rfl (by rfl) rfl (by decide) (fun w => rem_3 w rfl (by kernel_rfl) hz hm) ?_
  refine ownU_region_end ?_
  refine ownU_block (id := 0) (c := sel [1, 1, 1, 4] bodyD1) ?_
  refine ownU_lit (#[ptr c, ptr ob, ptr kb, ptr xb, .func (.func 59) #[] #[ptr ob, ptr xb], .int .u8 z, .int .u8 m, undef, undef, undef, undef, undef, undef, undef, undef, undef, undef, undef]) [dDefer ob xb] (by kernel_rfl) (by kernel_rfl) ?_
  refine ownU_seq (x := sel [1, 1, 1, 4, 0] bodyD1) (y := sel [1, 1, 1, 4, 1] bodyD1) ?_
  refine ownU_region (id := 3) (ops := opsOf (sel [1, 1, 1, 4, 0] bodyD1)) ?_
  refine ownU_quiet (i := 0) (rest := [1]) (.bool false) rfl (by rfl) rfl (by decide) (fun _ => eql_u8 (p := m) (q := 0) rfl (by kernel_rfl) (by kernel_rfl) (by simp [h2])) ?_
  refine ownU_quiet (i := 1) (rest := []) (.bool false) rfl (by rfl) rfl (by decide) (fun _ => by kernel_rfl) ?_
  refine ownU_region_end ?_
  refine ownU_cond (c := .tmp 7) (x := sel [1, 1, 1, 4, 1, 2] bodyD1) (y := sel [1, 1, 1, 4, 1, 3] bodyD1) (t := false) (by kernel_rfl) ?_
  refine ownU_seq (x := sel [1, 1, 1, 4, 1, 3, 0] bodyD1) (y := sel [1, 1, 1, 4, 1, 3, 1] bodyD1) ?_
  refine ownU_region (id := 5) (ops := opsOf (sel [1, 1, 1, 4, 1, 3, 0] bodyD1)) ?_
  refine ownU_quiet (i := 0) (rest := [1]) (.bool false) rfl (by rfl) rfl (by decide) (fun _ => eql_u8 (p := m) (q := 1) rfl (by kernel_rfl) (by kernel_rfl) (by simp [h2])) ?_
  refine ownU_quiet (i := 1) (rest := []) (.bool false) rfl (by rfl) rfl (by decide) (fun _ => by kernel_rfl) ?_
  refine ownU_region_end ?_
  refine ownU_cond (c := .tmp 11) (x := sel [1, 1, 1, 4, 1, 3, 1, 2] bodyD1) (y := .skip) (t := false) (by kernel_rfl) ?_
  refine ownU_skip ?_
  refine ownU_inBlock ?_
  refine ownU_lit (#[ptr c, ptr ob, ptr kb, ptr xb, .func (.func 59) #[] #[ptr ob, ptr xb], .int .u8 z, .int .u8 m, .bool false, .bool false, undef, undef, .bool false, .bool false, undef, undef, undef, undef, undef]) [dDefer ob xb] (by kernel_rfl) (by kernel_rfl) ?_
  refine ownU_end ?_
  exact hk u1 hnew (by omega) hblk _
end Go.Proofs.Ytolnmdanlggmhaa

/- The coroutines of CoroDefers, told by the crew: the turn of each; its end by Close. -/
namespace Go.Proofs.Ytolnmdanlggmhaa
open Go.RowKit Go.Maps Go.Conc
open Go.ConcN (upd upd_ne upd_same)

set_option maxRecDepth 100000
set_option maxHeartbeats 2000000

noncomputable abbrev opsD1 : Array Oper := opsOf (sel [1, 1, 1, 4, 1, 3, 1, 2, 0] bodyD1)
noncomputable abbrev restD1 : List Item := [.code (sel [1, 1, 1, 4, 1, 3, 1, 2, 1] bodyD1), .inBlock 0]
/-- What is known of one that waits. -/
def DWaits (c : CoR) (sb nb ob kb xb : Nat) (z m : Int) (g : Goroutine) : Prop :=
  Waiter c.b sb (base 58) (dAct c.b ob kb xb z m) opsD1 1 [] restD1 [runFrame c.b nb c.ch c.f, botR] g

section
variable {Post : Value → World → Prop} {E : Env} {h : Nat} {own : Nat → Nat} {S : Sch} {ks : List Kid} {FC : List Row} {n : Nat} {Inb : Nat → Option Seat} {w : World} {i nb kb ob xb : Nat} {c : CoR} {k : Kid} {g0 : Goroutine} {xs : List Value} {m z : Int}

/-- A frame of a coroutine's function that panics: its deferred call, then run's. -/
theorem d_raised {main : Bool} {Z : Addr → Prop} {Stop : Goroutine → World → Prop} {w₀ u : World} {fr : Frame} {v : Value} {nb ch : Nat} {fv : Value} (hm : fr.mode = .panicking [{ v := v, recovered := false }]) (hd : fr.defers = [dDefer ob xb]) (hfn : fr.fn = 58) (si : SI own S u) (hlt : ∀ b, own b ≠ 0 → b < u.heap.size) (hi : S.cos[i]? = some c) (ho : OrdAt own ob xs u) (hlen : xs.length < 1000000) (hxb : u.cell? ⟨xb, 0, none⟩ = some (ptr c.b))
    (hk : ∀ own' u', OrdAt own' ob (xs ++ [idv i]) u' → Stp (fun t => t = 6 ∨ t = 7) own own' u u' → OwnU Try.prog main Z Stop w₀ (G ((runFrame c.b nb ch fv).raise [{ v := v, recovered := false }]) [botR]) u') : OwnU Try.prog main Z Stop w₀ (G fr (runFrame c.b nb ch fv :: [botR])) u := by
  refine dfr_own (.inr ⟨v, hm⟩) hd ho hlt hlen (id_u (si.co i c hi)) hxb fun own' u' h1 h2 => ?_
  exact ownU_unwind (fr := { fr with defers := [] }) hm rfl (by rw [hfn]; exact Try.func58) (hk own' u' h1 h2)

theorem d_first (C : CI E h own S ks FC n Inb w) (hi : S.cos[i]? = some c) (hk : ks[i]? = some k) (ht : k.tag = 2) (hst : c.st ≠ 3) (hbox : (⟨nb, 0, [ptr c.b]⟩ : Row) ∈ FC) (hf : c.f = fvD1 ob kb) (hkb : KbAt own kb z w) (hz : 0 ≤ z ∧ z < 256) (hm : z % 3 = m) (hcl : S.closed = false) (ho : OrdAt own ob xs w) (hlen : xs.length < 1000000)
    (hI0 : Inb 0 = some (Seat.one S.sc (.agg #[]) false (· = g0)))
    (nextP : m = 0 → ∀ own' out Inb' w', CI E 0 own' { S with cos := S.cos.set i { c with st := 4, txt := out } } (ks.set i ⟨3, h, default⟩) FC n Inb' w' → Inb' 0 = Inb 0 → OrdAt own' ob (xs ++ [idv i]) w' → OLe own own' → Same8 own w w' → Won Try.prog Post FC n Inb' 0 (Conc.served g0 (.agg #[])) w')
    (nextB : m = 1 → ∀ own' xb g Inb' w', DWaits c S.sb nb ob kb xb z m g → BxAt own' xb c.b w' → CI E 0 own' { S with cos := S.cos.set i { c with st := 2 } } (ks.set i ⟨1, h, g⟩) FC n Inb' w' → Inb' 0 = Inb 0 → OrdAt own' ob xs w' → OLe own own' → Same8 own w w' → Won Try.prog Post FC n Inb' 0 (Conc.served g0 (.agg #[])) w')
    (nextR : m = 2 → ∀ own' Inb' w', CI E 0 own' { S with cos := S.cos.set i { c with st := 3 } } (ks.set i ⟨3, h, default⟩) FC n Inb' w' → Inb' 0 = Inb 0 → OrdAt own' ob (xs ++ [idv i]) w' → OLe own own' → Same8 own w w' → Won Try.prog Post FC n Inb' 0 (Conc.served g0 (.agg #[])) w') :
    Won Try.prog Post FC n Inb h (Conc.served (runSeat c.b c.ch nb) (.agg #[])) w := by
  refine won_kf fun hK => ?_
  have sG := C.siG
  have hn : (guardW FC w).cell? ⟨nb, 0, none⟩ = some (ptr c.b) := by rw [guard_cell C.fi.wf hK]; exact kf_cell hK hbox
  have c2 : (guardW FC w).cell? ⟨c.b, 2, none⟩ = some (fvD1 ob kb) := by rw [← hf]; exact cellsAt_cell (sG.co i c hi) 2 c.f rfl
  have h8 : own kb = 8 := hkb.1
  have hkc : (guardW FC w).cell? ⟨kb, 0, none⟩ = some (.int .u8 z) := blk_cell ((C.agr.eq kb (by omega) (C.fi.ne (by omega) (by omega) (by omega))).symm ▸ hkb.2) 0 _ rfl
  have hoG : OrdAt own ob xs (guardW FC w) := ho.keep (OLe.refl _) fun b hb => C.agr.eq b (by omega) (C.fi.ne (by omega) (by omega) (by omega))
  refine win_own C.fi.wf (start_own (F := 58) (ca := #[ptr ob, ptr kb]) c2 hn Try.func58 (by kernel_rfl) rfl ?_)
  refine ownU_fr (fr2 := (base 58).at ⟨#[ptr c.b, ptr ob, ptr kb, undef, undef, undef, undef, undef, undef, undef, undef, undef, undef, undef, undef, undef, undef, undef], []⟩ [.code bodyD1]) (by kernel_rfl) ?_
  rw [show (Value.func (Fn.func 58) #[] #[ptr ob, ptr kb]) = c.f from hf.symm]
  have hm3 : m = 0 ∨ m = 1 ∨ m = 2 := by omega
  rcases hm3 with h0 | h1 | h2
  · refine d_panic hkc hz hm h0 fun xb hxn u1 hnew hsz hxb v u2 out fr2 hn2 hv hT q1 q2 q3 => ?_
    have hnn := hnew.trans hn2
    have st0 : Stp (fun t => t = 6 ∨ t = 7) own own (guardW FC w) u2 := hnn.stp C.ltG
    have ho2 : OrdAt own ob xs u2 := hoG.keep (OLe.refl _) fun b hb => hnn.block b (C.ltG b (by omega))
    refine d_raised (c := c) q1 q2 q3 (sG.stp st0 fun t h => by omega) st0.lt hi ho2 hlen (hn2.cell (blk_cell hxb 0 _ rfl)) fun own1 u3 ho3 st1 => ownU_stop fun w1 hs hkp => ?_
    have st : Stp (fun t => t = 6 ∨ t = 7) own own1 (guardW FC w) u3 := st0.trans st1 (by omega)
    have fi1 : FI own1 S FC := C.fi.stp st fun r hr => by simpa [guardW] using C.rows r hr
    obtain ⟨a, C1⟩ := C.step hs hkp st (by omega) (sG.stp st fun t h => by omega) fi1 rfl rfl (fun i c h => ⟨c, h, rfl, rfl⟩)
    have ho4 : OrdAt own1 ob (xs ++ [idv i]) w1 := ho3.keep (OLe.refl _) fun b hb => a.eq b (by omega) (fi1.ne (by omega) (by omega) (by omega))
    have s1 : Same8 own w w1 := same8_step a fi1 st (fun t h => by omega) C.lw C.fi
    exact panic_won C1 hi hk ht hst hv hT hbox hI0 fun Inb' w' C2 e s2 => nextP h0 own1 out Inb' w' C2 e (ho4.same6 (OLe.refl _) s2) st.le (s1.trans s2.s8 st.le)
  · refine d_block hkc hz hm h1 fun xb hxn u1 hnew hsz hxb => ownU_stop fun w1 hs hkp => ?_
    have hgs : (guardW FC w).heap.size = w.heap.size := by simp [guardW]
    have st : Stp (fun _ => False) own (retagC own 8 (· = xb)) (guardW FC w) u1 := stp_new C.ltG hnew.os hnew.output hnew.size hnew.block (by omega) (by omega)
    have fi1 : FI (retagC own 8 (· = xb)) S FC := C.fi.stp st fun r hr => by rw [hgs]; exact C.rows r hr
    obtain ⟨a, C1⟩ := C.step hs hkp st (fun h => h) (sG.stp st fun t h => h.elim) fi1 rfl rfl (fun i c h => ⟨c, h, rfl, rfl⟩)
    have s1 : Same6 own w w1 := same6_step a fi1 st (fun _ h => h.elim) C.lw C.fi
    have h8x : retagC own 8 (· = xb) xb = 8 := tag_eq rfl
    have hbx : BxAt (retagC own 8 (· = xb)) xb c.b w1 := ⟨h8x, (a.eq xb (by omega) (fi1.ne (by omega) (by omega) (by omega))).trans hxb⟩
    refine block_won C1 hi hk ht hcl hI0 fun g Inb' w' hw C2 e s2 => ?_
    exact nextB h1 _ xb g Inb' w' hw (hbx.keep (OLe.refl _) s2.s8) C2 e ((ho.same6 st.le s1).same6 (OLe.refl _) s2) st.le (s1.s8.trans s2.s8 st.le)
  · refine d_ret hkc hz hm h2 fun xb hxn u1 hnew hsz hxb ts => ?_
    have st0 : Stp (fun t => t = 6 ∨ t = 7) own own (guardW FC w) u1 := hnew.stp C.ltG
    have ho2 : OrdAt own ob xs u1 := hoG.keep (OLe.refl _) fun b hb => hnew.block b (C.ltG b (by omega))
    refine dfr_own (.inl rfl) rfl ho2 st0.lt hlen (id_u ((sG.stp st0 fun t h => by omega).co i c hi)) (blk_cell hxb 0 _ rfl) fun own1 u3 ho3 st1 => ?_
    refine ownU_fr (fr2 := { (base 58).at ⟨ts, []⟩ [] with mode := .returning }) rfl ?_
    refine stop_own (fn := Try.f58) rfl rfl Try.func58 rfl (ownU_stop fun w1 hs hkp => ?_)
    have st : Stp (fun t => t = 6 ∨ t = 7) own own1 (guardW FC w) u3 := st0.trans st1 (by omega)
    have fi1 : FI own1 S FC := C.fi.stp st fun r hr => by simpa [guardW] using C.rows r hr
    obtain ⟨a, C1⟩ := C.step hs hkp st (by omega) (sG.stp st fun t h => by omega) fi1 rfl rfl (fun i c h => ⟨c, h, rfl, rfl⟩)
    have ho4 : OrdAt own1 ob (xs ++ [idv i]) w1 := ho3.keep (OLe.refl _) fun b hb => a.eq b (by omega) (fi1.ne (by omega) (by omega) (by omega))
    have s1 : Same8 own w w1 := same8_step a fi1 st (fun t h => by omega) C.lw C.fi
    exact done_won C1 hi hk ht hbox hI0 fun Inb' w' C2 e s2 => nextR h2 own1 Inb' w' C2 e (ho4.same6 (OLe.refl _) s2) st.le (s1.trans s2.s8 st.le)

theorem d_ended (C : CI E h own S ks FC n Inb w) (hi : S.cos[i]? = some c) (hk : ks[i]? = some k) (ht : k.tag = 2) (hw : DWaits c S.sb nb ob kb xb z m k.g) (hbx : BxAt own xb c.b w) (hbox : (⟨nb, 0, [ptr c.b]⟩ : Row) ∈ FC) (hcl : S.closed = true) (ho : OrdAt own ob xs w) (hlen : xs.length < 1000000)
    (hI0 : Inb 0 = some (Seat.one S.sc (.agg #[]) false (· = g0)))
    (next : ∀ own' Inb' w', CI E 0 own' { S with cos := S.cos.set i { c with st := 5 } } (ks.set i ⟨3, h, default⟩) FC n Inb' w' → Inb' 0 = Inb 0 → OrdAt own' ob (xs ++ [idv i]) w' → OLe own own' → Same8 own w w' → Won Try.prog Post FC n Inb' 0 (Conc.served g0 (.agg #[])) w') :
    Won Try.prog Post FC n Inb h (Conc.served k.g (.agg #[])) w := by
  have sG := C.siG
  have c0 := cellsAt_cell (sG.co i c hi) 0 (ptr S.sb) rfl
  have s3 := cellsAt_cell sG.sch 3 (.bool true) (by rw [← hcl]; rfl)
  have h8 := hbx.1
  have hxc : (guardW FC w).cell? ⟨xb, 0, none⟩ = some (ptr c.b) := blk_cell ((C.agr.eq xb (by omega) (C.fi.ne (by omega) (by omega) (by omega))).symm ▸ hbx.2) 0 _ rfl
  have hoG : OrdAt own ob xs (guardW FC w) := ho.keep (OLe.refl _) fun b hb => C.agr.eq b (by omega) (C.fi.ne (by omega) (by omega) (by omega))
  refine win_own C.fi.wf (hw.ends c0 s3 ?_)
  rw [raise_raise rfl]
  refine d_raised (c := c) rfl rfl rfl sG C.ltG hi hoG hlen hxc fun own1 u3 ho3 st => ownU_stop fun w1 hs hkp => ?_
  have fi1 : FI own1 S FC := C.fi.stp st fun r hr => by simpa [guardW] using C.rows r hr
  obtain ⟨a, C1⟩ := C.step hs hkp st (by omega) (sG.stp st fun t h => by omega) fi1 rfl rfl (fun i c h => ⟨c, h, rfl, rfl⟩)
  have ho4 : OrdAt own1 ob (xs ++ [idv i]) w1 := ho3.keep (OLe.refl _) fun b hb => a.eq b (by omega) (fi1.ne (by omega) (by omega) (by omega))
  have s1 : Same8 own w w1 := same8_step a fi1 st (fun t h => by omega) C.lw C.fi
  exact ended_won C1 hi hk ht hbox hI0 fun Inb' w' C2 e s2 => next own1 Inb' w' C2 e (ho4.same6 (OLe.refl _) s2) st.le (s1.trans s2.s8 st.le)
end
end Go.Proofs.Ytolnmdanlggmhaa

/- Run and Close over CoroDefers' coroutines: who does what when. -/
namespace Go.Proofs.Ytolnmdanlggmhaa
open Go.RowKit Go.Maps Go.Conc
open Go.ConcN (upd upd_ne upd_same)

set_option maxRecDepth 100000
set_option maxHeartbeats 2000000

/-- What is known of a coroutine that has not begun; md: its kind. -/
def DK (own : Nat → Nat) (ob : Nat) (w : World) (c : CoR) (k : Kid) (md : Int) : Prop :=
  k.tag = 0 ∧ c.st = 1 ∧ ∃ kb z, c.f = fvD1 ob kb ∧ KbAt own kb z w ∧ (0 ≤ z ∧ z < 256) ∧ z % 3 = md
/-- .. of one that has had its turn. -/
def DD (own : Nat → Nat) (sb ob : Nat) (FC : List Row) (w : World) (c : CoR) (k : Kid) (md : Int) : Prop :=
  (md = 1 ∧ k.tag = 1 ∧ c.st = 2 ∧ ∃ nb kb xb z, DWaits c sb nb ob kb xb z 1 k.g ∧ BxAt own xb c.b w ∧ (⟨nb, 0, [ptr c.b]⟩ : Row) ∈ FC) ∨ (md ≠ 1 ∧ k.tag = 3 ∧ (c.st = 3 ∨ c.st = 4))
theorem DK.keep {own own' : Nat → Nat} {ob : Nat} {w w' : World} {c : CoR} {k : Kid} {md : Int} (h : DK own ob w c k md) (le : OLe own own') (s : Same8 own w w') : DK own' ob w' c k md := by
  obtain ⟨h1, h2, kb, z, h3, h4, h5⟩ := h
  exact ⟨h1, h2, kb, z, h3, h4.keep le s, h5⟩
theorem DD.keep {own own' : Nat → Nat} {sb ob : Nat} {FC FC' : List Row} {w w' : World} {c : CoR} {k : Kid} {md : Int} (h : DD own sb ob FC w c k md) (le : OLe own own') (s : Same8 own w w') (hF : ∀ r ∈ FC, r ∈ FC') : DD own' sb ob FC' w' c k md := by
  rcases h with ⟨h1, h2, h3, nb, kb, xb, z, h4, h5, h6⟩ | h
  · exact .inl ⟨h1, h2, h3, nb, kb, xb, z, h4, h5.keep le s, hF _ h6⟩
  · exact .inr h
/-- Those in q have not begun; the others have had their turn. -/
structure DJ (own : Nat → Nat) (S : Sch) (ks : List Kid) (ob : Nat) (md : Nat → Int) (FC : List Row) (q : List Nat) (w : World) : Prop where
  qs : S.qs = q.map fun i : Nat => (i : Int) + 1
  nd : q.Nodup
  act : ∀ i ∈ q, ∃ c k, S.cos[i]? = some c ∧ ks[i]? = some k ∧ DK own ob w c k (md i)
  rest : ∀ i c k, S.cos[i]? = some c → ks[i]? = some k → i ∉ q → DD own S.sb ob FC w c k (md i)

section
variable {own own' : Nat → Nat} {S S' : Sch} {ks ks' : List Kid} {ob : Nat} {md : Nat → Int} {FC FC' : List Row} {q : List Nat} {w w' : World} {i : Nat} {c' : CoR} {k' : Kid}
theorem DJ.keep (J : DJ own S ks ob md FC q w) (le : OLe own own') (s : Same8 own w w') (hF : ∀ r ∈ FC, r ∈ FC') : DJ own' S ks ob md FC' q w' :=
  ⟨J.qs, J.nd, fun i hi => by obtain ⟨c, k, h1, h2, h3⟩ := J.act i hi; exact ⟨c, k, h1, h2, h3.keep le s⟩, fun i c k h1 h2 h3 => (J.rest i c k h1 h2 h3).keep le s hF⟩
theorem DJ.over (J : DJ own S ks ob md FC (i :: q) w) (le : OLe own own') (s : Same8 own w w') (hF : ∀ r ∈ FC, r ∈ FC') (hsb : S'.sb = S.sb) (hc : ∀ j, j ≠ i → S'.cos[j]? = S.cos[j]?) (hci : S'.cos[i]? = some c') (hk : ∀ j, j ≠ i → ks'[j]? = ks[j]?) (hki : ks'[i]? = some k') (hq : S'.qs = q.map fun i : Nat => (i : Int) + 1)
    (hd : DD own' S.sb ob FC' w' c' k' (md i)) : DJ own' S' ks' ob md FC' q w' := by
  have nd := J.nd
  rw [List.nodup_cons] at nd
  refine ⟨hq, nd.2, fun p hp => ?_, fun j c k h1 h2 hn => ?_⟩
  · have hne : p ≠ i := fun e => nd.1 (e ▸ hp)
    obtain ⟨c, k, h1, h2, h3⟩ := J.act p (List.mem_cons_of_mem _ hp)
    exact ⟨c, k, (hc _ hne).trans h1, (hk _ hne).trans h2, h3.keep le s⟩
  · rw [hsb]
    by_cases e : j = i
    · subst e
      rw [hci] at h1; rw [hki] at h2
      cases h1; cases h2
      exact hd
    · refine (J.rest j c k ((hc _ e).symm.trans h1) ((hk _ e).symm.trans h2) fun h => ?_).keep le s hF
      rcases List.mem_cons.1 h with h | h
      · exact e h
      · exact hn h
theorem DJ.spawn {c : CoR} {k : Kid} (J : DJ own S ks ob md FC q w) (hl : S.cos.length = i) (hkl : ks.length = i) (hq : ∀ p ∈ q, p < i) (le : OLe own own') (s : Same8 own w w') (hF : ∀ r ∈ FC, r ∈ FC') (hsb : S'.sb = S.sb) (hc : S'.cos = S.cos ++ [c]) (hk : ks' = ks ++ [k]) (hqs : S'.qs = S.qs ++ [(i : Int) + 1]) (hfk : DK own' ob w' c k (md i)) : DJ own' S' ks' ob md FC' (q ++ [i]) w' := by
  refine ⟨by rw [hqs, J.qs]; simp, ?_, fun p hp => ?_, fun j c0 k0 h1 h2 hn => ?_⟩
  · rw [List.nodup_append]
    refine ⟨J.nd, by simp, fun a ha b hb => ?_⟩
    have := hq a ha
    simp at hb
    omega
  · rw [List.mem_append] at hp
    rcases hp with hp | hp
    · obtain ⟨c0, k0, h1, h2, h3⟩ := J.act p hp
      have := hq p hp
      refine ⟨c0, k0, ?_, ?_, h3.keep le s⟩
      · rw [hc, List.getElem?_append_left (by omega)]; exact h1
      · rw [hk, List.getElem?_append_left (by omega)]; exact h2
    · simp at hp
      subst hp
      refine ⟨c, k, ?_, ?_, hfk⟩
      · rw [hc, List.getElem?_append_right (by omega)]; simp [hl]
      · rw [hk, List.getElem?_append_right (by omega)]; simp [hkl]
  · have hne : j ∉ q ∧ j ≠ i := by
      rw [List.mem_append] at hn
      exact ⟨fun h => hn (.inl h), fun e => hn (.inr (by simp [e]))⟩
    have hj : j < i := by
      have := (List.getElem?_eq_some_iff.1 h1).1
      rw [hc, List.length_append] at this
      simp at this
      omega
    rw [hc, List.getElem?_append_left (by omega)] at h1
    rw [hk, List.getElem?_append_left (by omega)] at h2
    rw [hsb]
    exact (J.rest j c0 k0 h1 h2 hne.1).keep le s hF
end
/-- Who appends in a turn of Run; who, as he is ended. -/
def dFirst (md : Nat → Int) (q : List Nat) : List Nat := q.filter fun i => md i ≠ 1
def dLast (md : Nat → Int) (q : List Nat) : List Nat := q.filter fun i => md i = 1

section
variable {Post : Value → World → Prop} {E : Env} {ob : Nat} {md : Nat → Int} {cs : List Frame} {b₀ : Frame} {a₀ : Act} {ops : Array Oper} {j : Nat} {rest : List Nat} {k₀ : List Item}

theorem defer_laps : ∀ (q : List Nat) {own : Nat → Nat} {S : Sch} {ks : List Kid} {FC : List Row} {n : Nat} {Inb : Nat → Option Seat} {w : World} {g : Goroutine} {m : Int} {xs : List Value},
    CI E 0 own S ks FC n Inb w → DJ own S ks ob md FC q w → S.closed = false → S.fr + (q.length + q.length) < 900000 → OrdAt own ob xs w → xs.length + q.length < 1000000 → 0 ≤ m → m + q.length < 1000000 → AtHead g S.sb m (b₀.at a₀ (.inRegion ops (j :: rest) :: k₀) :: cs) →
    (∀ own' S' ks' FC' n' Inb' w', CI E 0 own' S' ks' FC' n' Inb' w' → S'.sb = S.sb → S'.closed = false → S'.cos.length = S.cos.length → DJ own' S' ks' ob md FC' [] w' → n ≤ n' → (∀ r ∈ FC, r ∈ FC') → OrdAt own' ob (xs ++ (dFirst md q).map idv) w' → OLe own own' → Same8 own w w' →
      Won Try.prog Post FC' n' Inb' 0 (G (b₀.at (a₀.put ((ops[j]?).bind (·.dst)) (.int .i64 (m + q.length))) (.inRegion ops rest :: k₀)) cs) w') → Won Try.prog Post FC n Inb 0 g w
  | [], own, S, ks, FC, n, Inb, w, g, m, xs, C, J, hcl, hfr, ho, hlen, hm0, hm1, hg, next => by
    refine loop_end C hg (.inr J.qs) fun w1 C1 s1 => ?_
    have e : m + (([] : List Nat).length : Int) = m := by simp
    rw [e] at next
    exact next own S ks FC n Inb w1 C1 rfl hcl rfl (J.keep (OLe.refl _) s1.s8 fun _ h => h) (Nat.le_refl _) (fun _ h => h) (by simpa [dFirst] using ho.same6 (OLe.refl _) s1) (OLe.refl _) s1.s8
  | i :: q, own, S, ks, FC, n, Inb, w, g, m, xs, C, J, hcl, hfr, ho, hlen, hm0, hm1, hg, next => by
    obtain ⟨c, k, hci, hki, hDK⟩ := J.act i (List.mem_cons_self ..)
    have hil : i < S.cos.length := (List.getElem?_eq_some_iff.1 hci).1
    have hkl : i < ks.length := (List.getElem?_eq_some_iff.1 hki).1
    have hqs : S.qs = ((i : Int) + 1) :: q.map fun i : Nat => (i : Int) + 1 := J.qs
    simp only [List.length_cons] at hfr hlen hm1
    refine loop_turn (i := i) (c := c) (x := (i : Int) + 1) (xs := q.map fun i : Nat => (i : Int) + 1) (m' := m + 1) C hg hcl hqs hci rfl (wrap_id (by omega) (by omega)) fun own1 Inb1 w1 g1 f1 hg1 hs1 C1 le1 s1 hI1 => ?_
    have em : m + 1 + (q.length : Int) = m + ((i :: q).length : Int) := by simp only [List.length_cons]; omega
    have again : ∀ {own2 : Nat → Nat} {S2 : Sch} {ks2 : List Kid} {FC2 : List Row} {n2 : Nat} {Inb2 : Nat → Option Seat} {w2 : World} {xs2 : List Value}, CI E 0 own2 S2 ks2 FC2 n2 Inb2 w2 → DJ own2 S2 ks2 ob md FC2 q w2 → S2.closed = false → S2.fr = S.fr + 1 → S2.sb = S.sb → S2.cos.length = S.cos.length → n ≤ n2 → (∀ r ∈ FC, r ∈ FC2) → OrdAt own2 ob xs2 w2 → xs2.length ≤ xs.length + 1 → xs2 ++ (dFirst md q).map idv = xs ++ (dFirst md (i :: q)).map idv → OLe own own2 → Same8 own w w2 →
        Won Try.prog Post FC2 n2 Inb2 0 (Conc.served g1 (.agg #[])) w2 := by
      intro own2 S2 ks2 FC2 n2 Inb2 w2 xs2 C2 J2 hcl2 hfr2 hsb2 hl2 hn2 hF2 ho2 hxl hxs le2 s2
      refine defer_laps q (m := m + 1) C2 J2 hcl2 (by omega) ho2 (by omega) (by omega) (by omega) (by rw [hsb2]; exact hg1) fun own' S' ks' FC' n' Inb' w' C' a1 a2 a3 a4 a6 a7 a8 a9 a10 => ?_
      rw [em]
      rw [hxs] at a8
      exact next own' S' ks' FC' n' Inb' w' C' (a1.trans hsb2) a2 (a3.trans hl2) a4 (by omega) (fun r hr => a7 r (hF2 r hr)) a8 (le2.trans a9) (s2.trans a10 le2)
    obtain ⟨ht0, hst, kb, z, hf, hkb, hz, hmd⟩ := hDK
    refine turn_any (i := i) (c := c) (k := k) C1 hci hki (by omega) hs1 hI1 (fun _ FC2 Inb2 nb w2 C2 e2 hb2 hsub2 s2 => ?_) (fun ht1 w2 C2 s2 => by omega)
    have s12 : Same8 own w w2 := (s1.s8).trans s2.s8 le1
    rw [hI1] at e2
    have ho2 := (ho.same6 le1 s1).same6 (OLe.refl _) s2
    refine d_first (i := i) (c := { c with begun := true }) (k := ⟨2, n, default⟩) (nb := nb) (kb := kb) (z := z) C2 (by simp [hil]) (by simp [hkl]) rfl (by rw [hst]; omega) hb2 hf (hkb.keep le1 s12) hz hmd hcl ho2 (by omega) e2 (fun h0 own' out Inb' w' C3 e3 ho3 le3 s3 => ?_) (fun h1 own' xb kg Inb' w' hw hbx C3 e3 ho3 le3 s3 => ?_) (fun h2 own' Inb' w' C3 e3 ho3 le3 s3 => ?_)
    · have s123 := s12.trans s3 le1
      exact again C3 (J.over (c' := { c with begun := true, st := 4, txt := out }) (k' := ⟨3, n, default⟩) (le1.trans le3) s123 hsub2 rfl (fun j hj => by simp [List.getElem?_set_ne (Ne.symm hj)]) (by simp [hil]) (fun j hj => by simp [List.getElem?_set_ne (Ne.symm hj)]) (by simp [hkl]) rfl (.inr ⟨by omega, rfl, .inr rfl⟩)) hcl rfl rfl (by simp) (by omega) hsub2 ho3 (by simp) (by simp [dFirst, h0]) (le1.trans le3) s123
    · have s123 := s12.trans s3 le1
      exact again C3 (J.over (c' := { c with begun := true, st := 2 }) (k' := ⟨1, n, kg⟩) (le1.trans le3) s123 hsub2 rfl (fun j hj => by simp [List.getElem?_set_ne (Ne.symm hj)]) (by simp [hil]) (fun j hj => by simp [List.getElem?_set_ne (Ne.symm hj)]) (by simp [hkl]) rfl (.inl ⟨h1, rfl, rfl, nb, kb, xb, z, by rw [← h1]; exact hw, hbx, hb2⟩)) hcl rfl rfl (by simp) (by omega) hsub2 ho3 (by simp) (by simp [dFirst, h1]) (le1.trans le3) s123
    · have s123 := s12.trans s3 le1
      exact again C3 (J.over (c' := { c with begun := true, st := 3 }) (k' := ⟨3, n, default⟩) (le1.trans le3) s123 hsub2 rfl (fun j hj => by simp [List.getElem?_set_ne (Ne.symm hj)]) (by simp [hil]) (fun j hj => by simp [List.getElem?_set_ne (Ne.symm hj)]) (by simp [hkl]) rfl (.inr ⟨by omega, rfl, .inl rfl⟩)) hcl rfl rfl (by simp) (by omega) hsub2 ho3 (by simp) (by simp [dFirst, h2]) (le1.trans le3) s123

/-- How each stands while Close goes: those before i have ended or were done. -/
def DE (own : Nat → Nat) (S : Sch) (ks : List Kid) (ob : Nat) (md : Nat → Int) (FC : List Row) (i : Nat) (w : World) : Prop :=
  ∀ j c k, S.cos[j]? = some c → ks[j]? = some k → (j < i → k.tag = 3 ∧ c.st ≠ 1 ∧ c.st ≠ 2) ∧ (i ≤ j → DD own S.sb ob FC w c k (md j))
theorem DE.keep {own own' : Nat → Nat} {S : Sch} {ks : List Kid} {ob : Nat} {md : Nat → Int} {FC : List Row} {i : Nat} {w w' : World} (h : DE own S ks ob md FC i w) (le : OLe own own') (s : Same8 own w w') : DE own' S ks ob md FC i w' :=
  fun j c k h1 h2 => ⟨(h j c k h1 h2).1, fun hj => ((h j c k h1 h2).2 hj).keep le s fun _ h => h⟩

theorem defer_close {κ : CallKind} (hκ : κ ≠ .early) : ∀ (r i : Nat) {own : Nat → Nat} {S : Sch} {ks : List Kid} {FC : List Row} {n : Nat} {Inb : Nat → Option Seat} {w : World} {g : Goroutine} {m : Int} {xs : List Value}, i + r = S.cos.length →
    CI E 0 own S ks FC n Inb w → DE own S ks ob md FC i w → S.closed = true → OrdAt own ob xs w → xs.length + r < 1000000 → 0 ≤ m → m + r < 1000000 → AtClose κ g S.sb S.v S.cos.length i m cs →
    (∀ own' S' ks' Inb' w' g', ClOut κ (m + ((dLast md (List.range' i r)).length : Nat)) cs g' → CI E 0 own' S' ks' FC n Inb' w' → S'.sb = S.sb → S'.closed = true → (∀ c ∈ S'.cos, c.st ≠ 1 ∧ c.st ≠ 2) → (∀ k ∈ ks', k.tag = 3) → OrdAt own' ob (xs ++ (dLast md (List.range' i r)).map idv) w' → OLe own own' → Same8 own w w' → Won Try.prog Post FC n Inb' 0 g' w') → Won Try.prog Post FC n Inb 0 g w
  | 0, i, own, S, ks, FC, n, Inb, w, g, m, xs, hr, C, D, hcl, ho, hlen, hm0, hm1, hg, next => by
    refine close_end_won hκ C hg (by omega) fun g' w' hg' C1 s1 => ?_
    have hlk := C.len
    refine next own S ks Inb w' g' (by simpa [dLast] using hg') C1 rfl hcl (fun c hc => ?_) (fun k hk => ?_) (by simpa [dLast] using ho.same6 (OLe.refl _) s1) (OLe.refl _) s1.s8
    · obtain ⟨j, hj⟩ := List.mem_iff_getElem?.1 hc
      obtain ⟨k, hk, _⟩ := C.kidAt hj
      have hjl := (List.getElem?_eq_some_iff.1 hj).1
      exact ((D j c k hj hk).1 (by omega)).2
    · obtain ⟨j, hj⟩ := List.mem_iff_getElem?.1 hk
      obtain ⟨c, hc, _⟩ := C.coAt hj
      have hjl := (List.getElem?_eq_some_iff.1 hc).1
      exact ((D j c k hc hj).1 (by omega)).1
  | r + 1, i, own, S, ks, FC, n, Inb, w, g, m, xs, hr, C, D, hcl, ho, hlen, hm0, hm1, hg, next => by
    have hil : i < S.cos.length := by omega
    have hci : S.cos[i]? = some S.cos[i] := List.getElem?_eq_getElem hil
    obtain ⟨k, hki, _⟩ := C.kidAt hci
    have hkl : i < ks.length := (List.getElem?_eq_some_iff.1 hki).1
    generalize S.cos[i] = c at hci
    have er : List.range' i (r + 1) = i :: List.range' (i + 1) r := rfl
    rw [er] at next
    rcases (D i c k hci hki).2 (Nat.le_refl _) with ⟨hmd, ht, hst, nb, kb, xb, z, hw, hbx, hb2⟩ | ⟨hmd, ht, hst⟩
    · have el : dLast md (i :: List.range' (i + 1) r) = i :: dLast md (List.range' (i + 1) r) := by simp [dLast, hmd]
      rw [el] at next
      refine close_turn_won hκ C hg hci (.inr hst) hki ht (by omega) fun fr Inb1 w1 hfr hI1 C1 s1 => ?_
      refine d_ended (i := i) (c := c) (k := ⟨2, k.j, k.g⟩) C1 hci (by simp [hkl]) rfl hw (hbx.keep (OLe.refl _) s1.s8) hb2 hcl (ho.same6 (OLe.refl _) s1) (by omega) hI1 fun own2 Inb2 w2 C2 e2 ho2 le2 s2 => ?_
      refine close_after (i := i) (c2 := { c with st := 5 }) C2 hfr (by simp [hil]) rfl fun g3 w3 hg3 C3 s3 => ?_
      simp only [List.set_set] at C3
      have s123 : Same8 own w w3 := (s1.s8.trans s2 (OLe.refl _)).trans s3.s8 le2
      refine defer_close hκ r (i + 1) (m := m + 1) (xs := xs ++ [idv i]) (by simp; omega) C3 (fun j c' k' h1 h2 => ?_) hcl (ho2.same6 (OLe.refl _) s3) (by simp; omega) (by omega) (by omega) (by simp only [List.length_set]; exact hg3) fun own' S' ks' Inb' w' g' a1 a2 a3 a4 a5 a6 a7 a8 a9 => ?_
      · by_cases e : j = i
        · subst e
          simp [hil] at h1
          simp [hkl] at h2
          subst h1; subst h2
          exact ⟨fun _ => ⟨rfl, by simp, by simp⟩, fun h => by omega⟩
        · simp [List.getElem?_set_ne (Ne.symm e)] at h1
          simp [List.getElem?_set_ne (Ne.symm e)] at h2
          obtain ⟨d1, d2⟩ := D j c' k' h1 h2
          exact ⟨fun h => d1 (by omega), fun h => (d2 (by omega)).keep le2 s123 fun _ h => h⟩
      · refine next own' S' ks' Inb' w' g' ?_ a2 a3 a4 a5 a6 ?_ (le2.trans a8) (s123.trans a9 le2)
        · have : m + ((i :: dLast md (List.range' (i + 1) r)).length : Nat) = m + 1 + ((dLast md (List.range' (i + 1) r)).length : Nat) := by simp only [List.length_cons]; omega
          rw [this]; exact a1
        · simpa using a7
    · have el : dLast md (i :: List.range' (i + 1) r) = dLast md (List.range' (i + 1) r) := by simp [dLast, hmd]
      rw [el] at next
      refine close_skip_won hκ C hg hci (by omega) fun g1 w1 hg1 C1 s1 => ?_
      refine defer_close hκ r (i + 1) (m := m) (xs := xs) (by omega) C1 (fun j c' k' h1 h2 => ?_) hcl (ho.same6 (OLe.refl _) s1) (by omega) (by omega) (by omega) hg1 fun own' S' ks' Inb' w' g' a1 a2 a3 a4 a5 a6 a7 a8 a9 => ?_
      · obtain ⟨d1, d2⟩ := D j c' k' h1 h2
        refine ⟨fun h => ?_, fun h => (d2 (by omega)).keep (OLe.refl _) s1.s8 fun _ h => h⟩
        by_cases e : j = i
        · subst e
          rw [hci] at h1; rw [hki] at h2
          cases h1; cases h2
          exact ⟨ht, by omega⟩
        · exact d1 (by omega)
      · exact next own' S' ks' Inb' w' g' a1 a2 a3 a4 a5 a6 a7 a8 (s1.s8.trans a9 (OLe.refl _))
end
end Go.Proofs.Ytolnmdanlggmhaa

/- slices.Grow from nil and slices.Concat, at slices of int. -/
namespace Go.Proofs.Ytolnmdanlggmhaa
open Go.RowKit

theorem infoE22 : (Try.prog.info? 3).map (fun i => (i.zero, i.size, i.bytes)) = some (some (.int .i64 0), 1, 8) := by kernel_rfl

set_option maxRecDepth 100000 in
set_option maxHeartbeats 1000000 in
theorem grow73 (n : Nat) (w : World) (hn : n ≤ 4000000) :
    Calls Try.prog 73 #[.slice none 0 0, .int .i64 n] w fun e w' => ∃ v, e = .returned v ∧ w'.ownsRow w.heap.size 3 1 v 0 [] ∧ Below w.heap.size w w' := by
  obtain ⟨i0, hi, hz0, hz1, hz2⟩ := info_parts infoE22
  by_cases h0 : n = 0
  · subst h0
    go_enter Try.func73, Try.ntmps73
    go_wp2_with fail
    go_ret
    exact ⟨_, rfl, World.ownsRow_nil _ _ _ _, Below.refl _ _⟩
  · have h1 : (0 : Int) < (n : Int) := by omega
    have hge := grownCap_ge w n 0 3
    have hle := grownCap_le_maxLen w n 0 3 (by unfold maxLen; omega)
    have hr := fun ty => Lib.run_append_nil_zeros (P := Try.prog) w 22 3 ty 3 i0 _ .i64 .i64 Try.underlying22 Try.underlying3 hi hz0 n (by omega) (by omega) (by omega) (by rw [hz2]; omega)
    obtain ⟨G, hG⟩ : ∃ G, grownCap w n 0 3 = G := ⟨_, rfl⟩
    rw [hG] at hr hge hle
    clear hG
    have hG63 : G ≤ 9223372036854775807 := by unfold maxLen at hle; omega
    have hmade := World.ownsRow_made (e := 3) (size := 1) (base := w.heap.size) w.drew (Builtin.zeroCells (Value.int IntKind.i64 0).cells n ++ Builtin.zeroCells (Value.int IntKind.i64 0).cells (G - n)) G (Nat.le_refl _) hle (by simp [size_zeroCells, Value.cells]; omega)
    have hb : Below w.heap.size w (w.drew.alloc (.cells (Builtin.zeroCells (Value.int IntKind.i64 0).cells n ++ Builtin.zeroCells (Value.int IntKind.i64 0).cells (G - n)) 3)) := ((Below.refl _ _).drew).alloc (Nat.le_refl _) _
    generalize (w.drew.alloc (.cells (Builtin.zeroCells (Value.int IntKind.i64 0).cells n ++ Builtin.zeroCells (Value.int IntKind.i64 0).cells (G - n)) 3)) = w1 at *
    have hgn : (n : Int) ≤ (G : Int) := by omega
    go_enter Try.func73, Try.ntmps73
    go_wp2_with (at_builtin; refine Lib.wpList_append_run _ rfl (.tmp 20) (.tmp 21) 22 3 rfl _ _ rfl rfl _ _ (hr _) ?_)
    go_ret
    exact ⟨_, rfl, hmade, hb⟩

set_option maxRecDepth 100000 in
set_option maxHeartbeats 2000000 in
theorem concat61 (A : Option Addr) (c : Nat) (L : List (List Value)) (w : World) (B : Nat) (hr : Rds w B A L) (hB : B ≤ w.heap.size) (hL : L.length ≤ 1000000000) (hn : L.flatten.length ≤ 4000000) (h1 : ∀ u ∈ L.flatten, u.oneCell' = true) :
    Calls Try.prog 61 #[.slice A L.length c] w fun e w' => ∃ v, e = .returned v ∧ w'.ownsRow w.heap.size 3 1 v L.flatten.length L.flatten ∧ Below w.heap.size w w' := by
  obtain ⟨i0, hi, hz0, hz1, hz2⟩ := info_parts infoE22
  go_enter Try.func61, Try.ntmps61
  go_wp2_with fail
  go_loop [3, 11] (fun sz i => ∃ k m : Nat, k ≤ L.length ∧ i = .int .i64 k ∧ sz = .int .i64 m ∧ Hid (m = (L.take k).flatten.length)) (fun _ i => L.length - (intOf i).toNat)
  case atStart => exact ⟨0, 0, Nat.zero_le _, rfl, rfl, rfl⟩
  case round =>
    obtain ⟨k, m, hk, rfl, rfl, hm⟩ := hrel
    by_cases hlt : k < L.length
    · obtain ⟨ad, l, A', c', rfl, hl, hc, hrl⟩ := hr.at hlt
      have hf1 := flat_le L (k + 1)
      rw [flat_succ hl, List.length_append] at hf1
      have hml : m + l.length ≤ 4000000 := by have := hm.out; omega
      clear hf1
      go_wp2_with fail
      go_round
      case rel => exact ⟨k + 1, m + l.length, by omega, by go_num, by go_num, by show _ = _; rw [flat_succ hl, List.length_append, hm.out]⟩
      case measure => simp [intOf]; omega
    · have hmm : m ≤ 4000000 := by have := hm.out; have := flat_le L k; omega
      clear hm
      go_wp2_with fail
      refine (grow73 m w hmm).mono ?_
      rintro e w1 ⟨v, rfl, hown, hb⟩
      go_wp2_with fail
      go_loopw [6, 27] (fun v i wr => ∃ k : Nat, k ≤ L.length ∧ i = .int .i64 k ∧ wr.ownsRow w.heap.size 3 1 v (L.take k).flatten.length (L.take k).flatten ∧ Below w.heap.size w wr) (fun _ i _ => L.length - (intOf i).toNat)
      case atStart => exact ⟨0, Nat.zero_le _, rfl, hown, hb⟩
      case round =>
        obtain ⟨k, hk, rfl, hown, hb⟩ := hrel
        by_cases hlt : k < L.length
        · obtain ⟨ad, l, A', c', rfl, hl, hc, hrl⟩ := (hr.below (hb.mono hB)).at hlt
          have hf1 := flat_le L (k + 1)
          rw [flat_succ hl, List.length_append] at hf1
          have h1l : ∀ u ∈ l, u.oneCell' = true := fun u hu => h1 u (List.mem_flatten.2 ⟨l, List.mem_of_getElem? hl, hu⟩)
          have H1 := Lib.hid h1l; clear h1l
          go_wp2_with (at_builtin; refine wpList_app _ rfl (.tmp 31) (.tmp 32) 22 rfl w.heap.size 3 i0 _ 8 Try.underlying22 hi hz0 hz1 hz2 rfl u6 _ _ rfl hown B _ _ _ _ rfl hrl H1.out (by unfold maxLen; omega) (by omega) hb.size ?_; intro v' w2 hown2 hg2 hat2)
          go_roundw
          case rel => exact ⟨k + 1, by omega, by go_num, by rw [flat_succ hl, List.length_append]; exact hown2, hb.grown hg2 hb.size fun k hk => (hown.lt k hk).1⟩
          case measure => simp [intOf]; omega
        · go_wp2_with fail
          go_ret
          refine ⟨_, rfl, ?_, hb⟩
          have e : L.take k = L := List.take_of_length_le (by omega)
          rw [e] at hown
          exact hown
end Go.Proofs.Ytolnmdanlggmhaa

/- CoroDefers itself, in company: its pieces. (Printed by gen_defers2.py.) -/
namespace Go.Proofs.Ytolnmdanlggmhaa
open Go.RowKit Go.Maps Go.Conc
open Go.ConcN (upd upd_ne upd_same)

set_option maxRecDepth 100000
set_option maxHeartbeats 2000000

noncomputable abbrev bodyCd : Code := Try.f13.body.getD .skip
def loneCat : List FuncId := [61, 73]
theorem okCat : okL Try.prog loneCat = true := by kernel_rfl

noncomputable def defersIn (A : Option Addr) (n cap : Nat) : Goroutine := (G ((base 13).at ⟨List.toArray (.slice A n cap :: undef :: undef :: undef :: undef :: undef :: undef :: undef :: undef :: undef :: undef :: undef :: undef :: undef :: undef :: undef :: undef :: undef :: undef :: undef :: undef :: undef :: undef :: undef :: undef :: undef :: undef :: undef :: undef :: undef :: undef :: undef :: undef :: undef :: undef :: undef :: undef :: undef :: undef :: undef :: undef :: undef :: undef :: undef :: undef :: undef :: undef :: undef :: undef :: undef :: undef :: undef :: undef :: undef :: undef :: undef :: undef :: undef :: undef :: undef :: undef :: undef :: undef :: undef :: undef :: undef :: undef :: undef :: undef :: undef :: undef :: undef :: undef :: undef :: undef :: []), []⟩ [.code bodyCd]) [])
theorem defers_long {main : Bool} {Z : Addr → Prop} {Stop : Goroutine → World → Prop} {w₀ u : World} {A : Option Addr} {n cap : Nat} (hn : 20 < n) (hk : OwnU Try.prog main Z Stop w₀ (aliveIn (((base 13).at ⟨List.toArray (.slice A n cap :: undef :: .bool false :: undef :: undef :: undef :: undef :: undef :: undef :: undef :: undef :: .slice A n cap :: .int .i64 (n : Int) :: .bool true :: undef :: undef :: undef :: undef :: undef :: undef :: undef :: undef :: undef :: undef :: undef :: undef :: undef :: undef :: undef :: undef :: undef :: undef :: undef :: undef :: undef :: undef :: undef :: undef :: undef :: undef :: undef :: undef :: undef :: undef :: undef :: undef :: undef :: undef :: undef :: undef :: undef :: undef :: undef :: undef :: undef :: undef :: undef :: undef :: undef :: undef :: undef :: undef :: undef :: undef :: undef :: undef :: undef :: undef :: undef :: undef :: undef :: undef :: undef :: undef :: undef :: []), []⟩ (.inRegion (opsOf (sel [1, 0, 1, 2, 0] bodyCd)) (0 :: [1]) :: [.code .ret, .code (sel [1, 1] bodyCd)])) :: [])) u) : OwnU Try.prog main Z Stop w₀ (defersIn A n cap) u := by
  unfold defersIn
  refine ownU_seq (x := sel [0] bodyCd) (y := sel [1] bodyCd) ?_
  refine ownU_region (id := 0) (ops := opsOf (sel [0] bodyCd)) ?_
  refine ownU_quiet (i := 0) (rest := []) (.bool false) rfl (by rfl) rfl (by decide) (fun _ => by kernel_rfl) ?_
  refine ownU_region_end ?_
  refine ownU_seq (x := sel [1, 0] bodyCd) (y := sel [1, 1] bodyCd) ?_
  refine ownU_seq (x := sel [1, 0, 0] bodyCd) (y := sel [1, 0, 1] bodyCd) ?_
  refine ownU_region (id := 1) (ops := opsOf (sel [1, 0, 0] bodyCd)) ?_
  refine ownU_quiet (i := 0) (rest := [1, 2]) (.slice A n cap) rfl (by rfl) rfl (by decide) (fun _ => by kernel_rfl) ?_
  refine ownU_quiet (i := 1) (rest := [2]) (.int .i64 (n : Int)) rfl (by rfl) rfl (by decide) (fun _ => by kernel_rfl) ?_
  refine ownU_quiet (i := 2) (rest := []) (.bool true) rfl (by rfl) rfl (by decide) (fun _ => gtr_v (p := (n : Int)) (q := 20) rfl (by kernel_rfl) (by kernel_rfl) (by simp; omega)) ?_
  refine ownU_region_end ?_
  refine ownU_cond (c := .tmp 13) (x := sel [1, 0, 1, 2] bodyCd) (y := .skip) (t := true) (by kernel_rfl) ?_
  refine ownU_seq (x := sel [1, 0, 1, 2, 0] bodyCd) (y := .ret) ?_
  refine ownU_region (id := 2) (ops := opsOf (sel [1, 0, 1, 2, 0] bodyCd)) ?_
  refine ownU_lit (List.toArray (.slice A n cap :: undef :: .bool false :: undef :: undef :: undef :: undef :: undef :: undef :: undef :: undef :: .slice A n cap :: .int .i64 (n : Int) :: .bool true :: undef :: undef :: undef :: undef :: undef :: undef :: undef :: undef :: undef :: undef :: undef :: undef :: undef :: undef :: undef :: undef :: undef :: undef :: undef :: undef :: undef :: undef :: undef :: undef :: undef :: undef :: undef :: undef :: undef :: undef :: undef :: undef :: undef :: undef :: undef :: undef :: undef :: undef :: undef :: undef :: undef :: undef :: undef :: undef :: undef :: undef :: undef :: undef :: undef :: undef :: undef :: undef :: undef :: undef :: undef :: undef :: undef :: undef :: undef :: undef :: undef :: [])) [] (by kernel_rfl) (by kernel_rfl) ?_
  refine ownU_enter (i := 0) (rest := [1]) (f := 34) rfl (by rfl) (by decide) rfl Try.func34 (by kernel_rfl) rfl ?_
  exact ownU_eq (by kernel_rfl) hk
theorem defers_long2 {main : Bool} {Z : Addr → Prop} {Stop : Goroutine → World → Prop} {w₀ u : World} {A : Option Addr} {n cap : Nat} (hk : ∀ ts k, ts.getD 2 undef = .bool true → OwnU Try.prog main Z Stop w₀ (G { (base 13).at ⟨ts, []⟩ (.code .ret :: k) with mode := .returning } []) u) : OwnU Try.prog main Z Stop w₀ (G ((base 13).at ((⟨List.toArray (.slice A n cap :: undef :: .bool false :: undef :: undef :: undef :: undef :: undef :: undef :: undef :: undef :: .slice A n cap :: .int .i64 (n : Int) :: .bool true :: undef :: undef :: undef :: undef :: undef :: undef :: undef :: undef :: undef :: undef :: undef :: undef :: undef :: undef :: undef :: undef :: undef :: undef :: undef :: undef :: undef :: undef :: undef :: undef :: undef :: undef :: undef :: undef :: undef :: undef :: undef :: undef :: undef :: undef :: undef :: undef :: undef :: undef :: undef :: undef :: undef :: undef :: undef :: undef :: undef :: undef :: undef :: undef :: undef :: undef :: undef :: undef :: undef :: undef :: undef :: undef :: undef :: undef :: undef :: undef :: undef :: []), []⟩ : Act).put (((opsOf (sel [1, 0, 1, 2, 0] bodyCd))[0]?).bind (·.dst)) (.bool true)) (.inRegion (opsOf (sel [1, 0, 1, 2, 0] bodyCd)) [1] :: [.code .ret, .code (sel [1, 1] bodyCd)])) []) u := by
  refine ownU_quiet (i := 1) (rest := []) (.bool true) rfl (by rfl) rfl (by decide) (fun _ => by kernel_rfl) ?_
  refine ownU_region_end ?_
  refine ownU_lit (List.toArray (.slice A n cap :: undef :: .bool true :: undef :: undef :: undef :: undef :: undef :: undef :: undef :: undef :: .slice A n cap :: .int .i64 (n : Int) :: .bool true :: .bool true :: undef :: undef :: undef :: undef :: undef :: undef :: undef :: undef :: undef :: undef :: undef :: undef :: undef :: undef :: undef :: undef :: undef :: undef :: undef :: undef :: undef :: undef :: undef :: undef :: undef :: undef :: undef :: undef :: undef :: undef :: undef :: undef :: undef :: undef :: undef :: undef :: undef :: undef :: undef :: undef :: undef :: undef :: undef :: undef :: undef :: undef :: undef :: undef :: undef :: undef :: undef :: undef :: undef :: undef :: undef :: undef :: undef :: undef :: undef :: undef :: [])) [] (by kernel_rfl) (by kernel_rfl) ?_
  refine ownU_ret ?_
  exact hk _ _ rfl
theorem defers_a {main : Bool} {Z : Addr → Prop} {Stop : Goroutine → World → Prop} {w₀ u : World} {A : Option Addr} {n cap : Nat} (hn : n ≤ 20) (hk : OwnU Try.prog main Z Stop w₀ (newIn (((base 13).at ⟨List.toArray (.slice A n cap :: undef :: .bool false :: undef :: undef :: undef :: undef :: undef :: undef :: undef :: undef :: .slice A n cap :: .int .i64 (n : Int) :: .bool false :: undef :: undef :: undef :: undef :: undef :: undef :: undef :: undef :: undef :: undef :: undef :: undef :: undef :: undef :: undef :: undef :: undef :: undef :: undef :: undef :: undef :: undef :: undef :: undef :: undef :: undef :: undef :: undef :: undef :: undef :: undef :: undef :: undef :: undef :: undef :: undef :: undef :: undef :: undef :: undef :: undef :: undef :: undef :: undef :: undef :: undef :: undef :: undef :: undef :: undef :: undef :: undef :: undef :: undef :: undef :: undef :: undef :: undef :: undef :: undef :: undef :: []), []⟩ (.inRegion (opsOf (sel [1, 1, 0] bodyCd)) (0 :: [1]) :: [.code (sel [1, 1, 1] bodyCd)])) :: [])) u) : OwnU Try.prog main Z Stop w₀ (defersIn A n cap) u := by
  unfold defersIn
  refine ownU_seq (x := sel [0] bodyCd) (y := sel [1] bodyCd) ?_
  refine ownU_region (id := 0) (ops := opsOf (sel [0] bodyCd)) ?_
  refine ownU_quiet (i := 0) (rest := []) (.bool false) rfl (by rfl) rfl (by decide) (fun _ => by kernel_rfl) ?_
  refine ownU_region_end ?_
  refine ownU_seq (x := sel [1, 0] bodyCd) (y := sel [1, 1] bodyCd) ?_
  refine ownU_seq (x := sel [1, 0, 0] bodyCd) (y := sel [1, 0, 1] bodyCd) ?_
  refine ownU_region (id := 1) (ops := opsOf (sel [1, 0, 0] bodyCd)) ?_
  refine ownU_quiet (i := 0) (rest := [1, 2]) (.slice A n cap) rfl (by rfl) rfl (by decide) (fun _ => by kernel_rfl) ?_
  refine ownU_quiet (i := 1) (rest := [2]) (.int .i64 (n : Int)) rfl (by rfl) rfl (by decide) (fun _ => by kernel_rfl) ?_
  refine ownU_quiet (i := 2) (rest := []) (.bool false) rfl (by rfl) rfl (by decide) (fun _ => gtr_v (p := (n : Int)) (q := 20) rfl (by kernel_rfl) (by kernel_rfl) (by simp; omega)) ?_
  refine ownU_region_end ?_
  refine ownU_cond (c := .tmp 13) (x := sel [1, 0, 1, 2] bodyCd) (y := .skip) (t := false) (by kernel_rfl) ?_
  refine ownU_skip ?_
  refine ownU_seq (x := sel [1, 1, 0] bodyCd) (y := sel [1, 1, 1] bodyCd) ?_
  refine ownU_region (id := 3) (ops := opsOf (sel [1, 1, 0] bodyCd)) ?_
  refine ownU_lit (List.toArray (.slice A n cap :: undef :: .bool false :: undef :: undef :: undef :: undef :: undef :: undef :: undef :: undef :: .slice A n cap :: .int .i64 (n : Int) :: .bool false :: undef :: undef :: undef :: undef :: undef :: undef :: undef :: undef :: undef :: undef :: undef :: undef :: undef :: undef :: undef :: undef :: undef :: undef :: undef :: undef :: undef :: undef :: undef :: undef :: undef :: undef :: undef :: undef :: undef :: undef :: undef :: undef :: undef :: undef :: undef :: undef :: undef :: undef :: undef :: undef :: undef :: undef :: undef :: undef :: undef :: undef :: undef :: undef :: undef :: undef :: undef :: undef :: undef :: undef :: undef :: undef :: undef :: undef :: undef :: undef :: undef :: [])) [] (by kernel_rfl) (by kernel_rfl) ?_
  refine ownU_enter (i := 0) (rest := [1]) (f := 35) rfl (by rfl) (by decide) rfl Try.func35 (by kernel_rfl) rfl ?_
  exact ownU_eq (by kernel_rfl) hk
/-- At the head of the loop that spawns. -/
noncomputable def dxHead (A : Option Addr) (n cap sb ob idx : Nat) (gs : List Value) : Goroutine := G ((base 13).at ⟨List.toArray (.slice A n cap :: (gs.getD 0 undef) :: .bool false :: ptr sb :: ptr ob :: .slice none 0 0 :: .slice none 0 0 :: (gs.getD 1 undef) :: (gs.getD 2 undef) :: (gs.getD 3 undef) :: (gs.getD 4 undef) :: (gs.getD 5 undef) :: (gs.getD 6 undef) :: (gs.getD 7 undef) :: (gs.getD 8 undef) :: (gs.getD 9 undef) :: (gs.getD 10 undef) :: .slice A n cap :: .int .i64 (n : Int) :: .int .i64 (idx : Int) :: (gs.getD 14 undef) :: (gs.getD 15 undef) :: (gs.getD 16 undef) :: (gs.getD 17 undef) :: (gs.getD 18 undef) :: (gs.getD 19 undef) :: (gs.getD 20 undef) :: (gs.getD 21 undef) :: (gs.getD 22 undef) :: (gs.getD 23 undef) :: (gs.getD 24 undef) :: (gs.getD 25 undef) :: (gs.getD 26 undef) :: (gs.getD 27 undef) :: (gs.getD 28 undef) :: (gs.getD 29 undef) :: (gs.getD 30 undef) :: (gs.getD 31 undef) :: (gs.getD 32 undef) :: (gs.getD 33 undef) :: (gs.getD 34 undef) :: (gs.getD 35 undef) :: (gs.getD 36 undef) :: (gs.getD 37 undef) :: (gs.getD 38 undef) :: (gs.getD 39 undef) :: (gs.getD 40 undef) :: (gs.getD 41 undef) :: (gs.getD 42 undef) :: (gs.getD 43 undef) :: (gs.getD 44 undef) :: (gs.getD 45 undef) :: (gs.getD 46 undef) :: (gs.getD 47 undef) :: (gs.getD 48 undef) :: (gs.getD 49 undef) :: (gs.getD 50 undef) :: (gs.getD 51 undef) :: (gs.getD 52 undef) :: (gs.getD 53 undef) :: (gs.getD 54 undef) :: (gs.getD 55 undef) :: (gs.getD 56 undef) :: (gs.getD 57 undef) :: (gs.getD 58 undef) :: (gs.getD 59 undef) :: (gs.getD 60 undef) :: (gs.getD 61 undef) :: (gs.getD 62 undef) :: (gs.getD 63 undef) :: (gs.getD 64 undef) :: (gs.getD 65 undef) :: (gs.getD 66 undef) :: (gs.getD 67 undef) :: (gs.getD 68 undef) :: []), [clDefer sb]⟩ (.code (sel [1, 1, 1, 1, 1, 0, 1, 4, 4] bodyCd) :: [.inLoop (sel [1, 1, 1, 1, 1, 0, 1, 4, 4] bodyCd), .inBlock 0, .code (sel [1, 1, 1, 1, 1, 1] bodyCd)])) []
def AtDx (g : Goroutine) (A : Option Addr) (n cap sb ob idx : Nat) : Prop := ∀ {main : Bool} {Z : Addr → Prop} {Stop : Goroutine → World → Prop} {w₀ u : World}, (∀ gs, OwnU Try.prog main Z Stop w₀ (dxHead A n cap sb ob idx gs) u) → OwnU Try.prog main Z Stop w₀ g u
theorem defers_b {main : Bool} {Z : Addr → Prop} {Stop : Goroutine → World → Prop} {w₀ u : World} {A : Option Addr} {n cap : Nat} {sb : Nat} (hk : ∀ ob gs, u.heap.size = ob → OwnU Try.prog main Z Stop w₀ (dxHead A n cap sb ob 0 gs) (u.alloc (.cells #[.slice none 0 0] 22))) : OwnU Try.prog main Z Stop w₀ (G ((base 13).at ((⟨List.toArray (.slice A n cap :: undef :: .bool false :: undef :: undef :: undef :: undef :: undef :: undef :: undef :: undef :: .slice A n cap :: .int .i64 (n : Int) :: .bool false :: undef :: undef :: undef :: undef :: undef :: undef :: undef :: undef :: undef :: undef :: undef :: undef :: undef :: undef :: undef :: undef :: undef :: undef :: undef :: undef :: undef :: undef :: undef :: undef :: undef :: undef :: undef :: undef :: undef :: undef :: undef :: undef :: undef :: undef :: undef :: undef :: undef :: undef :: undef :: undef :: undef :: undef :: undef :: undef :: undef :: undef :: undef :: undef :: undef :: undef :: undef :: undef :: undef :: undef :: undef :: undef :: undef :: undef :: undef :: undef :: undef :: []), []⟩ : Act).put (((opsOf (sel [1, 1, 0] bodyCd))[0]?).bind (·.dst)) (ptr sb)) (.inRegion (opsOf (sel [1, 1, 0] bodyCd)) [1] :: [.code (sel [1, 1, 1] bodyCd)])) []) u := by
  refine ownU_quiet (i := 1) (rest := []) (ptr sb) rfl (by rfl) rfl (by decide) (fun _ => by kernel_rfl) ?_
  refine ownU_region_end ?_
  refine ownU_seq (x := sel [1, 1, 1, 0] bodyCd) (y := sel [1, 1, 1, 1] bodyCd) ?_
  refine ownU_region (id := 4) (ops := opsOf (sel [1, 1, 1, 0] bodyCd)) ?_
  refine ownU_quiet (i := 0) (rest := [1]) (ptr sb) rfl (by rfl) rfl (by decide) (fun _ => by kernel_rfl) ?_
  refine ownU_defer (i := 1) (rest := []) (d := clDefer sb) rfl (by rfl) (by decide) (fun _ => by kernel_rfl) (fun _ => by kernel_rfl) ?_
  refine ownU_region_end ?_
  refine ownU_seq (x := sel [1, 1, 1, 1, 0] bodyCd) (y := sel [1, 1, 1, 1, 1] bodyCd) ?_
  refine ownU_region (id := 5) (ops := opsOf (sel [1, 1, 1, 1, 0] bodyCd)) ?_
  refine ownU_new (.cells #[.slice none 0 0] 22) (i := 0) (rest := [1, 2]) rfl (by rfl) rfl (by decide) (fun _ => by kernel_rfl) ?_
  generalize hob : u.heap.size = ob at *
  refine ownU_quiet (i := 1) (rest := [2]) (.slice none 0 0) rfl (by rfl) rfl (by decide) (fun _ => by kernel_rfl) ?_
  refine ownU_quiet (i := 2) (rest := []) (.slice none 0 0) rfl (by rfl) rfl (by decide) (fun _ => by kernel_rfl) ?_
  refine ownU_region_end ?_
  refine ownU_lit (List.toArray (.slice A n cap :: undef :: .bool false :: ptr sb :: ptr ob :: .slice none 0 0 :: .slice none 0 0 :: undef :: undef :: undef :: undef :: .slice A n cap :: .int .i64 (n : Int) :: .bool false :: undef :: ptr sb :: ptr sb :: undef :: undef :: undef :: undef :: undef :: undef :: undef :: undef :: undef :: undef :: undef :: undef :: undef :: undef :: undef :: undef :: undef :: undef :: undef :: undef :: undef :: undef :: undef :: undef :: undef :: undef :: undef :: undef :: undef :: undef :: undef :: undef :: undef :: undef :: undef :: undef :: undef :: undef :: undef :: undef :: undef :: undef :: undef :: undef :: undef :: undef :: undef :: undef :: undef :: undef :: undef :: undef :: undef :: undef :: undef :: undef :: undef :: undef :: [])) [clDefer sb] (by kernel_rfl) (by kernel_rfl) ?_
  refine ownU_seq (x := sel [1, 1, 1, 1, 1, 0] bodyCd) (y := sel [1, 1, 1, 1, 1, 1] bodyCd) ?_
  refine ownU_seq (x := sel [1, 1, 1, 1, 1, 0, 0] bodyCd) (y := sel [1, 1, 1, 1, 1, 0, 1] bodyCd) ?_
  refine ownU_region (id := 6) (ops := opsOf (sel [1, 1, 1, 1, 1, 0, 0] bodyCd)) ?_
  refine ownU_quiet (i := 0) (rest := [1, 2]) (.slice A n cap) rfl (by rfl) rfl (by decide) (fun _ => by kernel_rfl) ?_
  refine ownU_quiet (i := 1) (rest := [2]) (.int .i64 (n : Int)) rfl (by rfl) rfl (by decide) (fun _ => by kernel_rfl) ?_
  refine ownU_quiet (i := 2) (rest := []) (.int .i64 0) rfl (by rfl) rfl (by decide) (fun _ => by kernel_rfl) ?_
  refine ownU_region_end ?_
  refine ownU_block (id := 0) (c := sel [1, 1, 1, 1, 1, 0, 1, 4] bodyCd) ?_
  refine ownU_loop (c := sel [1, 1, 1, 1, 1, 0, 1, 4, 4] bodyCd) ?_
  exact ownU_eq (by kernel_rfl) (hk ob [undef, undef, undef, undef, undef, .slice A n cap, .int .i64 (n : Int), .bool false, undef, ptr sb, ptr sb, .slice A n cap, .int .i64 (n : Int), .int .i64 0, undef, undef, undef, undef, undef, undef, undef, undef, undef, undef, undef, undef, undef, undef, undef, undef, undef, undef, undef, undef, undef, undef, undef, undef, undef, undef, undef, undef, undef, undef, undef, undef, undef, undef, undef, undef, undef, undef, undef, undef, undef, undef, undef, undef, undef, undef, undef, undef, undef, undef, undef, undef, undef, undef, undef] rfl)
noncomputable def dsAct (A : Option Addr) (n cap sb ob idx kb : Nat) (ad : Addr) (z : Int) (gs : List Value) : Act := ⟨List.toArray (.slice A n cap :: (gs.getD 0 undef) :: .bool false :: ptr sb :: ptr ob :: .slice none 0 0 :: .slice none 0 0 :: (gs.getD 1 undef) :: ptr kb :: (gs.getD 3 undef) :: (gs.getD 4 undef) :: (gs.getD 5 undef) :: (gs.getD 6 undef) :: (gs.getD 7 undef) :: (gs.getD 8 undef) :: (gs.getD 9 undef) :: (gs.getD 10 undef) :: .slice A n cap :: .int .i64 (n : Int) :: .int .i64 (idx : Int) :: .bool true :: .pointer (some (ad.add idx)) :: .int .u8 z :: ptr sb :: fvD1 ob kb :: (gs.getD 19 undef) :: (gs.getD 20 undef) :: (gs.getD 21 undef) :: (gs.getD 22 undef) :: (gs.getD 23 undef) :: (gs.getD 24 undef) :: (gs.getD 25 undef) :: (gs.getD 26 undef) :: (gs.getD 27 undef) :: (gs.getD 28 undef) :: (gs.getD 29 undef) :: (gs.getD 30 undef) :: (gs.getD 31 undef) :: (gs.getD 32 undef) :: (gs.getD 33 undef) :: (gs.getD 34 undef) :: (gs.getD 35 undef) :: (gs.getD 36 undef) :: (gs.getD 37 undef) :: (gs.getD 38 undef) :: (gs.getD 39 undef) :: (gs.getD 40 undef) :: (gs.getD 41 undef) :: (gs.getD 42 undef) :: (gs.getD 43 undef) :: (gs.getD 44 undef) :: (gs.getD 45 undef) :: (gs.getD 46 undef) :: (gs.getD 47 undef) :: (gs.getD 48 undef) :: (gs.getD 49 undef) :: (gs.getD 50 undef) :: (gs.getD 51 undef) :: (gs.getD 52 undef) :: (gs.getD 53 undef) :: (gs.getD 54 undef) :: (gs.getD 55 undef) :: (gs.getD 56 undef) :: (gs.getD 57 undef) :: (gs.getD 58 undef) :: (gs.getD 59 undef) :: (gs.getD 60 undef) :: (gs.getD 61 undef) :: (gs.getD 62 undef) :: (gs.getD 63 undef) :: (gs.getD 64 undef) :: (gs.getD 65 undef) :: (gs.getD 66 undef) :: (gs.getD 67 undef) :: (gs.getD 68 undef) :: []), [clDefer sb]⟩
theorem defers_spawn {main : Bool} {Z : Addr → Prop} {Stop : Goroutine → World → Prop} {w₀ u : World} {A : Option Addr} {n cap : Nat} {sb ob idx : Nat} {gs : List Value} {ad : Addr} {z : Int} (hA : A = some ad) (hidx : idx < n) (hc : u.cell? (ad.add idx) = some (.int .u8 z))
    (hk : ∀ kb, u.heap.size = kb → OwnU Try.prog main Z Stop w₀ (spawnIn sb (fvD1 ob kb) (((base 13).at (dsAct A n cap sb ob idx kb ad z gs) (.inRegion (opsOf (sel [1, 1, 1, 1, 1, 0, 1, 4, 4, 1, 1, 0, 4, 1] bodyCd)) (2 :: []) :: .inBlock 1 :: .code (sel [1, 1, 1, 1, 1, 0, 1, 4, 4, 1, 1, 1] bodyCd) :: [.inLoop (sel [1, 1, 1, 1, 1, 0, 1, 4, 4] bodyCd), .inBlock 0, .code (sel [1, 1, 1, 1, 1, 1] bodyCd)])) :: [])) ((u.alloc (.cells #[.int .u8 0] 5)).setCell ⟨kb, 0, none⟩ (.int .u8 z))) : OwnU Try.prog main Z Stop w₀ (dxHead A n cap sb ob idx gs) u := by
  unfold dxHead
  refine ownU_seq (x := sel [1, 1, 1, 1, 1, 0, 1, 4, 4, 0] bodyCd) (y := sel [1, 1, 1, 1, 1, 0, 1, 4, 4, 1] bodyCd) ?_
  refine ownU_region (id := 7) (ops := opsOf (sel [1, 1, 1, 1, 1, 0, 1, 4, 4, 0] bodyCd)) ?_
  refine ownU_quiet (i := 0) (rest := []) (.bool true) rfl (by rfl) rfl (by decide) (fun _ => lss_v (p := (idx : Int)) (q := (n : Int)) rfl (by kernel_rfl) (by kernel_rfl) (by simp; omega)) ?_
  refine ownU_region_end ?_
  refine ownU_seq (x := sel [1, 1, 1, 1, 1, 0, 1, 4, 4, 1, 0] bodyCd) (y := sel [1, 1, 1, 1, 1, 0, 1, 4, 4, 1, 1] bodyCd) ?_
  refine ownU_cond (c := .tmp 20) (x := .skip) (y := .exit 0) (t := true) (by kernel_rfl) ?_
  refine ownU_skip ?_
  refine ownU_seq (x := sel [1, 1, 1, 1, 1, 0, 1, 4, 4, 1, 1, 0] bodyCd) (y := sel [1, 1, 1, 1, 1, 0, 1, 4, 4, 1, 1, 1] bodyCd) ?_
  refine ownU_block (id := 1) (c := sel [1, 1, 1, 1, 1, 0, 1, 4, 4, 1, 1, 0, 4] bodyCd) ?_
  refine ownU_seq (x := sel [1, 1, 1, 1, 1, 0, 1, 4, 4, 1, 1, 0, 4, 0] bodyCd) (y := sel [1, 1, 1, 1, 1, 0, 1, 4, 4, 1, 1, 0, 4, 1] bodyCd) ?_
  refine ownU_region (id := 8) (ops := opsOf (sel [1, 1, 1, 1, 1, 0, 1, 4, 4, 1, 1, 0, 4, 0] bodyCd)) ?_
  refine ownU_quiet (i := 0) (rest := [1, 2, 3]) (.pointer (some (ad.add idx))) rfl (by rfl) rfl (by decide) (fun w => idx_b (cap := cap) hA w rfl (by kernel_rfl) (by kernel_rfl) hidx) ?_
  refine ownU_load (i := 1) (rest := [2, 3]) (ad.add idx) (.int .u8 z) rfl (by rfl) (by decide) loads_u8 rfl (by kernel_rfl) hc ?_
  refine ownU_new (.cells #[.int .u8 0] 5) (i := 2) (rest := [3]) rfl (by rfl) rfl (by decide) (fun _ => by kernel_rfl) ?_
  have hcell : (u.alloc (.cells #[.int .u8 0] 5)).cell? ⟨u.heap.size, 0, none⟩ = some (.int .u8 0) := blk_cell (alloc_new' u _ rfl) 0 _ rfl
  have hfree : (u.alloc (.cells #[.int .u8 0] 5)).frozen? ⟨u.heap.size, 0, none⟩ = false := frozen_new u _
  generalize hkb : u.heap.size = kb at *
  refine ownU_store (i := 3) (rest := []) ⟨kb, 0, none⟩ (.int .u8 z) rfl (by rfl) rfl (by decide) (fun w e1 e2 => store_op (stores_u8 z) rfl (by kernel_rfl) (by kernel_rfl) (e1.trans hcell) (e2.trans hfree)) ?_
  refine ownU_region_end ?_
  refine ownU_lit (List.toArray (.slice A n cap :: (gs.getD 0 undef) :: .bool false :: ptr sb :: ptr ob :: .slice none 0 0 :: .slice none 0 0 :: (gs.getD 1 undef) :: ptr kb :: (gs.getD 3 undef) :: (gs.getD 4 undef) :: (gs.getD 5 undef) :: (gs.getD 6 undef) :: (gs.getD 7 undef) :: (gs.getD 8 undef) :: (gs.getD 9 undef) :: (gs.getD 10 undef) :: .slice A n cap :: .int .i64 (n : Int) :: .int .i64 (idx : Int) :: .bool true :: .pointer (some (ad.add idx)) :: .int .u8 z :: (gs.getD 17 undef) :: (gs.getD 18 undef) :: (gs.getD 19 undef) :: (gs.getD 20 undef) :: (gs.getD 21 undef) :: (gs.getD 22 undef) :: (gs.getD 23 undef) :: (gs.getD 24 undef) :: (gs.getD 25 undef) :: (gs.getD 26 undef) :: (gs.getD 27 undef) :: (gs.getD 28 undef) :: (gs.getD 29 undef) :: (gs.getD 30 undef) :: (gs.getD 31 undef) :: (gs.getD 32 undef) :: (gs.getD 33 undef) :: (gs.getD 34 undef) :: (gs.getD 35 undef) :: (gs.getD 36 undef) :: (gs.getD 37 undef) :: (gs.getD 38 undef) :: (gs.getD 39 undef) :: (gs.getD 40 undef) :: (gs.getD 41 undef) :: (gs.getD 42 undef) :: (gs.getD 43 undef) :: (gs.getD 44 undef) :: (gs.getD 45 undef) :: (gs.getD 46 undef) :: (gs.getD 47 undef) :: (gs.getD 48 undef) :: (gs.getD 49 undef) :: (gs.getD 50 undef) :: (gs.getD 51 undef) :: (gs.getD 52 undef) :: (gs.getD 53 undef) :: (gs.getD 54 undef) :: (gs.getD 55 undef) :: (gs.getD 56 undef) :: (gs.getD 57 undef) :: (gs.getD 58 undef) :: (gs.getD 59 undef) :: (gs.getD 60 undef) :: (gs.getD 61 undef) :: (gs.getD 62 undef) :: (gs.getD 63 undef) :: (gs.getD 64 undef) :: (gs.getD 65 undef) :: (gs.getD 66 undef) :: (gs.getD 67 undef) :: (gs.getD 68 undef) :: [])) [clDefer sb] (by kernel_rfl) (by kernel_rfl) ?_
  refine ownU_region (id := 9) (ops := opsOf (sel [1, 1, 1, 1, 1, 0, 1, 4, 4, 1, 1, 0, 4, 1] bodyCd)) ?_
  refine ownU_quiet (i := 0) (rest := [1, 2]) (ptr sb) rfl (by rfl) rfl (by decide) (fun _ => by kernel_rfl) ?_
  refine ownU_quiet (i := 1) (rest := [2]) (fvD1 ob kb) rfl (by rfl) rfl (by decide) (fun _ => by kernel_rfl) ?_
  refine ownU_lit (List.toArray (.slice A n cap :: (gs.getD 0 undef) :: .bool false :: ptr sb :: ptr ob :: .slice none 0 0 :: .slice none 0 0 :: (gs.getD 1 undef) :: ptr kb :: (gs.getD 3 undef) :: (gs.getD 4 undef) :: (gs.getD 5 undef) :: (gs.getD 6 undef) :: (gs.getD 7 undef) :: (gs.getD 8 undef) :: (gs.getD 9 undef) :: (gs.getD 10 undef) :: .slice A n cap :: .int .i64 (n : Int) :: .int .i64 (idx : Int) :: .bool true :: .pointer (some (ad.add idx)) :: .int .u8 z :: ptr sb :: fvD1 ob kb :: (gs.getD 19 undef) :: (gs.getD 20 undef) :: (gs.getD 21 undef) :: (gs.getD 22 undef) :: (gs.getD 23 undef) :: (gs.getD 24 undef) :: (gs.getD 25 undef) :: (gs.getD 26 undef) :: (gs.getD 27 undef) :: (gs.getD 28 undef) :: (gs.getD 29 undef) :: (gs.getD 30 undef) :: (gs.getD 31 undef) :: (gs.getD 32 undef) :: (gs.getD 33 undef) :: (gs.getD 34 undef) :: (gs.getD 35 undef) :: (gs.getD 36 undef) :: (gs.getD 37 undef) :: (gs.getD 38 undef) :: (gs.getD 39 undef) :: (gs.getD 40 undef) :: (gs.getD 41 undef) :: (gs.getD 42 undef) :: (gs.getD 43 undef) :: (gs.getD 44 undef) :: (gs.getD 45 undef) :: (gs.getD 46 undef) :: (gs.getD 47 undef) :: (gs.getD 48 undef) :: (gs.getD 49 undef) :: (gs.getD 50 undef) :: (gs.getD 51 undef) :: (gs.getD 52 undef) :: (gs.getD 53 undef) :: (gs.getD 54 undef) :: (gs.getD 55 undef) :: (gs.getD 56 undef) :: (gs.getD 57 undef) :: (gs.getD 58 undef) :: (gs.getD 59 undef) :: (gs.getD 60 undef) :: (gs.getD 61 undef) :: (gs.getD 62 undef) :: (gs.getD 63 undef) :: (gs.getD 64 undef) :: (gs.getD 65 undef) :: (gs.getD 66 undef) :: (gs.getD 67 undef) :: (gs.getD 68 undef) :: [])) [clDefer sb] (by kernel_rfl) (by kernel_rfl) ?_
  refine ownU_enter (i := 2) (rest := []) (f := 37) rfl (by rfl) (by decide) rfl Try.func37 (by kernel_rfl) rfl ?_
  exact ownU_eq (by kernel_rfl) (hk kb rfl)
theorem defers_spawned {A : Option Addr} {n cap sb ob idx kb : Nat} {ad : Addr} {z : Int} {gs : List Value} {x : Value} (hi : IntKind.i64.wrap ((idx : Int) + 1) = ((idx + 1 : Nat) : Int)) : AtDx (G ((base 13).at ((dsAct A n cap sb ob idx kb ad z gs).put (((opsOf (sel [1, 1, 1, 1, 1, 0, 1, 4, 4, 1, 1, 0, 4, 1] bodyCd))[2]?).bind (·.dst)) x) (.inRegion (opsOf (sel [1, 1, 1, 1, 1, 0, 1, 4, 4, 1, 1, 0, 4, 1] bodyCd)) [] :: .inBlock 1 :: .code (sel [1, 1, 1, 1, 1, 0, 1, 4, 4, 1, 1, 1] bodyCd) :: [.inLoop (sel [1, 1, 1, 1, 1, 0, 1, 4, 4] bodyCd), .inBlock 0, .code (sel [1, 1, 1, 1, 1, 1] bodyCd)])) []) A n cap sb ob (idx + 1) := by
  intro main Z Stop w₀ u hk
  refine ownU_region_end ?_
  refine ownU_inBlock ?_
  refine ownU_lit (List.toArray (.slice A n cap :: (gs.getD 0 undef) :: .bool false :: ptr sb :: ptr ob :: .slice none 0 0 :: .slice none 0 0 :: (gs.getD 1 undef) :: ptr kb :: (gs.getD 3 undef) :: (gs.getD 4 undef) :: (gs.getD 5 undef) :: (gs.getD 6 undef) :: (gs.getD 7 undef) :: (gs.getD 8 undef) :: (gs.getD 9 undef) :: (gs.getD 10 undef) :: .slice A n cap :: .int .i64 (n : Int) :: .int .i64 (idx : Int) :: .bool true :: .pointer (some (ad.add idx)) :: .int .u8 z :: ptr sb :: fvD1 ob kb :: x :: (gs.getD 20 undef) :: (gs.getD 21 undef) :: (gs.getD 22 undef) :: (gs.getD 23 undef) :: (gs.getD 24 undef) :: (gs.getD 25 undef) :: (gs.getD 26 undef) :: (gs.getD 27 undef) :: (gs.getD 28 undef) :: (gs.getD 29 undef) :: (gs.getD 30 undef) :: (gs.getD 31 undef) :: (gs.getD 32 undef) :: (gs.getD 33 undef) :: (gs.getD 34 undef) :: (gs.getD 35 undef) :: (gs.getD 36 undef) :: (gs.getD 37 undef) :: (gs.getD 38 undef) :: (gs.getD 39 undef) :: (gs.getD 40 undef) :: (gs.getD 41 undef) :: (gs.getD 42 undef) :: (gs.getD 43 undef) :: (gs.getD 44 undef) :: (gs.getD 45 undef) :: (gs.getD 46 undef) :: (gs.getD 47 undef) :: (gs.getD 48 undef) :: (gs.getD 49 undef) :: (gs.getD 50 undef) :: (gs.getD 51 undef) :: (gs.getD 52 undef) :: (gs.getD 53 undef) :: (gs.getD 54 undef) :: (gs.getD 55 undef) :: (gs.getD 56 undef) :: (gs.getD 57 undef) :: (gs.getD 58 undef) :: (gs.getD 59 undef) :: (gs.getD 60 undef) :: (gs.getD 61 undef) :: (gs.getD 62 undef) :: (gs.getD 63 undef) :: (gs.getD 64 undef) :: (gs.getD 65 undef) :: (gs.getD 66 undef) :: (gs.getD 67 undef) :: (gs.getD 68 undef) :: [])) [clDefer sb] (by kernel_rfl) (by kernel_rfl) ?_
  refine ownU_region (id := 10) (ops := opsOf (sel [1, 1, 1, 1, 1, 0, 1, 4, 4, 1, 1, 1] bodyCd)) ?_
  refine ownU_quiet (i := 0) (rest := [1]) (.int .i64 ((idx + 1 : Nat) : Int)) rfl (by rfl) rfl (by decide) (fun _ => by rw [← hi]; kernel_rfl) ?_
  refine ownU_quiet (i := 1) (rest := []) (.int .i64 ((idx + 1 : Nat) : Int)) rfl (by rfl) rfl (by decide) (fun _ => by kernel_rfl) ?_
  refine ownU_region_end ?_
  refine ownU_inLoop ?_
  exact ownU_eq (by kernel_rfl) (hk [(gs.getD 0 undef), (gs.getD 1 undef), ptr kb, (gs.getD 3 undef), (gs.getD 4 undef), (gs.getD 5 undef), (gs.getD 6 undef), (gs.getD 7 undef), (gs.getD 8 undef), (gs.getD 9 undef), (gs.getD 10 undef), .slice A n cap, .int .i64 (n : Int), .int .i64 ((idx + 1 : Nat) : Int), .bool true, .pointer (some (ad.add idx)), .int .u8 z, ptr sb, fvD1 ob kb, x, .int .i64 ((idx + 1 : Nat) : Int), (gs.getD 21 undef), (gs.getD 22 undef), (gs.getD 23 undef), (gs.getD 24 undef), (gs.getD 25 undef), (gs.getD 26 undef), (gs.getD 27 undef), (gs.getD 28 undef), (gs.getD 29 undef), (gs.getD 30 undef), (gs.getD 31 undef), (gs.getD 32 undef), (gs.getD 33 undef), (gs.getD 34 undef), (gs.getD 35 undef), (gs.getD 36 undef), (gs.getD 37 undef), (gs.getD 38 undef), (gs.getD 39 undef), (gs.getD 40 undef), (gs.getD 41 undef), (gs.getD 42 undef), (gs.getD 43 undef), (gs.getD 44 undef), (gs.getD 45 undef), (gs.getD 46 undef), (gs.getD 47 undef), (gs.getD 48 undef), (gs.getD 49 undef), (gs.getD 50 undef), (gs.getD 51 undef), (gs.getD 52 undef), (gs.getD 53 undef), (gs.getD 54 undef), (gs.getD 55 undef), (gs.getD 56 undef), (gs.getD 57 undef), (gs.getD 58 undef), (gs.getD 59 undef), (gs.getD 60 undef), (gs.getD 61 undef), (gs.getD 62 undef), (gs.getD 63 undef), (gs.getD 64 undef), (gs.getD 65 undef), (gs.getD 66 undef), (gs.getD 67 undef), (gs.getD 68 undef)])
/-- At the head of the loop that says who appends when. -/
noncomputable def dwHead (A : Option Addr) (n cap sb ob idx : Nat) (vf vl : Value) (gs : List Value) : Goroutine := G ((base 13).at ⟨List.toArray (.slice A n cap :: (gs.getD 0 undef) :: .bool false :: ptr sb :: ptr ob :: vf :: vl :: (gs.getD 1 undef) :: (gs.getD 2 undef) :: (gs.getD 3 undef) :: (gs.getD 4 undef) :: (gs.getD 5 undef) :: (gs.getD 6 undef) :: (gs.getD 7 undef) :: (gs.getD 8 undef) :: (gs.getD 9 undef) :: (gs.getD 10 undef) :: (gs.getD 11 undef) :: (gs.getD 12 undef) :: (gs.getD 13 undef) :: (gs.getD 14 undef) :: (gs.getD 15 undef) :: (gs.getD 16 undef) :: (gs.getD 17 undef) :: (gs.getD 18 undef) :: (gs.getD 19 undef) :: (gs.getD 20 undef) :: .slice A n cap :: .int .i64 (n : Int) :: .int .i64 (idx : Int) :: (gs.getD 24 undef) :: (gs.getD 25 undef) :: (gs.getD 26 undef) :: (gs.getD 27 undef) :: (gs.getD 28 undef) :: (gs.getD 29 undef) :: (gs.getD 30 undef) :: (gs.getD 31 undef) :: (gs.getD 32 undef) :: (gs.getD 33 undef) :: (gs.getD 34 undef) :: (gs.getD 35 undef) :: (gs.getD 36 undef) :: (gs.getD 37 undef) :: (gs.getD 38 undef) :: (gs.getD 39 undef) :: (gs.getD 40 undef) :: (gs.getD 41 undef) :: (gs.getD 42 undef) :: (gs.getD 43 undef) :: (gs.getD 44 undef) :: (gs.getD 45 undef) :: (gs.getD 46 undef) :: (gs.getD 47 undef) :: (gs.getD 48 undef) :: (gs.getD 49 undef) :: (gs.getD 50 undef) :: (gs.getD 51 undef) :: (gs.getD 52 undef) :: (gs.getD 53 undef) :: (gs.getD 54 undef) :: (gs.getD 55 undef) :: (gs.getD 56 undef) :: (gs.getD 57 undef) :: (gs.getD 58 undef) :: (gs.getD 59 undef) :: (gs.getD 60 undef) :: (gs.getD 61 undef) :: (gs.getD 62 undef) :: (gs.getD 63 undef) :: (gs.getD 64 undef) :: (gs.getD 65 undef) :: (gs.getD 66 undef) :: (gs.getD 67 undef) :: (gs.getD 68 undef) :: []), [clDefer sb]⟩ (.code (sel [1, 1, 1, 1, 1, 1, 0, 1, 4, 4] bodyCd) :: [.inLoop (sel [1, 1, 1, 1, 1, 1, 0, 1, 4, 4] bodyCd), .inBlock 2, .code (sel [1, 1, 1, 1, 1, 1, 1] bodyCd)])) []
theorem defers_wants {main : Bool} {Z : Addr → Prop} {Stop : Goroutine → World → Prop} {w₀ u : World} {A : Option Addr} {n cap : Nat} {sb ob idx : Nat} {gs : List Value} (hidx : n ≤ idx) (hk : ∀ gs, OwnU Try.prog main Z Stop w₀ (dwHead A n cap sb ob 0 (.slice none 0 0) (.slice none 0 0) gs) u) : OwnU Try.prog main Z Stop w₀ (dxHead A n cap sb ob idx gs) u := by
  unfold dxHead
  refine ownU_seq (x := sel [1, 1, 1, 1, 1, 0, 1, 4, 4, 0] bodyCd) (y := sel [1, 1, 1, 1, 1, 0, 1, 4, 4, 1] bodyCd) ?_
  refine ownU_region (id := 7) (ops := opsOf (sel [1, 1, 1, 1, 1, 0, 1, 4, 4, 0] bodyCd)) ?_
  refine ownU_quiet (i := 0) (rest := []) (.bool false) rfl (by rfl) rfl (by decide) (fun _ => lss_v (p := (idx : Int)) (q := (n : Int)) rfl (by kernel_rfl) (by kernel_rfl) (by simp; omega)) ?_
  refine ownU_region_end ?_
  refine ownU_seq (x := sel [1, 1, 1, 1, 1, 0, 1, 4, 4, 1, 0] bodyCd) (y := sel [1, 1, 1, 1, 1, 0, 1, 4, 4, 1, 1] bodyCd) ?_
  refine ownU_cond (c := .tmp 20) (x := .skip) (y := .exit 0) (t := false) (by kernel_rfl) ?_
  refine ownU_exit (k' := [.code (sel [1, 1, 1, 1, 1, 1] bodyCd)]) rfl ?_
  refine ownU_lit (List.toArray (.slice A n cap :: (gs.getD 0 undef) :: .bool false :: ptr sb :: ptr ob :: .slice none 0 0 :: .slice none 0 0 :: (gs.getD 1 undef) :: (gs.getD 2 undef) :: (gs.getD 3 undef) :: (gs.getD 4 undef) :: (gs.getD 5 undef) :: (gs.getD 6 undef) :: (gs.getD 7 undef) :: (gs.getD 8 undef) :: (gs.getD 9 undef) :: (gs.getD 10 undef) :: .slice A n cap :: .int .i64 (n : Int) :: .int .i64 (idx : Int) :: .bool false :: (gs.getD 15 undef) :: (gs.getD 16 undef) :: (gs.getD 17 undef) :: (gs.getD 18 undef) :: (gs.getD 19 undef) :: (gs.getD 20 undef) :: (gs.getD 21 undef) :: (gs.getD 22 undef) :: (gs.getD 23 undef) :: (gs.getD 24 undef) :: (gs.getD 25 undef) :: (gs.getD 26 undef) :: (gs.getD 27 undef) :: (gs.getD 28 undef) :: (gs.getD 29 undef) :: (gs.getD 30 undef) :: (gs.getD 31 undef) :: (gs.getD 32 undef) :: (gs.getD 33 undef) :: (gs.getD 34 undef) :: (gs.getD 35 undef) :: (gs.getD 36 undef) :: (gs.getD 37 undef) :: (gs.getD 38 undef) :: (gs.getD 39 undef) :: (gs.getD 40 undef) :: (gs.getD 41 undef) :: (gs.getD 42 undef) :: (gs.getD 43 undef) :: (gs.getD 44 undef) :: (gs.getD 45 undef) :: (gs.getD 46 undef) :: (gs.getD 47 undef) :: (gs.getD 48 undef) :: (gs.getD 49 undef) :: (gs.getD 50 undef) :: (gs.getD 51 undef) :: (gs.getD 52 undef) :: (gs.getD 53 undef) :: (gs.getD 54 undef) :: (gs.getD 55 undef) :: (gs.getD 56 undef) :: (gs.getD 57 undef) :: (gs.getD 58 undef) :: (gs.getD 59 undef) :: (gs.getD 60 undef) :: (gs.getD 61 undef) :: (gs.getD 62 undef) :: (gs.getD 63 undef) :: (gs.getD 64 undef) :: (gs.getD 65 undef) :: (gs.getD 66 undef) :: (gs.getD 67 undef) :: (gs.getD 68 undef) :: [])) [clDefer sb] (by kernel_rfl) (by kernel_rfl) ?_
  refine ownU_seq (x := sel [1, 1, 1, 1, 1, 1, 0] bodyCd) (y := sel [1, 1, 1, 1, 1, 1, 1] bodyCd) ?_
  refine ownU_seq (x := sel [1, 1, 1, 1, 1, 1, 0, 0] bodyCd) (y := sel [1, 1, 1, 1, 1, 1, 0, 1] bodyCd) ?_
  refine ownU_region (id := 11) (ops := opsOf (sel [1, 1, 1, 1, 1, 1, 0, 0] bodyCd)) ?_
  refine ownU_quiet (i := 0) (rest := [1, 2]) (.slice A n cap) rfl (by rfl) rfl (by decide) (fun _ => by kernel_rfl) ?_
  refine ownU_quiet (i := 1) (rest := [2]) (.int .i64 (n : Int)) rfl (by rfl) rfl (by decide) (fun _ => by kernel_rfl) ?_
  refine ownU_quiet (i := 2) (rest := []) (.int .i64 0) rfl (by rfl) rfl (by decide) (fun _ => by kernel_rfl) ?_
  refine ownU_region_end ?_
  refine ownU_block (id := 2) (c := sel [1, 1, 1, 1, 1, 1, 0, 1, 4] bodyCd) ?_
  refine ownU_loop (c := sel [1, 1, 1, 1, 1, 1, 0, 1, 4, 4] bodyCd) ?_
  exact ownU_eq (by kernel_rfl) (hk [(gs.getD 0 undef), (gs.getD 1 undef), (gs.getD 2 undef), (gs.getD 3 undef), (gs.getD 4 undef), (gs.getD 5 undef), (gs.getD 6 undef), (gs.getD 7 undef), (gs.getD 8 undef), (gs.getD 9 undef), (gs.getD 10 undef), .slice A n cap, .int .i64 (n : Int), .int .i64 (idx : Int), .bool false, (gs.getD 15 undef), (gs.getD 16 undef), (gs.getD 17 undef), (gs.getD 18 undef), (gs.getD 19 undef), (gs.getD 20 undef), .slice A n cap, .int .i64 (n : Int), .int .i64 0, (gs.getD 24 undef), (gs.getD 25 undef), (gs.getD 26 undef), (gs.getD 27 undef), (gs.getD 28 undef), (gs.getD 29 undef), (gs.getD 30 undef), (gs.getD 31 undef), (gs.getD 32 undef), (gs.getD 33 undef), (gs.getD 34 undef), (gs.getD 35 undef), (gs.getD 36 undef), (gs.getD 37 undef), (gs.getD 38 undef), (gs.getD 39 undef), (gs.getD 40 undef), (gs.getD 41 undef), (gs.getD 42 undef), (gs.getD 43 undef), (gs.getD 44 undef), (gs.getD 45 undef), (gs.getD 46 undef), (gs.getD 47 undef), (gs.getD 48 undef), (gs.getD 49 undef), (gs.getD 50 undef), (gs.getD 51 undef), (gs.getD 52 undef), (gs.getD 53 undef), (gs.getD 54 undef), (gs.getD 55 undef), (gs.getD 56 undef), (gs.getD 57 undef), (gs.getD 58 undef), (gs.getD 59 undef), (gs.getD 60 undef), (gs.getD 61 undef), (gs.getD 62 undef), (gs.getD 63 undef), (gs.getD 64 undef), (gs.getD 65 undef), (gs.getD 66 undef), (gs.getD 67 undef), (gs.getD 68 undef)])
theorem defers_last {main : Bool} {Z : Addr → Prop} {Stop : Goroutine → World → Prop} {w₀ u : World} {A : Option Addr} {n cap : Nat} {sb ob idx : Nat} {gs : List Value} {vf vl : Value} {ad : Addr} {z m : Int} {xs : List Value} (hA : A = some ad) (hidx : idx < n) (hc : u.cell? (ad.add idx) = some (.int .u8 z)) (hz : 0 ≤ z ∧ z < 256) (hm : z % 3 = m) (hi : IntKind.i64.wrap ((idx : Int) + 1) = ((idx + 1 : Nat) : Int)) (hm1 : m = 1) (hrow : QRow u vl xs) (hlen : xs.length < 1000000)
    (hk : ∀ v' u2 gs, QRow u2 v' (xs ++ [.int .i64 ((idx + 1 : Nat) : Int)]) → u2.os = u.os → u2.output = u.output → u.heap.size ≤ u2.heap.size → (∀ g, g < u.heap.size → vl.ownBlock ≠ some g → u2.heap[g]? = u.heap[g]?) → (v'.ownBlock = vl.ownBlock ∨ ∀ g, v'.ownBlock = some g → u.heap.size ≤ g) → OwnU Try.prog main Z Stop w₀ (dwHead A n cap sb ob (idx + 1) (vf) (v') gs) u2) : OwnU Try.prog main Z Stop w₀ (dwHead A n cap sb ob idx vf vl gs) u := by
  have hnew : New u (u.alloc (.cells #[.int .i64 ((idx + 1 : Nat) : Int)] 3)) := New.alloc u _
  obtain ⟨i0, hti, hz0, hz1, hz2⟩ := info_parts infoInt
  have hrow1 : QRow (u.alloc (.cells #[.int .i64 ((idx + 1 : Nat) : Int)] 3)) vl xs := hrow.keep fun g hg => hnew.block g (hrow.lt g hg)
  have hcell : (u.alloc (.cells #[.int .i64 ((idx + 1 : Nat) : Int)] 3)).cell? ⟨u.heap.size, 0, none⟩ = some (.int .i64 ((idx + 1 : Nat) : Int)) := blk_cell (alloc_new' u _ rfl) 0 _ rfl
  have hsz : u.heap.size ≤ (u.alloc (.cells #[.int .i64 ((idx + 1 : Nat) : Int)] 3)).heap.size := hnew.size
  unfold dwHead at *
  refine ownU_seq (x := sel [1, 1, 1, 1, 1, 1, 0, 1, 4, 4, 0] bodyCd) (y := sel [1, 1, 1, 1, 1, 1, 0, 1, 4, 4, 1] bodyCd) ?_
  refine ownU_region (id := 12) (ops := opsOf (sel [1, 1, 1, 1, 1, 1, 0, 1, 4, 4, 0] bodyCd)) ?_
  refine ownU_quiet (i := 0) (rest := []) (.bool true) rfl (by rfl) rfl (by decide) (fun _ => lss_v (p := (idx : Int)) (q := (n : Int)) rfl (by kernel_rfl) (by kernel_rfl) (by simp; omega)) ?_
  refine ownU_region_end ?_
  refine ownU_seq (x := sel [1, 1, 1, 1, 1, 1, 0, 1, 4, 4, 1, 0] bodyCd) (y := sel [1, 1, 1, 1, 1, 1, 0, 1, 4, 4, 1, 1] bodyCd) ?_
  refine ownU_cond (c := .tmp 30) (x := .skip) (y := .exit 2) (t := true) (by kernel_rfl) ?_
  refine ownU_skip ?_
  refine ownU_seq (x := sel [1, 1, 1, 1, 1, 1, 0, 1, 4, 4, 1, 1, 0] bodyCd) (y := sel [1, 1, 1, 1, 1, 1, 0, 1, 4, 4, 1, 1, 1] bodyCd) ?_
  refine ownU_block (id := 3) (c := sel [1, 1, 1, 1, 1, 1, 0, 1, 4, 4, 1, 1, 0, 4] bodyCd) ?_
  refine ownU_seq (x := sel [1, 1, 1, 1, 1, 1, 0, 1, 4, 4, 1, 1, 0, 4, 0] bodyCd) (y := sel [1, 1, 1, 1, 1, 1, 0, 1, 4, 4, 1, 1, 0, 4, 1] bodyCd) ?_
  refine ownU_region (id := 13) (ops := opsOf (sel [1, 1, 1, 1, 1, 1, 0, 1, 4, 4, 1, 1, 0, 4, 0] bodyCd)) ?_
  refine ownU_quiet (i := 0) (rest := [1, 2, 3, 4]) (.int .i64 (idx : Int)) rfl (by rfl) rfl (by decide) (fun _ => by kernel_rfl) ?_
  refine ownU_quiet (i := 1) (rest := [2, 3, 4]) (.pointer (some (ad.add idx))) rfl (by rfl) rfl (by decide) (fun w => idx_b (cap := cap) hA w rfl (by kernel_rfl) (by kernel_rfl) hidx) ?_
  refine ownU_load (i := 2) (rest := [3, 4]) (ad.add idx) (.int .u8 z) rfl (by rfl) (by decide) loads_u8 rfl (by kernel_rfl) hc ?_
  refine ownU_quiet (i := 3) (rest := [4]) (.int .i64 (idx : Int)) rfl (by rfl) rfl (by decide) (fun _ => by kernel_rfl) ?_
  refine ownU_quiet (i := 4) (rest := []) (.int .u8 z) rfl (by rfl) rfl (by decide) (fun _ => by kernel_rfl) ?_
  refine ownU_region_end ?_
  refine ownU_lit (List.toArray (.slice A n cap :: (gs.getD 0 undef) :: .bool false :: ptr sb :: ptr ob :: vf :: vl :: (gs.getD 1 undef) :: (gs.getD 2 undef) :: .int .i64 (idx : Int) :: .int .u8 z :: (gs.getD 5 undef) :: (gs.getD 6 undef) :: (gs.getD 7 undef) :: (gs.getD 8 undef) :: (gs.getD 9 undef) :: (gs.getD 10 undef) :: (gs.getD 11 undef) :: (gs.getD 12 undef) :: (gs.getD 13 undef) :: (gs.getD 14 undef) :: (gs.getD 15 undef) :: (gs.getD 16 undef) :: (gs.getD 17 undef) :: (gs.getD 18 undef) :: (gs.getD 19 undef) :: (gs.getD 20 undef) :: .slice A n cap :: .int .i64 (n : Int) :: .int .i64 (idx : Int) :: .bool true :: .int .i64 (idx : Int) :: .pointer (some (ad.add idx)) :: .int .u8 z :: (gs.getD 28 undef) :: (gs.getD 29 undef) :: (gs.getD 30 undef) :: (gs.getD 31 undef) :: (gs.getD 32 undef) :: (gs.getD 33 undef) :: (gs.getD 34 undef) :: (gs.getD 35 undef) :: (gs.getD 36 undef) :: (gs.getD 37 undef) :: (gs.getD 38 undef) :: (gs.getD 39 undef) :: (gs.getD 40 undef) :: (gs.getD 41 undef) :: (gs.getD 42 undef) :: (gs.getD 43 undef) :: (gs.getD 44 undef) :: (gs.getD 45 undef) :: (gs.getD 46 undef) :: (gs.getD 47 undef) :: (gs.getD 48 undef) :: (gs.getD 49 undef) :: (gs.getD 50 undef) :: (gs.getD 51 undef) :: (gs.getD 52 undef) :: (gs.getD 53 undef) :: (gs.getD 54 undef) :: (gs.getD 55 undef) :: (gs.getD 56 undef) :: (gs.getD 57 undef) :: (gs.getD 58 undef) :: (gs.getD 59 undef) :: (gs.getD 60 undef) :: (gs.getD 61 undef) :: (gs.getD 62 undef) :: (gs.getD 63 undef) :: (gs.getD 64 undef) :: (gs.getD 65 undef) :: (gs.getD 66 undef) :: (gs.getD 67 undef) :: (gs.getD 68 undef) :: [])) [clDefer sb] (by kernel_rfl) (by kernel_rfl) ?_
  refine ownU_seq (x := sel [1, 1, 1, 1, 1, 1, 0, 1, 4, 4, 1, 1, 0, 4, 1, 0] bodyCd) (y := sel [1, 1, 1, 1, 1, 1, 0, 1, 4, 4, 1, 1, 0, 4, 1, 1] bodyCd) ?_
  refine ownU_region (id := 14) (ops := opsOf (sel [1, 1, 1, 1, 1, 1, 0, 1, 4, 4, 1, 1, 0, 4, 1, 0] bodyCd)) ?_
  refine ownU_quiet (i := 0) (rest := [1, 2]) (.int .u8 z) rfl (by rfl) rfl (by decide) (fun _ => by kernel_rfl) ?_
  refine ownU_quiet (i := 1) (rest := [2]) (.int .u8 m) rfl (by rfl) rfl (by decide) (fun w => rem_3 w rfl (by kernel_rfl) hz hm) ?_
  refine ownU_quiet (i := 2) (rest := []) (.bool true) rfl (by rfl) rfl (by decide) (fun _ => eql_u8 (p := m) (q := 1) rfl (by kernel_rfl) (by kernel_rfl) (by simp [hm1])) ?_
  refine ownU_region_end ?_
  refine ownU_cond (c := .tmp 36) (x := sel [1, 1, 1, 1, 1, 1, 0, 1, 4, 4, 1, 1, 0, 4, 1, 1, 2] bodyCd) (y := sel [1, 1, 1, 1, 1, 1, 0, 1, 4, 4, 1, 1, 0, 4, 1, 1, 3] bodyCd) (t := true) (by kernel_rfl) ?_
  refine ownU_lit (List.toArray (.slice A n cap :: (gs.getD 0 undef) :: .bool false :: ptr sb :: ptr ob :: vf :: vl :: (gs.getD 1 undef) :: (gs.getD 2 undef) :: .int .i64 (idx : Int) :: .int .u8 z :: (gs.getD 5 undef) :: (gs.getD 6 undef) :: (gs.getD 7 undef) :: (gs.getD 8 undef) :: (gs.getD 9 undef) :: (gs.getD 10 undef) :: (gs.getD 11 undef) :: (gs.getD 12 undef) :: (gs.getD 13 undef) :: (gs.getD 14 undef) :: (gs.getD 15 undef) :: (gs.getD 16 undef) :: (gs.getD 17 undef) :: (gs.getD 18 undef) :: (gs.getD 19 undef) :: (gs.getD 20 undef) :: .slice A n cap :: .int .i64 (n : Int) :: .int .i64 (idx : Int) :: .bool true :: .int .i64 (idx : Int) :: .pointer (some (ad.add idx)) :: .int .u8 z :: .int .u8 z :: .int .u8 m :: .bool true :: (gs.getD 31 undef) :: (gs.getD 32 undef) :: (gs.getD 33 undef) :: (gs.getD 34 undef) :: (gs.getD 35 undef) :: (gs.getD 36 undef) :: (gs.getD 37 undef) :: (gs.getD 38 undef) :: (gs.getD 39 undef) :: (gs.getD 40 undef) :: (gs.getD 41 undef) :: (gs.getD 42 undef) :: (gs.getD 43 undef) :: (gs.getD 44 undef) :: (gs.getD 45 undef) :: (gs.getD 46 undef) :: (gs.getD 47 undef) :: (gs.getD 48 undef) :: (gs.getD 49 undef) :: (gs.getD 50 undef) :: (gs.getD 51 undef) :: (gs.getD 52 undef) :: (gs.getD 53 undef) :: (gs.getD 54 undef) :: (gs.getD 55 undef) :: (gs.getD 56 undef) :: (gs.getD 57 undef) :: (gs.getD 58 undef) :: (gs.getD 59 undef) :: (gs.getD 60 undef) :: (gs.getD 61 undef) :: (gs.getD 62 undef) :: (gs.getD 63 undef) :: (gs.getD 64 undef) :: (gs.getD 65 undef) :: (gs.getD 66 undef) :: (gs.getD 67 undef) :: (gs.getD 68 undef) :: [])) [clDefer sb] (by kernel_rfl) (by kernel_rfl) ?_
  refine ownU_region (id := 15) (ops := opsOf (sel [1, 1, 1, 1, 1, 1, 0, 1, 4, 4, 1, 1, 0, 4, 1, 1, 2] bodyCd)) ?_
  refine ownU_quiet (i := 0) (rest := [1, 2, 3, 4, 5]) (vl) rfl (by rfl) rfl (by decide) (fun _ => by kernel_rfl) ?_
  refine ownU_quiet (i := 1) (rest := [2, 3, 4, 5]) (.int .i64 (idx : Int)) rfl (by rfl) rfl (by decide) (fun _ => by kernel_rfl) ?_
  refine ownU_quiet (i := 2) (rest := [3, 4, 5]) (.int .i64 ((idx + 1 : Nat) : Int)) rfl (by rfl) rfl (by decide) (fun _ => by rw [← hi]; kernel_rfl) ?_
  refine ownU_newV (fun n => .slice (some ⟨n, 0, none⟩) 1 1) (.cells #[.int .i64 ((idx + 1 : Nat) : Int)] 3) (i := 3) (rest := [4, 5]) rfl (by rfl) rfl (by decide) (fun _ => by kernel_rfl) ?_
  refine ownU_append (j := 4) (rest := [5]) (xs := xs) (v := vl) (c := 1) (ad := ⟨u.heap.size, 0, none⟩) (y := .int .i64 ((idx + 1 : Nat) : Int)) rfl rfl (by rfl) rfl (by decide) Try.underlying22 hti hz0 hz1 hz2 rfl (by kernel_rfl) hrow1 (by kernel_rfl) hcell rfl (by unfold maxLen; omega) (by omega) fun v' u2 q1 q2 q3 q4 q5 q6 => ?_
  refine ownU_quiet (i := 5) (rest := []) (v') rfl (by rfl) rfl (by decide) (fun _ => by kernel_rfl) ?_
  refine ownU_region_end ?_
  refine ownU_inBlock ?_
  refine ownU_lit (List.toArray (.slice A n cap :: (gs.getD 0 undef) :: .bool false :: ptr sb :: ptr ob :: vf :: v' :: (gs.getD 1 undef) :: (gs.getD 2 undef) :: .int .i64 (idx : Int) :: .int .u8 z :: (gs.getD 5 undef) :: (gs.getD 6 undef) :: (gs.getD 7 undef) :: (gs.getD 8 undef) :: (gs.getD 9 undef) :: (gs.getD 10 undef) :: (gs.getD 11 undef) :: (gs.getD 12 undef) :: (gs.getD 13 undef) :: (gs.getD 14 undef) :: (gs.getD 15 undef) :: (gs.getD 16 undef) :: (gs.getD 17 undef) :: (gs.getD 18 undef) :: (gs.getD 19 undef) :: (gs.getD 20 undef) :: .slice A n cap :: .int .i64 (n : Int) :: .int .i64 (idx : Int) :: .bool true :: .int .i64 (idx : Int) :: .pointer (some (ad.add idx)) :: .int .u8 z :: .int .u8 z :: .int .u8 m :: .bool true :: vl :: .int .i64 (idx : Int) :: .int .i64 ((idx + 1 : Nat) : Int) :: .slice (some ⟨u.heap.size, 0, none⟩) 1 1 :: v' :: (gs.getD 36 undef) :: (gs.getD 37 undef) :: (gs.getD 38 undef) :: (gs.getD 39 undef) :: (gs.getD 40 undef) :: (gs.getD 41 undef) :: (gs.getD 42 undef) :: (gs.getD 43 undef) :: (gs.getD 44 undef) :: (gs.getD 45 undef) :: (gs.getD 46 undef) :: (gs.getD 47 undef) :: (gs.getD 48 undef) :: (gs.getD 49 undef) :: (gs.getD 50 undef) :: (gs.getD 51 undef) :: (gs.getD 52 undef) :: (gs.getD 53 undef) :: (gs.getD 54 undef) :: (gs.getD 55 undef) :: (gs.getD 56 undef) :: (gs.getD 57 undef) :: (gs.getD 58 undef) :: (gs.getD 59 undef) :: (gs.getD 60 undef) :: (gs.getD 61 undef) :: (gs.getD 62 undef) :: (gs.getD 63 undef) :: (gs.getD 64 undef) :: (gs.getD 65 undef) :: (gs.getD 66 undef) :: (gs.getD 67 undef) :: (gs.getD 68 undef) :: [])) [clDefer sb] (by kernel_rfl) (by kernel_rfl) ?_
  refine ownU_region (id := 17) (ops := opsOf (sel [1, 1, 1, 1, 1, 1, 0, 1, 4, 4, 1, 1, 1] bodyCd)) ?_
  refine ownU_quiet (i := 0) (rest := [1]) (.int .i64 ((idx + 1 : Nat) : Int)) rfl (by rfl) rfl (by decide) (fun _ => by rw [← hi]; kernel_rfl) ?_
  refine ownU_quiet (i := 1) (rest := []) (.int .i64 ((idx + 1 : Nat) : Int)) rfl (by rfl) rfl (by decide) (fun _ => by kernel_rfl) ?_
  refine ownU_region_end ?_
  refine ownU_inLoop ?_
  exact ownU_eq (by kernel_rfl) (hk v' u2 [(gs.getD 0 undef), (gs.getD 1 undef), (gs.getD 2 undef), .int .i64 (idx : Int), .int .u8 z, (gs.getD 5 undef), (gs.getD 6 undef), (gs.getD 7 undef), (gs.getD 8 undef), (gs.getD 9 undef), (gs.getD 10 undef), (gs.getD 11 undef), (gs.getD 12 undef), (gs.getD 13 undef), (gs.getD 14 undef), (gs.getD 15 undef), (gs.getD 16 undef), (gs.getD 17 undef), (gs.getD 18 undef), (gs.getD 19 undef), (gs.getD 20 undef), .slice A n cap, .int .i64 (n : Int), .int .i64 ((idx + 1 : Nat) : Int), .bool true, .int .i64 (idx : Int), .pointer (some (ad.add idx)), .int .u8 z, .int .u8 z, .int .u8 m, .bool true, vl, .int .i64 (idx : Int), .int .i64 ((idx + 1 : Nat) : Int), .slice (some ⟨u.heap.size, 0, none⟩) 1 1, v', (gs.getD 36 undef), (gs.getD 37 undef), (gs.getD 38 undef), (gs.getD 39 undef), (gs.getD 40 undef), .int .i64 ((idx + 1 : Nat) : Int), (gs.getD 42 undef), (gs.getD 43 undef), (gs.getD 44 undef), (gs.getD 45 undef), (gs.getD 46 undef), (gs.getD 47 undef), (gs.getD 48 undef), (gs.getD 49 undef), (gs.getD 50 undef), (gs.getD 51 undef), (gs.getD 52 undef), (gs.getD 53 undef), (gs.getD 54 undef), (gs.getD 55 undef), (gs.getD 56 undef), (gs.getD 57 undef), (gs.getD 58 undef), (gs.getD 59 undef), (gs.getD 60 undef), (gs.getD 61 undef), (gs.getD 62 undef), (gs.getD 63 undef), (gs.getD 64 undef), (gs.getD 65 undef), (gs.getD 66 undef), (gs.getD 67 undef), (gs.getD 68 undef)] q1 (q2.trans hnew.os) (q3.trans hnew.output) (Nat.le_trans hsz q4) (fun g hg hv => (q5 g (by omega) hv).trans (hnew.block g hg)) (q6.imp id fun h g hg => Nat.le_trans hsz (h g hg)))
theorem defers_first {main : Bool} {Z : Addr → Prop} {Stop : Goroutine → World → Prop} {w₀ u : World} {A : Option Addr} {n cap : Nat} {sb ob idx : Nat} {gs : List Value} {vf vl : Value} {ad : Addr} {z m : Int} {xs : List Value} (hA : A = some ad) (hidx : idx < n) (hc : u.cell? (ad.add idx) = some (.int .u8 z)) (hz : 0 ≤ z ∧ z < 256) (hm : z % 3 = m) (hi : IntKind.i64.wrap ((idx : Int) + 1) = ((idx + 1 : Nat) : Int)) (hm1 : m ≠ 1) (hrow : QRow u vf xs) (hlen : xs.length < 1000000)
    (hk : ∀ v' u2 gs, QRow u2 v' (xs ++ [.int .i64 ((idx + 1 : Nat) : Int)]) → u2.os = u.os → u2.output = u.output → u.heap.size ≤ u2.heap.size → (∀ g, g < u.heap.size → vf.ownBlock ≠ some g → u2.heap[g]? = u.heap[g]?) → (v'.ownBlock = vf.ownBlock ∨ ∀ g, v'.ownBlock = some g → u.heap.size ≤ g) → OwnU Try.prog main Z Stop w₀ (dwHead A n cap sb ob (idx + 1) (v') (vl) gs) u2) : OwnU Try.prog main Z Stop w₀ (dwHead A n cap sb ob idx vf vl gs) u := by
  have hnew : New u (u.alloc (.cells #[.int .i64 ((idx + 1 : Nat) : Int)] 3)) := New.alloc u _
  obtain ⟨i0, hti, hz0, hz1, hz2⟩ := info_parts infoInt
  have hrow1 : QRow (u.alloc (.cells #[.int .i64 ((idx + 1 : Nat) : Int)] 3)) vf xs := hrow.keep fun g hg => hnew.block g (hrow.lt g hg)
  have hcell : (u.alloc (.cells #[.int .i64 ((idx + 1 : Nat) : Int)] 3)).cell? ⟨u.heap.size, 0, none⟩ = some (.int .i64 ((idx + 1 : Nat) : Int)) := blk_cell (alloc_new' u _ rfl) 0 _ rfl
  have hsz : u.heap.size ≤ (u.alloc (.cells #[.int .i64 ((idx + 1 : Nat) : Int)] 3)).heap.size := hnew.size
  unfold dwHead at *
  refine ownU_seq (x := sel [1, 1, 1, 1, 1, 1, 0, 1, 4, 4, 0] bodyCd) (y := sel [1, 1, 1, 1, 1, 1, 0, 1, 4, 4, 1] bodyCd) ?_
  refine ownU_region (id := 12) (ops := opsOf (sel [1, 1, 1, 1, 1, 1, 0, 1, 4, 4, 0] bodyCd)) ?_
  refine ownU_quiet (i := 0) (rest := []) (.bool true) rfl (by rfl) rfl (by decide) (fun _ => lss_v (p := (idx : Int)) (q := (n : Int)) rfl (by kernel_rfl) (by kernel_rfl) (by simp; omega)) ?_
  refine ownU_region_end ?_
  refine ownU_seq (x := sel [1, 1, 1, 1, 1, 1, 0, 1, 4, 4, 1, 0] bodyCd) (y := sel [1, 1, 1, 1, 1, 1, 0, 1, 4, 4, 1, 1] bodyCd) ?_
  refine ownU_cond (c := .tmp 30) (x := .skip) (y := .exit 2) (t := true) (by kernel_rfl) ?_
  refine ownU_skip ?_
  refine ownU_seq (x := sel [1, 1, 1, 1, 1, 1, 0, 1, 4, 4, 1, 1, 0] bodyCd) (y := sel [1, 1, 1, 1, 1, 1, 0, 1, 4, 4, 1, 1, 1] bodyCd) ?_
  refine ownU_block (id := 3) (c := sel [1, 1, 1, 1, 1, 1, 0, 1, 4, 4, 1, 1, 0, 4] bodyCd) ?_
  refine ownU_seq (x := sel [1, 1, 1, 1, 1, 1, 0, 1, 4, 4, 1, 1, 0, 4, 0] bodyCd) (y := sel [1, 1, 1, 1, 1, 1, 0, 1, 4, 4, 1, 1, 0, 4, 1] bodyCd) ?_
  refine ownU_region (id := 13) (ops := opsOf (sel [1, 1, 1, 1, 1, 1, 0, 1, 4, 4, 1, 1, 0, 4, 0] bodyCd)) ?_
  refine ownU_quiet (i := 0) (rest := [1, 2, 3, 4]) (.int .i64 (idx : Int)) rfl (by rfl) rfl (by decide) (fun _ => by kernel_rfl) ?_
  refine ownU_quiet (i := 1) (rest := [2, 3, 4]) (.pointer (some (ad.add idx))) rfl (by rfl) rfl (by decide) (fun w => idx_b (cap := cap) hA w rfl (by kernel_rfl) (by kernel_rfl) hidx) ?_
  refine ownU_load (i := 2) (rest := [3, 4]) (ad.add idx) (.int .u8 z) rfl (by rfl) (by decide) loads_u8 rfl (by kernel_rfl) hc ?_
  refine ownU_quiet (i := 3) (rest := [4]) (.int .i64 (idx : Int)) rfl (by rfl) rfl (by decide) (fun _ => by kernel_rfl) ?_
  refine ownU_quiet (i := 4) (rest := []) (.int .u8 z) rfl (by rfl) rfl (by decide) (fun _ => by kernel_rfl) ?_
  refine ownU_region_end ?_
  refine ownU_lit (List.toArray (.slice A n cap :: (gs.getD 0 undef) :: .bool false :: ptr sb :: ptr ob :: vf :: vl :: (gs.getD 1 undef) :: (gs.getD 2 undef) :: .int .i64 (idx : Int) :: .int .u8 z :: (gs.getD 5 undef) :: (gs.getD 6 undef) :: (gs.getD 7 undef) :: (gs.getD 8 undef) :: (gs.getD 9 undef) :: (gs.getD 10 undef) :: (gs.getD 11 undef) :: (gs.getD 12 undef) :: (gs.getD 13 undef) :: (gs.getD 14 undef) :: (gs.getD 15 undef) :: (gs.getD 16 undef) :: (gs.getD 17 undef) :: (gs.getD 18 undef) :: (gs.getD 19 undef) :: (gs.getD 20 undef) :: .slice A n cap :: .int .i64 (n : Int) :: .int .i64 (idx : Int) :: .bool true :: .int .i64 (idx : Int) :: .pointer (some (ad.add idx)) :: .int .u8 z :: (gs.getD 28 undef) :: (gs.getD 29 undef) :: (gs.getD 30 undef) :: (gs.getD 31 undef) :: (gs.getD 32 undef) :: (gs.getD 33 undef) :: (gs.getD 34 undef) :: (gs.getD 35 undef) :: (gs.getD 36 undef) :: (gs.getD 37 undef) :: (gs.getD 38 undef) :: (gs.getD 39 undef) :: (gs.getD 40 undef) :: (gs.getD 41 undef) :: (gs.getD 42 undef) :: (gs.getD 43 undef) :: (gs.getD 44 undef) :: (gs.getD 45 undef) :: (gs.getD 46 undef) :: (gs.getD 47 undef) :: (gs.getD 48 undef) :: (gs.getD 49 undef) :: (gs.getD 50 undef) :: (gs.getD 51 undef) :: (gs.getD 52 undef) :: (gs.getD 53 undef) :: (gs.getD 54 undef) :: (gs.getD 55 undef) :: (gs.getD 56 undef) :: (gs.getD 57 undef) :: (gs.getD 58 undef) :: (gs.getD 59 undef) :: (gs.getD 60 undef) :: (gs.getD 61 undef) :: (gs.getD 62 undef) :: (gs.getD 63 undef) :: (gs.getD 64 undef) :: (gs.getD 65 undef) :: (gs.getD 66 undef) :: (gs.getD 67 undef) :: (gs.getD 68 undef) :: [])) [clDefer sb] (by kernel_rfl) (by kernel_rfl) ?_
  refine ownU_seq (x := sel [1, 1, 1, 1, 1, 1, 0, 1, 4, 4, 1, 1, 0, 4, 1, 0] bodyCd) (y := sel [1, 1, 1, 1, 1, 1, 0, 1, 4, 4, 1, 1, 0, 4, 1, 1] bodyCd) ?_
  refine ownU_region (id := 14) (ops := opsOf (sel [1, 1, 1, 1, 1, 1, 0, 1, 4, 4, 1, 1, 0, 4, 1, 0] bodyCd)) ?_
  refine ownU_quiet (i := 0) (rest := [1, 2]) (.int .u8 z) rfl (by rfl) rfl (by decide) (fun _ => by kernel_rfl) ?_
  refine ownU_quiet (i := 1) (rest := [2]) (.int .u8 m) rfl (by rfl) rfl (by decide) (fun w => rem_3 w rfl (by kernel_rfl) hz hm) ?_
  refine ownU_quiet (i := 2) (rest := []) (.bool false) rfl (by rfl) rfl (by decide) (fun _ => eql_u8 (p := m) (q := 1) rfl (by kernel_rfl) (by kernel_rfl) (by simp [hm1])) ?_
  refine ownU_region_end ?_
  refine ownU_cond (c := .tmp 36) (x := sel [1, 1, 1, 1, 1, 1, 0, 1, 4, 4, 1, 1, 0, 4, 1, 1, 2] bodyCd) (y := sel [1, 1, 1, 1, 1, 1, 0, 1, 4, 4, 1, 1, 0, 4, 1, 1, 3] bodyCd) (t := false) (by kernel_rfl) ?_
  refine ownU_lit (List.toArray (.slice A n cap :: (gs.getD 0 undef) :: .bool false :: ptr sb :: ptr ob :: vf :: vl :: (gs.getD 1 undef) :: (gs.getD 2 undef) :: .int .i64 (idx : Int) :: .int .u8 z :: (gs.getD 5 undef) :: (gs.getD 6 undef) :: (gs.getD 7 undef) :: (gs.getD 8 undef) :: (gs.getD 9 undef) :: (gs.getD 10 undef) :: (gs.getD 11 undef) :: (gs.getD 12 undef) :: (gs.getD 13 undef) :: (gs.getD 14 undef) :: (gs.getD 15 undef) :: (gs.getD 16 undef) :: (gs.getD 17 undef) :: (gs.getD 18 undef) :: (gs.getD 19 undef) :: (gs.getD 20 undef) :: .slice A n cap :: .int .i64 (n : Int) :: .int .i64 (idx : Int) :: .bool true :: .int .i64 (idx : Int) :: .pointer (some (ad.add idx)) :: .int .u8 z :: .int .u8 z :: .int .u8 m :: .bool false :: (gs.getD 31 undef) :: (gs.getD 32 undef) :: (gs.getD 33 undef) :: (gs.getD 34 undef) :: (gs.getD 35 undef) :: (gs.getD 36 undef) :: (gs.getD 37 undef) :: (gs.getD 38 undef) :: (gs.getD 39 undef) :: (gs.getD 40 undef) :: (gs.getD 41 undef) :: (gs.getD 42 undef) :: (gs.getD 43 undef) :: (gs.getD 44 undef) :: (gs.getD 45 undef) :: (gs.getD 46 undef) :: (gs.getD 47 undef) :: (gs.getD 48 undef) :: (gs.getD 49 undef) :: (gs.getD 50 undef) :: (gs.getD 51 undef) :: (gs.getD 52 undef) :: (gs.getD 53 undef) :: (gs.getD 54 undef) :: (gs.getD 55 undef) :: (gs.getD 56 undef) :: (gs.getD 57 undef) :: (gs.getD 58 undef) :: (gs.getD 59 undef) :: (gs.getD 60 undef) :: (gs.getD 61 undef) :: (gs.getD 62 undef) :: (gs.getD 63 undef) :: (gs.getD 64 undef) :: (gs.getD 65 undef) :: (gs.getD 66 undef) :: (gs.getD 67 undef) :: (gs.getD 68 undef) :: [])) [clDefer sb] (by kernel_rfl) (by kernel_rfl) ?_
  refine ownU_region (id := 16) (ops := opsOf (sel [1, 1, 1, 1, 1, 1, 0, 1, 4, 4, 1, 1, 0, 4, 1, 1, 3] bodyCd)) ?_
  refine ownU_quiet (i := 0) (rest := [1, 2, 3, 4, 5]) (vf) rfl (by rfl) rfl (by decide) (fun _ => by kernel_rfl) ?_
  refine ownU_quiet (i := 1) (rest := [2, 3, 4, 5]) (.int .i64 (idx : Int)) rfl (by rfl) rfl (by decide) (fun _ => by kernel_rfl) ?_
  refine ownU_quiet (i := 2) (rest := [3, 4, 5]) (.int .i64 ((idx + 1 : Nat) : Int)) rfl (by rfl) rfl (by decide) (fun _ => by rw [← hi]; kernel_rfl) ?_
  refine ownU_newV (fun n => .slice (some ⟨n, 0, none⟩) 1 1) (.cells #[.int .i64 ((idx + 1 : Nat) : Int)] 3) (i := 3) (rest := [4, 5]) rfl (by rfl) rfl (by decide) (fun _ => by kernel_rfl) ?_
  refine ownU_append (j := 4) (rest := [5]) (xs := xs) (v := vf) (c := 1) (ad := ⟨u.heap.size, 0, none⟩) (y := .int .i64 ((idx + 1 : Nat) : Int)) rfl rfl (by rfl) rfl (by decide) Try.underlying22 hti hz0 hz1 hz2 rfl (by kernel_rfl) hrow1 (by kernel_rfl) hcell rfl (by unfold maxLen; omega) (by omega) fun v' u2 q1 q2 q3 q4 q5 q6 => ?_
  refine ownU_quiet (i := 5) (rest := []) (v') rfl (by rfl) rfl (by decide) (fun _ => by kernel_rfl) ?_
  refine ownU_region_end ?_
  refine ownU_inBlock ?_
  refine ownU_lit (List.toArray (.slice A n cap :: (gs.getD 0 undef) :: .bool false :: ptr sb :: ptr ob :: v' :: vl :: (gs.getD 1 undef) :: (gs.getD 2 undef) :: .int .i64 (idx : Int) :: .int .u8 z :: (gs.getD 5 undef) :: (gs.getD 6 undef) :: (gs.getD 7 undef) :: (gs.getD 8 undef) :: (gs.getD 9 undef) :: (gs.getD 10 undef) :: (gs.getD 11 undef) :: (gs.getD 12 undef) :: (gs.getD 13 undef) :: (gs.getD 14 undef) :: (gs.getD 15 undef) :: (gs.getD 16 undef) :: (gs.getD 17 undef) :: (gs.getD 18 undef) :: (gs.getD 19 undef) :: (gs.getD 20 undef) :: .slice A n cap :: .int .i64 (n : Int) :: .int .i64 (idx : Int) :: .bool true :: .int .i64 (idx : Int) :: .pointer (some (ad.add idx)) :: .int .u8 z :: .int .u8 z :: .int .u8 m :: .bool false :: (gs.getD 31 undef) :: (gs.getD 32 undef) :: (gs.getD 33 undef) :: (gs.getD 34 undef) :: (gs.getD 35 undef) :: vf :: .int .i64 (idx : Int) :: .int .i64 ((idx + 1 : Nat) : Int) :: .slice (some ⟨u.heap.size, 0, none⟩) 1 1 :: v' :: (gs.getD 41 undef) :: (gs.getD 42 undef) :: (gs.getD 43 undef) :: (gs.getD 44 undef) :: (gs.getD 45 undef) :: (gs.getD 46 undef) :: (gs.getD 47 undef) :: (gs.getD 48 undef) :: (gs.getD 49 undef) :: (gs.getD 50 undef) :: (gs.getD 51 undef) :: (gs.getD 52 undef) :: (gs.getD 53 undef) :: (gs.getD 54 undef) :: (gs.getD 55 undef) :: (gs.getD 56 undef) :: (gs.getD 57 undef) :: (gs.getD 58 undef) :: (gs.getD 59 undef) :: (gs.getD 60 undef) :: (gs.getD 61 undef) :: (gs.getD 62 undef) :: (gs.getD 63 undef) :: (gs.getD 64 undef) :: (gs.getD 65 undef) :: (gs.getD 66 undef) :: (gs.getD 67 undef) :: (gs.getD 68 undef) :: [])) [clDefer sb] (by kernel_rfl) (by kernel_rfl) ?_
  refine ownU_region (id := 17) (ops := opsOf (sel [1, 1, 1, 1, 1, 1, 0, 1, 4, 4, 1, 1, 1] bodyCd)) ?_
  refine ownU_quiet (i := 0) (rest := [1]) (.int .i64 ((idx + 1 : Nat) : Int)) rfl (by rfl) rfl (by decide) (fun _ => by rw [← hi]; kernel_rfl) ?_
  refine ownU_quiet (i := 1) (rest := []) (.int .i64 ((idx + 1 : Nat) : Int)) rfl (by rfl) rfl (by decide) (fun _ => by kernel_rfl) ?_
  refine ownU_region_end ?_
  refine ownU_inLoop ?_
  exact ownU_eq (by kernel_rfl) (hk v' u2 [(gs.getD 0 undef), (gs.getD 1 undef), (gs.getD 2 undef), .int .i64 (idx : Int), .int .u8 z, (gs.getD 5 undef), (gs.getD 6 undef), (gs.getD 7 undef), (gs.getD 8 undef), (gs.getD 9 undef), (gs.getD 10 undef), (gs.getD 11 undef), (gs.getD 12 undef), (gs.getD 13 undef), (gs.getD 14 undef), (gs.getD 15 undef), (gs.getD 16 undef), (gs.getD 17 undef), (gs.getD 18 undef), (gs.getD 19 undef), (gs.getD 20 undef), .slice A n cap, .int .i64 (n : Int), .int .i64 ((idx + 1 : Nat) : Int), .bool true, .int .i64 (idx : Int), .pointer (some (ad.add idx)), .int .u8 z, .int .u8 z, .int .u8 m, .bool false, (gs.getD 31 undef), (gs.getD 32 undef), (gs.getD 33 undef), (gs.getD 34 undef), (gs.getD 35 undef), vf, .int .i64 (idx : Int), .int .i64 ((idx + 1 : Nat) : Int), .slice (some ⟨u.heap.size, 0, none⟩) 1 1, v', .int .i64 ((idx + 1 : Nat) : Int), (gs.getD 42 undef), (gs.getD 43 undef), (gs.getD 44 undef), (gs.getD 45 undef), (gs.getD 46 undef), (gs.getD 47 undef), (gs.getD 48 undef), (gs.getD 49 undef), (gs.getD 50 undef), (gs.getD 51 undef), (gs.getD 52 undef), (gs.getD 53 undef), (gs.getD 54 undef), (gs.getD 55 undef), (gs.getD 56 undef), (gs.getD 57 undef), (gs.getD 58 undef), (gs.getD 59 undef), (gs.getD 60 undef), (gs.getD 61 undef), (gs.getD 62 undef), (gs.getD 63 undef), (gs.getD 64 undef), (gs.getD 65 undef), (gs.getD 66 undef), (gs.getD 67 undef), (gs.getD 68 undef)] q1 (q2.trans hnew.os) (q3.trans hnew.output) (Nat.le_trans hsz q4) (fun g hg hv => (q5 g (by omega) hv).trans (hnew.block g hg)) (q6.imp id fun h g hg => Nat.le_trans hsz (h g hg)))
noncomputable def drAct (A : Option Addr) (n cap sb ob idx : Nat) (vf vl : Value) (gs : List Value) : Act := ⟨List.toArray (.slice A n cap :: (gs.getD 0 undef) :: .bool false :: ptr sb :: ptr ob :: vf :: vl :: (gs.getD 1 undef) :: (gs.getD 2 undef) :: (gs.getD 3 undef) :: (gs.getD 4 undef) :: (gs.getD 5 undef) :: (gs.getD 6 undef) :: (gs.getD 7 undef) :: (gs.getD 8 undef) :: (gs.getD 9 undef) :: (gs.getD 10 undef) :: (gs.getD 11 undef) :: (gs.getD 12 undef) :: (gs.getD 13 undef) :: (gs.getD 14 undef) :: (gs.getD 15 undef) :: (gs.getD 16 undef) :: (gs.getD 17 undef) :: (gs.getD 18 undef) :: (gs.getD 19 undef) :: (gs.getD 20 undef) :: .slice A n cap :: .int .i64 (n : Int) :: .int .i64 (idx : Int) :: .bool false :: (gs.getD 25 undef) :: (gs.getD 26 undef) :: (gs.getD 27 undef) :: (gs.getD 28 undef) :: (gs.getD 29 undef) :: (gs.getD 30 undef) :: (gs.getD 31 undef) :: (gs.getD 32 undef) :: (gs.getD 33 undef) :: (gs.getD 34 undef) :: (gs.getD 35 undef) :: (gs.getD 36 undef) :: (gs.getD 37 undef) :: (gs.getD 38 undef) :: (gs.getD 39 undef) :: (gs.getD 40 undef) :: (gs.getD 41 undef) :: ptr sb :: (gs.getD 43 undef) :: (gs.getD 44 undef) :: (gs.getD 45 undef) :: (gs.getD 46 undef) :: (gs.getD 47 undef) :: (gs.getD 48 undef) :: (gs.getD 49 undef) :: (gs.getD 50 undef) :: (gs.getD 51 undef) :: (gs.getD 52 undef) :: (gs.getD 53 undef) :: (gs.getD 54 undef) :: (gs.getD 55 undef) :: (gs.getD 56 undef) :: (gs.getD 57 undef) :: (gs.getD 58 undef) :: (gs.getD 59 undef) :: (gs.getD 60 undef) :: (gs.getD 61 undef) :: (gs.getD 62 undef) :: (gs.getD 63 undef) :: (gs.getD 64 undef) :: (gs.getD 65 undef) :: (gs.getD 66 undef) :: (gs.getD 67 undef) :: (gs.getD 68 undef) :: []), [clDefer sb]⟩
theorem defers_run {main : Bool} {Z : Addr → Prop} {Stop : Goroutine → World → Prop} {w₀ u : World} {A : Option Addr} {n cap : Nat} {sb ob idx : Nat} {gs : List Value} {vf vl : Value} (hidx : n ≤ idx) (hk : OwnU Try.prog main Z Stop w₀ (runIn sb (((base 13).at (drAct A n cap sb ob idx vf vl gs) (.inRegion (opsOf (sel [1, 1, 1, 1, 1, 1, 1, 0, 0] bodyCd)) (1 :: [2, 3, 4, 5, 6, 7, 8, 9, 10]) :: [.code (sel [1, 1, 1, 1, 1, 1, 1, 0, 1] bodyCd), .code (sel [1, 1, 1, 1, 1, 1, 1, 1] bodyCd)])) :: [])) u) : OwnU Try.prog main Z Stop w₀ (dwHead A n cap sb ob idx vf vl gs) u := by
  unfold dwHead
  refine ownU_seq (x := sel [1, 1, 1, 1, 1, 1, 0, 1, 4, 4, 0] bodyCd) (y := sel [1, 1, 1, 1, 1, 1, 0, 1, 4, 4, 1] bodyCd) ?_
  refine ownU_region (id := 12) (ops := opsOf (sel [1, 1, 1, 1, 1, 1, 0, 1, 4, 4, 0] bodyCd)) ?_
  refine ownU_quiet (i := 0) (rest := []) (.bool false) rfl (by rfl) rfl (by decide) (fun _ => lss_v (p := (idx : Int)) (q := (n : Int)) rfl (by kernel_rfl) (by kernel_rfl) (by simp; omega)) ?_
  refine ownU_region_end ?_
  refine ownU_seq (x := sel [1, 1, 1, 1, 1, 1, 0, 1, 4, 4, 1, 0] bodyCd) (y := sel [1, 1, 1, 1, 1, 1, 0, 1, 4, 4, 1, 1] bodyCd) ?_
  refine ownU_cond (c := .tmp 30) (x := .skip) (y := .exit 2) (t := false) (by kernel_rfl) ?_
  refine ownU_exit (k' := [.code (sel [1, 1, 1, 1, 1, 1, 1] bodyCd)]) rfl ?_
  refine ownU_lit (List.toArray (.slice A n cap :: (gs.getD 0 undef) :: .bool false :: ptr sb :: ptr ob :: vf :: vl :: (gs.getD 1 undef) :: (gs.getD 2 undef) :: (gs.getD 3 undef) :: (gs.getD 4 undef) :: (gs.getD 5 undef) :: (gs.getD 6 undef) :: (gs.getD 7 undef) :: (gs.getD 8 undef) :: (gs.getD 9 undef) :: (gs.getD 10 undef) :: (gs.getD 11 undef) :: (gs.getD 12 undef) :: (gs.getD 13 undef) :: (gs.getD 14 undef) :: (gs.getD 15 undef) :: (gs.getD 16 undef) :: (gs.getD 17 undef) :: (gs.getD 18 undef) :: (gs.getD 19 undef) :: (gs.getD 20 undef) :: .slice A n cap :: .int .i64 (n : Int) :: .int .i64 (idx : Int) :: .bool false :: (gs.getD 25 undef) :: (gs.getD 26 undef) :: (gs.getD 27 undef) :: (gs.getD 28 undef) :: (gs.getD 29 undef) :: (gs.getD 30 undef) :: (gs.getD 31 undef) :: (gs.getD 32 undef) :: (gs.getD 33 undef) :: (gs.getD 34 undef) :: (gs.getD 35 undef) :: (gs.getD 36 undef) :: (gs.getD 37 undef) :: (gs.getD 38 undef) :: (gs.getD 39 undef) :: (gs.getD 40 undef) :: (gs.getD 41 undef) :: (gs.getD 42 undef) :: (gs.getD 43 undef) :: (gs.getD 44 undef) :: (gs.getD 45 undef) :: (gs.getD 46 undef) :: (gs.getD 47 undef) :: (gs.getD 48 undef) :: (gs.getD 49 undef) :: (gs.getD 50 undef) :: (gs.getD 51 undef) :: (gs.getD 52 undef) :: (gs.getD 53 undef) :: (gs.getD 54 undef) :: (gs.getD 55 undef) :: (gs.getD 56 undef) :: (gs.getD 57 undef) :: (gs.getD 58 undef) :: (gs.getD 59 undef) :: (gs.getD 60 undef) :: (gs.getD 61 undef) :: (gs.getD 62 undef) :: (gs.getD 63 undef) :: (gs.getD 64 undef) :: (gs.getD 65 undef) :: (gs.getD 66 undef) :: (gs.getD 67 undef) :: (gs.getD 68 undef) :: [])) [clDefer sb] (by kernel_rfl) (by kernel_rfl) ?_
  refine ownU_seq (x := sel [1, 1, 1, 1, 1, 1, 1, 0] bodyCd) (y := sel [1, 1, 1, 1, 1, 1, 1, 1] bodyCd) ?_
  refine ownU_seq (x := sel [1, 1, 1, 1, 1, 1, 1, 0, 0] bodyCd) (y := sel [1, 1, 1, 1, 1, 1, 1, 0, 1] bodyCd) ?_
  refine ownU_region (id := 18) (ops := opsOf (sel [1, 1, 1, 1, 1, 1, 1, 0, 0] bodyCd)) ?_
  refine ownU_quiet (i := 0) (rest := [1, 2, 3, 4, 5, 6, 7, 8, 9, 10]) (ptr sb) rfl (by rfl) rfl (by decide) (fun _ => by kernel_rfl) ?_
  refine ownU_lit (List.toArray (.slice A n cap :: (gs.getD 0 undef) :: .bool false :: ptr sb :: ptr ob :: vf :: vl :: (gs.getD 1 undef) :: (gs.getD 2 undef) :: (gs.getD 3 undef) :: (gs.getD 4 undef) :: (gs.getD 5 undef) :: (gs.getD 6 undef) :: (gs.getD 7 undef) :: (gs.getD 8 undef) :: (gs.getD 9 undef) :: (gs.getD 10 undef) :: (gs.getD 11 undef) :: (gs.getD 12 undef) :: (gs.getD 13 undef) :: (gs.getD 14 undef) :: (gs.getD 15 undef) :: (gs.getD 16 undef) :: (gs.getD 17 undef) :: (gs.getD 18 undef) :: (gs.getD 19 undef) :: (gs.getD 20 undef) :: .slice A n cap :: .int .i64 (n : Int) :: .int .i64 (idx : Int) :: .bool false :: (gs.getD 25 undef) :: (gs.getD 26 undef) :: (gs.getD 27 undef) :: (gs.getD 28 undef) :: (gs.getD 29 undef) :: (gs.getD 30 undef) :: (gs.getD 31 undef) :: (gs.getD 32 undef) :: (gs.getD 33 undef) :: (gs.getD 34 undef) :: (gs.getD 35 undef) :: (gs.getD 36 undef) :: (gs.getD 37 undef) :: (gs.getD 38 undef) :: (gs.getD 39 undef) :: (gs.getD 40 undef) :: (gs.getD 41 undef) :: ptr sb :: (gs.getD 43 undef) :: (gs.getD 44 undef) :: (gs.getD 45 undef) :: (gs.getD 46 undef) :: (gs.getD 47 undef) :: (gs.getD 48 undef) :: (gs.getD 49 undef) :: (gs.getD 50 undef) :: (gs.getD 51 undef) :: (gs.getD 52 undef) :: (gs.getD 53 undef) :: (gs.getD 54 undef) :: (gs.getD 55 undef) :: (gs.getD 56 undef) :: (gs.getD 57 undef) :: (gs.getD 58 undef) :: (gs.getD 59 undef) :: (gs.getD 60 undef) :: (gs.getD 61 undef) :: (gs.getD 62 undef) :: (gs.getD 63 undef) :: (gs.getD 64 undef) :: (gs.getD 65 undef) :: (gs.getD 66 undef) :: (gs.getD 67 undef) :: (gs.getD 68 undef) :: [])) [clDefer sb] (by kernel_rfl) (by kernel_rfl) ?_
  refine ownU_enter (i := 1) (rest := [2, 3, 4, 5, 6, 7, 8, 9, 10]) (f := 42) rfl (by rfl) (by decide) rfl Try.func42 (by kernel_rfl) rfl ?_
  exact ownU_eq (by kernel_rfl) hk
noncomputable def dfAct (A : Option Addr) (n cap sb ob idx : Nat) (vf vl vo : Value) (gs : List Value) : Act := ⟨List.toArray (.slice A n cap :: (gs.getD 0 undef) :: .bool false :: ptr sb :: ptr ob :: vf :: vl :: (gs.getD 1 undef) :: (gs.getD 2 undef) :: (gs.getD 3 undef) :: (gs.getD 4 undef) :: (gs.getD 5 undef) :: (gs.getD 6 undef) :: (gs.getD 7 undef) :: (gs.getD 8 undef) :: (gs.getD 9 undef) :: (gs.getD 10 undef) :: (gs.getD 11 undef) :: (gs.getD 12 undef) :: (gs.getD 13 undef) :: (gs.getD 14 undef) :: (gs.getD 15 undef) :: (gs.getD 16 undef) :: (gs.getD 17 undef) :: (gs.getD 18 undef) :: (gs.getD 19 undef) :: (gs.getD 20 undef) :: .slice A n cap :: .int .i64 (n : Int) :: .int .i64 (idx : Int) :: .bool false :: (gs.getD 25 undef) :: (gs.getD 26 undef) :: (gs.getD 27 undef) :: (gs.getD 28 undef) :: (gs.getD 29 undef) :: (gs.getD 30 undef) :: (gs.getD 31 undef) :: (gs.getD 32 undef) :: (gs.getD 33 undef) :: (gs.getD 34 undef) :: (gs.getD 35 undef) :: (gs.getD 36 undef) :: (gs.getD 37 undef) :: (gs.getD 38 undef) :: (gs.getD 39 undef) :: (gs.getD 40 undef) :: (gs.getD 41 undef) :: ptr sb :: .int .i64 (n : Int) :: .slice A n cap :: .int .i64 (n : Int) :: .bool false :: .bool false :: vo :: vf :: .bool true :: .bool false :: .bool false :: (gs.getD 53 undef) :: (gs.getD 54 undef) :: (gs.getD 55 undef) :: (gs.getD 56 undef) :: (gs.getD 57 undef) :: (gs.getD 58 undef) :: (gs.getD 59 undef) :: (gs.getD 60 undef) :: (gs.getD 61 undef) :: (gs.getD 62 undef) :: (gs.getD 63 undef) :: (gs.getD 64 undef) :: (gs.getD 65 undef) :: (gs.getD 66 undef) :: (gs.getD 67 undef) :: (gs.getD 68 undef) :: []), [clDefer sb]⟩
theorem defers_alive {main : Bool} {Z : Addr → Prop} {Stop : Goroutine → World → Prop} {w₀ u : World} {A : Option Addr} {n cap : Nat} {sb ob idx : Nat} {gs : List Value} {vf vl : Value} {vo : Value} (hob : u.cell? ⟨ob, 0, none⟩ = some vo) (heq : ∀ A d, Calls Try.prog 17 #[vo, vf] (tp u A d) fun e w' => e = .returned (.bool true) ∧ ∃ A d, w' = tp u A d)
    (hk : ∀ t, OwnU Try.prog main Z Stop w₀ (aliveIn (((base 13).at (dfAct A n cap sb ob idx vf vl vo gs) (.inRegion (opsOf (sel [1, 1, 1, 1, 1, 1, 1, 1, 0] bodyCd)) (0 :: Region.linearise.go .any (opsOf (sel [1, 1, 1, 1, 1, 1, 1, 1, 0] bodyCd)) 16 t #[true, false, false, false, false, false, false, false, false, false, false, false, false, false, false, false, false] []) :: [.code .ret])) :: [])) u) : OwnU Try.prog main Z Stop w₀ (G ((base 13).at ((drAct A n cap sb ob idx vf vl gs).put (((opsOf (sel [1, 1, 1, 1, 1, 1, 1, 0, 0] bodyCd))[1]?).bind (·.dst)) (.int .i64 (n : Int))) (.inRegion (opsOf (sel [1, 1, 1, 1, 1, 1, 1, 0, 0] bodyCd)) [2, 3, 4, 5, 6, 7, 8, 9, 10] :: [.code (sel [1, 1, 1, 1, 1, 1, 1, 0, 1] bodyCd), .code (sel [1, 1, 1, 1, 1, 1, 1, 1] bodyCd)])) []) u := by
  refine ownU_lit (List.toArray (.slice A n cap :: (gs.getD 0 undef) :: .bool false :: ptr sb :: ptr ob :: vf :: vl :: (gs.getD 1 undef) :: (gs.getD 2 undef) :: (gs.getD 3 undef) :: (gs.getD 4 undef) :: (gs.getD 5 undef) :: (gs.getD 6 undef) :: (gs.getD 7 undef) :: (gs.getD 8 undef) :: (gs.getD 9 undef) :: (gs.getD 10 undef) :: (gs.getD 11 undef) :: (gs.getD 12 undef) :: (gs.getD 13 undef) :: (gs.getD 14 undef) :: (gs.getD 15 undef) :: (gs.getD 16 undef) :: (gs.getD 17 undef) :: (gs.getD 18 undef) :: (gs.getD 19 undef) :: (gs.getD 20 undef) :: .slice A n cap :: .int .i64 (n : Int) :: .int .i64 (idx : Int) :: .bool false :: (gs.getD 25 undef) :: (gs.getD 26 undef) :: (gs.getD 27 undef) :: (gs.getD 28 undef) :: (gs.getD 29 undef) :: (gs.getD 30 undef) :: (gs.getD 31 undef) :: (gs.getD 32 undef) :: (gs.getD 33 undef) :: (gs.getD 34 undef) :: (gs.getD 35 undef) :: (gs.getD 36 undef) :: (gs.getD 37 undef) :: (gs.getD 38 undef) :: (gs.getD 39 undef) :: (gs.getD 40 undef) :: (gs.getD 41 undef) :: ptr sb :: .int .i64 (n : Int) :: (gs.getD 44 undef) :: (gs.getD 45 undef) :: (gs.getD 46 undef) :: (gs.getD 47 undef) :: (gs.getD 48 undef) :: (gs.getD 49 undef) :: (gs.getD 50 undef) :: (gs.getD 51 undef) :: (gs.getD 52 undef) :: (gs.getD 53 undef) :: (gs.getD 54 undef) :: (gs.getD 55 undef) :: (gs.getD 56 undef) :: (gs.getD 57 undef) :: (gs.getD 58 undef) :: (gs.getD 59 undef) :: (gs.getD 60 undef) :: (gs.getD 61 undef) :: (gs.getD 62 undef) :: (gs.getD 63 undef) :: (gs.getD 64 undef) :: (gs.getD 65 undef) :: (gs.getD 66 undef) :: (gs.getD 67 undef) :: (gs.getD 68 undef) :: [])) [clDefer sb] (by kernel_rfl) (by kernel_rfl) ?_
  refine ownU_quiet (i := 2) (rest := [3, 4, 5, 6, 7, 8, 9, 10]) (.slice A n cap) rfl (by rfl) rfl (by decide) (fun _ => by kernel_rfl) ?_
  refine ownU_quiet (i := 3) (rest := [4, 5, 6, 7, 8, 9, 10]) (.int .i64 (n : Int)) rfl (by rfl) rfl (by decide) (fun _ => by kernel_rfl) ?_
  refine ownU_quiet (i := 4) (rest := [5, 6, 7, 8, 9, 10]) (.bool false) rfl (by rfl) rfl (by decide) (fun _ => neq_v (p := (n : Int)) (q := (n : Int)) rfl (by kernel_rfl) (by kernel_rfl) (by simp)) ?_
  refine ownU_quiet (i := 5) (rest := [6, 7, 8, 9, 10]) (.bool false) rfl (by rfl) rfl (by decide) (fun _ => by kernel_rfl) ?_
  refine ownU_load (i := 6) (rest := [7, 8, 9, 10]) ⟨ob, 0, none⟩ (vo) rfl (by kernel_rfl) (by decide) loads_ints rfl (by kernel_rfl) hob ?_
  refine ownU_quiet (i := 7) (rest := [8, 9, 10]) (vf) rfl (by kernel_rfl) rfl (by decide) (fun _ => by kernel_rfl) ?_
  refine ownU_callK (i := 8) (rest := [9, 10]) (L := lone18) (R := fun e w' => e = .returned (.bool true) ∧ ∃ A d, w' = tp u A d) okL18 (by decide) rfl rfl (by kernel_rfl) (by kernel_rfl) (by decide) (fun A d => calls_eq (args' := #[vo, vf]) (by kernel_rfl) (heq A d)) (fun e w h => ⟨_, h.1⟩) fun z u' hR => ?_
  obtain ⟨e, A1, d1, rfl⟩ := hR
  injection e with e
  subst e
  refine ownU_tp.2 ?_
  refine ownU_quiet (i := 9) (rest := [10]) (.bool false) rfl (by kernel_rfl) rfl (by decide) (fun _ => by kernel_rfl) ?_
  refine ownU_quiet (i := 10) (rest := []) (.bool false) rfl (by rfl) rfl (by decide) (fun _ => by kernel_rfl) ?_
  refine ownU_region_end ?_
  refine ownU_cond (c := .tmp 58) (x := sel [1, 1, 1, 1, 1, 1, 1, 0, 1, 2] bodyCd) (y := .skip) (t := false) (by kernel_rfl) ?_
  refine ownU_skip ?_
  refine ownU_lit (List.toArray (.slice A n cap :: (gs.getD 0 undef) :: .bool false :: ptr sb :: ptr ob :: vf :: vl :: (gs.getD 1 undef) :: (gs.getD 2 undef) :: (gs.getD 3 undef) :: (gs.getD 4 undef) :: (gs.getD 5 undef) :: (gs.getD 6 undef) :: (gs.getD 7 undef) :: (gs.getD 8 undef) :: (gs.getD 9 undef) :: (gs.getD 10 undef) :: (gs.getD 11 undef) :: (gs.getD 12 undef) :: (gs.getD 13 undef) :: (gs.getD 14 undef) :: (gs.getD 15 undef) :: (gs.getD 16 undef) :: (gs.getD 17 undef) :: (gs.getD 18 undef) :: (gs.getD 19 undef) :: (gs.getD 20 undef) :: .slice A n cap :: .int .i64 (n : Int) :: .int .i64 (idx : Int) :: .bool false :: (gs.getD 25 undef) :: (gs.getD 26 undef) :: (gs.getD 27 undef) :: (gs.getD 28 undef) :: (gs.getD 29 undef) :: (gs.getD 30 undef) :: (gs.getD 31 undef) :: (gs.getD 32 undef) :: (gs.getD 33 undef) :: (gs.getD 34 undef) :: (gs.getD 35 undef) :: (gs.getD 36 undef) :: (gs.getD 37 undef) :: (gs.getD 38 undef) :: (gs.getD 39 undef) :: (gs.getD 40 undef) :: (gs.getD 41 undef) :: ptr sb :: .int .i64 (n : Int) :: .slice A n cap :: .int .i64 (n : Int) :: .bool false :: .bool false :: vo :: vf :: .bool true :: .bool false :: .bool false :: (gs.getD 53 undef) :: (gs.getD 54 undef) :: (gs.getD 55 undef) :: (gs.getD 56 undef) :: (gs.getD 57 undef) :: (gs.getD 58 undef) :: (gs.getD 59 undef) :: (gs.getD 60 undef) :: (gs.getD 61 undef) :: (gs.getD 62 undef) :: (gs.getD 63 undef) :: (gs.getD 64 undef) :: (gs.getD 65 undef) :: (gs.getD 66 undef) :: (gs.getD 67 undef) :: (gs.getD 68 undef) :: [])) [clDefer sb] (by kernel_rfl) (by kernel_rfl) ?_
  refine ownU_seq (x := sel [1, 1, 1, 1, 1, 1, 1, 1, 0] bodyCd) (y := .ret) ?_
  refine schedU_start (n := 17) (by kernel_rfl) rfl fun A1 d1 => ?_
  intro t
  rw [go_one (i := 0) (by kernel_rfl)]
  refine ownU_enter (i := 0) (f := 34) rfl (by rfl) (by decide) rfl Try.func34 (by kernel_rfl) rfl ?_
  exact ownU_eq (by kernel_rfl) (ownU_tp.2 (hk t))
/-- The slots, as far as the region has come. -/
def dgAct (Aa : Option Addr) (n : Nat) (cap : Nat) (sb : Nat) (ob : Nat) (idx : Nat) (Af : Option Addr) (nf : Nat) (cf : Nat) (Al : Option Addr) (nl : Nat) (cl : Nat) (vo : Value) (vn : Value) (nb : Nat) (vc : Value) (gs : List Value) (l : Array Bool) : Act := ⟨List.toArray ((.slice Aa n cap) :: ((gs.getD 0 undef)) :: (cond (l.getD 16 false) (.bool true) (.bool false)) :: (ptr sb) :: (ptr ob) :: (.slice Af nf cf) :: (.slice Al nl cl) :: ((gs.getD 1 undef)) :: ((gs.getD 2 undef)) :: ((gs.getD 3 undef)) :: ((gs.getD 4 undef)) :: ((gs.getD 5 undef)) :: ((gs.getD 6 undef)) :: ((gs.getD 7 undef)) :: ((gs.getD 8 undef)) :: ((gs.getD 9 undef)) :: ((gs.getD 10 undef)) :: ((gs.getD 11 undef)) :: ((gs.getD 12 undef)) :: ((gs.getD 13 undef)) :: ((gs.getD 14 undef)) :: ((gs.getD 15 undef)) :: ((gs.getD 16 undef)) :: ((gs.getD 17 undef)) :: ((gs.getD 18 undef)) :: ((gs.getD 19 undef)) :: ((gs.getD 20 undef)) :: (.slice Aa n cap) :: (.int .i64 (n : Int)) :: (.int .i64 (idx : Int)) :: (.bool false) :: ((gs.getD 25 undef)) :: ((gs.getD 26 undef)) :: ((gs.getD 27 undef)) :: ((gs.getD 28 undef)) :: ((gs.getD 29 undef)) :: ((gs.getD 30 undef)) :: ((gs.getD 31 undef)) :: ((gs.getD 32 undef)) :: ((gs.getD 33 undef)) :: ((gs.getD 34 undef)) :: ((gs.getD 35 undef)) :: ((gs.getD 36 undef)) :: ((gs.getD 37 undef)) :: ((gs.getD 38 undef)) :: ((gs.getD 39 undef)) :: ((gs.getD 40 undef)) :: ((gs.getD 41 undef)) :: (ptr sb) :: (.int .i64 (n : Int)) :: (.slice Aa n cap) :: (.int .i64 (n : Int)) :: (.bool false) :: (.bool false) :: vo :: (.slice Af nf cf) :: (.bool true) :: (.bool false) :: (.bool false) :: (cond (l.getD 0 false) (.bool true) ((gs.getD 53 undef))) :: (cond (l.getD 1 false) (.bool true) ((gs.getD 54 undef))) :: (cond (l.getD 2 false) (ptr sb) ((gs.getD 55 undef))) :: (cond (l.getD 3 false) (.int .i64 (nl : Int)) ((gs.getD 56 undef))) :: (cond (l.getD 4 false) (.slice Al nl cl) ((gs.getD 57 undef))) :: (cond (l.getD 5 false) (.int .i64 (nl : Int)) ((gs.getD 58 undef))) :: (cond (l.getD 6 false) (.bool true) ((gs.getD 59 undef))) :: (cond (l.getD 7 false) (.bool true) ((gs.getD 60 undef))) :: (cond (l.getD 8 false) (.bool true) ((gs.getD 61 undef))) :: (cond (l.getD 9 false) (vn) ((gs.getD 62 undef))) :: (cond (l.getD 10 false) (.slice Af nf cf) ((gs.getD 63 undef))) :: (cond (l.getD 11 false) (.slice Al nl cl) ((gs.getD 64 undef))) :: (cond (l.getD 12 false) (.slice (some ⟨nb, 0, none⟩) 2 2) ((gs.getD 65 undef))) :: (cond (l.getD 13 false) (vc) ((gs.getD 66 undef))) :: (cond (l.getD 14 false) (.bool true) ((gs.getD 67 undef))) :: (cond (l.getD 15 false) (.bool true) ((gs.getD 68 undef))) :: []), [clDefer sb]⟩
def dgSt (main : Bool) (Z : Addr → Prop) (Stop : Goroutine → World → Prop) (w₀ : World) (k : List Item) (cs : List Frame) (Aa : Option Addr) (n : Nat) (cap : Nat) (sb : Nat) (ob : Nat) (idx : Nat) (Af : Option Addr) (nf : Nat) (cf : Nat) (Al : Option Addr) (nl : Nat) (cl : Nat) (vo : Value) (vn : Value) (nb : Nat) (vc : Value) (gs : List Value) (f : Nat) (l : Array Bool) (w : World) : Prop :=
  ∀ A d, SchedU Try.prog main Z Stop w₀ (base 13) (opsOf (sel [1, 1, 1, 1, 1, 1, 1, 1, 0] bodyCd)) k cs f l (dgAct Aa n cap sb ob idx Af nf cf Al nl cl vo vn nb vc gs l) (tp w A d)
/-- What has been carried out as Close is called. -/
def dgL : Nat → Array Bool
  | 0 => #[true, true, true, false, false, false, false, false, false, false, false, false, false, false, false, false, false]
  | 1 => #[true, true, true, false, true, false, false, false, false, false, false, false, false, false, false, false, false]
  | _ => #[true, true, true, false, true, true, false, false, false, false, false, false, false, false, false, false, false]
def dgF : Nat → Nat
  | 0 => 13
  | 1 => 12
  | _ => 11
noncomputable def dgFr (Aa : Option Addr) (n : Nat) (cap : Nat) (sb : Nat) (ob : Nat) (idx : Nat) (Af : Option Addr) (nf : Nat) (cf : Nat) (Al : Option Addr) (nl : Nat) (cl : Nat) (vo : Value) (nb : Nat) (gs : List Value) (c t : Nat) : Frame := (base 13).at (dgAct Aa n cap sb ob idx Af nf cf Al nl cl vo undef nb undef gs (dgL c)) (.inRegion (opsOf (sel [1, 1, 1, 1, 1, 1, 1, 1, 0] bodyCd)) (3 :: Region.linearise.go .any (opsOf (sel [1, 1, 1, 1, 1, 1, 1, 1, 0] bodyCd)) (dgF c) t ((dgL c).setIfInBounds 3 true) []) :: [.code .ret])
theorem defers_close {main : Bool} {Z : Addr → Prop} {Stop : Goroutine → World → Prop} {w₀ u : World} {Aa : Option Addr} {n cap : Nat} {sb ob idx : Nat} {gs : List Value} {vf vl : Value} {vo : Value} {nb nl : Nat} {t : Nat} {Al Af : Option Addr} {cl nf cf : Nat} (hvf : vf = .slice Af nf cf) (hvl : vl = .slice Al nl cl) (hk : ∀ c t, OwnU Try.prog main Z Stop w₀ (closeIn .normal sb [dgFr Aa n cap sb ob idx Af nf cf Al nl cl vo nb gs c t]) u) :
    OwnU Try.prog main Z Stop w₀ (G ((base 13).at ((dfAct Aa n cap sb ob idx vf vl vo gs).put (((opsOf (sel [1, 1, 1, 1, 1, 1, 1, 1, 0] bodyCd))[0]?).bind (·.dst)) (.bool true)) (.inRegion (opsOf (sel [1, 1, 1, 1, 1, 1, 1, 1, 0] bodyCd)) (Region.linearise.go .any (opsOf (sel [1, 1, 1, 1, 1, 1, 1, 1, 0] bodyCd)) 16 t #[true, false, false, false, false, false, false, false, false, false, false, false, false, false, false, false, false] []) :: [.code .ret])) []) u := by
  subst hvl hvf
  rw [go_one (i := 1) (by kernel_rfl)]
  refine ownU_quiet (i := 1) (.bool true) rfl (by rfl) rfl (by decide) (fun _ => by kernel_rfl) ?_
  have h_0_1_2_4_5 : dgSt main Z Stop w₀ [.code .ret] [] Aa n cap sb ob idx Af nf cf Al nl cl vo undef nb undef gs 12 #[true, true, true, false, true, true, false, false, false, false, false, false, false, false, false, false, false] (u) := by
    intro A2 d2
    refine schedU_succ (rs := [3]) (by kernel_rfl) (by decide) fun i hi t => ?_
    have hi' : i = 3 := by simpa using hi
    subst hi'
    refine ownU_enter (i := 3) (f := 36) rfl (by kernel_rfl) (by decide) rfl Try.func36 (by kernel_rfl) rfl ?_
    exact ownU_eq (by kernel_rfl) (ownU_tp.2 (hk 2 t))
  have h_0_1_2_4 : dgSt main Z Stop w₀ [.code .ret] [] Aa n cap sb ob idx Af nf cf Al nl cl vo undef nb undef gs 13 #[true, true, true, false, true, false, false, false, false, false, false, false, false, false, false, false, false] (u) := by
    intro A2 d2
    refine schedU_succ (rs := [3, 5]) (by kernel_rfl) (by decide) fun i hi t => ?_
    have hi' : i = 3 ∨ i = 5 := by simpa using hi
    rcases hi' with rfl | rfl
    · skip
      refine ownU_enter (i := 3) (f := 36) rfl (by kernel_rfl) (by decide) rfl Try.func36 (by kernel_rfl) rfl ?_
      exact ownU_eq (by kernel_rfl) (ownU_tp.2 (hk 1 t))
    · skip
      refine ownU_quiet (i := 5) (.int .i64 (nl : Int)) rfl (by kernel_rfl) rfl (by decide) (fun _ => by kernel_rfl) ?_
      exact schedU_to (by kernel_rfl) (by kernel_rfl) (h_0_1_2_4_5 _ _) t
  have h_0_1_4_5 : dgSt main Z Stop w₀ [.code .ret] [] Aa n cap sb ob idx Af nf cf Al nl cl vo undef nb undef gs 13 #[true, true, false, false, true, true, false, false, false, false, false, false, false, false, false, false, false] (u) := by
    intro A2 d2
    refine schedU_succ (rs := [2]) (by kernel_rfl) (by decide) fun i hi t => ?_
    have hi' : i = 2 := by simpa using hi
    subst hi'
    refine ownU_quiet (i := 2) (ptr sb) rfl (by kernel_rfl) rfl (by decide) (fun _ => by kernel_rfl) ?_
    exact schedU_to (by kernel_rfl) (by kernel_rfl) (h_0_1_2_4_5 _ _) t
  have h_0_1_2 : dgSt main Z Stop w₀ [.code .ret] [] Aa n cap sb ob idx Af nf cf Al nl cl vo undef nb undef gs 14 #[true, true, true, false, false, false, false, false, false, false, false, false, false, false, false, false, false] (u) := by
    intro A2 d2
    refine schedU_succ (rs := [3, 4]) (by kernel_rfl) (by decide) fun i hi t => ?_
    have hi' : i = 3 ∨ i = 4 := by simpa using hi
    rcases hi' with rfl | rfl
    · skip
      refine ownU_enter (i := 3) (f := 36) rfl (by kernel_rfl) (by decide) rfl Try.func36 (by kernel_rfl) rfl ?_
      exact ownU_eq (by kernel_rfl) (ownU_tp.2 (hk 0 t))
    · skip
      refine ownU_quiet (i := 4) (.slice Al nl cl) rfl (by kernel_rfl) rfl (by decide) (fun _ => by kernel_rfl) ?_
      exact schedU_to (by kernel_rfl) (by kernel_rfl) (h_0_1_2_4 _ _) t
  have h_0_1_4 : dgSt main Z Stop w₀ [.code .ret] [] Aa n cap sb ob idx Af nf cf Al nl cl vo undef nb undef gs 14 #[true, true, false, false, true, false, false, false, false, false, false, false, false, false, false, false, false] (u) := by
    intro A2 d2
    refine schedU_succ (rs := [2, 5]) (by kernel_rfl) (by decide) fun i hi t => ?_
    have hi' : i = 2 ∨ i = 5 := by simpa using hi
    rcases hi' with rfl | rfl
    · skip
      refine ownU_quiet (i := 2) (ptr sb) rfl (by kernel_rfl) rfl (by decide) (fun _ => by kernel_rfl) ?_
      exact schedU_to (by kernel_rfl) (by kernel_rfl) (h_0_1_2_4 _ _) t
    · skip
      refine ownU_quiet (i := 5) (.int .i64 (nl : Int)) rfl (by kernel_rfl) rfl (by decide) (fun _ => by kernel_rfl) ?_
      exact schedU_to (by kernel_rfl) (by kernel_rfl) (h_0_1_4_5 _ _) t
  have h_0_1 : dgSt main Z Stop w₀ [.code .ret] [] Aa n cap sb ob idx Af nf cf Al nl cl vo undef nb undef gs 15 #[true, true, false, false, false, false, false, false, false, false, false, false, false, false, false, false, false] (u) := by
    intro A2 d2
    refine schedU_succ (rs := [2, 4]) (by kernel_rfl) (by decide) fun i hi t => ?_
    have hi' : i = 2 ∨ i = 4 := by simpa using hi
    rcases hi' with rfl | rfl
    · skip
      refine ownU_quiet (i := 2) (ptr sb) rfl (by kernel_rfl) rfl (by decide) (fun _ => by kernel_rfl) ?_
      exact schedU_to (by kernel_rfl) (by kernel_rfl) (h_0_1_2 _ _) t
    · skip
      refine ownU_quiet (i := 4) (.slice Al nl cl) rfl (by kernel_rfl) rfl (by decide) (fun _ => by kernel_rfl) ?_
      exact schedU_to (by kernel_rfl) (by kernel_rfl) (h_0_1_4 _ _) t
  refine (ownU_tp (A := w₀.tape) (d := 0)).1 ?_
  exact schedU_to (act := dgAct Aa n cap sb ob idx Af nf cf Al nl cl vo undef nb undef gs #[true, true, false, false, false, false, false, false, false, false, false, false, false, false, false, false, false]) (by kernel_rfl) (by kernel_rfl) (h_0_1 w₀.tape 0) t
theorem defers_end {main : Bool} {Z : Addr → Prop} {Stop : Goroutine → World → Prop} {w₀ u : World} {Aa : Option Addr} {n cap : Nat} {sb ob idx : Nat} {gs : List Value}  {vo vn : Value} {nb nl cl nf cf c t : Nat} {Al Af : Option Addr} (hob : u.cell? ⟨ob, 0, none⟩ = some vn)
    (hcat : ∀ A d, Calls Try.prog 61 #[.slice (some ⟨u.heap.size, 0, none⟩) 2 2] (tp (u.alloc (.cells #[.slice Af nf cf, .slice Al nl cl] 22)) A d) fun e w' => ∃ vc, e = .returned vc ∧ New u w' ∧ ∀ B d, Calls Try.prog 17 #[vn, vc] (tp w' B d) fun e w2 => e = .returned (.bool true) ∧ ∃ A d, w2 = tp w' A d)
    (hk : ∀ ts u', New u u' → ts.getD 2 undef = .bool true → OwnU Try.prog main Z Stop w₀ (closeIn .deferred sb [{ (base 13).at ⟨ts, []⟩ [.code .ret] with mode := .returning }]) u') :
    OwnU Try.prog main Z Stop w₀ (G ((base 13).at ((dgAct Aa n cap sb ob idx Af nf cf Al nl cl vo undef nb undef gs (dgL c)).put (((opsOf (sel [1, 1, 1, 1, 1, 1, 1, 1, 0] bodyCd))[3]?).bind (·.dst)) (.int .i64 (nl : Int))) (.inRegion (opsOf (sel [1, 1, 1, 1, 1, 1, 1, 1, 0] bodyCd)) (Region.linearise.go .any (opsOf (sel [1, 1, 1, 1, 1, 1, 1, 1, 0] bodyCd)) (dgF c) t ((dgL c).setIfInBounds 3 true) []) :: [.code .ret])) []) u := by
  have hlast : ∀ vc u5, New u u5 → (∀ B d, Calls Try.prog 17 #[vn, vc] (tp u5 B d) fun e w2 => e = .returned (.bool true) ∧ ∃ A d, w2 = tp u5 A d) → dgSt main Z Stop w₀ [.code .ret] [] Aa n cap sb ob idx Af nf cf Al nl cl vo vn u.heap.size vc gs 0 #[true, true, true, true, true, true, true, true, true, true, true, true, true, true, true, true, true] (u5) := by
    intro z u5 hn5 heq5 A2 d2
    refine schedU_end ?_
    refine ownU_lit (List.toArray (.slice Aa n cap :: (gs.getD 0 undef) :: .bool true :: ptr sb :: ptr ob :: .slice Af nf cf :: .slice Al nl cl :: (gs.getD 1 undef) :: (gs.getD 2 undef) :: (gs.getD 3 undef) :: (gs.getD 4 undef) :: (gs.getD 5 undef) :: (gs.getD 6 undef) :: (gs.getD 7 undef) :: (gs.getD 8 undef) :: (gs.getD 9 undef) :: (gs.getD 10 undef) :: (gs.getD 11 undef) :: (gs.getD 12 undef) :: (gs.getD 13 undef) :: (gs.getD 14 undef) :: (gs.getD 15 undef) :: (gs.getD 16 undef) :: (gs.getD 17 undef) :: (gs.getD 18 undef) :: (gs.getD 19 undef) :: (gs.getD 20 undef) :: .slice Aa n cap :: .int .i64 (n : Int) :: .int .i64 (idx : Int) :: .bool false :: (gs.getD 25 undef) :: (gs.getD 26 undef) :: (gs.getD 27 undef) :: (gs.getD 28 undef) :: (gs.getD 29 undef) :: (gs.getD 30 undef) :: (gs.getD 31 undef) :: (gs.getD 32 undef) :: (gs.getD 33 undef) :: (gs.getD 34 undef) :: (gs.getD 35 undef) :: (gs.getD 36 undef) :: (gs.getD 37 undef) :: (gs.getD 38 undef) :: (gs.getD 39 undef) :: (gs.getD 40 undef) :: (gs.getD 41 undef) :: ptr sb :: .int .i64 (n : Int) :: .slice Aa n cap :: .int .i64 (n : Int) :: .bool false :: .bool false :: vo :: .slice Af nf cf :: .bool true :: .bool false :: .bool false :: .bool true :: .bool true :: ptr sb :: .int .i64 (nl : Int) :: .slice Al nl cl :: .int .i64 (nl : Int) :: .bool true :: .bool true :: .bool true :: vn :: .slice Af nf cf :: .slice Al nl cl :: .slice (some ⟨u.heap.size, 0, none⟩) 2 2 :: z :: .bool true :: .bool true :: [])) [clDefer sb] (by kernel_rfl) (by kernel_rfl) ?_
    refine ownU_ret ?_
    refine ownU_deferred (args := #[ptr sb]) (ca := #[]) (ds := []) (by simp) rfl Try.func36 (by kernel_rfl) rfl ?_
    exact ownU_eq (by kernel_rfl) (hk (List.toArray (.slice Aa n cap :: (gs.getD 0 undef) :: .bool true :: ptr sb :: ptr ob :: .slice Af nf cf :: .slice Al nl cl :: (gs.getD 1 undef) :: (gs.getD 2 undef) :: (gs.getD 3 undef) :: (gs.getD 4 undef) :: (gs.getD 5 undef) :: (gs.getD 6 undef) :: (gs.getD 7 undef) :: (gs.getD 8 undef) :: (gs.getD 9 undef) :: (gs.getD 10 undef) :: (gs.getD 11 undef) :: (gs.getD 12 undef) :: (gs.getD 13 undef) :: (gs.getD 14 undef) :: (gs.getD 15 undef) :: (gs.getD 16 undef) :: (gs.getD 17 undef) :: (gs.getD 18 undef) :: (gs.getD 19 undef) :: (gs.getD 20 undef) :: .slice Aa n cap :: .int .i64 (n : Int) :: .int .i64 (idx : Int) :: .bool false :: (gs.getD 25 undef) :: (gs.getD 26 undef) :: (gs.getD 27 undef) :: (gs.getD 28 undef) :: (gs.getD 29 undef) :: (gs.getD 30 undef) :: (gs.getD 31 undef) :: (gs.getD 32 undef) :: (gs.getD 33 undef) :: (gs.getD 34 undef) :: (gs.getD 35 undef) :: (gs.getD 36 undef) :: (gs.getD 37 undef) :: (gs.getD 38 undef) :: (gs.getD 39 undef) :: (gs.getD 40 undef) :: (gs.getD 41 undef) :: ptr sb :: .int .i64 (n : Int) :: .slice Aa n cap :: .int .i64 (n : Int) :: .bool false :: .bool false :: vo :: .slice Af nf cf :: .bool true :: .bool false :: .bool false :: .bool true :: .bool true :: ptr sb :: .int .i64 (nl : Int) :: .slice Al nl cl :: .int .i64 (nl : Int) :: .bool true :: .bool true :: .bool true :: vn :: .slice Af nf cf :: .slice Al nl cl :: .slice (some ⟨u.heap.size, 0, none⟩) 2 2 :: z :: .bool true :: .bool true :: [])) (tp u5 A2 d2) ⟨hn5.os, hn5.output, hn5.size, hn5.block⟩ rfl)
  have hn_16 : ∀ vc u5, New u u5 → (∀ B d, Calls Try.prog 17 #[vn, vc] (tp u5 B d) fun e w2 => e = .returned (.bool true) ∧ ∃ A d, w2 = tp u5 A d) → dgSt main Z Stop w₀ [.code .ret] [] Aa n cap sb ob idx Af nf cf Al nl cl vo vn u.heap.size vc gs 1 #[true, true, true, true, true, true, true, true, true, true, true, true, true, true, true, true, false] (u5) := by
    intro z u5 hn5 heq5 A d
    refine schedU_succ (rs := [16]) (by kernel_rfl) (by decide) fun i hi t => ?_
    have hi' : i = 16 := by simpa using hi
    subst hi'
    refine ownU_quiet (i := 16) (.bool true) rfl (by rfl) rfl (by decide) (fun _ => by kernel_rfl) ?_
    exact schedU_to (by kernel_rfl) (by kernel_rfl) (hlast z u5 hn5 heq5 _ _) t
  have hn_15_16 : ∀ vc u5, New u u5 → (∀ B d, Calls Try.prog 17 #[vn, vc] (tp u5 B d) fun e w2 => e = .returned (.bool true) ∧ ∃ A d, w2 = tp u5 A d) → dgSt main Z Stop w₀ [.code .ret] [] Aa n cap sb ob idx Af nf cf Al nl cl vo vn u.heap.size vc gs 2 #[true, true, true, true, true, true, true, true, true, true, true, true, true, true, true, false, false] (u5) := by
    intro z u5 hn5 heq5 A d
    refine schedU_succ (rs := [15]) (by kernel_rfl) (by decide) fun i hi t => ?_
    have hi' : i = 15 := by simpa using hi
    subst hi'
    refine ownU_quiet (i := 15) (.bool true) rfl (by rfl) rfl (by decide) (fun _ => by kernel_rfl) ?_
    exact schedU_to (by kernel_rfl) (by kernel_rfl) (hn_16 z u5 hn5 heq5 _ _) t
  have hn_14_15_16 : ∀ vc u5, New u u5 → (∀ B d, Calls Try.prog 17 #[vn, vc] (tp u5 B d) fun e w2 => e = .returned (.bool true) ∧ ∃ A d, w2 = tp u5 A d) → dgSt main Z Stop w₀ [.code .ret] [] Aa n cap sb ob idx Af nf cf Al nl cl vo vn u.heap.size vc gs 3 #[true, true, true, true, true, true, true, true, true, true, true, true, true, true, false, false, false] (u5) := by
    intro z u5 hn5 heq5 A d
    refine schedU_succ (rs := [14]) (by kernel_rfl) (by decide) fun i hi t => ?_
    have hi' : i = 14 := by simpa using hi
    subst hi'
    refine ownU_callK (i := 14) (L := lone18) (R := fun e w' => e = .returned (.bool true) ∧ ∃ A d, w' = tp u5 A d) okL18 (by decide) rfl rfl (by kernel_rfl) (by kernel_rfl) (by decide) (fun A d => calls_eq (args' := #[vn, z]) (by kernel_rfl) (heq5 A d)) (fun e w h => ⟨_, h.1⟩) fun z u' hR => ?_
    obtain ⟨e, A1, d1, rfl⟩ := hR
    injection e with e
    subst e
    exact schedU_to (by kernel_rfl) (by kernel_rfl) (hn_15_16 z u5 hn5 heq5 _ _) t
  have hn_13_14_15_16 : dgSt main Z Stop w₀ [.code .ret] [] Aa n cap sb ob idx Af nf cf Al nl cl vo vn u.heap.size undef gs 4 #[true, true, true, true, true, true, true, true, true, true, true, true, true, false, false, false, false] (u.alloc (.cells #[.slice Af nf cf, .slice Al nl cl] 22)) := by
    intro A d
    refine schedU_succ (rs := [13]) (by kernel_rfl) (by decide) fun i hi t => ?_
    have hi' : i = 13 := by simpa using hi
    subst hi'
    refine ownU_callK (i := 13) (L := loneCat) (R := fun e w' => ∃ vc, e = .returned vc ∧ New u w' ∧ ∀ B d, Calls Try.prog 17 #[vn, vc] (tp w' B d) fun e w2 => e = .returned (.bool true) ∧ ∃ A d, w2 = tp w' A d) okCat (by decide) rfl rfl (by kernel_rfl) (by kernel_rfl) (by decide) (fun A d => calls_eq (args' := #[.slice (some ⟨u.heap.size, 0, none⟩) 2 2]) (by kernel_rfl) (hcat A d)) (fun e w h => by obtain ⟨vc, h1, _⟩ := h; exact ⟨vc, h1⟩) fun z u5 hR => ?_
    obtain ⟨vc, e, hn5, heq5⟩ := hR
    injection e with e
    subst e
    exact schedU_to (by kernel_rfl) (by kernel_rfl) (hn_14_15_16 z u5 hn5 heq5 _ _) t
  have hn_9_14_15_16 : ∀ vc u5, New u u5 → (∀ B d, Calls Try.prog 17 #[vn, vc] (tp u5 B d) fun e w2 => e = .returned (.bool true) ∧ ∃ A d, w2 = tp u5 A d) → dgSt main Z Stop w₀ [.code .ret] [] Aa n cap sb ob idx Af nf cf Al nl cl vo vn u.heap.size vc gs 4 #[true, true, true, true, true, true, true, true, true, false, true, true, true, true, false, false, false] (u5) := by
    intro z u5 hn5 heq5 A d
    refine schedU_succ (rs := [9]) (by kernel_rfl) (by decide) fun i hi t => ?_
    have hi' : i = 9 := by simpa using hi
    subst hi'
    refine ownU_load (i := 9) ⟨ob, 0, none⟩ vn rfl (by kernel_rfl) (by decide) loads_ints rfl (by kernel_rfl) (hn5.cell hob) ?_
    exact schedU_to (by kernel_rfl) (by kernel_rfl) (hn_14_15_16 z u5 hn5 heq5 _ _) t
  have hn_12_13_14_15_16 : dgSt main Z Stop w₀ [.code .ret] [] Aa n cap sb ob idx Af nf cf Al nl cl vo vn u.heap.size undef gs 5 #[true, true, true, true, true, true, true, true, true, true, true, true, false, false, false, false, false] (u) := by
    intro A d
    refine schedU_succ (rs := [12]) (by kernel_rfl) (by decide) fun i hi t => ?_
    have hi' : i = 12 := by simpa using hi
    subst hi'
    refine ownU_newV (fun n => .slice (some ⟨n, 0, none⟩) 2 2) (.cells #[.slice Af nf cf, .slice Al nl cl] 22) (i := 12) rfl (by kernel_rfl) rfl (by decide) (fun _ => by kernel_rfl) ?_
    exact schedU_to (by kernel_rfl) (by kernel_rfl) (hn_13_14_15_16 _ _) t
  have hn_9_13_14_15_16 : dgSt main Z Stop w₀ [.code .ret] [] Aa n cap sb ob idx Af nf cf Al nl cl vo vn u.heap.size undef gs 5 #[true, true, true, true, true, true, true, true, true, false, true, true, true, false, false, false, false] (u.alloc (.cells #[.slice Af nf cf, .slice Al nl cl] 22)) := by
    intro A d
    refine schedU_succ (rs := [9, 13]) (by kernel_rfl) (by decide) fun i hi t => ?_
    have hi' : i = 9 ∨ i = 13 := by simpa using hi
    rcases hi' with rfl | rfl
    · skip
      refine ownU_load (i := 9) ⟨ob, 0, none⟩ vn rfl (by kernel_rfl) (by decide) loads_ints rfl (by kernel_rfl) ((New.alloc u _).cell hob) ?_
      exact schedU_to (by kernel_rfl) (by kernel_rfl) (hn_13_14_15_16 _ _) t
    · skip
      refine ownU_callK (i := 13) (L := loneCat) (R := fun e w' => ∃ vc, e = .returned vc ∧ New u w' ∧ ∀ B d, Calls Try.prog 17 #[vn, vc] (tp w' B d) fun e w2 => e = .returned (.bool true) ∧ ∃ A d, w2 = tp w' A d) okCat (by decide) rfl rfl (by kernel_rfl) (by kernel_rfl) (by decide) (fun A d => calls_eq (args' := #[.slice (some ⟨u.heap.size, 0, none⟩) 2 2]) (by kernel_rfl) (hcat A d)) (fun e w h => by obtain ⟨vc, h1, _⟩ := h; exact ⟨vc, h1⟩) fun z u5 hR => ?_
      obtain ⟨vc, e, hn5, heq5⟩ := hR
      injection e with e
      subst e
      exact schedU_to (by kernel_rfl) (by kernel_rfl) (hn_9_14_15_16 z u5 hn5 heq5 _ _) t
  have hn_11_12_13_14_15_16 : dgSt main Z Stop w₀ [.code .ret] [] Aa n cap sb ob idx Af nf cf Al nl cl vo vn u.heap.size undef gs 6 #[true, true, true, true, true, true, true, true, true, true, true, false, false, false, false, false, false] (u) := by
    intro A d
    refine schedU_succ (rs := [11]) (by kernel_rfl) (by decide) fun i hi t => ?_
    have hi' : i = 11 := by simpa using hi
    subst hi'
    refine ownU_quiet (i := 11) (.slice Al nl cl) rfl (by kernel_rfl) rfl (by decide) (fun _ => by kernel_rfl) ?_
    exact schedU_to (by kernel_rfl) (by kernel_rfl) (hn_12_13_14_15_16 _ _) t
  have hn_10_12_13_14_15_16 : dgSt main Z Stop w₀ [.code .ret] [] Aa n cap sb ob idx Af nf cf Al nl cl vo vn u.heap.size undef gs 6 #[true, true, true, true, true, true, true, true, true, true, false, true, false, false, false, false, false] (u) := by
    intro A d
    refine schedU_succ (rs := [10]) (by kernel_rfl) (by decide) fun i hi t => ?_
    have hi' : i = 10 := by simpa using hi
    subst hi'
    refine ownU_quiet (i := 10) (.slice Af nf cf) rfl (by kernel_rfl) rfl (by decide) (fun _ => by kernel_rfl) ?_
    exact schedU_to (by kernel_rfl) (by kernel_rfl) (hn_12_13_14_15_16 _ _) t
  have hn_9_12_13_14_15_16 : dgSt main Z Stop w₀ [.code .ret] [] Aa n cap sb ob idx Af nf cf Al nl cl vo vn u.heap.size undef gs 6 #[true, true, true, true, true, true, true, true, true, false, true, true, false, false, false, false, false] (u) := by
    intro A d
    refine schedU_succ (rs := [9, 12]) (by kernel_rfl) (by decide) fun i hi t => ?_
    have hi' : i = 9 ∨ i = 12 := by simpa using hi
    rcases hi' with rfl | rfl
    · skip
      refine ownU_load (i := 9) ⟨ob, 0, none⟩ vn rfl (by kernel_rfl) (by decide) loads_ints rfl (by kernel_rfl) hob ?_
      exact schedU_to (by kernel_rfl) (by kernel_rfl) (hn_12_13_14_15_16 _ _) t
    · skip
      refine ownU_newV (fun n => .slice (some ⟨n, 0, none⟩) 2 2) (.cells #[.slice Af nf cf, .slice Al nl cl] 22) (i := 12) rfl (by kernel_rfl) rfl (by decide) (fun _ => by kernel_rfl) ?_
      exact schedU_to (by kernel_rfl) (by kernel_rfl) (hn_9_13_14_15_16 _ _) t
  have hn_10_11_12_13_14_15_16 : dgSt main Z Stop w₀ [.code .ret] [] Aa n cap sb ob idx Af nf cf Al nl cl vo vn u.heap.size undef gs 7 #[true, true, true, true, true, true, true, true, true, true, false, false, false, false, false, false, false] (u) := by
    intro A d
    refine schedU_succ (rs := [10, 11]) (by kernel_rfl) (by decide) fun i hi t => ?_
    have hi' : i = 10 ∨ i = 11 := by simpa using hi
    rcases hi' with rfl | rfl
    · skip
      refine ownU_quiet (i := 10) (.slice Af nf cf) rfl (by kernel_rfl) rfl (by decide) (fun _ => by kernel_rfl) ?_
      exact schedU_to (by kernel_rfl) (by kernel_rfl) (hn_11_12_13_14_15_16 _ _) t
    · skip
      refine ownU_quiet (i := 11) (.slice Al nl cl) rfl (by kernel_rfl) rfl (by decide) (fun _ => by kernel_rfl) ?_
      exact schedU_to (by kernel_rfl) (by kernel_rfl) (hn_10_12_13_14_15_16 _ _) t
  have hn_9_11_12_13_14_15_16 : dgSt main Z Stop w₀ [.code .ret] [] Aa n cap sb ob idx Af nf cf Al nl cl vo vn u.heap.size undef gs 7 #[true, true, true, true, true, true, true, true, true, false, true, false, false, false, false, false, false] (u) := by
    intro A d
    refine schedU_succ (rs := [9, 11]) (by kernel_rfl) (by decide) fun i hi t => ?_
    have hi' : i = 9 ∨ i = 11 := by simpa using hi
    rcases hi' with rfl | rfl
    · skip
      refine ownU_load (i := 9) ⟨ob, 0, none⟩ vn rfl (by kernel_rfl) (by decide) loads_ints rfl (by kernel_rfl) hob ?_
      exact schedU_to (by kernel_rfl) (by kernel_rfl) (hn_11_12_13_14_15_16 _ _) t
    · skip
      refine ownU_quiet (i := 11) (.slice Al nl cl) rfl (by kernel_rfl) rfl (by decide) (fun _ => by kernel_rfl) ?_
      exact schedU_to (by kernel_rfl) (by kernel_rfl) (hn_9_12_13_14_15_16 _ _) t
  have hn_9_10_12_13_14_15_16 : dgSt main Z Stop w₀ [.code .ret] [] Aa n cap sb ob idx Af nf cf Al nl cl vo vn u.heap.size undef gs 7 #[true, true, true, true, true, true, true, true, true, false, false, true, false, false, false, false, false] (u) := by
    intro A d
    refine schedU_succ (rs := [9, 10]) (by kernel_rfl) (by decide) fun i hi t => ?_
    have hi' : i = 9 ∨ i = 10 := by simpa using hi
    rcases hi' with rfl | rfl
    · skip
      refine ownU_load (i := 9) ⟨ob, 0, none⟩ vn rfl (by kernel_rfl) (by decide) loads_ints rfl (by kernel_rfl) hob ?_
      exact schedU_to (by kernel_rfl) (by kernel_rfl) (hn_10_12_13_14_15_16 _ _) t
    · skip
      refine ownU_quiet (i := 10) (.slice Af nf cf) rfl (by kernel_rfl) rfl (by decide) (fun _ => by kernel_rfl) ?_
      exact schedU_to (by kernel_rfl) (by kernel_rfl) (hn_9_12_13_14_15_16 _ _) t
  have hn_9_10_11_12_13_14_15_16 : dgSt main Z Stop w₀ [.code .ret] [] Aa n cap sb ob idx Af nf cf Al nl cl vo vn u.heap.size undef gs 8 #[true, true, true, true, true, true, true, true, true, false, false, false, false, false, false, false, false] (u) := by
    intro A d
    refine schedU_succ (rs := [9, 10, 11]) (by kernel_rfl) (by decide) fun i hi t => ?_
    have hi' : i = 9 ∨ i = 10 ∨ i = 11 := by simpa using hi
    rcases hi' with rfl | rfl | rfl
    · skip
      refine ownU_load (i := 9) ⟨ob, 0, none⟩ vn rfl (by kernel_rfl) (by decide) loads_ints rfl (by kernel_rfl) hob ?_
      exact schedU_to (by kernel_rfl) (by kernel_rfl) (hn_10_11_12_13_14_15_16 _ _) t
    · skip
      refine ownU_quiet (i := 10) (.slice Af nf cf) rfl (by kernel_rfl) rfl (by decide) (fun _ => by kernel_rfl) ?_
      exact schedU_to (by kernel_rfl) (by kernel_rfl) (hn_9_11_12_13_14_15_16 _ _) t
    · skip
      refine ownU_quiet (i := 11) (.slice Al nl cl) rfl (by kernel_rfl) rfl (by decide) (fun _ => by kernel_rfl) ?_
      exact schedU_to (by kernel_rfl) (by kernel_rfl) (hn_9_10_12_13_14_15_16 _ _) t
  have h_0_1_2_3_4_5_6_7 : dgSt main Z Stop w₀ [.code .ret] [] Aa n cap sb ob idx Af nf cf Al nl cl vo vn u.heap.size undef gs 9 #[true, true, true, true, true, true, true, true, false, false, false, false, false, false, false, false, false] (u) := by
    intro A d
    refine schedU_succ (rs := [8]) (by kernel_rfl) (by decide) fun i hi t => ?_
    have hi' : i = 8 := by simpa using hi
    subst hi'
    refine ownU_quiet (i := 8) (.bool true) rfl (by rfl) rfl (by decide) (fun _ => by kernel_rfl) ?_
    exact schedU_to (by kernel_rfl) (by kernel_rfl) (hn_9_10_11_12_13_14_15_16 _ _) t
  have h_0_1_2_3_4_5_6 : dgSt main Z Stop w₀ [.code .ret] [] Aa n cap sb ob idx Af nf cf Al nl cl vo vn u.heap.size undef gs 10 #[true, true, true, true, true, true, true, false, false, false, false, false, false, false, false, false, false] (u) := by
    intro A d
    refine schedU_succ (rs := [7]) (by kernel_rfl) (by decide) fun i hi t => ?_
    have hi' : i = 7 := by simpa using hi
    subst hi'
    refine ownU_quiet (i := 7) (.bool true) rfl (by rfl) rfl (by decide) (fun _ => by kernel_rfl) ?_
    exact schedU_to (by kernel_rfl) (by kernel_rfl) (h_0_1_2_3_4_5_6_7 _ _) t
  have h_0_1_2_3_4_5 : dgSt main Z Stop w₀ [.code .ret] [] Aa n cap sb ob idx Af nf cf Al nl cl vo vn u.heap.size undef gs 11 #[true, true, true, true, true, true, false, false, false, false, false, false, false, false, false, false, false] (u) := by
    intro A d
    refine schedU_succ (rs := [6]) (by kernel_rfl) (by decide) fun i hi t => ?_
    have hi' : i = 6 := by simpa using hi
    subst hi'
    refine ownU_quiet (i := 6) (.bool true) rfl (by kernel_rfl) rfl (by decide) (fun _ => eql_v (p := (nl : Int)) (q := (nl : Int)) rfl (by kernel_rfl) (by kernel_rfl) rfl) ?_
    exact schedU_to (by kernel_rfl) (by kernel_rfl) (h_0_1_2_3_4_5_6 _ _) t
  have h_0_1_2_3_4 : dgSt main Z Stop w₀ [.code .ret] [] Aa n cap sb ob idx Af nf cf Al nl cl vo vn u.heap.size undef gs 12 #[true, true, true, true, true, false, false, false, false, false, false, false, false, false, false, false, false] (u) := by
    intro A d
    refine schedU_succ (rs := [5]) (by kernel_rfl) (by decide) fun i hi t => ?_
    have hi' : i = 5 := by simpa using hi
    subst hi'
    refine ownU_quiet (i := 5) (.int .i64 (nl : Int)) rfl (by kernel_rfl) rfl (by decide) (fun _ => by kernel_rfl) ?_
    exact schedU_to (by kernel_rfl) (by kernel_rfl) (h_0_1_2_3_4_5 _ _) t
  have h_0_1_2_3 : dgSt main Z Stop w₀ [.code .ret] [] Aa n cap sb ob idx Af nf cf Al nl cl vo vn u.heap.size undef gs 13 #[true, true, true, true, false, false, false, false, false, false, false, false, false, false, false, false, false] (u) := by
    intro A d
    refine schedU_succ (rs := [4]) (by kernel_rfl) (by decide) fun i hi t => ?_
    have hi' : i = 4 := by simpa using hi
    subst hi'
    refine ownU_quiet (i := 4) (.slice Al nl cl) rfl (by kernel_rfl) rfl (by decide) (fun _ => by kernel_rfl) ?_
    exact schedU_to (by kernel_rfl) (by kernel_rfl) (h_0_1_2_3_4 _ _) t
  refine (ownU_tp (A := w₀.tape) (d := 0)).1 ?_
  match c with
  | 0 => exact schedU_to (act := dgAct Aa n cap sb ob idx Af nf cf Al nl cl vo vn u.heap.size undef gs #[true, true, true, true, false, false, false, false, false, false, false, false, false, false, false, false, false]) (by kernel_rfl) (by kernel_rfl) (h_0_1_2_3 w₀.tape 0) t
  | 1 => exact schedU_to (act := dgAct Aa n cap sb ob idx Af nf cf Al nl cl vo vn u.heap.size undef gs #[true, true, true, true, true, false, false, false, false, false, false, false, false, false, false, false, false]) (by kernel_rfl) (by kernel_rfl) (h_0_1_2_3_4 w₀.tape 0) t
  | c + 2 => exact schedU_to (act := dgAct Aa n cap sb ob idx Af nf cf Al nl cl vo vn u.heap.size undef gs #[true, true, true, true, true, true, false, false, false, false, false, false, false, false, false, false, false]) (by kernel_rfl) (by kernel_rfl) (h_0_1_2_3_4_5 w₀.tape 0) t
end Go.Proofs.Ytolnmdanlggmhaa
