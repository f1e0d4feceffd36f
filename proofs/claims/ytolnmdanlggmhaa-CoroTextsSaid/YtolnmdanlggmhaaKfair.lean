/- Count, lone: how many coroutines are in a state. -/
import Derived.Test.YtolnmdanlggmhaaKe
import Derived.Test.YtolnmdanlggmhaaKi
namespace Go.Proofs.Ytolnmdanlggmhaa
open Go.RowKit Go.Maps Go.Conc

def cntOf (st : Int) (cos : List CoR) : Nat := cos.countP fun c => c.st == st

set_option maxRecDepth 100000 in
set_option maxHeartbeats 1000000 in
theorem count_at (w : World) (sb qb sc n cap : Nat) (A : Option Addr) (cl : Bool) (cos : List CoR) (st : Int) (h : SchAt w sb qb sc (.slice A n cap) cl) (hr : QRow w (.slice A n cap) (cos.map fun c => ptr c.b)) (hc : ∀ (i : Nat) c, cos[i]? = some c → CoAt w sb i c) (hn : (n : Int) < 1000000) :
    Calls Try.prog 47 #[.pointer (some ⟨sb, 0, none⟩), .int .i64 st] w fun e w' => e = .returned (.int .i64 (cntOf st cos : Nat)) ∧ ∃ q, w' = w.drewN q := by
  have c0 := cellsAt_cell h 0 (.slice A n cap) rfl
  have hrd := hr.rd
  have hlen : cos.length = n := by have := hrd.len; simpa using this
  have HL := Lib.hid hlen
  clear h hr hlen
  go_enter Try.func47, Try.ntmps47
  go_wp2_with fail
  go_loopw [5, 15] (fun m i wr => ∃ k : Nat, k ≤ n ∧ i = .int .i64 k ∧ m = .int .i64 (cntOf st (cos.take k) : Nat) ∧ ∃ q, wr = w.drewN q) (fun _ i _ => n - (intOf i).toNat)
  case atStart => exact ⟨0, Nat.zero_le _, rfl, rfl, 0, rfl⟩
  case round =>
    obtain ⟨k, hk, rfl, rfl, q, rfl⟩ := hrel
    by_cases hlt : k < n
    · obtain ⟨c, hck⟩ : ∃ c, cos[k]? = some c := ⟨_, List.getElem?_eq_getElem (by rw [HL.out]; exact hlt)⟩
      obtain ⟨ad, hA, hb, hcell'⟩ := hrd.at' k (ptr c.b) (by rw [List.getElem?_map, hck]; rfl)
      have c5 := cellsAt_cell (hc k c hck) 5 (.int .i64 c.st) rfl
      have hkn : (k : Int) < (n : Int) := by omega
      have hcl : cntOf st (cos.take k) ≤ k := Nat.le_trans List.countP_le_length (by rw [List.length_take]; omega)
      have htk : cntOf st (cos.take (k + 1)) = cntOf st (cos.take k) + if c.st == st then 1 else 0 := by
        unfold cntOf
        rw [List.take_add_one, hck, List.countP_append]
        simp
      subst hA
      generalize cntOf st (cos.take k) = m at *
      have hcell : w.cell? (ad.add k) = some (.pointer (some ⟨c.b, 0, none⟩)) := hcell'
      clear hcell'
      generalize c.b = cb at *
      generalize c.st = s at *
      have HT := Lib.hid htk
      have HM := Lib.hid (show m + 1 < 1000000 by omega)
      clear hc hck hrd c0 HL htk hcl hb
      iterate 53 (first | go_skip | go_guarded | go_step | go_upon | go_simp)
      generalize hst : (s == st) = t
      cases t
      · go_wp2
        go_roundw
        case rel => exact ⟨k + 1, by omega, by go_num, by have := HT.out; rw [hst] at this; rw [this]; rfl, _, rfl⟩
        case measure => simp [intOf]; omega
      · go_wp2
        go_roundw
        case rel => exact ⟨k + 1, by omega, by go_num, by have := HT.out; rw [hst, if_pos rfl] at this; rw [this]; have hm := HM.out; exact congrArg (Value.int .i64) (show wrap64 ((m : Int) + 1) = ((m + 1 : Nat) : Int) by unfold wrap64; omega), _, rfl⟩
        case measure => simp [intOf]; omega
    · go_wp2
      go_ret
      have e : cos.take k = cos := List.take_of_length_le (by rw [HL.out]; omega)
      rw [e]
      exact ⟨rfl, q, rfl⟩
theorem count_u {u : World} {own : Nat → Nat} {S : Sch} (si : SI own S u) (st : Int) (hn : S.cos.length < 1000000) (A : Nat → Question → Nat) (d : Nat) : Calls Try.prog 47 #[ptr S.sb, .int .i64 st] (tp u A d) fun e w' => e = .returned (.int .i64 (cntOf st S.cos : Nat)) ∧ ∃ A d, w' = tp u A d := by
  have hsch : SchAt u S.sb S.qb S.sc S.v S.closed := si.sch
  have hrow := si.row
  obtain ⟨A0, cap, hv, _, _⟩ := hrow.slice
  rw [hv] at hsch hrow
  refine (count_at (tp u A d) S.sb S.qb S.sc _ cap A0 S.closed S.cos st hsch (hrow.keep fun _ _ => rfl) (fun i c hi => si.co i c hi) (by simp; omega)).mono ?_
  rintro e w' ⟨h, q, rfl⟩
  exact ⟨h, A, d + q, rfl⟩
end Go.Proofs.Ytolnmdanlggmhaa

/- The coroutines of CoroFair: so many times append and Yield; then append. (Printed by gen_fair1.py.) -/
namespace Go.Proofs.Ytolnmdanlggmhaa
open Go.RowKit Go.Maps Go.Conc
open Go.ConcN (upd upd_ne upd_same)

set_option maxRecDepth 100000
set_option maxHeartbeats 2000000

noncomputable abbrev bodyF1 : Code := Try.f45.body.getD .skip
/-- The slots, as far as the region has come. -/
def ofAct (c : Nat) (kb : Nat) (p4 : Value) (p5 : Value) (y : Int) (m : Int) (p9 : Value) (p10 : Value) (p11 : Value) (p12 : Value) (p13 : Value) (p14 : Value) (p15 : Value) (p16 : Value) (ob : Nat) (v : Value) (v2 : Value) (nb : Nat) (id : Int) (l : Array Bool) : Act := ⟨List.toArray ((ptr c) :: (ptr kb) :: (ptr ob) :: undef :: p4 :: p5 :: (.int .i64 y) :: (.int .i64 m) :: (.bool true) :: (cond (l.getD 0 false) (v) (p9)) :: (cond (l.getD 1 false) (ptr c) (p10)) :: (cond (l.getD 2 false) (.int .i64 id) (p11)) :: (cond (l.getD 3 false) (.slice (some ⟨nb, 0, none⟩) 1 1) (p12)) :: (cond (l.getD 4 false) (v2) (p13)) :: p14 :: p15 :: p16 :: undef :: undef :: undef :: undef :: undef :: []), []⟩
def ofSt (main : Bool) (Z : Addr → Prop) (Stop : Goroutine → World → Prop) (w₀ : World) (k : List Item) (cs : List Frame) (c : Nat) (kb : Nat) (p4 : Value) (p5 : Value) (y : Int) (m : Int) (p9 : Value) (p10 : Value) (p11 : Value) (p12 : Value) (p13 : Value) (p14 : Value) (p15 : Value) (p16 : Value) (ob : Nat) (v : Value) (v2 : Value) (nb : Nat) (id : Int) (f : Nat) (l : Array Bool) (w : World) : Prop :=
  ∀ A d, SchedU Try.prog main Z Stop w₀ (base 45) (opsOf (sel [0, 1, 4, 4, 1, 1, 0, 4, 0] bodyF1)) k cs f l (ofAct c kb p4 p5 y m p9 p10 p11 p12 p13 p14 p15 p16 ob v v2 nb id l) (tp w A d)
/-- CoroFair: the append in the loop. -/
theorem of_own {main : Bool} {Z : Addr → Prop} {Stop : Goroutine → World → Prop} {w₀ u : World} {k : List Item} {cs : List Frame} {c : Nat} {kb : Nat} {p4 : Value} {p5 : Value} {y : Int} {m : Int} {p9 : Value} {p10 : Value} {p11 : Value} {p12 : Value} {p13 : Value} {p14 : Value} {p15 : Value} {p16 : Value} {ob : Nat} {id : Int} {own : Nat → Nat} {xs : List Value} (h : OrdAt own ob xs u) (hlt : ∀ b, own b ≠ 0 → b < u.heap.size) (hlen : xs.length < 1000000)
    (hid : ∀ A d, Calls Try.prog 46 #[ptr c] (tp u A d) fun e w' => e = .returned (.int .i64 id) ∧ ∃ A d, w' = tp u A d)
    (hk : ∀ v v2 nb own' u', OrdAt own' ob (xs ++ [.int .i64 id]) u' → Stp (fun t => t = 6 ∨ t = 7) own own' u u' → OwnU Try.prog main Z Stop w₀ (G ((base 45).at (ofAct c kb p4 p5 y m p9 p10 p11 p12 p13 p14 p15 p16 ob v v2 nb id #[true, true, true, true, true, true]) k) cs) u') :
    OwnU Try.prog main Z Stop w₀ (G ((base 45).at ⟨#[ptr c, ptr kb, ptr ob, undef, p4, p5, .int .i64 y, .int .i64 m, .bool true, p9, p10, p11, p12, p13, p14, p15, p16, undef, undef, undef, undef, undef], []⟩ (.code (sel [0, 1, 4, 4, 1, 1, 0, 4, 0] bodyF1) :: k)) cs) u := by
  have hh := h
  obtain ⟨⟨v, hbox, hrow, h7⟩, hob6⟩ := hh
  have hob : u.cell? ⟨ob, 0, none⟩ = some v := blk_cell hbox 0 _ rfl
  have hnew : New u (u.alloc (.cells #[.int .i64 id] 3)) := New.alloc u _
  have hob1 := hnew.cell hob
  obtain ⟨i0, hi, hz0, hz1, hz2⟩ := info_parts infoInt
  have hrow1 : QRow (u.alloc (.cells #[.int .i64 id] 3)) v xs := hrow.keep fun g hg => hnew.block g (hrow.lt g hg)
  have hcell : (u.alloc (.cells #[.int .i64 id] 3)).cell? ⟨u.heap.size, 0, none⟩ = some (.int .i64 id) := blk_cell (alloc_new' u _ rfl) 0 _ rfl
  obtain ⟨A0, n0, rfl, _, _⟩ := hrow.slice
  generalize hv : (Value.slice A0 xs.length n0) = v at *
  have hlast : ofSt main Z Stop w₀ k cs c kb p4 p5 y m p9 p10 p11 p12 p13 p14 p15 p16 ob v undef u.heap.size id 2 #[true, true, true, true, false, false] (u.alloc (.cells #[.int .i64 id] 3)) := by
    intro A d t
    rw [go_one (i := 4) (by kernel_rfl), go_one (i := 5) (by kernel_rfl)]
    refine ownU_append (j := 4) (xs := xs) (v := v) (c := 1) (ad := ⟨u.heap.size, 0, none⟩) (y := .int .i64 id) rfl rfl (by rfl) rfl (by decide) Try.underlying22 hi hz0 hz1 hz2 rfl (by kernel_rfl) (hrow1.keep fun _ _ => rfl) (by kernel_rfl) hcell rfl (by unfold maxLen; omega) (by omega) fun v2 u2 q1 q2 q3 q4 q5 q6 => ?_
    obtain ⟨own', r1, r2, r3, r4⟩ := ord_stp (v' := v2) (u1 := u.alloc (.cells #[.int .i64 id] 3)) (u2 := u2) hlt hob6 h7 hbox hnew q1 q2 q3 q4 q5 q6
    obtain ⟨A2, n2, hv2, _, _⟩ := q1.slice
    refine ownU_store (i := 5) ⟨ob, 0, none⟩ v2 rfl (by rfl) rfl (by decide) (fun w e1 e2 => store_op (by rw [hv2]; exact stores_ints _ _ _) rfl (by kernel_rfl) (by kernel_rfl) (e1.trans r3) (e2.trans r4)) ?_
    refine ownU_region_end ?_
    exact ownU_eq (by kernel_rfl) (hk v v2 u.heap.size own' _ r1 r2)
  have h_0_1_2 : ofSt main Z Stop w₀ k cs c kb p4 p5 y m p9 p10 p11 p12 p13 p14 p15 p16 ob v undef u.heap.size id 3 #[true, true, true, false, false, false] (u) := by
    intro A d
    refine schedU_succ (rs := [3]) (by kernel_rfl) (by decide) fun i hi t => ?_
    have hi' : i = 3 := by simpa using hi
    subst hi'
    refine ownU_newV (fun n => .slice (some ⟨n, 0, none⟩) 1 1) (.cells #[.int .i64 id] 3) (i := 3) rfl (by rfl) rfl (by decide) (fun _ => by kernel_rfl) ?_
    exact schedU_to (by kernel_rfl) (by kernel_rfl) (hlast _ _) t
  have h_1_2_3 : ofSt main Z Stop w₀ k cs c kb p4 p5 y m p9 p10 p11 p12 p13 p14 p15 p16 ob v undef u.heap.size id 3 #[false, true, true, true, false, false] (u.alloc (.cells #[.int .i64 id] 3)) := by
    intro A d
    refine schedU_succ (rs := [0]) (by kernel_rfl) (by decide) fun i hi t => ?_
    have hi' : i = 0 := by simpa using hi
    subst hi'
    refine ownU_load (i := 0) ⟨ob, 0, none⟩ (v) rfl (by rfl) (by decide) loads_ints rfl (by kernel_rfl) hob1 ?_
    exact schedU_to (by kernel_rfl) (by kernel_rfl) (hlast _ _) t
  have h_0_1 : ofSt main Z Stop w₀ k cs c kb p4 p5 y m p9 p10 p11 p12 p13 p14 p15 p16 ob v undef u.heap.size id 4 #[true, true, false, false, false, false] (u) := by
    intro A d
    refine schedU_succ (rs := [2]) (by kernel_rfl) (by decide) fun i hi t => ?_
    have hi' : i = 2 := by simpa using hi
    subst hi'
    refine ownU_callK (i := 2) (L := lone18) (R := fun e w' => e = .returned (.int .i64 id) ∧ ∃ A d, w' = tp u A d) okL18 (by decide) rfl rfl (by kernel_rfl) (by rfl) (by decide) (fun A d => calls_eq (by kernel_rfl) (hid A d)) (fun e w h => ⟨_, h.1⟩) fun z u' hR => ?_
    obtain ⟨e, A, d, rfl⟩ := hR
    injection e with e
    subst e
    exact schedU_to (by kernel_rfl) (by kernel_rfl) (h_0_1_2 _ _) t
  have h_1_2 : ofSt main Z Stop w₀ k cs c kb p4 p5 y m p9 p10 p11 p12 p13 p14 p15 p16 ob v undef u.heap.size id 4 #[false, true, true, false, false, false] (u) := by
    intro A d
    refine schedU_succ (rs := [0, 3]) (by kernel_rfl) (by decide) fun i hi t => ?_
    have hi' : i = 0 ∨ i = 3 := by simpa using hi
    rcases hi' with rfl | rfl
    · skip
      refine ownU_load (i := 0) ⟨ob, 0, none⟩ (v) rfl (by rfl) (by decide) loads_ints rfl (by kernel_rfl) hob ?_
      exact schedU_to (by kernel_rfl) (by kernel_rfl) (h_0_1_2 _ _) t
    · skip
      refine ownU_newV (fun n => .slice (some ⟨n, 0, none⟩) 1 1) (.cells #[.int .i64 id] 3) (i := 3) rfl (by rfl) rfl (by decide) (fun _ => by kernel_rfl) ?_
      exact schedU_to (by kernel_rfl) (by kernel_rfl) (h_1_2_3 _ _) t
  have h_0 : ofSt main Z Stop w₀ k cs c kb p4 p5 y m p9 p10 p11 p12 p13 p14 p15 p16 ob v undef u.heap.size id 5 #[true, false, false, false, false, false] (u) := by
    intro A d
    refine schedU_succ (rs := [1]) (by kernel_rfl) (by decide) fun i hi t => ?_
    have hi' : i = 1 := by simpa using hi
    subst hi'
    refine ownU_quiet (i := 1) (ptr c) rfl (by rfl) rfl (by decide) (fun _ => by kernel_rfl) ?_
    exact schedU_to (by kernel_rfl) (by kernel_rfl) (h_0_1 _ _) t
  have h_1 : ofSt main Z Stop w₀ k cs c kb p4 p5 y m p9 p10 p11 p12 p13 p14 p15 p16 ob v undef u.heap.size id 5 #[false, true, false, false, false, false] (u) := by
    intro A d
    refine schedU_succ (rs := [0, 2]) (by kernel_rfl) (by decide) fun i hi t => ?_
    have hi' : i = 0 ∨ i = 2 := by simpa using hi
    rcases hi' with rfl | rfl
    · skip
      refine ownU_load (i := 0) ⟨ob, 0, none⟩ (v) rfl (by rfl) (by decide) loads_ints rfl (by kernel_rfl) hob ?_
      exact schedU_to (by kernel_rfl) (by kernel_rfl) (h_0_1 _ _) t
    · skip
      refine ownU_callK (i := 2) (L := lone18) (R := fun e w' => e = .returned (.int .i64 id) ∧ ∃ A d, w' = tp u A d) okL18 (by decide) rfl rfl (by kernel_rfl) (by rfl) (by decide) (fun A d => calls_eq (by kernel_rfl) (hid A d)) (fun e w h => ⟨_, h.1⟩) fun z u' hR => ?_
      obtain ⟨e, A, d, rfl⟩ := hR
      injection e with e
      subst e
      exact schedU_to (by kernel_rfl) (by kernel_rfl) (h_1_2 _ _) t
  have h : ofSt main Z Stop w₀ k cs c kb p4 p5 y m p9 p10 p11 p12 p13 p14 p15 p16 ob v undef u.heap.size id 6 #[false, false, false, false, false, false] (u) := by
    intro A d
    refine schedU_succ (rs := [0, 1]) (by kernel_rfl) (by decide) fun i hi t => ?_
    have hi' : i = 0 ∨ i = 1 := by simpa using hi
    rcases hi' with rfl | rfl
    · skip
      refine ownU_load (i := 0) ⟨ob, 0, none⟩ (v) rfl (by rfl) (by decide) loads_ints rfl (by kernel_rfl) hob ?_
      exact schedU_to (by kernel_rfl) (by kernel_rfl) (h_0 _ _) t
    · skip
      refine ownU_quiet (i := 1) (ptr c) rfl (by rfl) rfl (by decide) (fun _ => by kernel_rfl) ?_
      exact schedU_to (by kernel_rfl) (by kernel_rfl) (h_1 _ _) t
  exact schedU_start (n := 6) (by kernel_rfl) rfl fun A d => by
    intro t
    exact schedU_to (act := ofAct c kb p4 p5 y m p9 p10 p11 p12 p13 p14 p15 p16 ob v undef u.heap.size id #[false, false, false, false, false, false]) (by kernel_rfl) rfl (h A d) t
/-- The slots, as far as the region has come. -/
def olAct (c : Nat) (kb : Nat) (p4 : Value) (p5 : Value) (y : Int) (m : Int) (p9 : Value) (p10 : Value) (p11 : Value) (p12 : Value) (p13 : Value) (p14 : Value) (p15 : Value) (p16 : Value) (ob : Nat) (v : Value) (v2 : Value) (nb : Nat) (id : Int) (l : Array Bool) : Act := ⟨List.toArray ((ptr c) :: (ptr kb) :: (ptr ob) :: undef :: p4 :: p5 :: (.int .i64 y) :: (.int .i64 m) :: (.bool false) :: p9 :: p10 :: p11 :: p12 :: p13 :: p14 :: p15 :: p16 :: (cond (l.getD 0 false) (v) (undef)) :: (cond (l.getD 1 false) (ptr c) (undef)) :: (cond (l.getD 2 false) (.int .i64 id) (undef)) :: (cond (l.getD 3 false) (.slice (some ⟨nb, 0, none⟩) 1 1) (undef)) :: (cond (l.getD 4 false) (v2) (undef)) :: []), []⟩
def olSt (main : Bool) (Z : Addr → Prop) (Stop : Goroutine → World → Prop) (w₀ : World) (k : List Item) (cs : List Frame) (c : Nat) (kb : Nat) (p4 : Value) (p5 : Value) (y : Int) (m : Int) (p9 : Value) (p10 : Value) (p11 : Value) (p12 : Value) (p13 : Value) (p14 : Value) (p15 : Value) (p16 : Value) (ob : Nat) (v : Value) (v2 : Value) (nb : Nat) (id : Int) (f : Nat) (l : Array Bool) (w : World) : Prop :=
  ∀ A d, SchedU Try.prog main Z Stop w₀ (base 45) (opsOf (sel [1] bodyF1)) k cs f l (olAct c kb p4 p5 y m p9 p10 p11 p12 p13 p14 p15 p16 ob v v2 nb id l) (tp w A d)
/-- CoroFair: the append behind the loop. -/
theorem ol_own {main : Bool} {Z : Addr → Prop} {Stop : Goroutine → World → Prop} {w₀ u : World} {k : List Item} {cs : List Frame} {c : Nat} {kb : Nat} {p4 : Value} {p5 : Value} {y : Int} {m : Int} {p9 : Value} {p10 : Value} {p11 : Value} {p12 : Value} {p13 : Value} {p14 : Value} {p15 : Value} {p16 : Value} {ob : Nat} {id : Int} {own : Nat → Nat} {xs : List Value} (h : OrdAt own ob xs u) (hlt : ∀ b, own b ≠ 0 → b < u.heap.size) (hlen : xs.length < 1000000)
    (hid : ∀ A d, Calls Try.prog 46 #[ptr c] (tp u A d) fun e w' => e = .returned (.int .i64 id) ∧ ∃ A d, w' = tp u A d)
    (hk : ∀ v v2 nb own' u', OrdAt own' ob (xs ++ [.int .i64 id]) u' → Stp (fun t => t = 6 ∨ t = 7) own own' u u' → OwnU Try.prog main Z Stop w₀ (G ((base 45).at (olAct c kb p4 p5 y m p9 p10 p11 p12 p13 p14 p15 p16 ob v v2 nb id #[true, true, true, true, true, true]) k) cs) u') :
    OwnU Try.prog main Z Stop w₀ (G ((base 45).at ⟨#[ptr c, ptr kb, ptr ob, undef, p4, p5, .int .i64 y, .int .i64 m, .bool false, p9, p10, p11, p12, p13, p14, p15, p16, undef, undef, undef, undef, undef], []⟩ (.code (sel [1] bodyF1) :: k)) cs) u := by
  have hh := h
  obtain ⟨⟨v, hbox, hrow, h7⟩, hob6⟩ := hh
  have hob : u.cell? ⟨ob, 0, none⟩ = some v := blk_cell hbox 0 _ rfl
  have hnew : New u (u.alloc (.cells #[.int .i64 id] 3)) := New.alloc u _
  have hob1 := hnew.cell hob
  obtain ⟨i0, hi, hz0, hz1, hz2⟩ := info_parts infoInt
  have hrow1 : QRow (u.alloc (.cells #[.int .i64 id] 3)) v xs := hrow.keep fun g hg => hnew.block g (hrow.lt g hg)
  have hcell : (u.alloc (.cells #[.int .i64 id] 3)).cell? ⟨u.heap.size, 0, none⟩ = some (.int .i64 id) := blk_cell (alloc_new' u _ rfl) 0 _ rfl
  obtain ⟨A0, n0, rfl, _, _⟩ := hrow.slice
  generalize hv : (Value.slice A0 xs.length n0) = v at *
  have hlast : olSt main Z Stop w₀ k cs c kb p4 p5 y m p9 p10 p11 p12 p13 p14 p15 p16 ob v undef u.heap.size id 2 #[true, true, true, true, false, false] (u.alloc (.cells #[.int .i64 id] 3)) := by
    intro A d t
    rw [go_one (i := 4) (by kernel_rfl), go_one (i := 5) (by kernel_rfl)]
    refine ownU_append (j := 4) (xs := xs) (v := v) (c := 1) (ad := ⟨u.heap.size, 0, none⟩) (y := .int .i64 id) rfl rfl (by rfl) rfl (by decide) Try.underlying22 hi hz0 hz1 hz2 rfl (by kernel_rfl) (hrow1.keep fun _ _ => rfl) (by kernel_rfl) hcell rfl (by unfold maxLen; omega) (by omega) fun v2 u2 q1 q2 q3 q4 q5 q6 => ?_
    obtain ⟨own', r1, r2, r3, r4⟩ := ord_stp (v' := v2) (u1 := u.alloc (.cells #[.int .i64 id] 3)) (u2 := u2) hlt hob6 h7 hbox hnew q1 q2 q3 q4 q5 q6
    obtain ⟨A2, n2, hv2, _, _⟩ := q1.slice
    refine ownU_store (i := 5) ⟨ob, 0, none⟩ v2 rfl (by rfl) rfl (by decide) (fun w e1 e2 => store_op (by rw [hv2]; exact stores_ints _ _ _) rfl (by kernel_rfl) (by kernel_rfl) (e1.trans r3) (e2.trans r4)) ?_
    refine ownU_region_end ?_
    exact ownU_eq (by kernel_rfl) (hk v v2 u.heap.size own' _ r1 r2)
  have h_0_1_2 : olSt main Z Stop w₀ k cs c kb p4 p5 y m p9 p10 p11 p12 p13 p14 p15 p16 ob v undef u.heap.size id 3 #[true, true, true, false, false, false] (u) := by
    intro A d
    refine schedU_succ (rs := [3]) (by kernel_rfl) (by decide) fun i hi t => ?_
    have hi' : i = 3 := by simpa using hi
    subst hi'
    refine ownU_newV (fun n => .slice (some ⟨n, 0, none⟩) 1 1) (.cells #[.int .i64 id] 3) (i := 3) rfl (by rfl) rfl (by decide) (fun _ => by kernel_rfl) ?_
    exact schedU_to (by kernel_rfl) (by kernel_rfl) (hlast _ _) t
  have h_1_2_3 : olSt main Z Stop w₀ k cs c kb p4 p5 y m p9 p10 p11 p12 p13 p14 p15 p16 ob v undef u.heap.size id 3 #[false, true, true, true, false, false] (u.alloc (.cells #[.int .i64 id] 3)) := by
    intro A d
    refine schedU_succ (rs := [0]) (by kernel_rfl) (by decide) fun i hi t => ?_
    have hi' : i = 0 := by simpa using hi
    subst hi'
    refine ownU_load (i := 0) ⟨ob, 0, none⟩ (v) rfl (by rfl) (by decide) loads_ints rfl (by kernel_rfl) hob1 ?_
    exact schedU_to (by kernel_rfl) (by kernel_rfl) (hlast _ _) t
  have h_0_1 : olSt main Z Stop w₀ k cs c kb p4 p5 y m p9 p10 p11 p12 p13 p14 p15 p16 ob v undef u.heap.size id 4 #[true, true, false, false, false, false] (u) := by
    intro A d
    refine schedU_succ (rs := [2]) (by kernel_rfl) (by decide) fun i hi t => ?_
    have hi' : i = 2 := by simpa using hi
    subst hi'
    refine ownU_callK (i := 2) (L := lone18) (R := fun e w' => e = .returned (.int .i64 id) ∧ ∃ A d, w' = tp u A d) okL18 (by decide) rfl rfl (by kernel_rfl) (by rfl) (by decide) (fun A d => calls_eq (by kernel_rfl) (hid A d)) (fun e w h => ⟨_, h.1⟩) fun z u' hR => ?_
    obtain ⟨e, A, d, rfl⟩ := hR
    injection e with e
    subst e
    exact schedU_to (by kernel_rfl) (by kernel_rfl) (h_0_1_2 _ _) t
  have h_1_2 : olSt main Z Stop w₀ k cs c kb p4 p5 y m p9 p10 p11 p12 p13 p14 p15 p16 ob v undef u.heap.size id 4 #[false, true, true, false, false, false] (u) := by
    intro A d
    refine schedU_succ (rs := [0, 3]) (by kernel_rfl) (by decide) fun i hi t => ?_
    have hi' : i = 0 ∨ i = 3 := by simpa using hi
    rcases hi' with rfl | rfl
    · skip
      refine ownU_load (i := 0) ⟨ob, 0, none⟩ (v) rfl (by rfl) (by decide) loads_ints rfl (by kernel_rfl) hob ?_
      exact schedU_to (by kernel_rfl) (by kernel_rfl) (h_0_1_2 _ _) t
    · skip
      refine ownU_newV (fun n => .slice (some ⟨n, 0, none⟩) 1 1) (.cells #[.int .i64 id] 3) (i := 3) rfl (by rfl) rfl (by decide) (fun _ => by kernel_rfl) ?_
      exact schedU_to (by kernel_rfl) (by kernel_rfl) (h_1_2_3 _ _) t
  have h_0 : olSt main Z Stop w₀ k cs c kb p4 p5 y m p9 p10 p11 p12 p13 p14 p15 p16 ob v undef u.heap.size id 5 #[true, false, false, false, false, false] (u) := by
    intro A d
    refine schedU_succ (rs := [1]) (by kernel_rfl) (by decide) fun i hi t => ?_
    have hi' : i = 1 := by simpa using hi
    subst hi'
    refine ownU_quiet (i := 1) (ptr c) rfl (by rfl) rfl (by decide) (fun _ => by kernel_rfl) ?_
    exact schedU_to (by kernel_rfl) (by kernel_rfl) (h_0_1 _ _) t
  have h_1 : olSt main Z Stop w₀ k cs c kb p4 p5 y m p9 p10 p11 p12 p13 p14 p15 p16 ob v undef u.heap.size id 5 #[false, true, false, false, false, false] (u) := by
    intro A d
    refine schedU_succ (rs := [0, 2]) (by kernel_rfl) (by decide) fun i hi t => ?_
    have hi' : i = 0 ∨ i = 2 := by simpa using hi
    rcases hi' with rfl | rfl
    · skip
      refine ownU_load (i := 0) ⟨ob, 0, none⟩ (v) rfl (by rfl) (by decide) loads_ints rfl (by kernel_rfl) hob ?_
      exact schedU_to (by kernel_rfl) (by kernel_rfl) (h_0_1 _ _) t
    · skip
      refine ownU_callK (i := 2) (L := lone18) (R := fun e w' => e = .returned (.int .i64 id) ∧ ∃ A d, w' = tp u A d) okL18 (by decide) rfl rfl (by kernel_rfl) (by rfl) (by decide) (fun A d => calls_eq (by kernel_rfl) (hid A d)) (fun e w h => ⟨_, h.1⟩) fun z u' hR => ?_
      obtain ⟨e, A, d, rfl⟩ := hR
      injection e with e
      subst e
      exact schedU_to (by kernel_rfl) (by kernel_rfl) (h_1_2 _ _) t
  have h : olSt main Z Stop w₀ k cs c kb p4 p5 y m p9 p10 p11 p12 p13 p14 p15 p16 ob v undef u.heap.size id 6 #[false, false, false, false, false, false] (u) := by
    intro A d
    refine schedU_succ (rs := [0, 1]) (by kernel_rfl) (by decide) fun i hi t => ?_
    have hi' : i = 0 ∨ i = 1 := by simpa using hi
    rcases hi' with rfl | rfl
    · skip
      refine ownU_load (i := 0) ⟨ob, 0, none⟩ (v) rfl (by rfl) (by decide) loads_ints rfl (by kernel_rfl) hob ?_
      exact schedU_to (by kernel_rfl) (by kernel_rfl) (h_0 _ _) t
    · skip
      refine ownU_quiet (i := 1) (ptr c) rfl (by rfl) rfl (by decide) (fun _ => by kernel_rfl) ?_
      exact schedU_to (by kernel_rfl) (by kernel_rfl) (h_1 _ _) t
  exact schedU_start (n := 6) (by kernel_rfl) rfl fun A d => by
    intro t
    exact schedU_to (act := olAct c kb p4 p5 y m p9 p10 p11 p12 p13 p14 p15 p16 ob v undef u.heap.size id #[false, false, false, false, false, false]) (by kernel_rfl) rfl (h A d) t
/-- At the head of the loop: y yields in all, m of them made. -/
def fairTs (c kb ob : Nat) (y m : Int) (p4 p5 p8 p9 p10 p11 p12 p13 p14 p15 p16 : Value) : Array Value := #[ptr c, ptr kb, ptr ob, undef, p4, p5, .int .i64 y, .int .i64 m, p8, p9, p10, p11, p12, p13, p14, p15, p16, undef, undef, undef, undef, undef]
noncomputable def fairHead (c kb ob : Nat) (y m : Int) (p4 p5 p8 p9 p10 p11 p12 p13 p14 p15 p16 : Value) (cs : List Frame) : Goroutine := G ((base 45).at ⟨fairTs c kb ob y m p4 p5 p8 p9 p10 p11 p12 p13 p14 p15 p16, []⟩ (.code (sel [0, 1, 4, 4] bodyF1) :: [.inLoop (sel [0, 1, 4, 4] bodyF1), .inBlock 0, .code (sel [1] bodyF1)])) cs
/-- .. at its call of Yield. -/
noncomputable def fairAct (c kb ob : Nat) (y m : Int) (p4 p5 p9 p10 p11 p12 p13 p15 p16 : Value) : Act := ⟨#[ptr c, ptr kb, ptr ob, undef, p4, p5, .int .i64 y, .int .i64 m, .bool true, p9, p10, p11, p12, p13, ptr c, p15, p16, undef, undef, undef, undef, undef], []⟩
theorem conv_u8 {a : Act} {o : Oper} {x : Operand} {z : Int} (w : World) (ho : o.op = .convert 5 3 x) (hx : a.eval x = .int .u8 z) (hz : 0 ≤ z ∧ z < 256) : (execOp a.eval o).run Try.prog w = .ok (.value (.int .i64 z)) w := by
  have h1 := Try.underlying5
  have h2 := Try.underlying3
  have h3 : IntKind.i64.wrap z = z := wrap_id (by omega) (by omega)
  unfold execOp
  simp only [ho, hx]
  simp [go_sem, h1, h2, h3]
theorem rem_9 {a : Act} {o : Oper} {x : Operand} {z y : Int} (w : World) (ho : o.op = .binOp .rem 3 x (.const (.int .i64 9)) 3) (hx : a.eval x = .int .i64 z) (hz : 0 ≤ z ∧ z < 256) (hy : z % 9 = y) : (execOp a.eval o).run Try.prog w = .ok (.value (.int .i64 y)) w := by
  have h4 : z.tmod 9 = z % 9 := Int.tmod_eq_emod_of_nonneg hz.1
  have hc : a.eval (.const (.int .i64 9)) = .int .i64 9 := rfl
  unfold execOp
  simp only [ho, hx, hc]
  simp [go_sem, h4, hy]
theorem fair_enter {main : Bool} {Z : Addr → Prop} {Stop : Goroutine → World → Prop} {w₀ u : World} {c kb ob : Nat} {z y : Int} {cs : List Frame} (hkb : u.cell? ⟨kb, 0, none⟩ = some (.int .u8 z)) (hz : 0 ≤ z ∧ z < 256) (hy : z % 9 = y) (hk : ∀ p4 p5 p8 p9 p10 p11 p12 p13 p14 p15 p16 : Value, OwnU Try.prog main Z Stop w₀ (fairHead c kb ob y 0 p4 p5 p8 p9 p10 p11 p12 p13 p14 p15 p16 cs) u) :
    OwnU Try.prog main Z Stop w₀ (G ((base 45).at ⟨#[ptr c, ptr kb, ptr ob, undef, undef, undef, undef, undef, undef, undef, undef, undef, undef, undef, undef, undef, undef, undef, undef, undef, undef, undef], []⟩ [.code bodyF1]) cs) u := by
  refine ownU_seq (x := sel [0] bodyF1) (y := sel [1] bodyF1) ?_
  refine ownU_seq (x := sel [0, 0] bodyF1) (y := sel [0, 1] bodyF1) ?_
  refine ownU_region (id := 0) (ops := opsOf (sel [0, 0] bodyF1)) ?_
  refine ownU_load (i := 0) (rest := [1, 2, 3]) ⟨kb, 0, none⟩ (.int .u8 z) rfl (by rfl) (by decide) loads_u8 rfl (by kernel_rfl) hkb ?_
  refine ownU_quiet (i := 1) (rest := [2, 3]) (.int .i64 z) rfl (by rfl) rfl (by decide) (fun w => conv_u8 w rfl (by kernel_rfl) hz) ?_
  refine ownU_quiet (i := 2) (rest := [3]) (.int .i64 y) rfl (by rfl) rfl (by decide) (fun w => rem_9 w rfl (by kernel_rfl) hz hy) ?_
  refine ownU_quiet (i := 3) (rest := []) (.int .i64 0) rfl (by rfl) rfl (by decide) (fun _ => by kernel_rfl) ?_
  refine ownU_region_end ?_
  refine ownU_block (id := 0) (c := sel [0, 1, 4] bodyF1) ?_
  refine ownU_loop (c := sel [0, 1, 4, 4] bodyF1) ?_
  exact ownU_eq (by kernel_rfl) (hk (.int .u8 z) (.int .i64 z) undef undef undef undef undef undef undef undef undef)
theorem fair_yield {main : Bool} {Z : Addr → Prop} {Stop : Goroutine → World → Prop} {w₀ u : World} {c kb ob : Nat} {y m id : Int} {p4 p5 p8 p9 p10 p11 p12 p13 p14 p15 p16 : Value} {cs : List Frame} {own : Nat → Nat} {xs : List Value} (ho : OrdAt own ob xs u) (hlt : ∀ b, own b ≠ 0 → b < u.heap.size) (hlen : xs.length < 1000000) (hid : ∀ A d, Calls Try.prog 46 #[ptr c] (tp u A d) fun e w' => e = .returned (.int .i64 id) ∧ ∃ A d, w' = tp u A d) (hm : m < y)
    (hk : ∀ p4 p5 p9 p10 p11 p12 p13 p15 p16 own' u', OrdAt own' ob (xs ++ [.int .i64 id]) u' → Stp (fun t => t = 6 ∨ t = 7) own own' u u' → OwnU Try.prog main Z Stop w₀ (yieldIn c ((base 45).at (fairAct c kb ob y m p4 p5 p9 p10 p11 p12 p13 p15 p16) (.inRegion (opsOf (sel [0, 1, 4, 4, 1, 1, 0, 4, 1] bodyF1)) (1 :: []) :: [.inBlock 1, .code (sel [0, 1, 4, 4, 1, 1, 1] bodyF1), .inLoop (sel [0, 1, 4, 4] bodyF1), .inBlock 0, .code (sel [1] bodyF1)]) :: cs)) u') : OwnU Try.prog main Z Stop w₀ (fairHead c kb ob y m p4 p5 p8 p9 p10 p11 p12 p13 p14 p15 p16 cs) u := by
  refine ownU_seq (x := sel [0, 1, 4, 4, 0] bodyF1) (y := sel [0, 1, 4, 4, 1] bodyF1) ?_
  refine ownU_region (id := 1) (ops := opsOf (sel [0, 1, 4, 4, 0] bodyF1)) ?_
  refine ownU_quiet (i := 0) (rest := []) (.bool true) rfl (by rfl) rfl (by decide) (fun _ => lss_v (p := m) (q := y) rfl (by kernel_rfl) (by kernel_rfl) (by simp; omega)) ?_
  refine ownU_region_end ?_
  refine ownU_seq (x := sel [0, 1, 4, 4, 1, 0] bodyF1) (y := sel [0, 1, 4, 4, 1, 1] bodyF1) ?_
  refine ownU_cond (c := .tmp 8) (x := .skip) (y := .exit 0) (t := true) (by kernel_rfl) ?_
  refine ownU_skip ?_
  refine ownU_seq (x := sel [0, 1, 4, 4, 1, 1, 0] bodyF1) (y := sel [0, 1, 4, 4, 1, 1, 1] bodyF1) ?_
  refine ownU_block (id := 1) (c := sel [0, 1, 4, 4, 1, 1, 0, 4] bodyF1) ?_
  refine ownU_lit (#[ptr c, ptr kb, ptr ob, undef, p4, p5, .int .i64 y, .int .i64 m, .bool true, p9, p10, p11, p12, p13, p14, p15, p16, undef, undef, undef, undef, undef]) [] (by kernel_rfl) (by kernel_rfl) ?_
  refine ownU_seq (x := sel [0, 1, 4, 4, 1, 1, 0, 4, 0] bodyF1) (y := sel [0, 1, 4, 4, 1, 1, 0, 4, 1] bodyF1) ?_
  refine of_own (c := c) (id := id) ho hlt hlen hid fun v v2 nb2 own1 u1 ho1 st1 => ?_
  refine ownU_lit (#[ptr c, ptr kb, ptr ob, undef, p4, p5, .int .i64 y, .int .i64 m, .bool true, v, ptr c, .int .i64 id, .slice (some ⟨nb2, 0, none⟩) 1 1, v2, p14, p15, p16, undef, undef, undef, undef, undef]) [] (by kernel_rfl) (by kernel_rfl) ?_
  refine ownU_region (id := 3) (ops := opsOf (sel [0, 1, 4, 4, 1, 1, 0, 4, 1] bodyF1)) ?_
  refine ownU_quiet (i := 0) (rest := [1]) (ptr c) rfl (by rfl) rfl (by decide) (fun _ => by kernel_rfl) ?_
  refine ownU_enter (i := 1) (rest := []) (f := 41) rfl (by rfl) (by decide) rfl Try.func41 (by kernel_rfl) rfl ?_
  exact ownU_eq (by kernel_rfl) (hk p4 p5 v (ptr c) (.int .i64 id) (.slice (some ⟨nb2, 0, none⟩) 1 1) v2 p15 p16 own1 u1 ho1 st1)
theorem fair_last {main : Bool} {Z : Addr → Prop} {Stop : Goroutine → World → Prop} {w₀ u : World} {c kb ob nb ch : Nat} {fv : Value} {y m id : Int} {p4 p5 p8 p9 p10 p11 p12 p13 p14 p15 p16 : Value} {own : Nat → Nat} {xs : List Value} (ho : OrdAt own ob xs u) (hlt : ∀ b, own b ≠ 0 → b < u.heap.size) (hlen : xs.length < 1000000) (hid : ∀ A d, Calls Try.prog 46 #[ptr c] (tp u A d) fun e w' => e = .returned (.int .i64 id) ∧ ∃ A d, w' = tp u A d) (hm : y ≤ m)
    (hk : ∀ own' u', OrdAt own' ob (xs ++ [.int .i64 id]) u' → Stp (fun t => t = 6 ∨ t = 7) own own' u u' → OwnU Try.prog main Z Stop w₀ (runBack c nb ch fv) u') : OwnU Try.prog main Z Stop w₀ (fairHead c kb ob y m p4 p5 p8 p9 p10 p11 p12 p13 p14 p15 p16 [runFrame c nb ch fv, botR]) u := by
  refine ownU_seq (x := sel [0, 1, 4, 4, 0] bodyF1) (y := sel [0, 1, 4, 4, 1] bodyF1) ?_
  refine ownU_region (id := 1) (ops := opsOf (sel [0, 1, 4, 4, 0] bodyF1)) ?_
  refine ownU_quiet (i := 0) (rest := []) (.bool false) rfl (by rfl) rfl (by decide) (fun _ => lss_v (p := m) (q := y) rfl (by kernel_rfl) (by kernel_rfl) (by simp; omega)) ?_
  refine ownU_region_end ?_
  refine ownU_seq (x := sel [0, 1, 4, 4, 1, 0] bodyF1) (y := sel [0, 1, 4, 4, 1, 1] bodyF1) ?_
  refine ownU_cond (c := .tmp 8) (x := .skip) (y := .exit 0) (t := false) (by kernel_rfl) ?_
  refine ownU_exit (k' := [.code (sel [1] bodyF1)]) rfl ?_
  refine ownU_lit (#[ptr c, ptr kb, ptr ob, undef, p4, p5, .int .i64 y, .int .i64 m, .bool false, p9, p10, p11, p12, p13, p14, p15, p16, undef, undef, undef, undef, undef]) [] (by kernel_rfl) (by kernel_rfl) ?_
  refine ol_own (c := c) (id := id) ho hlt hlen hid fun v v2 nb2 own1 u1 ho1 st1 => ?_
  refine ownU_end ?_
  refine stop_own (fn := Try.f45) rfl (by rfl) Try.func45 rfl ?_
  exact hk own1 u1 ho1 st1
theorem fair_back {main : Bool} {Z : Addr → Prop} {Stop : Goroutine → World → Prop} {w₀ u : World} {c kb ob : Nat} {y m m' : Int} {p4 p5 p9 p10 p11 p12 p13 p15 p16 : Value} {cs : List Frame} (hm : IntKind.i64.wrap (m + 1) = m')
    (hk : ∀ p4 p5 p8 p9 p10 p11 p12 p13 p14 p15 p16 : Value, OwnU Try.prog main Z Stop w₀ (fairHead c kb ob y m' p4 p5 p8 p9 p10 p11 p12 p13 p14 p15 p16 cs) u) : OwnU Try.prog main Z Stop w₀ (G ((base 45).at ((fairAct c kb ob y m p4 p5 p9 p10 p11 p12 p13 p15 p16).put (((opsOf (sel [0, 1, 4, 4, 1, 1, 0, 4, 1] bodyF1))[1]?).bind (·.dst)) (.tuple #[])) (.inRegion (opsOf (sel [0, 1, 4, 4, 1, 1, 0, 4, 1] bodyF1)) [] :: [.inBlock 1, .code (sel [0, 1, 4, 4, 1, 1, 1] bodyF1), .inLoop (sel [0, 1, 4, 4] bodyF1), .inBlock 0, .code (sel [1] bodyF1)])) cs) u := by
  refine ownU_region_end ?_
  refine ownU_inBlock ?_
  refine ownU_region (id := 4) (ops := opsOf (sel [0, 1, 4, 4, 1, 1, 1] bodyF1)) ?_
  refine ownU_quiet (i := 0) (rest := [1]) (.int .i64 m') rfl (by rfl) rfl (by decide) (fun _ => by subst hm; kernel_rfl) ?_
  refine ownU_quiet (i := 1) (rest := []) (.int .i64 m') rfl (by rfl) rfl (by decide) (fun _ => by kernel_rfl) ?_
  refine ownU_region_end ?_
  refine ownU_inLoop ?_
  exact ownU_eq (by kernel_rfl) (hk p4 p5 (.bool true) p9 p10 p11 p12 p13 (ptr c) (.tuple #[]) (.int .i64 m'))
end Go.Proofs.Ytolnmdanlggmhaa

/- The coroutines of CoroFair, told by the crew: one turn of each. -/
namespace Go.Proofs.Ytolnmdanlggmhaa
open Go.RowKit Go.Maps Go.Conc
open Go.ConcN (upd upd_ne upd_same)

set_option maxRecDepth 100000
set_option maxHeartbeats 2000000

/-- The blocks of a law's own tags are as they were. -/
def Same8 (own : Nat → Nat) (w w' : World) : Prop := ∀ b, 8 ≤ own b → w'.heap[b]? = w.heap[b]?
theorem Same8.refl (own : Nat → Nat) (w : World) : Same8 own w w := fun _ _ => rfl
theorem Same6.s8 {own : Nat → Nat} {w w' : World} (h : Same6 own w w') : Same8 own w w' := fun b hb => h b (by omega)
theorem Same8.trans {own own' : Nat → Nat} {a b c : World} (h : Same8 own a b) (k : Same8 own' b c) (le : OLe own own') : Same8 own a c := fun x hx => by
  rw [k x (by rw [le x (by omega)]; exact hx), h x hx]
theorem same8_step {T : Nat → Prop} {own own' : Nat → Nat} {S S' : Sch} {FC : List Row} {u w w1 : World} (a : Agr own' FC u w1) (f' : FI own' S' FC) (st : Stp T own own' (guardW FC w) u) (hT : ∀ t, T t → t < 8) (lw : LW own w) (f : FI own S FC) : Same8 own w w1 := fun b hb => by
  have hb0 : own b ≠ 0 := by omega
  have e : own' b = own b := st.le b hb0
  rw [a.eq b (by omega) (f'.ne (by omega) (by omega) (by omega)), st.block b (by simpa [guardW] using (lw b hb0).1) (fun ht => by have := hT _ ht; omega), (agr_guard f.wf lw).eq b hb0 (f.ne (by omega) (by omega) (by omega))]

/-- The variable k of a coroutine. -/
def KbAt (own : Nat → Nat) (kb : Nat) (z : Int) (w : World) : Prop := own kb = 8 ∧ w.heap[kb]? = some (.cells #[.int .u8 z] 5 (0, 0))
theorem KbAt.keep {own own' : Nat → Nat} {kb : Nat} {z : Int} {w w' : World} (h : KbAt own kb z w) (le : OLe own own') (s : Same8 own w w') : KbAt own' kb z w' := ⟨le.tag h.1 (by omega), (s kb (by rw [h.1]; omega)).trans h.2⟩

def fvF1 (kb ob : Nat) : Value := .func (.func 45) #[] #[ptr kb, ptr ob]
noncomputable abbrev opsF1 : Array Oper := opsOf (sel [0, 1, 4, 4, 1, 1, 0, 4, 1] bodyF1)
noncomputable abbrev restF1 : List Item := [.inBlock 1, .code (sel [0, 1, 4, 4, 1, 1, 1] bodyF1), .inLoop (sel [0, 1, 4, 4] bodyF1), .inBlock 0, .code (sel [1] bodyF1)]
/-- What is known of one that waits. -/
def FWaits (c : CoR) (sb nb kb ob : Nat) (y m : Int) (g : Goroutine) : Prop := ∃ p4 p5 p9 p10 p11 p12 p13 p15 p16 : Value,
  Waiter c.b sb (base 45) (fairAct c.b kb ob y m p4 p5 p9 p10 p11 p12 p13 p15 p16) opsF1 1 [] restF1 [runFrame c.b nb c.ch c.f, botR] g

section
variable {Post : Value → World → Prop} {E : Env} {h : Nat} {own : Nat → Nat} {S : Sch} {ks : List Kid} {FC : List Row} {n : Nat} {Inb : Nat → Option Seat} {w : World} {i nb kb ob : Nat} {c : CoR} {k : Kid} {g0 : Goroutine} {xs : List Value} {y m z : Int}

theorem fair_step (C : CI E h own S ks FC n Inb w) (hi : S.cos[i]? = some c) (hk : ks[i]? = some k) (ht : k.tag = 2) (hbox : (⟨nb, 0, [ptr c.b]⟩ : Row) ∈ FC) (hcl : S.closed = false) (hid : ((i : Int) + 1) ∉ S.qs) (hq : S.fr + S.qs.length < 999999) (ho : OrdAt own ob xs w) (hlen : xs.length < 1000000)
    (hI0 : Inb 0 = some (Seat.one S.sc (.agg #[]) false (· = g0)))
    (nextY : m < y → ∀ own' g Inb' w', FWaits c S.sb nb kb ob y m g → CI E 0 own' { S with qs := S.qs ++ [(i : Int) + 1] } (ks.set i ⟨1, h, g⟩) FC n Inb' w' → Inb' 0 = Inb 0 → OrdAt own' ob (xs ++ [.int .i64 ((i : Int) + 1)]) w' → OLe own own' → Same8 own w w' → Won Try.prog Post FC n Inb' 0 (Conc.served g0 (.agg #[])) w')
    (nextD : y ≤ m → ∀ own' Inb' w', CI E 0 own' { S with cos := S.cos.set i { c with st := 3 } } (ks.set i ⟨3, h, default⟩) FC n Inb' w' → Inb' 0 = Inb 0 → OrdAt own' ob (xs ++ [.int .i64 ((i : Int) + 1)]) w' → OLe own own' → Same8 own w w' → Won Try.prog Post FC n Inb' 0 (Conc.served g0 (.agg #[])) w')
    (p4 p5 p8 p9 p10 p11 p12 p13 p14 p15 p16 : Value) : OwnU Try.prog (h == 0) (ZF FC) (fun g' w' => Won Try.prog Post FC n Inb h g' w') w (fairHead c.b kb ob y m p4 p5 p8 p9 p10 p11 p12 p13 p14 p15 p16 [runFrame c.b nb c.ch c.f, botR]) (guardW FC w) := by
  have sG := C.siG
  have hoG : OrdAt own ob xs (guardW FC w) := ho.keep (OLe.refl _) fun b hb => C.agr.eq b (by omega) (C.fi.ne (by omega) (by omega) (by omega))
  by_cases hm : m < y
  · refine fair_yield (c := c.b) (id := (i : Int) + 1) hoG C.ltG hlen (id_u (sG.co i c hi)) hm fun p4 p5 p9 p10 p11 p12 p13 p15 p16 own1 u1 ho1 st1 => ownU_stop fun w1 hs hkp => ?_
    have fi1 : FI own1 S FC := C.fi.stp st1 fun r hr => by simpa [guardW] using C.rows r hr
    have si1 := sG.stp st1 (fun t h => by omega)
    obtain ⟨a, C1⟩ := C.step hs hkp st1 (by omega) si1 fi1 rfl rfl (fun i c h => ⟨c, h, rfl, rfl⟩)
    have ho2 : OrdAt own1 ob (xs ++ [.int .i64 ((i : Int) + 1)]) w1 := ho1.keep (OLe.refl _) fun b hb => a.eq b (by omega) (fi1.ne (by omega) (by omega) (by omega))
    have s1 : Same8 own w w1 := same8_step a fi1 st1 (fun t h => by omega) C.lw C.fi
    refine yield_won C1 hi hk ht hcl hid hq hI0 fun own' g Inb' w' hw C2 e le s2 => ?_
    exact nextY hm own' g Inb' w' ⟨p4, p5, p9, p10, p11, p12, p13, p15, p16, hw⟩ C2 e (ho2.same6 le s2) (st1.le.trans le) (s1.trans s2.s8 st1.le)
  · refine fair_last (c := c.b) (id := (i : Int) + 1) hoG C.ltG hlen (id_u (sG.co i c hi)) (by omega) fun own1 u1 ho1 st1 => ownU_stop fun w1 hs hkp => ?_
    have fi1 : FI own1 S FC := C.fi.stp st1 fun r hr => by simpa [guardW] using C.rows r hr
    have si1 := sG.stp st1 (fun t h => by omega)
    obtain ⟨a, C1⟩ := C.step hs hkp st1 (by omega) si1 fi1 rfl rfl (fun i c h => ⟨c, h, rfl, rfl⟩)
    have ho2 : OrdAt own1 ob (xs ++ [.int .i64 ((i : Int) + 1)]) w1 := ho1.keep (OLe.refl _) fun b hb => a.eq b (by omega) (fi1.ne (by omega) (by omega) (by omega))
    have s1 : Same8 own w w1 := same8_step a fi1 st1 (fun t h => by omega) C.lw C.fi
    exact done_won C1 hi hk ht hbox hI0 fun Inb' w' C2 e s2 => nextD (by omega) own1 Inb' w' C2 e (ho2.same6 (OLe.refl _) s2) st1.le (s1.trans s2.s8 st1.le)

theorem fair_first (C : CI E h own S ks FC n Inb w) (hi : S.cos[i]? = some c) (hk : ks[i]? = some k) (ht : k.tag = 2) (hbox : (⟨nb, 0, [ptr c.b]⟩ : Row) ∈ FC) (hf : c.f = fvF1 kb ob) (hkb : KbAt own kb z w) (hz : 0 ≤ z ∧ z < 256) (hy : z % 9 = y) (hcl : S.closed = false) (hid : ((i : Int) + 1) ∉ S.qs) (hq : S.fr + S.qs.length < 999999) (ho : OrdAt own ob xs w) (hlen : xs.length < 1000000)
    (hI0 : Inb 0 = some (Seat.one S.sc (.agg #[]) false (· = g0)))
    (nextY : 0 < y → ∀ own' g Inb' w', FWaits c S.sb nb kb ob y 0 g → CI E 0 own' { S with qs := S.qs ++ [(i : Int) + 1] } (ks.set i ⟨1, h, g⟩) FC n Inb' w' → Inb' 0 = Inb 0 → OrdAt own' ob (xs ++ [.int .i64 ((i : Int) + 1)]) w' → OLe own own' → Same8 own w w' → Won Try.prog Post FC n Inb' 0 (Conc.served g0 (.agg #[])) w')
    (nextD : y ≤ 0 → ∀ own' Inb' w', CI E 0 own' { S with cos := S.cos.set i { c with st := 3 } } (ks.set i ⟨3, h, default⟩) FC n Inb' w' → Inb' 0 = Inb 0 → OrdAt own' ob (xs ++ [.int .i64 ((i : Int) + 1)]) w' → OLe own own' → Same8 own w w' → Won Try.prog Post FC n Inb' 0 (Conc.served g0 (.agg #[])) w') :
    Won Try.prog Post FC n Inb h (Conc.served (runSeat c.b c.ch nb) (.agg #[])) w := by
  refine won_kf fun hK => ?_
  have sG := C.siG
  have hn : (guardW FC w).cell? ⟨nb, 0, none⟩ = some (ptr c.b) := by rw [guard_cell C.fi.wf hK]; exact kf_cell hK hbox
  have c2 : (guardW FC w).cell? ⟨c.b, 2, none⟩ = some (fvF1 kb ob) := by rw [← hf]; exact cellsAt_cell (sG.co i c hi) 2 c.f rfl
  have h8 : own kb = 8 := hkb.1
  have hkc : (guardW FC w).cell? ⟨kb, 0, none⟩ = some (.int .u8 z) := blk_cell ((C.agr.eq kb (by omega) (C.fi.ne (by omega) (by omega) (by omega))).symm ▸ hkb.2) 0 _ rfl
  refine win_own C.fi.wf (start_own (F := 45) (ca := #[ptr kb, ptr ob]) c2 hn Try.func45 (by kernel_rfl) rfl ?_)
  refine ownU_eq (g := G ((base 45).at ⟨#[ptr c.b, ptr kb, ptr ob, undef, undef, undef, undef, undef, undef, undef, undef, undef, undef, undef, undef, undef, undef, undef, undef, undef, undef, undef], []⟩ [.code bodyF1]) [runFrame c.b nb c.ch (fvF1 kb ob), botR]) (by kernel_rfl) ?_
  rw [← hf]
  exact fair_enter hkc hz hy (fair_step C hi hk ht hbox hcl hid hq ho hlen hI0 nextY nextD)

theorem fair_next {m' : Int} (C : CI E h own S ks FC n Inb w) (hi : S.cos[i]? = some c) (hk : ks[i]? = some k) (ht : k.tag = 2) (hw : FWaits c S.sb nb kb ob y m k.g) (hm : IntKind.i64.wrap (m + 1) = m') (hbox : (⟨nb, 0, [ptr c.b]⟩ : Row) ∈ FC) (hcl : S.closed = false) (hid : ((i : Int) + 1) ∉ S.qs) (hq : S.fr + S.qs.length < 999999) (ho : OrdAt own ob xs w) (hlen : xs.length < 1000000)
    (hI0 : Inb 0 = some (Seat.one S.sc (.agg #[]) false (· = g0)))
    (nextY : m' < y → ∀ own' g Inb' w', FWaits c S.sb nb kb ob y m' g → CI E 0 own' { S with qs := S.qs ++ [(i : Int) + 1] } (ks.set i ⟨1, h, g⟩) FC n Inb' w' → Inb' 0 = Inb 0 → OrdAt own' ob (xs ++ [.int .i64 ((i : Int) + 1)]) w' → OLe own own' → Same8 own w w' → Won Try.prog Post FC n Inb' 0 (Conc.served g0 (.agg #[])) w')
    (nextD : y ≤ m' → ∀ own' Inb' w', CI E 0 own' { S with cos := S.cos.set i { c with st := 3 } } (ks.set i ⟨3, h, default⟩) FC n Inb' w' → Inb' 0 = Inb 0 → OrdAt own' ob (xs ++ [.int .i64 ((i : Int) + 1)]) w' → OLe own own' → Same8 own w w' → Won Try.prog Post FC n Inb' 0 (Conc.served g0 (.agg #[])) w') :
    Won Try.prog Post FC n Inb h (Conc.served k.g (.agg #[])) w := by
  obtain ⟨p4, p5, p9, p10, p11, p12, p13, p15, p16, hw⟩ := hw
  have sG := C.siG
  have c0 := cellsAt_cell (sG.co i c hi) 0 (ptr S.sb) rfl
  have s3 := cellsAt_cell sG.sch 3 (.bool false) (by rw [← hcl]; rfl)
  refine win_own C.fi.wf (hw.back c0 s3 ?_)
  exact fair_back hm (fair_step C hi hk ht hbox hcl hid hq ho hlen hI0 nextY nextD)
end
end Go.Proofs.Ytolnmdanlggmhaa

/- Run, over CoroFair's coroutines: who runs when. -/
namespace Go.Proofs.Ytolnmdanlggmhaa
open Go.RowKit Go.Maps Go.Conc
open Go.ConcN (upd upd_ne upd_same)

set_option maxRecDepth 100000
set_option maxHeartbeats 2000000

/-- Who runs, turn by turn: each in the queue, with the yields that it has yet to do. -/
def fairOut : Nat → List (Nat × Nat) → List Nat
  | 0, _ => []
  | _ + 1, [] => []
  | N + 1, (i, 0) :: q => i :: fairOut N q
  | N + 1, (i, r + 1) :: q => i :: fairOut N (q ++ [(i, r)])
def fairMeas (q : List (Nat × Nat)) : Nat := (q.map fun p => p.2 + 1).sum
theorem fairMeas_cons (p : Nat × Nat) (q : List (Nat × Nat)) : fairMeas (p :: q) = p.2 + 1 + fairMeas q := by simp [fairMeas]
theorem fairMeas_snoc (p : Nat × Nat) (q : List (Nat × Nat)) : fairMeas (q ++ [p]) = fairMeas q + (p.2 + 1) := by simp [fairMeas]
theorem fairMeas_len (q : List (Nat × Nat)) : q.length ≤ fairMeas q := by
  induction q with
  | nil => simp [fairMeas]
  | cons p q ih => rw [fairMeas_cons]; simp; omega
def idv (i : Nat) : Value := .int .i64 ((i : Int) + 1)

/-- What is known of a coroutine that has r yields yet to do. -/
def FK (own : Nat → Nat) (sb ob : Nat) (FC : List Row) (w : World) (c : CoR) (k : Kid) (r : Nat) : Prop :=
  (k.tag = 0 ∧ ∃ kb z, c.f = fvF1 kb ob ∧ KbAt own kb z w ∧ (0 ≤ z ∧ z < 256) ∧ z % 9 = (r : Int)) ∨
  (k.tag = 1 ∧ ∃ nb kb y m, FWaits c sb nb kb ob y m k.g ∧ (⟨nb, 0, [ptr c.b]⟩ : Row) ∈ FC ∧ 0 ≤ m ∧ y = m + 1 + (r : Int) ∧ y < 9)
theorem FK.keep {own own' : Nat → Nat} {sb ob : Nat} {FC FC' : List Row} {w w' : World} {c : CoR} {k : Kid} {r : Nat} (h : FK own sb ob FC w c k r) (le : OLe own own') (s : Same8 own w w') (hF : ∀ r ∈ FC, r ∈ FC') : FK own' sb ob FC' w' c k r := by
  rcases h with ⟨h1, kb, z, h2, h3, h4⟩ | ⟨h1, nb, kb, y, m, h2, h3, h4⟩
  · exact .inl ⟨h1, kb, z, h2, h3.keep le s, h4⟩
  · exact .inr ⟨h1, nb, kb, y, m, h2, hF _ h3, h4⟩
structure FJ (own : Nat → Nat) (S : Sch) (ks : List Kid) (ob : Nat) (FC : List Row) (q : List (Nat × Nat)) (w : World) : Prop where
  qs : S.qs = q.map fun p => (p.1 : Int) + 1
  nd : (q.map (·.1)).Nodup
  act : ∀ p ∈ q, ∃ c k, S.cos[p.1]? = some c ∧ ks[p.1]? = some k ∧ FK own S.sb ob FC w c k p.2
  rest : ∀ i c k, S.cos[i]? = some c → ks[i]? = some k → i ∉ q.map (·.1) → c.st = 3 ∧ k.tag = 3

section
variable {own own' : Nat → Nat} {S S' : Sch} {ks ks' : List Kid} {ob : Nat} {FC FC' : List Row} {q : List (Nat × Nat)} {w w' : World} {i r r' : Nat} {c' : CoR} {k' : Kid}
theorem FJ.again (J : FJ own S ks ob FC ((i, r) :: q) w) (le : OLe own own') (s : Same8 own w w') (hF : ∀ r ∈ FC, r ∈ FC') (hsb : S'.sb = S.sb) (hc : ∀ j, j ≠ i → S'.cos[j]? = S.cos[j]?) (hci : S'.cos[i]? = some c') (hk : ∀ j, j ≠ i → ks'[j]? = ks[j]?) (hki : ks'[i]? = some k') (hq : S'.qs = (q.map fun p => (p.1 : Int) + 1) ++ [(i : Int) + 1])
    (hfk : FK own' S.sb ob FC' w' c' k' r') : FJ own' S' ks' ob FC' (q ++ [(i, r')]) w' := by
  have nd := J.nd
  rw [List.map_cons, List.nodup_cons] at nd
  refine ⟨by rw [hq]; simp, ?_, fun p hp => ?_, fun j c k h1 h2 hn => ?_⟩
  · rw [List.map_append, List.nodup_append]
    refine ⟨nd.2, by simp, fun a ha b hb => ?_⟩
    simp at hb
    subst hb
    exact fun e => nd.1 (e ▸ ha)
  · rw [List.mem_append] at hp
    rcases hp with hp | hp
    · have hne : p.1 ≠ i := fun e => nd.1 (List.mem_map.2 ⟨p, hp, e⟩)
      obtain ⟨c, k, h1, h2, h3⟩ := J.act p (List.mem_cons_of_mem _ hp)
      exact ⟨c, k, (hc _ hne).trans h1, (hk _ hne).trans h2, by rw [hsb]; exact h3.keep le s hF⟩
    · simp at hp
      subst hp
      exact ⟨c', k', hci, hki, by rw [hsb]; exact hfk⟩
  · have hn1 : j ∉ q.map (·.1) ∧ j ≠ i := by
      rw [List.map_append, List.mem_append] at hn
      exact ⟨fun h => hn (.inl h), fun e => hn (.inr (by simp [e]))⟩
    refine J.rest j c k ((hc _ hn1.2).symm.trans h1) ((hk _ hn1.2).symm.trans h2) fun h => ?_
    rw [List.map_cons, List.mem_cons] at h
    rcases h with h | h
    · exact hn1.2 h
    · exact hn1.1 h
theorem FJ.over (J : FJ own S ks ob FC ((i, r) :: q) w) (le : OLe own own') (s : Same8 own w w') (hF : ∀ r ∈ FC, r ∈ FC') (hsb : S'.sb = S.sb) (hc : ∀ j, j ≠ i → S'.cos[j]? = S.cos[j]?) (hci : S'.cos[i]? = some c') (hk : ∀ j, j ≠ i → ks'[j]? = ks[j]?) (hki : ks'[i]? = some k') (hq : S'.qs = q.map fun p => (p.1 : Int) + 1)
    (h3 : c'.st = 3) (h4 : k'.tag = 3) : FJ own' S' ks' ob FC' q w' := by
  have nd := J.nd
  rw [List.map_cons, List.nodup_cons] at nd
  refine ⟨hq, nd.2, fun p hp => ?_, fun j c k h1 h2 hn => ?_⟩
  · have hne : p.1 ≠ i := fun e => nd.1 (List.mem_map.2 ⟨p, hp, e⟩)
    obtain ⟨c, k, h1, h2, h3⟩ := J.act p (List.mem_cons_of_mem _ hp)
    exact ⟨c, k, (hc _ hne).trans h1, (hk _ hne).trans h2, by rw [hsb]; exact h3.keep le s hF⟩
  · by_cases e : j = i
    · subst e
      rw [hci] at h1; rw [hki] at h2
      cases h1; cases h2
      exact ⟨h3, h4⟩
    · refine J.rest j c k ((hc _ e).symm.trans h1) ((hk _ e).symm.trans h2) fun h => ?_
      rw [List.map_cons, List.mem_cons] at h
      rcases h with h | h
      · exact e h
      · exact hn h
end

section
variable {Post : Value → World → Prop} {E : Env} {ob : Nat} {cs : List Frame} {b₀ : Frame} {a₀ : Act} {ops : Array Oper} {j : Nat} {rest : List Nat} {k₀ : List Item}

theorem fair_laps : ∀ (N : Nat) {own : Nat → Nat} {S : Sch} {ks : List Kid} {FC : List Row} {n : Nat} {Inb : Nat → Option Seat} {w : World} {g : Goroutine} {m : Int} {xs : List Value} {q : List (Nat × Nat)},
    CI E 0 own S ks FC n Inb w → FJ own S ks ob FC q w → fairMeas q = N → S.closed = false → S.fr + (N + N) < 900000 → OrdAt own ob xs w → xs.length + N < 1000000 → 0 ≤ m → m + N < 1000000 → AtHead g S.sb m (b₀.at a₀ (.inRegion ops (j :: rest) :: k₀) :: cs) →
    (∀ own' S' ks' FC' n' Inb' w', CI E 0 own' S' ks' FC' n' Inb' w' → S'.sb = S.sb → S'.closed = false → S'.cos.length = S.cos.length → (∀ c ∈ S'.cos, c.st = 3) → (∀ k ∈ ks', k.tag = 3) → n ≤ n' → (∀ r ∈ FC, r ∈ FC') → OrdAt own' ob (xs ++ (fairOut N q).map idv) w' → OLe own own' → Same8 own w w' →
      Won Try.prog Post FC' n' Inb' 0 (G (b₀.at (a₀.put ((ops[j]?).bind (·.dst)) (.int .i64 (m + N))) (.inRegion ops rest :: k₀)) cs) w') → Won Try.prog Post FC n Inb 0 g w
  | 0, own, S, ks, FC, n, Inb, w, g, m, xs, q, C, J, hN, hcl, hfr, ho, hlen, hm0, hm1, hg, next => by
    have hq0 : q = [] := by
      have := fairMeas_len q
      exact List.eq_nil_of_length_eq_zero (by omega)
    subst hq0
    refine loop_end C hg (.inr J.qs) fun w1 C1 s1 => ?_
    have hall : ∀ (i : Nat) (c : CoR), S.cos[i]? = some c → ∃ k, ks[i]? = some k ∧ c.st = 3 ∧ k.tag = 3 := fun i c hi => by
      obtain ⟨k, hk, _⟩ := C.kidAt hi
      exact ⟨k, hk, J.rest i c k hi hk (by simp)⟩
    have e : m + ((0 : Nat) : Int) = m := by simp
    rw [e] at next
    refine next own S ks FC n Inb w1 C1 rfl hcl rfl (fun c hc => ?_) (fun k hk => ?_) (Nat.le_refl _) (fun _ h => h) (by simpa [fairOut] using ho.same6 (OLe.refl _) s1) (OLe.refl _) s1.s8
    · obtain ⟨i, hi⟩ := List.mem_iff_getElem?.1 hc
      obtain ⟨k, _, h3, _⟩ := hall i c hi
      exact h3
    · obtain ⟨i, hi⟩ := List.mem_iff_getElem?.1 hk
      obtain ⟨c, hc, _⟩ := C.coAt hi
      obtain ⟨k', hk', _, h4⟩ := hall i c hc
      rw [hi] at hk'; cases hk'
      exact h4
  | N + 1, own, S, ks, FC, n, Inb, w, g, m, xs, [], C, J, hN, hcl, hfr, ho, hlen, hm0, hm1, hg, next => by simp [fairMeas] at hN
  | N + 1, own, S, ks, FC, n, Inb, w, g, m, xs, (i, r) :: q, C, J, hN, hcl, hfr, ho, hlen, hm0, hm1, hg, next => by
    obtain ⟨c, k, hci, hki, hFK⟩ := J.act (i, r) (List.mem_cons_self ..)
    have hil : i < S.cos.length := (List.getElem?_eq_some_iff.1 hci).1
    have hkl : i < ks.length := (List.getElem?_eq_some_iff.1 hki).1
    have hqs : S.qs = ((i : Int) + 1) :: q.map fun p => (p.1 : Int) + 1 := J.qs
    have hid : ((i : Int) + 1) ∉ q.map fun p => (p.1 : Int) + 1 := by
      have nd := J.nd
      rw [List.map_cons, List.nodup_cons] at nd
      intro h
      obtain ⟨p, hp, e⟩ := List.mem_map.1 h
      have : p.1 = i := by omega
      exact nd.1 (List.mem_map.2 ⟨p, hp, this⟩)
    have hml : q.length ≤ N := by have := fairMeas_len q; rw [fairMeas_cons] at hN; simp at hN; omega
    rw [fairMeas_cons] at hN
    simp only at hN
    refine loop_turn (i := i) (c := c) (x := (i : Int) + 1) (xs := q.map fun p => (p.1 : Int) + 1) (m' := m + 1) C hg hcl hqs hci rfl (wrap_id (by omega) (by omega)) fun own1 Inb1 w1 g1 f1 hg1 hs1 C1 le1 s1 hI1 => ?_
    have em : m + 1 + (N : Int) = m + ((N + 1 : Nat) : Int) := by omega
    have ht01 : k.tag ≤ 1 := by rcases hFK with ⟨h, _⟩ | ⟨h, _⟩ <;> omega
    -- what follows, in each of the four cases
    have again : ∀ {own2 : Nat → Nat} {S2 : Sch} {ks2 : List Kid} {FC2 : List Row} {n2 : Nat} {Inb2 : Nat → Option Seat} {w2 : World} {q2 : List (Nat × Nat)}, CI E 0 own2 S2 ks2 FC2 n2 Inb2 w2 → FJ own2 S2 ks2 ob FC2 q2 w2 → fairMeas q2 = N → S2.closed = false → S2.fr = S.fr + 1 → S2.sb = S.sb → S2.cos.length = S.cos.length → n ≤ n2 → (∀ r ∈ FC, r ∈ FC2) → OrdAt own2 ob (xs ++ [idv i]) w2 → OLe own own2 → Same8 own w w2 →
        fairOut (N + 1) ((i, r) :: q) = i :: fairOut N q2 → Won Try.prog Post FC2 n2 Inb2 0 (Conc.served g1 (.agg #[])) w2 := by
      intro own2 S2 ks2 FC2 n2 Inb2 w2 q2 C2 J2 hN2 hcl2 hfr2 hsb2 hl2 hn2 hF2 ho2 le2 s2 hout
      refine fair_laps N (m := m + 1) C2 J2 hN2 hcl2 (by omega) ho2 (by simp; omega) (by omega) (by omega) (by rw [hsb2]; exact hg1) fun own' S' ks' FC' n' Inb' w' C' a1 a2 a3 a4 a5 a6 a7 a8 a9 a10 => ?_
      rw [em]
      refine next own' S' ks' FC' n' Inb' w' C' (a1.trans hsb2) a2 (a3.trans hl2) a4 a5 (by omega) (fun r hr => a7 r (hF2 r hr)) ?_ (le2.trans a9) (s2.trans a10 le2)
      rw [hout]
      simpa using a8
    refine turn_any (i := i) (c := c) (k := k) C1 hci hki ht01 hs1 hI1 (fun ht0 FC2 Inb2 nb w2 C2 e2 hb2 hsub2 s2 => ?_) (fun ht1 w2 C2 s2 => ?_)
    · obtain ⟨_, kb, z, hf, hkb, hz, hzr⟩ := hFK.resolve_right fun h => by have := h.1; omega
      have s12 : Same8 own w w2 := (s1.s8).trans s2.s8 le1
      rw [hI1] at e2
      refine fair_first (i := i) (c := { c with begun := true }) (k := ⟨2, n, default⟩) (y := (r : Int)) (kb := kb) (z := z) (nb := nb) C2 (by simp [hil]) (by simp [hkl]) rfl hb2 hf (hkb.keep le1 s12) hz hzr hcl hid (by simp; omega) ((ho.same6 le1 s1).same6 (OLe.refl _) s2) (by omega) e2 (fun hy own' kg Inb' w' hw C3 e3 ho3 le3 s3 => ?_) (fun hy own' Inb' w' C3 e3 ho3 le3 s3 => ?_)
      · obtain ⟨r', rfl⟩ : ∃ r', r = r' + 1 := ⟨r - 1, by omega⟩
        refine again (q2 := q ++ [(i, r')]) C3 (J.again (r' := r') (c' := { c with begun := true }) (k' := ⟨1, n, kg⟩) (le1.trans le3) (s12.trans s3 le1) hsub2 rfl (fun j hj => by simp [List.getElem?_set_ne (Ne.symm hj)]) (by simp [hil]) (fun j hj => by simp [List.getElem?_set_ne (Ne.symm hj)]) (by simp [hkl]) rfl (.inr ⟨rfl, nb, kb, _, 0, hw, hb2, by omega, by omega, by omega⟩)) (by rw [fairMeas_snoc]; simp; omega) hcl rfl rfl (by simp) (by omega) hsub2 ho3 (le1.trans le3) (s12.trans s3 le1) rfl
      · obtain rfl : r = 0 := by omega
        refine again (q2 := q) C3 (J.over (c' := { c with begun := true, st := 3 }) (k' := ⟨3, n, default⟩) (le1.trans le3) (s12.trans s3 le1) hsub2 rfl (fun j hj => by simp [List.getElem?_set_ne (Ne.symm hj)]) (by simp [hil]) (fun j hj => by simp [List.getElem?_set_ne (Ne.symm hj)]) (by simp [hkl]) rfl rfl rfl) (by omega) hcl rfl rfl (by simp) (by omega) hsub2 ho3 (le1.trans le3) (s12.trans s3 le1) rfl
    · rcases hFK with ⟨h0, _⟩ | ⟨_, nb, kb, y, m1, hw, hb2, hm2, hyr, hy9⟩
      · omega
      have s12 : Same8 own w w2 := (s1.s8).trans s2.s8 le1
      refine fair_next (i := i) (c := c) (k := ⟨2, k.j, k.g⟩) (y := y) (m := m1) (m' := m1 + 1) (kb := kb) (nb := nb) C2 hci (by simp [hkl]) rfl hw (wrap_id (by omega) (by omega)) hb2 hcl hid (by simp; omega) ((ho.same6 le1 s1).same6 (OLe.refl _) s2) (by omega) hI1 (fun hy own' kg Inb' w' hw C3 e3 ho3 le3 s3 => ?_) (fun hy own' Inb' w' C3 e3 ho3 le3 s3 => ?_)
      · obtain ⟨r', rfl⟩ : ∃ r', r = r' + 1 := ⟨r - 1, by omega⟩
        refine again (q2 := q ++ [(i, r')]) C3 (J.again (r' := r') (c' := c) (k' := ⟨1, k.j, kg⟩) (le1.trans le3) (s12.trans s3 le1) (fun _ h => h) rfl (fun j hj => rfl) hci (fun j hj => by simp [List.getElem?_set_ne (Ne.symm hj)]) (by simp [hkl]) rfl (.inr ⟨rfl, nb, kb, y, m1 + 1, hw, hb2, by omega, by omega, by omega⟩)) (by rw [fairMeas_snoc]; simp; omega) hcl rfl rfl rfl (by omega) (fun _ h => h) ho3 (le1.trans le3) (s12.trans s3 le1) rfl
      · obtain rfl : r = 0 := by omega
        refine again (q2 := q) C3 (J.over (c' := { c with st := 3 }) (k' := ⟨3, k.j, default⟩) (le1.trans le3) (s12.trans s3 le1) (fun _ h => h) rfl (fun j hj => by simp [List.getElem?_set_ne (Ne.symm hj)]) (by simp [hil]) (fun j hj => by simp [List.getElem?_set_ne (Ne.symm hj)]) (by simp [hkl]) rfl rfl rfl) (by omega) hcl rfl rfl (by simp) (by omega) (fun _ h => h) ho3 (le1.trans le3) (s12.trans s3 le1) rfl
end
end Go.Proofs.Ytolnmdanlggmhaa

/- CoroFair itself, in company: its pieces. (Printed by gen_fair2.py.) -/
namespace Go.Proofs.Ytolnmdanlggmhaa
open Go.RowKit Go.Maps Go.Conc
open Go.ConcN (upd upd_ne upd_same)

set_option maxRecDepth 100000
set_option maxHeartbeats 2000000

noncomputable abbrev bodyCf : Code := Try.f9.body.getD .skip
theorem idx_b {a : Act} {o : Oper} {x y : Operand} {A : Option Addr} {ad : Addr} {n cap i : Nat} (hA : A = some ad) (w : World) (ho : o.op = .indexAddr 32 x y) (hx : a.eval x = .slice A n cap) (hy : a.eval y = .int .i64 (i : Int)) (hi : i < n) : (execOp a.eval o).run Try.prog w = .ok (.value (.pointer (some (ad.add i)))) w := by
  subst hA
  have hs := Try.underlying32
  unfold execOp
  simp only [ho, hx, hy]
  simp [go_sem, hs, hi]
theorem gtr_v {a : Act} {o : Oper} {x y : Operand} {t t' : TypeId} {p q : Int} {r : Bool} {w : World} (ho : o.op = .binOp .gtr t x y t') (hx : a.eval x = .int .i64 p) (hy : a.eval y = .int .i64 q) (hr : decide (q < p) = r) : (execOp a.eval o).run Try.prog w = .ok (.value (.bool r)) w := by
  unfold execOp
  simp only [ho, hx, hy]
  simp [go_sem, ← hr]
theorem geq_v {a : Act} {o : Oper} {x y : Operand} {t t' : TypeId} {p q : Int} {r : Bool} {w : World} (ho : o.op = .binOp .geq t x y t') (hx : a.eval x = .int .i64 p) (hy : a.eval y = .int .i64 q) (hr : decide (q ≤ p) = r) : (execOp a.eval o).run Try.prog w = .ok (.value (.bool r)) w := by
  unfold execOp
  simp only [ho, hx, hy]
  simp [go_sem, ← hr]
theorem eql_v {a : Act} {o : Oper} {x y : Operand} {p q : Int} {w : World} (ho : o.op = .binOp .eql 3 x y 3) (hx : a.eval x = .int .i64 p) (hy : a.eval y = .int .i64 q) (hr : p = q) : (execOp a.eval o).run Try.prog w = .ok (.value (.bool true)) w := by
  subst hr
  unfold execOp
  simp only [ho, hx, hy]
  simp [go_sem]
theorem stores_u8 (z : Int) : Stores1 Try.prog 5 (.int .u8 z) := fun w ad v h1 h2 => by simp [go_sem, h1, h2]

noncomputable def fairIn (A : Option Addr) (n cap : Nat) : Goroutine := (G ((base 9).at ⟨List.toArray (.slice A n cap :: undef :: undef :: undef :: undef :: undef :: undef :: undef :: undef :: undef :: undef :: undef :: undef :: undef :: undef :: undef :: undef :: undef :: undef :: undef :: undef :: undef :: undef :: undef :: undef :: undef :: undef :: undef :: undef :: undef :: undef :: undef :: undef :: undef :: undef :: undef :: undef :: undef :: undef :: undef :: undef :: undef :: undef :: undef :: undef :: undef :: undef :: undef :: undef :: undef :: undef :: undef :: undef :: undef :: undef :: undef :: undef :: undef :: undef :: undef :: undef :: undef :: undef :: undef :: undef :: undef :: undef :: undef :: undef :: undef :: undef :: undef :: undef :: undef :: undef :: []), []⟩ [.code bodyCf]) [])
theorem fair_long {main : Bool} {Z : Addr → Prop} {Stop : Goroutine → World → Prop} {w₀ u : World} {A : Option Addr} {n cap : Nat} (hn : 20 < n) (hk : OwnU Try.prog main Z Stop w₀ (aliveIn (((base 9).at ⟨List.toArray (.slice A n cap :: undef :: .bool false :: undef :: undef :: undef :: undef :: undef :: undef :: undef :: undef :: undef :: .slice A n cap :: .int .i64 (n : Int) :: .bool true :: undef :: undef :: undef :: undef :: undef :: undef :: undef :: undef :: undef :: undef :: undef :: undef :: undef :: undef :: undef :: undef :: undef :: undef :: undef :: undef :: undef :: undef :: undef :: undef :: undef :: undef :: undef :: undef :: undef :: undef :: undef :: undef :: undef :: undef :: undef :: undef :: undef :: undef :: undef :: undef :: undef :: undef :: undef :: undef :: undef :: undef :: undef :: undef :: undef :: undef :: undef :: undef :: undef :: undef :: undef :: undef :: undef :: undef :: undef :: undef :: []), []⟩ (.inRegion (opsOf (sel [1, 0, 1, 2, 0] bodyCf)) (0 :: [1]) :: [.code .ret, .code (sel [1, 1] bodyCf)])) :: [])) u) : OwnU Try.prog main Z Stop w₀ (fairIn A n cap) u := by
  unfold fairIn
  refine ownU_seq (x := sel [0] bodyCf) (y := sel [1] bodyCf) ?_
  refine ownU_region (id := 0) (ops := opsOf (sel [0] bodyCf)) ?_
  refine ownU_quiet (i := 0) (rest := []) (.bool false) rfl (by rfl) rfl (by decide) (fun _ => by kernel_rfl) ?_
  refine ownU_region_end ?_
  refine ownU_seq (x := sel [1, 0] bodyCf) (y := sel [1, 1] bodyCf) ?_
  refine ownU_seq (x := sel [1, 0, 0] bodyCf) (y := sel [1, 0, 1] bodyCf) ?_
  refine ownU_region (id := 1) (ops := opsOf (sel [1, 0, 0] bodyCf)) ?_
  refine ownU_quiet (i := 0) (rest := [1, 2]) (.slice A n cap) rfl (by rfl) rfl (by decide) (fun _ => by kernel_rfl) ?_
  refine ownU_quiet (i := 1) (rest := [2]) (.int .i64 (n : Int)) rfl (by rfl) rfl (by decide) (fun _ => by kernel_rfl) ?_
  refine ownU_quiet (i := 2) (rest := []) (.bool true) rfl (by rfl) rfl (by decide) (fun _ => gtr_v (p := (n : Int)) (q := 20) rfl (by kernel_rfl) (by kernel_rfl) (by simp; omega)) ?_
  refine ownU_region_end ?_
  refine ownU_cond (c := .tmp 14) (x := sel [1, 0, 1, 2] bodyCf) (y := .skip) (t := true) (by kernel_rfl) ?_
  refine ownU_seq (x := sel [1, 0, 1, 2, 0] bodyCf) (y := .ret) ?_
  refine ownU_region (id := 2) (ops := opsOf (sel [1, 0, 1, 2, 0] bodyCf)) ?_
  refine ownU_lit (List.toArray (.slice A n cap :: undef :: .bool false :: undef :: undef :: undef :: undef :: undef :: undef :: undef :: undef :: undef :: .slice A n cap :: .int .i64 (n : Int) :: .bool true :: undef :: undef :: undef :: undef :: undef :: undef :: undef :: undef :: undef :: undef :: undef :: undef :: undef :: undef :: undef :: undef :: undef :: undef :: undef :: undef :: undef :: undef :: undef :: undef :: undef :: undef :: undef :: undef :: undef :: undef :: undef :: undef :: undef :: undef :: undef :: undef :: undef :: undef :: undef :: undef :: undef :: undef :: undef :: undef :: undef :: undef :: undef :: undef :: undef :: undef :: undef :: undef :: undef :: undef :: undef :: undef :: undef :: undef :: undef :: undef :: [])) [] (by kernel_rfl) (by kernel_rfl) ?_
  refine ownU_enter (i := 0) (rest := [1]) (f := 34) rfl (by rfl) (by decide) rfl Try.func34 (by kernel_rfl) rfl ?_
  exact ownU_eq (by kernel_rfl) hk
theorem fair_long2 {main : Bool} {Z : Addr → Prop} {Stop : Goroutine → World → Prop} {w₀ u : World} {A : Option Addr} {n cap : Nat} (hk : ∀ ts k, ts.getD 2 undef = .bool true → OwnU Try.prog main Z Stop w₀ (G { (base 9).at ⟨ts, []⟩ (.code .ret :: k) with mode := .returning } []) u) : OwnU Try.prog main Z Stop w₀ (G ((base 9).at ((⟨List.toArray (.slice A n cap :: undef :: .bool false :: undef :: undef :: undef :: undef :: undef :: undef :: undef :: undef :: undef :: .slice A n cap :: .int .i64 (n : Int) :: .bool true :: undef :: undef :: undef :: undef :: undef :: undef :: undef :: undef :: undef :: undef :: undef :: undef :: undef :: undef :: undef :: undef :: undef :: undef :: undef :: undef :: undef :: undef :: undef :: undef :: undef :: undef :: undef :: undef :: undef :: undef :: undef :: undef :: undef :: undef :: undef :: undef :: undef :: undef :: undef :: undef :: undef :: undef :: undef :: undef :: undef :: undef :: undef :: undef :: undef :: undef :: undef :: undef :: undef :: undef :: undef :: undef :: undef :: undef :: undef :: undef :: []), []⟩ : Act).put (((opsOf (sel [1, 0, 1, 2, 0] bodyCf))[0]?).bind (·.dst)) (.bool true)) (.inRegion (opsOf (sel [1, 0, 1, 2, 0] bodyCf)) [1] :: [.code .ret, .code (sel [1, 1] bodyCf)])) []) u := by
  refine ownU_quiet (i := 1) (rest := []) (.bool true) rfl (by rfl) rfl (by decide) (fun _ => by kernel_rfl) ?_
  refine ownU_region_end ?_
  refine ownU_lit (List.toArray (.slice A n cap :: undef :: .bool true :: undef :: undef :: undef :: undef :: undef :: undef :: undef :: undef :: undef :: .slice A n cap :: .int .i64 (n : Int) :: .bool true :: .bool true :: undef :: undef :: undef :: undef :: undef :: undef :: undef :: undef :: undef :: undef :: undef :: undef :: undef :: undef :: undef :: undef :: undef :: undef :: undef :: undef :: undef :: undef :: undef :: undef :: undef :: undef :: undef :: undef :: undef :: undef :: undef :: undef :: undef :: undef :: undef :: undef :: undef :: undef :: undef :: undef :: undef :: undef :: undef :: undef :: undef :: undef :: undef :: undef :: undef :: undef :: undef :: undef :: undef :: undef :: undef :: undef :: undef :: undef :: undef :: [])) [] (by kernel_rfl) (by kernel_rfl) ?_
  refine ownU_ret ?_
  exact hk _ _ rfl
theorem fair_a {main : Bool} {Z : Addr → Prop} {Stop : Goroutine → World → Prop} {w₀ u : World} {A : Option Addr} {n cap : Nat} (hn : n ≤ 20) (hk : OwnU Try.prog main Z Stop w₀ (newIn (((base 9).at ⟨List.toArray (.slice A n cap :: undef :: .bool false :: undef :: undef :: undef :: undef :: undef :: undef :: undef :: undef :: undef :: .slice A n cap :: .int .i64 (n : Int) :: .bool false :: undef :: undef :: undef :: undef :: undef :: undef :: undef :: undef :: undef :: undef :: undef :: undef :: undef :: undef :: undef :: undef :: undef :: undef :: undef :: undef :: undef :: undef :: undef :: undef :: undef :: undef :: undef :: undef :: undef :: undef :: undef :: undef :: undef :: undef :: undef :: undef :: undef :: undef :: undef :: undef :: undef :: undef :: undef :: undef :: undef :: undef :: undef :: undef :: undef :: undef :: undef :: undef :: undef :: undef :: undef :: undef :: undef :: undef :: undef :: undef :: []), []⟩ (.inRegion (opsOf (sel [1, 1, 0] bodyCf)) (0 :: [1]) :: [.code (sel [1, 1, 1] bodyCf)])) :: [])) u) : OwnU Try.prog main Z Stop w₀ (fairIn A n cap) u := by
  unfold fairIn
  refine ownU_seq (x := sel [0] bodyCf) (y := sel [1] bodyCf) ?_
  refine ownU_region (id := 0) (ops := opsOf (sel [0] bodyCf)) ?_
  refine ownU_quiet (i := 0) (rest := []) (.bool false) rfl (by rfl) rfl (by decide) (fun _ => by kernel_rfl) ?_
  refine ownU_region_end ?_
  refine ownU_seq (x := sel [1, 0] bodyCf) (y := sel [1, 1] bodyCf) ?_
  refine ownU_seq (x := sel [1, 0, 0] bodyCf) (y := sel [1, 0, 1] bodyCf) ?_
  refine ownU_region (id := 1) (ops := opsOf (sel [1, 0, 0] bodyCf)) ?_
  refine ownU_quiet (i := 0) (rest := [1, 2]) (.slice A n cap) rfl (by rfl) rfl (by decide) (fun _ => by kernel_rfl) ?_
  refine ownU_quiet (i := 1) (rest := [2]) (.int .i64 (n : Int)) rfl (by rfl) rfl (by decide) (fun _ => by kernel_rfl) ?_
  refine ownU_quiet (i := 2) (rest := []) (.bool false) rfl (by rfl) rfl (by decide) (fun _ => gtr_v (p := (n : Int)) (q := 20) rfl (by kernel_rfl) (by kernel_rfl) (by simp; omega)) ?_
  refine ownU_region_end ?_
  refine ownU_cond (c := .tmp 14) (x := sel [1, 0, 1, 2] bodyCf) (y := .skip) (t := false) (by kernel_rfl) ?_
  refine ownU_skip ?_
  refine ownU_seq (x := sel [1, 1, 0] bodyCf) (y := sel [1, 1, 1] bodyCf) ?_
  refine ownU_region (id := 3) (ops := opsOf (sel [1, 1, 0] bodyCf)) ?_
  refine ownU_lit (List.toArray (.slice A n cap :: undef :: .bool false :: undef :: undef :: undef :: undef :: undef :: undef :: undef :: undef :: undef :: .slice A n cap :: .int .i64 (n : Int) :: .bool false :: undef :: undef :: undef :: undef :: undef :: undef :: undef :: undef :: undef :: undef :: undef :: undef :: undef :: undef :: undef :: undef :: undef :: undef :: undef :: undef :: undef :: undef :: undef :: undef :: undef :: undef :: undef :: undef :: undef :: undef :: undef :: undef :: undef :: undef :: undef :: undef :: undef :: undef :: undef :: undef :: undef :: undef :: undef :: undef :: undef :: undef :: undef :: undef :: undef :: undef :: undef :: undef :: undef :: undef :: undef :: undef :: undef :: undef :: undef :: undef :: [])) [] (by kernel_rfl) (by kernel_rfl) ?_
  refine ownU_enter (i := 0) (rest := [1]) (f := 35) rfl (by rfl) (by decide) rfl Try.func35 (by kernel_rfl) rfl ?_
  exact ownU_eq (by kernel_rfl) hk
/-- At the head of the loop that spawns. -/
def cfTs (A : Option Addr) (n cap sb ob : Nat) (tot : Int) (idx : Nat) (p8 p21 p22 p23 p24 p25 p26 p27 p28 p29 p30 p31 p32 p33 : Value) : Array Value := List.toArray (.slice A n cap :: undef :: .bool false :: ptr sb :: ptr ob :: .slice none 0 0 :: .int .i64 tot :: undef :: p8 :: undef :: undef :: undef :: .slice A n cap :: .int .i64 (n : Int) :: .bool false :: undef :: ptr sb :: ptr sb :: .slice A n cap :: .int .i64 (n : Int) :: .int .i64 (idx : Int) :: p21 :: p22 :: p23 :: p24 :: p25 :: p26 :: p27 :: p28 :: p29 :: p30 :: p31 :: p32 :: p33 :: undef :: undef :: undef :: undef :: undef :: undef :: undef :: undef :: undef :: undef :: undef :: undef :: undef :: undef :: undef :: undef :: undef :: undef :: undef :: undef :: undef :: undef :: undef :: undef :: undef :: undef :: undef :: undef :: undef :: undef :: undef :: undef :: undef :: undef :: undef :: undef :: undef :: undef :: undef :: undef :: undef :: [])
noncomputable def cfHead (A : Option Addr) (n cap sb ob : Nat) (tot : Int) (idx : Nat) (p8 p21 p22 p23 p24 p25 p26 p27 p28 p29 p30 p31 p32 p33 : Value) : Goroutine := G ((base 9).at ⟨cfTs A n cap sb ob tot idx p8 p21 p22 p23 p24 p25 p26 p27 p28 p29 p30 p31 p32 p33, [clDefer sb]⟩ (.code (sel [1, 1, 1, 1, 1, 1, 0, 1, 4, 4] bodyCf) :: [.inLoop (sel [1, 1, 1, 1, 1, 1, 0, 1, 4, 4] bodyCf), .inBlock 0, .code (sel [1, 1, 1, 1, 1, 1, 1] bodyCf)])) []
def AtCf (g : Goroutine) (A : Option Addr) (n cap sb ob : Nat) (tot : Int) (idx : Nat) : Prop := ∀ {main : Bool} {Z : Addr → Prop} {Stop : Goroutine → World → Prop} {w₀ u : World}, (∀ p8 p21 p22 p23 p24 p25 p26 p27 p28 p29 p30 p31 p32 p33 : Value, OwnU Try.prog main Z Stop w₀ (cfHead A n cap sb ob tot idx p8 p21 p22 p23 p24 p25 p26 p27 p28 p29 p30 p31 p32 p33) u) → OwnU Try.prog main Z Stop w₀ g u
theorem fair_b {main : Bool} {Z : Addr → Prop} {Stop : Goroutine → World → Prop} {w₀ u : World} {A : Option Addr} {n cap : Nat} {sb : Nat} (hk : ∀ ob, u.heap.size = ob → ∀ p8 p21 p22 p23 p24 p25 p26 p27 p28 p29 p30 p31 p32 p33 : Value, OwnU Try.prog main Z Stop w₀ (cfHead A n cap sb ob 0 0 p8 p21 p22 p23 p24 p25 p26 p27 p28 p29 p30 p31 p32 p33) (u.alloc (.cells #[.slice none 0 0] 22))) : OwnU Try.prog main Z Stop w₀ (G ((base 9).at ((⟨List.toArray (.slice A n cap :: undef :: .bool false :: undef :: undef :: undef :: undef :: undef :: undef :: undef :: undef :: undef :: .slice A n cap :: .int .i64 (n : Int) :: .bool false :: undef :: undef :: undef :: undef :: undef :: undef :: undef :: undef :: undef :: undef :: undef :: undef :: undef :: undef :: undef :: undef :: undef :: undef :: undef :: undef :: undef :: undef :: undef :: undef :: undef :: undef :: undef :: undef :: undef :: undef :: undef :: undef :: undef :: undef :: undef :: undef :: undef :: undef :: undef :: undef :: undef :: undef :: undef :: undef :: undef :: undef :: undef :: undef :: undef :: undef :: undef :: undef :: undef :: undef :: undef :: undef :: undef :: undef :: undef :: undef :: []), []⟩ : Act).put (((opsOf (sel [1, 1, 0] bodyCf))[0]?).bind (·.dst)) (ptr sb)) (.inRegion (opsOf (sel [1, 1, 0] bodyCf)) [1] :: [.code (sel [1, 1, 1] bodyCf)])) []) u := by
  refine ownU_quiet (i := 1) (rest := []) (ptr sb) rfl (by rfl) rfl (by decide) (fun _ => by kernel_rfl) ?_
  refine ownU_region_end ?_
  refine ownU_seq (x := sel [1, 1, 1, 0] bodyCf) (y := sel [1, 1, 1, 1] bodyCf) ?_
  refine ownU_region (id := 4) (ops := opsOf (sel [1, 1, 1, 0] bodyCf)) ?_
  refine ownU_quiet (i := 0) (rest := [1]) (ptr sb) rfl (by rfl) rfl (by decide) (fun _ => by kernel_rfl) ?_
  refine ownU_defer (i := 1) (rest := []) (d := clDefer sb) rfl (by rfl) (by decide) (fun _ => by kernel_rfl) (fun _ => by kernel_rfl) ?_
  refine ownU_region_end ?_
  refine ownU_seq (x := sel [1, 1, 1, 1, 0] bodyCf) (y := sel [1, 1, 1, 1, 1] bodyCf) ?_
  refine ownU_region (id := 5) (ops := opsOf (sel [1, 1, 1, 1, 0] bodyCf)) ?_
  refine ownU_new (.cells #[.slice none 0 0] 22) (i := 0) (rest := [1]) rfl (by rfl) rfl (by decide) (fun _ => by kernel_rfl) ?_
  generalize hob : u.heap.size = ob at *
  refine ownU_quiet (i := 1) (rest := []) (.slice none 0 0) rfl (by rfl) rfl (by decide) (fun _ => by kernel_rfl) ?_
  refine ownU_region_end ?_
  refine ownU_lit (List.toArray (.slice A n cap :: undef :: .bool false :: ptr sb :: ptr ob :: .slice none 0 0 :: undef :: undef :: undef :: undef :: undef :: undef :: .slice A n cap :: .int .i64 (n : Int) :: .bool false :: undef :: ptr sb :: ptr sb :: undef :: undef :: undef :: undef :: undef :: undef :: undef :: undef :: undef :: undef :: undef :: undef :: undef :: undef :: undef :: undef :: undef :: undef :: undef :: undef :: undef :: undef :: undef :: undef :: undef :: undef :: undef :: undef :: undef :: undef :: undef :: undef :: undef :: undef :: undef :: undef :: undef :: undef :: undef :: undef :: undef :: undef :: undef :: undef :: undef :: undef :: undef :: undef :: undef :: undef :: undef :: undef :: undef :: undef :: undef :: undef :: undef :: [])) [clDefer sb] (by kernel_rfl) (by kernel_rfl) ?_
  refine ownU_seq (x := sel [1, 1, 1, 1, 1, 0] bodyCf) (y := sel [1, 1, 1, 1, 1, 1] bodyCf) ?_
  refine ownU_region (id := 6) (ops := opsOf (sel [1, 1, 1, 1, 1, 0] bodyCf)) ?_
  refine ownU_quiet (i := 0) (rest := []) (.int .i64 0) rfl (by rfl) rfl (by decide) (fun _ => by kernel_rfl) ?_
  refine ownU_region_end ?_
  refine ownU_seq (x := sel [1, 1, 1, 1, 1, 1, 0] bodyCf) (y := sel [1, 1, 1, 1, 1, 1, 1] bodyCf) ?_
  refine ownU_seq (x := sel [1, 1, 1, 1, 1, 1, 0, 0] bodyCf) (y := sel [1, 1, 1, 1, 1, 1, 0, 1] bodyCf) ?_
  refine ownU_region (id := 7) (ops := opsOf (sel [1, 1, 1, 1, 1, 1, 0, 0] bodyCf)) ?_
  refine ownU_quiet (i := 0) (rest := [1, 2]) (.slice A n cap) rfl (by rfl) rfl (by decide) (fun _ => by kernel_rfl) ?_
  refine ownU_quiet (i := 1) (rest := [2]) (.int .i64 (n : Int)) rfl (by rfl) rfl (by decide) (fun _ => by kernel_rfl) ?_
  refine ownU_quiet (i := 2) (rest := []) (.int .i64 0) rfl (by rfl) rfl (by decide) (fun _ => by kernel_rfl) ?_
  refine ownU_region_end ?_
  refine ownU_block (id := 0) (c := sel [1, 1, 1, 1, 1, 1, 0, 1, 4] bodyCf) ?_
  refine ownU_loop (c := sel [1, 1, 1, 1, 1, 1, 0, 1, 4, 4] bodyCf) ?_
  exact ownU_eq (by kernel_rfl) (hk ob rfl undef undef undef undef undef undef undef undef undef undef undef undef undef undef)
theorem frozen_new (u : World) (x : Array Value) {t : TypeId} : (u.alloc (.cells x t)).frozen? ⟨u.heap.size, 0, none⟩ = false := by
  unfold World.frozen?
  rw [show (u.alloc (.cells x t)).heap[(⟨u.heap.size, 0, none⟩ : Addr).block]? = some (.cells x t) from alloc_new' u _ rfl]
  simp
theorem kb_new (u : World) (z : Int) : ((u.alloc (.cells #[.int .u8 0] 5)).setCell ⟨u.heap.size, 0, none⟩ (.int .u8 z)).heap[u.heap.size]? = some (.cells #[.int .u8 z] 5 (0, 0)) := by
  rw [setCell_get, if_pos rfl, alloc_new' u _ rfl]
  rfl
noncomputable def cfAct (A : Option Addr) (n cap sb ob : Nat) (tot' : Int) (idx kb : Nat) (ad : Addr) (z y tot : Int) (p32 p33 : Value) : Act := ⟨List.toArray (.slice A n cap :: undef :: .bool false :: ptr sb :: ptr ob :: .slice none 0 0 :: .int .i64 tot' :: undef :: ptr kb :: undef :: undef :: undef :: .slice A n cap :: .int .i64 (n : Int) :: .bool false :: undef :: ptr sb :: ptr sb :: .slice A n cap :: .int .i64 (n : Int) :: .int .i64 (idx : Int) :: .bool true :: .pointer (some (ad.add idx)) :: .int .u8 z :: .int .i64 tot :: .int .u8 z :: .int .i64 z :: .int .i64 y :: .int .i64 (y + 1) :: .int .i64 tot' :: ptr sb :: fvF1 kb ob :: p32 :: p33 :: undef :: undef :: undef :: undef :: undef :: undef :: undef :: undef :: undef :: undef :: undef :: undef :: undef :: undef :: undef :: undef :: undef :: undef :: undef :: undef :: undef :: undef :: undef :: undef :: undef :: undef :: undef :: undef :: undef :: undef :: undef :: undef :: undef :: undef :: undef :: undef :: undef :: undef :: undef :: undef :: undef :: []), [clDefer sb]⟩
theorem fair_spawn {main : Bool} {Z : Addr → Prop} {Stop : Goroutine → World → Prop} {w₀ u : World} {A : Option Addr} {n cap : Nat} {sb ob idx : Nat} {tot tot' z y : Int} {ad : Addr} {p8 p21 p22 p23 p24 p25 p26 p27 p28 p29 p30 p31 p32 p33 : Value} (hA : A = some ad) (hidx : idx < n) (hc : u.cell? (ad.add idx) = some (.int .u8 z)) (hz : 0 ≤ z ∧ z < 256) (hy : z % 9 = y) (hy1 : IntKind.i64.wrap (y + 1) = y + 1) (ht : IntKind.i64.wrap (tot + (y + 1)) = tot')
    (hk : ∀ kb, u.heap.size = kb → ∀ p32 p33, OwnU Try.prog main Z Stop w₀ (spawnIn sb (fvF1 kb ob) (((base 9).at (cfAct A n cap sb ob tot' idx kb ad z y tot p32 p33) (.inRegion (opsOf (sel [1, 1, 1, 1, 1, 1, 0, 1, 4, 4, 1, 1, 0, 4, 1, 1] bodyCf)) (2 :: []) :: .inBlock 1 :: .code (sel [1, 1, 1, 1, 1, 1, 0, 1, 4, 4, 1, 1, 1] bodyCf) :: [.inLoop (sel [1, 1, 1, 1, 1, 1, 0, 1, 4, 4] bodyCf), .inBlock 0, .code (sel [1, 1, 1, 1, 1, 1, 1] bodyCf)])) :: [])) ((u.alloc (.cells #[.int .u8 0] 5)).setCell ⟨kb, 0, none⟩ (.int .u8 z))) : OwnU Try.prog main Z Stop w₀ (cfHead A n cap sb ob tot idx p8 p21 p22 p23 p24 p25 p26 p27 p28 p29 p30 p31 p32 p33) u := by
  refine ownU_seq (x := sel [1, 1, 1, 1, 1, 1, 0, 1, 4, 4, 0] bodyCf) (y := sel [1, 1, 1, 1, 1, 1, 0, 1, 4, 4, 1] bodyCf) ?_
  refine ownU_region (id := 8) (ops := opsOf (sel [1, 1, 1, 1, 1, 1, 0, 1, 4, 4, 0] bodyCf)) ?_
  refine ownU_quiet (i := 0) (rest := []) (.bool true) rfl (by rfl) rfl (by decide) (fun _ => lss_v (p := (idx : Int)) (q := (n : Int)) rfl (by kernel_rfl) (by kernel_rfl) (by simp; omega)) ?_
  refine ownU_region_end ?_
  refine ownU_seq (x := sel [1, 1, 1, 1, 1, 1, 0, 1, 4, 4, 1, 0] bodyCf) (y := sel [1, 1, 1, 1, 1, 1, 0, 1, 4, 4, 1, 1] bodyCf) ?_
  refine ownU_cond (c := .tmp 21) (x := .skip) (y := .exit 0) (t := true) (by kernel_rfl) ?_
  refine ownU_skip ?_
  refine ownU_seq (x := sel [1, 1, 1, 1, 1, 1, 0, 1, 4, 4, 1, 1, 0] bodyCf) (y := sel [1, 1, 1, 1, 1, 1, 0, 1, 4, 4, 1, 1, 1] bodyCf) ?_
  refine ownU_block (id := 1) (c := sel [1, 1, 1, 1, 1, 1, 0, 1, 4, 4, 1, 1, 0, 4] bodyCf) ?_
  refine ownU_seq (x := sel [1, 1, 1, 1, 1, 1, 0, 1, 4, 4, 1, 1, 0, 4, 0] bodyCf) (y := sel [1, 1, 1, 1, 1, 1, 0, 1, 4, 4, 1, 1, 0, 4, 1] bodyCf) ?_
  refine ownU_region (id := 9) (ops := opsOf (sel [1, 1, 1, 1, 1, 1, 0, 1, 4, 4, 1, 1, 0, 4, 0] bodyCf)) ?_
  refine ownU_quiet (i := 0) (rest := [1, 2, 3]) (.pointer (some (ad.add idx))) rfl (by rfl) rfl (by decide) (fun w => idx_b (cap := cap) hA w rfl (by kernel_rfl) (by kernel_rfl) hidx) ?_
  refine ownU_load (i := 1) (rest := [2, 3]) (ad.add idx) (.int .u8 z) rfl (by rfl) (by decide) loads_u8 rfl (by kernel_rfl) hc ?_
  refine ownU_new (.cells #[.int .u8 0] 5) (i := 2) (rest := [3]) rfl (by rfl) rfl (by decide) (fun _ => by kernel_rfl) ?_
  have hcell : (u.alloc (.cells #[.int .u8 0] 5)).cell? ⟨u.heap.size, 0, none⟩ = some (.int .u8 0) := blk_cell (alloc_new' u _ rfl) 0 _ rfl
  have hfree : (u.alloc (.cells #[.int .u8 0] 5)).frozen? ⟨u.heap.size, 0, none⟩ = false := frozen_new u _
  generalize hkb : u.heap.size = kb at *
  refine ownU_store (i := 3) (rest := []) ⟨kb, 0, none⟩ (.int .u8 z) rfl (by rfl) rfl (by decide) (fun w e1 e2 => store_op (stores_u8 z) rfl (by kernel_rfl) (by kernel_rfl) (e1.trans hcell) (e2.trans hfree)) ?_
  have hkc : ((u.alloc (.cells #[.int .u8 0] 5)).setCell ⟨kb, 0, none⟩ (.int .u8 z)).cell? ⟨kb, 0, none⟩ = some (.int .u8 z) := by rw [← hkb]; exact blk_cell (kb_new u z) 0 _ rfl
  replace hk := hk kb rfl
  generalize hu : (u.alloc (.cells #[.int .u8 0] 5)).setCell ⟨kb, 0, none⟩ (.int .u8 z) = u1 at *
  refine ownU_region_end ?_
  refine ownU_lit (List.toArray (.slice A n cap :: undef :: .bool false :: ptr sb :: ptr ob :: .slice none 0 0 :: .int .i64 tot :: undef :: ptr kb :: undef :: undef :: undef :: .slice A n cap :: .int .i64 (n : Int) :: .bool false :: undef :: ptr sb :: ptr sb :: .slice A n cap :: .int .i64 (n : Int) :: .int .i64 (idx : Int) :: .bool true :: .pointer (some (ad.add idx)) :: .int .u8 z :: p24 :: p25 :: p26 :: p27 :: p28 :: p29 :: p30 :: p31 :: p32 :: p33 :: undef :: undef :: undef :: undef :: undef :: undef :: undef :: undef :: undef :: undef :: undef :: undef :: undef :: undef :: undef :: undef :: undef :: undef :: undef :: undef :: undef :: undef :: undef :: undef :: undef :: undef :: undef :: undef :: undef :: undef :: undef :: undef :: undef :: undef :: undef :: undef :: undef :: undef :: undef :: undef :: undef :: [])) [clDefer sb] (by kernel_rfl) (by kernel_rfl) ?_
  refine ownU_seq (x := sel [1, 1, 1, 1, 1, 1, 0, 1, 4, 4, 1, 1, 0, 4, 1, 0] bodyCf) (y := sel [1, 1, 1, 1, 1, 1, 0, 1, 4, 4, 1, 1, 0, 4, 1, 1] bodyCf) ?_
  refine ownU_region (id := 10) (ops := opsOf (sel [1, 1, 1, 1, 1, 1, 0, 1, 4, 4, 1, 1, 0, 4, 1, 0] bodyCf)) ?_
  refine ownU_quiet (i := 0) (rest := [1, 2, 3, 4, 5, 6]) (.int .i64 tot) rfl (by rfl) rfl (by decide) (fun _ => by kernel_rfl) ?_
  refine ownU_load (i := 1) (rest := [2, 3, 4, 5, 6]) ⟨kb, 0, none⟩ (.int .u8 z) rfl (by rfl) (by decide) loads_u8 rfl (by kernel_rfl) hkc ?_
  refine ownU_quiet (i := 2) (rest := [3, 4, 5, 6]) (.int .i64 z) rfl (by rfl) rfl (by decide) (fun w => conv_u8 w rfl (by kernel_rfl) hz) ?_
  refine ownU_quiet (i := 3) (rest := [4, 5, 6]) (.int .i64 y) rfl (by rfl) rfl (by decide) (fun w => rem_9 w rfl (by kernel_rfl) hz hy) ?_
  refine ownU_quiet (i := 4) (rest := [5, 6]) (.int .i64 (y + 1)) rfl (by rfl) rfl (by decide) (fun _ => by rw [← hy1]; kernel_rfl) ?_
  refine ownU_quiet (i := 5) (rest := [6]) (.int .i64 tot') rfl (by rfl) rfl (by decide) (fun _ => by subst ht; kernel_rfl) ?_
  refine ownU_quiet (i := 6) (rest := []) (.int .i64 tot') rfl (by rfl) rfl (by decide) (fun _ => by kernel_rfl) ?_
  refine ownU_region_end ?_
  refine ownU_region (id := 11) (ops := opsOf (sel [1, 1, 1, 1, 1, 1, 0, 1, 4, 4, 1, 1, 0, 4, 1, 1] bodyCf)) ?_
  refine ownU_quiet (i := 0) (rest := [1, 2]) (ptr sb) rfl (by rfl) rfl (by decide) (fun _ => by kernel_rfl) ?_
  refine ownU_quiet (i := 1) (rest := [2]) (fvF1 kb ob) rfl (by rfl) rfl (by decide) (fun _ => by kernel_rfl) ?_
  refine ownU_lit (List.toArray (.slice A n cap :: undef :: .bool false :: ptr sb :: ptr ob :: .slice none 0 0 :: .int .i64 tot' :: undef :: ptr kb :: undef :: undef :: undef :: .slice A n cap :: .int .i64 (n : Int) :: .bool false :: undef :: ptr sb :: ptr sb :: .slice A n cap :: .int .i64 (n : Int) :: .int .i64 (idx : Int) :: .bool true :: .pointer (some (ad.add idx)) :: .int .u8 z :: .int .i64 tot :: .int .u8 z :: .int .i64 z :: .int .i64 y :: .int .i64 (y + 1) :: .int .i64 tot' :: ptr sb :: fvF1 kb ob :: p32 :: p33 :: undef :: undef :: undef :: undef :: undef :: undef :: undef :: undef :: undef :: undef :: undef :: undef :: undef :: undef :: undef :: undef :: undef :: undef :: undef :: undef :: undef :: undef :: undef :: undef :: undef :: undef :: undef :: undef :: undef :: undef :: undef :: undef :: undef :: undef :: undef :: undef :: undef :: undef :: undef :: undef :: undef :: [])) [clDefer sb] (by kernel_rfl) (by kernel_rfl) ?_
  refine ownU_enter (i := 2) (rest := []) (f := 37) rfl (by rfl) (by decide) rfl Try.func37 (by kernel_rfl) rfl ?_
  exact ownU_eq (by kernel_rfl) (hk p32 p33)
theorem fair_spawned {A : Option Addr} {n cap sb ob idx kb : Nat} {tot tot' z y : Int} {ad : Addr} {x p32 p33 : Value} (hi : IntKind.i64.wrap ((idx : Int) + 1) = ((idx + 1 : Nat) : Int)) : AtCf (G ((base 9).at ((cfAct A n cap sb ob tot' idx kb ad z y tot p32 p33).put (((opsOf (sel [1, 1, 1, 1, 1, 1, 0, 1, 4, 4, 1, 1, 0, 4, 1, 1] bodyCf))[2]?).bind (·.dst)) x) (.inRegion (opsOf (sel [1, 1, 1, 1, 1, 1, 0, 1, 4, 4, 1, 1, 0, 4, 1, 1] bodyCf)) [] :: .inBlock 1 :: .code (sel [1, 1, 1, 1, 1, 1, 0, 1, 4, 4, 1, 1, 1] bodyCf) :: [.inLoop (sel [1, 1, 1, 1, 1, 1, 0, 1, 4, 4] bodyCf), .inBlock 0, .code (sel [1, 1, 1, 1, 1, 1, 1] bodyCf)])) []) A n cap sb ob tot' (idx + 1) := by
  intro main Z Stop w₀ u hk
  refine ownU_region_end ?_
  refine ownU_inBlock ?_
  refine ownU_lit (List.toArray (.slice A n cap :: undef :: .bool false :: ptr sb :: ptr ob :: .slice none 0 0 :: .int .i64 tot' :: undef :: ptr kb :: undef :: undef :: undef :: .slice A n cap :: .int .i64 (n : Int) :: .bool false :: undef :: ptr sb :: ptr sb :: .slice A n cap :: .int .i64 (n : Int) :: .int .i64 (idx : Int) :: .bool true :: .pointer (some (ad.add idx)) :: .int .u8 z :: .int .i64 tot :: .int .u8 z :: .int .i64 z :: .int .i64 y :: .int .i64 (y + 1) :: .int .i64 tot' :: ptr sb :: fvF1 kb ob :: x :: p33 :: undef :: undef :: undef :: undef :: undef :: undef :: undef :: undef :: undef :: undef :: undef :: undef :: undef :: undef :: undef :: undef :: undef :: undef :: undef :: undef :: undef :: undef :: undef :: undef :: undef :: undef :: undef :: undef :: undef :: undef :: undef :: undef :: undef :: undef :: undef :: undef :: undef :: undef :: undef :: undef :: undef :: [])) [clDefer sb] (by kernel_rfl) (by kernel_rfl) ?_
  refine ownU_region (id := 12) (ops := opsOf (sel [1, 1, 1, 1, 1, 1, 0, 1, 4, 4, 1, 1, 1] bodyCf)) ?_
  refine ownU_quiet (i := 0) (rest := [1]) (.int .i64 ((idx + 1 : Nat) : Int)) rfl (by rfl) rfl (by decide) (fun _ => by rw [← hi]; kernel_rfl) ?_
  refine ownU_quiet (i := 1) (rest := []) (.int .i64 ((idx + 1 : Nat) : Int)) rfl (by rfl) rfl (by decide) (fun _ => by kernel_rfl) ?_
  refine ownU_region_end ?_
  refine ownU_inLoop ?_
  exact ownU_eq (by kernel_rfl) (hk (ptr kb) (.bool true) (.pointer (some (ad.add idx))) (.int .u8 z) (.int .i64 tot) (.int .u8 z) (.int .i64 z) (.int .i64 y) (.int .i64 (y + 1)) (.int .i64 tot') (ptr sb) (fvF1 kb ob) (x) (.int .i64 ((idx + 1 : Nat) : Int)))
/-- At the head of the outer loop of the wants. -/
def cwTs (A : Option Addr) (n cap sb ob : Nat) (tot : Int) (v : Value) (r : Nat) (gs : List Value) : Array Value := List.toArray (.slice A n cap :: undef :: .bool false :: ptr sb :: ptr ob :: v :: .int .i64 tot :: undef :: (gs.getD 0 undef) :: (gs.getD 1 undef) :: (gs.getD 2 undef) :: (gs.getD 3 undef) :: .slice A n cap :: .int .i64 (n : Int) :: .bool false :: undef :: ptr sb :: ptr sb :: .slice A n cap :: .int .i64 (n : Int) :: .int .i64 (n : Int) :: (gs.getD 4 undef) :: (gs.getD 5 undef) :: (gs.getD 6 undef) :: (gs.getD 7 undef) :: (gs.getD 8 undef) :: (gs.getD 9 undef) :: (gs.getD 10 undef) :: (gs.getD 11 undef) :: (gs.getD 12 undef) :: (gs.getD 13 undef) :: (gs.getD 14 undef) :: (gs.getD 15 undef) :: (gs.getD 16 undef) :: .int .i64 (r : Int) :: (gs.getD 17 undef) :: (gs.getD 18 undef) :: (gs.getD 19 undef) :: (gs.getD 20 undef) :: (gs.getD 21 undef) :: (gs.getD 22 undef) :: (gs.getD 23 undef) :: (gs.getD 24 undef) :: (gs.getD 25 undef) :: (gs.getD 26 undef) :: (gs.getD 27 undef) :: (gs.getD 28 undef) :: (gs.getD 29 undef) :: (gs.getD 30 undef) :: (gs.getD 31 undef) :: (gs.getD 32 undef) :: (gs.getD 33 undef) :: (gs.getD 34 undef) :: (gs.getD 35 undef) :: (gs.getD 36 undef) :: (gs.getD 37 undef) :: undef :: undef :: undef :: undef :: undef :: undef :: undef :: undef :: undef :: undef :: undef :: undef :: undef :: undef :: undef :: undef :: undef :: undef :: undef :: [])
noncomputable def cwHead (A : Option Addr) (n cap sb ob : Nat) (tot : Int) (v : Value) (r : Nat) (gs : List Value) : Goroutine := G ((base 9).at ⟨cwTs A n cap sb ob tot v r gs, [clDefer sb]⟩ (.code (sel [1, 1, 1, 1, 1, 1, 1, 0, 1, 4, 4] bodyCf) :: [.inLoop (sel [1, 1, 1, 1, 1, 1, 1, 0, 1, 4, 4] bodyCf), .inBlock 2, .code (sel [1, 1, 1, 1, 1, 1, 1, 1] bodyCf)])) []
theorem fair_c {main : Bool} {Z : Addr → Prop} {Stop : Goroutine → World → Prop} {w₀ u : World} {A : Option Addr} {n cap : Nat} {sb ob idx : Nat} {tot : Int} {p8 p21 p22 p23 p24 p25 p26 p27 p28 p29 p30 p31 p32 p33 : Value} (hidx : idx = n) (hk : ∀ gs, OwnU Try.prog main Z Stop w₀ (cwHead A n cap sb ob tot (.slice none 0 0) 0 gs) u) : OwnU Try.prog main Z Stop w₀ (cfHead A n cap sb ob tot idx p8 p21 p22 p23 p24 p25 p26 p27 p28 p29 p30 p31 p32 p33) u := by
  subst hidx
  refine ownU_seq (x := sel [1, 1, 1, 1, 1, 1, 0, 1, 4, 4, 0] bodyCf) (y := sel [1, 1, 1, 1, 1, 1, 0, 1, 4, 4, 1] bodyCf) ?_
  refine ownU_region (id := 8) (ops := opsOf (sel [1, 1, 1, 1, 1, 1, 0, 1, 4, 4, 0] bodyCf)) ?_
  refine ownU_quiet (i := 0) (rest := []) (.bool false) rfl (by rfl) rfl (by decide) (fun _ => lss_v (p := (idx : Int)) (q := (idx : Int)) rfl (by kernel_rfl) (by kernel_rfl) (by simp)) ?_
  refine ownU_region_end ?_
  refine ownU_seq (x := sel [1, 1, 1, 1, 1, 1, 0, 1, 4, 4, 1, 0] bodyCf) (y := sel [1, 1, 1, 1, 1, 1, 0, 1, 4, 4, 1, 1] bodyCf) ?_
  refine ownU_cond (c := .tmp 21) (x := .skip) (y := .exit 0) (t := false) (by kernel_rfl) ?_
  refine ownU_exit (k' := [.code (sel [1, 1, 1, 1, 1, 1, 1] bodyCf)]) rfl ?_
  refine ownU_lit (List.toArray (.slice A idx cap :: undef :: .bool false :: ptr sb :: ptr ob :: .slice none 0 0 :: .int .i64 tot :: undef :: p8 :: undef :: undef :: undef :: .slice A idx cap :: .int .i64 (idx : Int) :: .bool false :: undef :: ptr sb :: ptr sb :: .slice A idx cap :: .int .i64 (idx : Int) :: .int .i64 (idx : Int) :: .bool false :: p22 :: p23 :: p24 :: p25 :: p26 :: p27 :: p28 :: p29 :: p30 :: p31 :: p32 :: p33 :: undef :: undef :: undef :: undef :: undef :: undef :: undef :: undef :: undef :: undef :: undef :: undef :: undef :: undef :: undef :: undef :: undef :: undef :: undef :: undef :: undef :: undef :: undef :: undef :: undef :: undef :: undef :: undef :: undef :: undef :: undef :: undef :: undef :: undef :: undef :: undef :: undef :: undef :: undef :: undef :: undef :: [])) [clDefer sb] (by kernel_rfl) (by kernel_rfl) ?_
  refine ownU_seq (x := sel [1, 1, 1, 1, 1, 1, 1, 0] bodyCf) (y := sel [1, 1, 1, 1, 1, 1, 1, 1] bodyCf) ?_
  refine ownU_seq (x := sel [1, 1, 1, 1, 1, 1, 1, 0, 0] bodyCf) (y := sel [1, 1, 1, 1, 1, 1, 1, 0, 1] bodyCf) ?_
  refine ownU_region (id := 13) (ops := opsOf (sel [1, 1, 1, 1, 1, 1, 1, 0, 0] bodyCf)) ?_
  refine ownU_quiet (i := 0) (rest := []) (.int .i64 0) rfl (by rfl) rfl (by decide) (fun _ => by kernel_rfl) ?_
  refine ownU_region_end ?_
  refine ownU_block (id := 2) (c := sel [1, 1, 1, 1, 1, 1, 1, 0, 1, 4] bodyCf) ?_
  refine ownU_loop (c := sel [1, 1, 1, 1, 1, 1, 1, 0, 1, 4, 4] bodyCf) ?_
  exact ownU_eq (by kernel_rfl) (hk [p8, undef, undef, undef, .bool false, p22, p23, p24, p25, p26, p27, p28, p29, p30, p31, p32, p33, undef, undef, undef, undef, undef, undef, undef, undef, undef, undef, undef, undef, undef, undef, undef, undef, undef, undef, undef, undef, undef])
/-- .. of the inner one. -/
def ciTs (A : Option Addr) (n cap sb ob : Nat) (tot : Int) (v : Value) (r idx : Nat) (gs : List Value) : Array Value := List.toArray (.slice A n cap :: undef :: .bool false :: ptr sb :: ptr ob :: v :: .int .i64 tot :: undef :: (gs.getD 0 undef) :: .int .i64 (r : Int) :: (gs.getD 2 undef) :: (gs.getD 3 undef) :: .slice A n cap :: .int .i64 (n : Int) :: .bool false :: undef :: ptr sb :: ptr sb :: .slice A n cap :: .int .i64 (n : Int) :: .int .i64 (n : Int) :: (gs.getD 4 undef) :: (gs.getD 5 undef) :: (gs.getD 6 undef) :: (gs.getD 7 undef) :: (gs.getD 8 undef) :: (gs.getD 9 undef) :: (gs.getD 10 undef) :: (gs.getD 11 undef) :: (gs.getD 12 undef) :: (gs.getD 13 undef) :: (gs.getD 14 undef) :: (gs.getD 15 undef) :: (gs.getD 16 undef) :: .int .i64 (r : Int) :: (gs.getD 17 undef) :: (gs.getD 18 undef) :: .slice A n cap :: .int .i64 (n : Int) :: .int .i64 (idx : Int) :: (gs.getD 22 undef) :: (gs.getD 23 undef) :: (gs.getD 24 undef) :: (gs.getD 25 undef) :: (gs.getD 26 undef) :: (gs.getD 27 undef) :: (gs.getD 28 undef) :: (gs.getD 29 undef) :: (gs.getD 30 undef) :: (gs.getD 31 undef) :: (gs.getD 32 undef) :: (gs.getD 33 undef) :: (gs.getD 34 undef) :: (gs.getD 35 undef) :: (gs.getD 36 undef) :: (gs.getD 37 undef) :: undef :: undef :: undef :: undef :: undef :: undef :: undef :: undef :: undef :: undef :: undef :: undef :: undef :: undef :: undef :: undef :: undef :: undef :: undef :: [])
noncomputable def ciHead (A : Option Addr) (n cap sb ob : Nat) (tot : Int) (v : Value) (r idx : Nat) (gs : List Value) : Goroutine := G ((base 9).at ⟨ciTs A n cap sb ob tot v r idx gs, [clDefer sb]⟩ (.code (sel [1, 1, 1, 1, 1, 1, 1, 0, 1, 4, 4, 1, 1, 0, 4, 1, 1, 4, 4] bodyCf) :: .inLoop (sel [1, 1, 1, 1, 1, 1, 1, 0, 1, 4, 4, 1, 1, 0, 4, 1, 1, 4, 4] bodyCf) :: .inBlock 4 :: .inBlock 3 :: .code (sel [1, 1, 1, 1, 1, 1, 1, 0, 1, 4, 4, 1, 1, 1] bodyCf) :: [.inLoop (sel [1, 1, 1, 1, 1, 1, 1, 0, 1, 4, 4] bodyCf), .inBlock 2, .code (sel [1, 1, 1, 1, 1, 1, 1, 1] bodyCf)])) []
theorem want_in {main : Bool} {Z : Addr → Prop} {Stop : Goroutine → World → Prop} {w₀ u : World} {A : Option Addr} {n cap : Nat} {sb ob r : Nat} {tot : Int} {v : Value} {gs : List Value} (hr : r < 9) (hk : ∀ gs, OwnU Try.prog main Z Stop w₀ (ciHead A n cap sb ob tot v r 0 gs) u) : OwnU Try.prog main Z Stop w₀ (cwHead A n cap sb ob tot v r gs) u := by
  refine ownU_seq (x := sel [1, 1, 1, 1, 1, 1, 1, 0, 1, 4, 4, 0] bodyCf) (y := sel [1, 1, 1, 1, 1, 1, 1, 0, 1, 4, 4, 1] bodyCf) ?_
  refine ownU_region (id := 14) (ops := opsOf (sel [1, 1, 1, 1, 1, 1, 1, 0, 1, 4, 4, 0] bodyCf)) ?_
  refine ownU_quiet (i := 0) (rest := []) (.bool true) rfl (by rfl) rfl (by decide) (fun _ => lss_v (p := (r : Int)) (q := 9) rfl (by kernel_rfl) (by kernel_rfl) (by simp; omega)) ?_
  refine ownU_region_end ?_
  refine ownU_seq (x := sel [1, 1, 1, 1, 1, 1, 1, 0, 1, 4, 4, 1, 0] bodyCf) (y := sel [1, 1, 1, 1, 1, 1, 1, 0, 1, 4, 4, 1, 1] bodyCf) ?_
  refine ownU_cond (c := .tmp 35) (x := .skip) (y := .exit 2) (t := true) (by kernel_rfl) ?_
  refine ownU_skip ?_
  refine ownU_seq (x := sel [1, 1, 1, 1, 1, 1, 1, 0, 1, 4, 4, 1, 1, 0] bodyCf) (y := sel [1, 1, 1, 1, 1, 1, 1, 0, 1, 4, 4, 1, 1, 1] bodyCf) ?_
  refine ownU_block (id := 3) (c := sel [1, 1, 1, 1, 1, 1, 1, 0, 1, 4, 4, 1, 1, 0, 4] bodyCf) ?_
  refine ownU_seq (x := sel [1, 1, 1, 1, 1, 1, 1, 0, 1, 4, 4, 1, 1, 0, 4, 0] bodyCf) (y := sel [1, 1, 1, 1, 1, 1, 1, 0, 1, 4, 4, 1, 1, 0, 4, 1] bodyCf) ?_
  refine ownU_region (id := 15) (ops := opsOf (sel [1, 1, 1, 1, 1, 1, 1, 0, 1, 4, 4, 1, 1, 0, 4, 0] bodyCf)) ?_
  refine ownU_quiet (i := 0) (rest := [1]) (.int .i64 (r : Int)) rfl (by rfl) rfl (by decide) (fun _ => by kernel_rfl) ?_
  refine ownU_quiet (i := 1) (rest := []) (.int .i64 (r : Int)) rfl (by rfl) rfl (by decide) (fun _ => by kernel_rfl) ?_
  refine ownU_region_end ?_
  refine ownU_seq (x := sel [1, 1, 1, 1, 1, 1, 1, 0, 1, 4, 4, 1, 1, 0, 4, 1, 0] bodyCf) (y := sel [1, 1, 1, 1, 1, 1, 1, 0, 1, 4, 4, 1, 1, 0, 4, 1, 1] bodyCf) ?_
  refine ownU_region (id := 16) (ops := opsOf (sel [1, 1, 1, 1, 1, 1, 1, 0, 1, 4, 4, 1, 1, 0, 4, 1, 0] bodyCf)) ?_
  refine ownU_quiet (i := 0) (rest := [1, 2]) (.slice A n cap) rfl (by rfl) rfl (by decide) (fun _ => by kernel_rfl) ?_
  refine ownU_quiet (i := 1) (rest := [2]) (.int .i64 (n : Int)) rfl (by rfl) rfl (by decide) (fun _ => by kernel_rfl) ?_
  refine ownU_quiet (i := 2) (rest := []) (.int .i64 0) rfl (by rfl) rfl (by decide) (fun _ => by kernel_rfl) ?_
  refine ownU_region_end ?_
  refine ownU_block (id := 4) (c := sel [1, 1, 1, 1, 1, 1, 1, 0, 1, 4, 4, 1, 1, 0, 4, 1, 1, 4] bodyCf) ?_
  refine ownU_loop (c := sel [1, 1, 1, 1, 1, 1, 1, 0, 1, 4, 4, 1, 1, 0, 4, 1, 1, 4, 4] bodyCf) ?_
  exact ownU_eq (by kernel_rfl) (hk [(gs.getD 0 undef), .int .i64 (r : Int), (gs.getD 2 undef), (gs.getD 3 undef), (gs.getD 4 undef), (gs.getD 5 undef), (gs.getD 6 undef), (gs.getD 7 undef), (gs.getD 8 undef), (gs.getD 9 undef), (gs.getD 10 undef), (gs.getD 11 undef), (gs.getD 12 undef), (gs.getD 13 undef), (gs.getD 14 undef), (gs.getD 15 undef), (gs.getD 16 undef), .bool true, .int .i64 (r : Int), .slice A n cap, .int .i64 (n : Int), .int .i64 0, (gs.getD 22 undef), (gs.getD 23 undef), (gs.getD 24 undef), (gs.getD 25 undef), (gs.getD 26 undef), (gs.getD 27 undef), (gs.getD 28 undef), (gs.getD 29 undef), (gs.getD 30 undef), (gs.getD 31 undef), (gs.getD 32 undef), (gs.getD 33 undef), (gs.getD 34 undef), (gs.getD 35 undef), (gs.getD 36 undef), (gs.getD 37 undef)])
theorem want_out {main : Bool} {Z : Addr → Prop} {Stop : Goroutine → World → Prop} {w₀ u : World} {A : Option Addr} {n cap : Nat} {sb ob r idx : Nat} {tot : Int} {v : Value} {gs : List Value} (hidx : n ≤ idx) (hi : IntKind.i64.wrap ((r : Int) + 1) = ((r + 1 : Nat) : Int)) (hk : ∀ gs, OwnU Try.prog main Z Stop w₀ (cwHead A n cap sb ob tot v (r + 1) gs) u) : OwnU Try.prog main Z Stop w₀ (ciHead A n cap sb ob tot v r idx gs) u := by
  refine ownU_seq (x := sel [1, 1, 1, 1, 1, 1, 1, 0, 1, 4, 4, 1, 1, 0, 4, 1, 1, 4, 4, 0] bodyCf) (y := sel [1, 1, 1, 1, 1, 1, 1, 0, 1, 4, 4, 1, 1, 0, 4, 1, 1, 4, 4, 1] bodyCf) ?_
  refine ownU_region (id := 17) (ops := opsOf (sel [1, 1, 1, 1, 1, 1, 1, 0, 1, 4, 4, 1, 1, 0, 4, 1, 1, 4, 4, 0] bodyCf)) ?_
  refine ownU_quiet (i := 0) (rest := []) (.bool false) rfl (by rfl) rfl (by decide) (fun _ => lss_v (p := (idx : Int)) (q := (n : Int)) rfl (by kernel_rfl) (by kernel_rfl) (by simp; omega)) ?_
  refine ownU_region_end ?_
  refine ownU_seq (x := sel [1, 1, 1, 1, 1, 1, 1, 0, 1, 4, 4, 1, 1, 0, 4, 1, 1, 4, 4, 1, 0] bodyCf) (y := sel [1, 1, 1, 1, 1, 1, 1, 0, 1, 4, 4, 1, 1, 0, 4, 1, 1, 4, 4, 1, 1] bodyCf) ?_
  refine ownU_cond (c := .tmp 40) (x := .skip) (y := .exit 4) (t := false) (by kernel_rfl) ?_
  refine ownU_exit (k' := .inBlock 3 :: .code (sel [1, 1, 1, 1, 1, 1, 1, 0, 1, 4, 4, 1, 1, 1] bodyCf) :: [.inLoop (sel [1, 1, 1, 1, 1, 1, 1, 0, 1, 4, 4] bodyCf), .inBlock 2, .code (sel [1, 1, 1, 1, 1, 1, 1, 1] bodyCf)]) rfl ?_
  refine ownU_inBlock ?_
  refine ownU_lit (List.toArray (.slice A n cap :: undef :: .bool false :: ptr sb :: ptr ob :: v :: .int .i64 tot :: undef :: (gs.getD 0 undef) :: .int .i64 (r : Int) :: (gs.getD 2 undef) :: (gs.getD 3 undef) :: .slice A n cap :: .int .i64 (n : Int) :: .bool false :: undef :: ptr sb :: ptr sb :: .slice A n cap :: .int .i64 (n : Int) :: .int .i64 (n : Int) :: (gs.getD 4 undef) :: (gs.getD 5 undef) :: (gs.getD 6 undef) :: (gs.getD 7 undef) :: (gs.getD 8 undef) :: (gs.getD 9 undef) :: (gs.getD 10 undef) :: (gs.getD 11 undef) :: (gs.getD 12 undef) :: (gs.getD 13 undef) :: (gs.getD 14 undef) :: (gs.getD 15 undef) :: (gs.getD 16 undef) :: .int .i64 (r : Int) :: (gs.getD 17 undef) :: (gs.getD 18 undef) :: .slice A n cap :: .int .i64 (n : Int) :: .int .i64 (idx : Int) :: .bool false :: (gs.getD 23 undef) :: (gs.getD 24 undef) :: (gs.getD 25 undef) :: (gs.getD 26 undef) :: (gs.getD 27 undef) :: (gs.getD 28 undef) :: (gs.getD 29 undef) :: (gs.getD 30 undef) :: (gs.getD 31 undef) :: (gs.getD 32 undef) :: (gs.getD 33 undef) :: (gs.getD 34 undef) :: (gs.getD 35 undef) :: (gs.getD 36 undef) :: (gs.getD 37 undef) :: undef :: undef :: undef :: undef :: undef :: undef :: undef :: undef :: undef :: undef :: undef :: undef :: undef :: undef :: undef :: undef :: undef :: undef :: undef :: [])) [clDefer sb] (by kernel_rfl) (by kernel_rfl) ?_
  refine ownU_region (id := 22) (ops := opsOf (sel [1, 1, 1, 1, 1, 1, 1, 0, 1, 4, 4, 1, 1, 1] bodyCf)) ?_
  refine ownU_quiet (i := 0) (rest := [1]) (.int .i64 ((r + 1 : Nat) : Int)) rfl (by rfl) rfl (by decide) (fun _ => by rw [← hi]; kernel_rfl) ?_
  refine ownU_quiet (i := 1) (rest := []) (.int .i64 ((r + 1 : Nat) : Int)) rfl (by rfl) rfl (by decide) (fun _ => by kernel_rfl) ?_
  refine ownU_region_end ?_
  refine ownU_inLoop ?_
  exact ownU_eq (by kernel_rfl) (hk [(gs.getD 0 undef), .int .i64 (r : Int), (gs.getD 2 undef), (gs.getD 3 undef), (gs.getD 4 undef), (gs.getD 5 undef), (gs.getD 6 undef), (gs.getD 7 undef), (gs.getD 8 undef), (gs.getD 9 undef), (gs.getD 10 undef), (gs.getD 11 undef), (gs.getD 12 undef), (gs.getD 13 undef), (gs.getD 14 undef), (gs.getD 15 undef), (gs.getD 16 undef), (gs.getD 17 undef), (gs.getD 18 undef), .slice A n cap, .int .i64 (n : Int), .int .i64 (idx : Int), .bool false, (gs.getD 23 undef), (gs.getD 24 undef), (gs.getD 25 undef), (gs.getD 26 undef), (gs.getD 27 undef), (gs.getD 28 undef), (gs.getD 29 undef), (gs.getD 30 undef), (gs.getD 31 undef), (gs.getD 32 undef), (gs.getD 33 undef), (gs.getD 34 undef), (gs.getD 35 undef), (gs.getD 36 undef), .int .i64 ((r + 1 : Nat) : Int)])
theorem want_no {main : Bool} {Z : Addr → Prop} {Stop : Goroutine → World → Prop} {w₀ u : World} {A : Option Addr} {n cap : Nat} {sb ob r idx : Nat} {tot z y : Int} {ad : Addr} {v : Value} {gs : List Value} (hA : A = some ad) (hidx : idx < n) (hc : u.cell? (ad.add idx) = some (.int .u8 z)) (hz : 0 ≤ z ∧ z < 256) (hy : z % 9 = y) (hi : IntKind.i64.wrap ((idx : Int) + 1) = ((idx + 1 : Nat) : Int)) (hry : y < r) (hk : ∀ gs, OwnU Try.prog main Z Stop w₀ (ciHead A n cap sb ob tot v r (idx + 1) gs) u) : OwnU Try.prog main Z Stop w₀ (ciHead A n cap sb ob tot v r idx gs) u := by
  refine ownU_seq (x := sel [1, 1, 1, 1, 1, 1, 1, 0, 1, 4, 4, 1, 1, 0, 4, 1, 1, 4, 4, 0] bodyCf) (y := sel [1, 1, 1, 1, 1, 1, 1, 0, 1, 4, 4, 1, 1, 0, 4, 1, 1, 4, 4, 1] bodyCf) ?_
  refine ownU_region (id := 17) (ops := opsOf (sel [1, 1, 1, 1, 1, 1, 1, 0, 1, 4, 4, 1, 1, 0, 4, 1, 1, 4, 4, 0] bodyCf)) ?_
  refine ownU_quiet (i := 0) (rest := []) (.bool true) rfl (by rfl) rfl (by decide) (fun _ => lss_v (p := (idx : Int)) (q := (n : Int)) rfl (by kernel_rfl) (by kernel_rfl) (by simp; omega)) ?_
  refine ownU_region_end ?_
  refine ownU_seq (x := sel [1, 1, 1, 1, 1, 1, 1, 0, 1, 4, 4, 1, 1, 0, 4, 1, 1, 4, 4, 1, 0] bodyCf) (y := sel [1, 1, 1, 1, 1, 1, 1, 0, 1, 4, 4, 1, 1, 0, 4, 1, 1, 4, 4, 1, 1] bodyCf) ?_
  refine ownU_cond (c := .tmp 40) (x := .skip) (y := .exit 4) (t := true) (by kernel_rfl) ?_
  refine ownU_skip ?_
  refine ownU_seq (x := sel [1, 1, 1, 1, 1, 1, 1, 0, 1, 4, 4, 1, 1, 0, 4, 1, 1, 4, 4, 1, 1, 0] bodyCf) (y := sel [1, 1, 1, 1, 1, 1, 1, 0, 1, 4, 4, 1, 1, 0, 4, 1, 1, 4, 4, 1, 1, 1] bodyCf) ?_
  refine ownU_block (id := 5) (c := sel [1, 1, 1, 1, 1, 1, 1, 0, 1, 4, 4, 1, 1, 0, 4, 1, 1, 4, 4, 1, 1, 0, 4] bodyCf) ?_
  refine ownU_seq (x := sel [1, 1, 1, 1, 1, 1, 1, 0, 1, 4, 4, 1, 1, 0, 4, 1, 1, 4, 4, 1, 1, 0, 4, 0] bodyCf) (y := sel [1, 1, 1, 1, 1, 1, 1, 0, 1, 4, 4, 1, 1, 0, 4, 1, 1, 4, 4, 1, 1, 0, 4, 1] bodyCf) ?_
  refine ownU_region (id := 18) (ops := opsOf (sel [1, 1, 1, 1, 1, 1, 1, 0, 1, 4, 4, 1, 1, 0, 4, 1, 1, 4, 4, 1, 1, 0, 4, 0] bodyCf)) ?_
  refine ownU_quiet (i := 0) (rest := [1, 2, 3, 4]) (.int .i64 (idx : Int)) rfl (by rfl) rfl (by decide) (fun _ => by kernel_rfl) ?_
  refine ownU_quiet (i := 1) (rest := [2, 3, 4]) (.pointer (some (ad.add idx))) rfl (by rfl) rfl (by decide) (fun w => idx_b (cap := cap) hA w rfl (by kernel_rfl) (by kernel_rfl) hidx) ?_
  refine ownU_load (i := 2) (rest := [3, 4]) (ad.add idx) (.int .u8 z) rfl (by rfl) (by decide) loads_u8 rfl (by kernel_rfl) hc ?_
  refine ownU_quiet (i := 3) (rest := [4]) (.int .i64 (idx : Int)) rfl (by rfl) rfl (by decide) (fun _ => by kernel_rfl) ?_
  refine ownU_quiet (i := 4) (rest := []) (.int .u8 z) rfl (by rfl) rfl (by decide) (fun _ => by kernel_rfl) ?_
  refine ownU_region_end ?_
  refine ownU_lit (List.toArray (.slice A n cap :: undef :: .bool false :: ptr sb :: ptr ob :: v :: .int .i64 tot :: undef :: (gs.getD 0 undef) :: .int .i64 (r : Int) :: .int .i64 (idx : Int) :: .int .u8 z :: .slice A n cap :: .int .i64 (n : Int) :: .bool false :: undef :: ptr sb :: ptr sb :: .slice A n cap :: .int .i64 (n : Int) :: .int .i64 (n : Int) :: (gs.getD 4 undef) :: (gs.getD 5 undef) :: (gs.getD 6 undef) :: (gs.getD 7 undef) :: (gs.getD 8 undef) :: (gs.getD 9 undef) :: (gs.getD 10 undef) :: (gs.getD 11 undef) :: (gs.getD 12 undef) :: (gs.getD 13 undef) :: (gs.getD 14 undef) :: (gs.getD 15 undef) :: (gs.getD 16 undef) :: .int .i64 (r : Int) :: (gs.getD 17 undef) :: (gs.getD 18 undef) :: .slice A n cap :: .int .i64 (n : Int) :: .int .i64 (idx : Int) :: .bool true :: .int .i64 (idx : Int) :: .pointer (some (ad.add idx)) :: .int .u8 z :: (gs.getD 26 undef) :: (gs.getD 27 undef) :: (gs.getD 28 undef) :: (gs.getD 29 undef) :: (gs.getD 30 undef) :: (gs.getD 31 undef) :: (gs.getD 32 undef) :: (gs.getD 33 undef) :: (gs.getD 34 undef) :: (gs.getD 35 undef) :: (gs.getD 36 undef) :: (gs.getD 37 undef) :: undef :: undef :: undef :: undef :: undef :: undef :: undef :: undef :: undef :: undef :: undef :: undef :: undef :: undef :: undef :: undef :: undef :: undef :: undef :: [])) [clDefer sb] (by kernel_rfl) (by kernel_rfl) ?_
  refine ownU_seq (x := sel [1, 1, 1, 1, 1, 1, 1, 0, 1, 4, 4, 1, 1, 0, 4, 1, 1, 4, 4, 1, 1, 0, 4, 1, 0] bodyCf) (y := sel [1, 1, 1, 1, 1, 1, 1, 0, 1, 4, 4, 1, 1, 0, 4, 1, 1, 4, 4, 1, 1, 0, 4, 1, 1] bodyCf) ?_
  refine ownU_region (id := 19) (ops := opsOf (sel [1, 1, 1, 1, 1, 1, 1, 0, 1, 4, 4, 1, 1, 0, 4, 1, 1, 4, 4, 1, 1, 0, 4, 1, 0] bodyCf)) ?_
  refine ownU_quiet (i := 0) (rest := [1, 2, 3, 4]) (.int .u8 z) rfl (by rfl) rfl (by decide) (fun _ => by kernel_rfl) ?_
  refine ownU_quiet (i := 1) (rest := [2, 3, 4]) (.int .i64 z) rfl (by rfl) rfl (by decide) (fun w => conv_u8 w rfl (by kernel_rfl) hz) ?_
  refine ownU_quiet (i := 2) (rest := [3, 4]) (.int .i64 y) rfl (by rfl) rfl (by decide) (fun w => rem_9 w rfl (by kernel_rfl) hz hy) ?_
  refine ownU_quiet (i := 3) (rest := [4]) (.int .i64 (r : Int)) rfl (by rfl) rfl (by decide) (fun _ => by kernel_rfl) ?_
  refine ownU_quiet (i := 4) (rest := []) (.bool false) rfl (by rfl) rfl (by decide) (fun _ => geq_v (p := y) (q := (r : Int)) rfl (by kernel_rfl) (by kernel_rfl) (by simp; omega)) ?_
  refine ownU_region_end ?_
  refine ownU_cond (c := .tmp 48) (x := sel [1, 1, 1, 1, 1, 1, 1, 0, 1, 4, 4, 1, 1, 0, 4, 1, 1, 4, 4, 1, 1, 0, 4, 1, 1, 2] bodyCf) (y := .skip) (t := false) (by kernel_rfl) ?_
  refine ownU_skip ?_
  refine ownU_inBlock ?_
  refine ownU_lit (List.toArray (.slice A n cap :: undef :: .bool false :: ptr sb :: ptr ob :: v :: .int .i64 tot :: undef :: (gs.getD 0 undef) :: .int .i64 (r : Int) :: .int .i64 (idx : Int) :: .int .u8 z :: .slice A n cap :: .int .i64 (n : Int) :: .bool false :: undef :: ptr sb :: ptr sb :: .slice A n cap :: .int .i64 (n : Int) :: .int .i64 (n : Int) :: (gs.getD 4 undef) :: (gs.getD 5 undef) :: (gs.getD 6 undef) :: (gs.getD 7 undef) :: (gs.getD 8 undef) :: (gs.getD 9 undef) :: (gs.getD 10 undef) :: (gs.getD 11 undef) :: (gs.getD 12 undef) :: (gs.getD 13 undef) :: (gs.getD 14 undef) :: (gs.getD 15 undef) :: (gs.getD 16 undef) :: .int .i64 (r : Int) :: (gs.getD 17 undef) :: (gs.getD 18 undef) :: .slice A n cap :: .int .i64 (n : Int) :: .int .i64 (idx : Int) :: .bool true :: .int .i64 (idx : Int) :: .pointer (some (ad.add idx)) :: .int .u8 z :: .int .u8 z :: .int .i64 z :: .int .i64 y :: .int .i64 (r : Int) :: .bool false :: (gs.getD 31 undef) :: (gs.getD 32 undef) :: (gs.getD 33 undef) :: (gs.getD 34 undef) :: (gs.getD 35 undef) :: (gs.getD 36 undef) :: (gs.getD 37 undef) :: undef :: undef :: undef :: undef :: undef :: undef :: undef :: undef :: undef :: undef :: undef :: undef :: undef :: undef :: undef :: undef :: undef :: undef :: undef :: [])) [clDefer sb] (by kernel_rfl) (by kernel_rfl) ?_
  refine ownU_region (id := 21) (ops := opsOf (sel [1, 1, 1, 1, 1, 1, 1, 0, 1, 4, 4, 1, 1, 0, 4, 1, 1, 4, 4, 1, 1, 1] bodyCf)) ?_
  refine ownU_quiet (i := 0) (rest := [1]) (.int .i64 ((idx + 1 : Nat) : Int)) rfl (by rfl) rfl (by decide) (fun _ => by rw [← hi]; kernel_rfl) ?_
  refine ownU_quiet (i := 1) (rest := []) (.int .i64 ((idx + 1 : Nat) : Int)) rfl (by rfl) rfl (by decide) (fun _ => by kernel_rfl) ?_
  refine ownU_region_end ?_
  refine ownU_inLoop ?_
  exact ownU_eq (by kernel_rfl) (hk [(gs.getD 0 undef), .int .i64 (r : Int), .int .i64 (idx : Int), .int .u8 z, (gs.getD 4 undef), (gs.getD 5 undef), (gs.getD 6 undef), (gs.getD 7 undef), (gs.getD 8 undef), (gs.getD 9 undef), (gs.getD 10 undef), (gs.getD 11 undef), (gs.getD 12 undef), (gs.getD 13 undef), (gs.getD 14 undef), (gs.getD 15 undef), (gs.getD 16 undef), (gs.getD 17 undef), (gs.getD 18 undef), .slice A n cap, .int .i64 (n : Int), .int .i64 ((idx + 1 : Nat) : Int), .bool true, .int .i64 (idx : Int), .pointer (some (ad.add idx)), .int .u8 z, .int .u8 z, .int .i64 z, .int .i64 y, .int .i64 (r : Int), .bool false, (gs.getD 31 undef), (gs.getD 32 undef), (gs.getD 33 undef), (gs.getD 34 undef), (gs.getD 35 undef), .int .i64 ((idx + 1 : Nat) : Int), (gs.getD 37 undef)])
theorem want_yes {main : Bool} {Z : Addr → Prop} {Stop : Goroutine → World → Prop} {w₀ u : World} {A : Option Addr} {n cap : Nat} {sb ob r idx : Nat} {tot z y : Int} {ad : Addr} {v : Value} {xs : List Value} {gs : List Value} (hA : A = some ad) (hidx : idx < n) (hc : u.cell? (ad.add idx) = some (.int .u8 z)) (hz : 0 ≤ z ∧ z < 256) (hy : z % 9 = y) (hi : IntKind.i64.wrap ((idx : Int) + 1) = ((idx + 1 : Nat) : Int)) (hry : r ≤ y) (hrow : QRow u v xs) (hlen : xs.length < 1000000)
    (hk : ∀ v' u2 gs, QRow u2 v' (xs ++ [.int .i64 ((idx + 1 : Nat) : Int)]) → u2.os = u.os → u2.output = u.output → u.heap.size ≤ u2.heap.size → (∀ g, g < u.heap.size → v.ownBlock ≠ some g → u2.heap[g]? = u.heap[g]?) → (v'.ownBlock = v.ownBlock ∨ ∀ g, v'.ownBlock = some g → u.heap.size ≤ g) → OwnU Try.prog main Z Stop w₀ (ciHead A n cap sb ob tot v' r (idx + 1) gs) u2) : OwnU Try.prog main Z Stop w₀ (ciHead A n cap sb ob tot v r idx gs) u := by
  have hnew : New u (u.alloc (.cells #[.int .i64 ((idx + 1 : Nat) : Int)] 3)) := New.alloc u _
  obtain ⟨i0, hti, hz0, hz1, hz2⟩ := info_parts infoInt
  have hrow1 : QRow (u.alloc (.cells #[.int .i64 ((idx + 1 : Nat) : Int)] 3)) v xs := hrow.keep fun g hg => hnew.block g (hrow.lt g hg)
  have hcell : (u.alloc (.cells #[.int .i64 ((idx + 1 : Nat) : Int)] 3)).cell? ⟨u.heap.size, 0, none⟩ = some (.int .i64 ((idx + 1 : Nat) : Int)) := blk_cell (alloc_new' u _ rfl) 0 _ rfl
  have hsz : u.heap.size ≤ (u.alloc (.cells #[.int .i64 ((idx + 1 : Nat) : Int)] 3)).heap.size := hnew.size
  refine ownU_seq (x := sel [1, 1, 1, 1, 1, 1, 1, 0, 1, 4, 4, 1, 1, 0, 4, 1, 1, 4, 4, 0] bodyCf) (y := sel [1, 1, 1, 1, 1, 1, 1, 0, 1, 4, 4, 1, 1, 0, 4, 1, 1, 4, 4, 1] bodyCf) ?_
  refine ownU_region (id := 17) (ops := opsOf (sel [1, 1, 1, 1, 1, 1, 1, 0, 1, 4, 4, 1, 1, 0, 4, 1, 1, 4, 4, 0] bodyCf)) ?_
  refine ownU_quiet (i := 0) (rest := []) (.bool true) rfl (by rfl) rfl (by decide) (fun _ => lss_v (p := (idx : Int)) (q := (n : Int)) rfl (by kernel_rfl) (by kernel_rfl) (by simp; omega)) ?_
  refine ownU_region_end ?_
  refine ownU_seq (x := sel [1, 1, 1, 1, 1, 1, 1, 0, 1, 4, 4, 1, 1, 0, 4, 1, 1, 4, 4, 1, 0] bodyCf) (y := sel [1, 1, 1, 1, 1, 1, 1, 0, 1, 4, 4, 1, 1, 0, 4, 1, 1, 4, 4, 1, 1] bodyCf) ?_
  refine ownU_cond (c := .tmp 40) (x := .skip) (y := .exit 4) (t := true) (by kernel_rfl) ?_
  refine ownU_skip ?_
  refine ownU_seq (x := sel [1, 1, 1, 1, 1, 1, 1, 0, 1, 4, 4, 1, 1, 0, 4, 1, 1, 4, 4, 1, 1, 0] bodyCf) (y := sel [1, 1, 1, 1, 1, 1, 1, 0, 1, 4, 4, 1, 1, 0, 4, 1, 1, 4, 4, 1, 1, 1] bodyCf) ?_
  refine ownU_block (id := 5) (c := sel [1, 1, 1, 1, 1, 1, 1, 0, 1, 4, 4, 1, 1, 0, 4, 1, 1, 4, 4, 1, 1, 0, 4] bodyCf) ?_
  refine ownU_seq (x := sel [1, 1, 1, 1, 1, 1, 1, 0, 1, 4, 4, 1, 1, 0, 4, 1, 1, 4, 4, 1, 1, 0, 4, 0] bodyCf) (y := sel [1, 1, 1, 1, 1, 1, 1, 0, 1, 4, 4, 1, 1, 0, 4, 1, 1, 4, 4, 1, 1, 0, 4, 1] bodyCf) ?_
  refine ownU_region (id := 18) (ops := opsOf (sel [1, 1, 1, 1, 1, 1, 1, 0, 1, 4, 4, 1, 1, 0, 4, 1, 1, 4, 4, 1, 1, 0, 4, 0] bodyCf)) ?_
  refine ownU_quiet (i := 0) (rest := [1, 2, 3, 4]) (.int .i64 (idx : Int)) rfl (by rfl) rfl (by decide) (fun _ => by kernel_rfl) ?_
  refine ownU_quiet (i := 1) (rest := [2, 3, 4]) (.pointer (some (ad.add idx))) rfl (by rfl) rfl (by decide) (fun w => idx_b (cap := cap) hA w rfl (by kernel_rfl) (by kernel_rfl) hidx) ?_
  refine ownU_load (i := 2) (rest := [3, 4]) (ad.add idx) (.int .u8 z) rfl (by rfl) (by decide) loads_u8 rfl (by kernel_rfl) hc ?_
  refine ownU_quiet (i := 3) (rest := [4]) (.int .i64 (idx : Int)) rfl (by rfl) rfl (by decide) (fun _ => by kernel_rfl) ?_
  refine ownU_quiet (i := 4) (rest := []) (.int .u8 z) rfl (by rfl) rfl (by decide) (fun _ => by kernel_rfl) ?_
  refine ownU_region_end ?_
  refine ownU_lit (List.toArray (.slice A n cap :: undef :: .bool false :: ptr sb :: ptr ob :: v :: .int .i64 tot :: undef :: (gs.getD 0 undef) :: .int .i64 (r : Int) :: .int .i64 (idx : Int) :: .int .u8 z :: .slice A n cap :: .int .i64 (n : Int) :: .bool false :: undef :: ptr sb :: ptr sb :: .slice A n cap :: .int .i64 (n : Int) :: .int .i64 (n : Int) :: (gs.getD 4 undef) :: (gs.getD 5 undef) :: (gs.getD 6 undef) :: (gs.getD 7 undef) :: (gs.getD 8 undef) :: (gs.getD 9 undef) :: (gs.getD 10 undef) :: (gs.getD 11 undef) :: (gs.getD 12 undef) :: (gs.getD 13 undef) :: (gs.getD 14 undef) :: (gs.getD 15 undef) :: (gs.getD 16 undef) :: .int .i64 (r : Int) :: (gs.getD 17 undef) :: (gs.getD 18 undef) :: .slice A n cap :: .int .i64 (n : Int) :: .int .i64 (idx : Int) :: .bool true :: .int .i64 (idx : Int) :: .pointer (some (ad.add idx)) :: .int .u8 z :: (gs.getD 26 undef) :: (gs.getD 27 undef) :: (gs.getD 28 undef) :: (gs.getD 29 undef) :: (gs.getD 30 undef) :: (gs.getD 31 undef) :: (gs.getD 32 undef) :: (gs.getD 33 undef) :: (gs.getD 34 undef) :: (gs.getD 35 undef) :: (gs.getD 36 undef) :: (gs.getD 37 undef) :: undef :: undef :: undef :: undef :: undef :: undef :: undef :: undef :: undef :: undef :: undef :: undef :: undef :: undef :: undef :: undef :: undef :: undef :: undef :: [])) [clDefer sb] (by kernel_rfl) (by kernel_rfl) ?_
  refine ownU_seq (x := sel [1, 1, 1, 1, 1, 1, 1, 0, 1, 4, 4, 1, 1, 0, 4, 1, 1, 4, 4, 1, 1, 0, 4, 1, 0] bodyCf) (y := sel [1, 1, 1, 1, 1, 1, 1, 0, 1, 4, 4, 1, 1, 0, 4, 1, 1, 4, 4, 1, 1, 0, 4, 1, 1] bodyCf) ?_
  refine ownU_region (id := 19) (ops := opsOf (sel [1, 1, 1, 1, 1, 1, 1, 0, 1, 4, 4, 1, 1, 0, 4, 1, 1, 4, 4, 1, 1, 0, 4, 1, 0] bodyCf)) ?_
  refine ownU_quiet (i := 0) (rest := [1, 2, 3, 4]) (.int .u8 z) rfl (by rfl) rfl (by decide) (fun _ => by kernel_rfl) ?_
  refine ownU_quiet (i := 1) (rest := [2, 3, 4]) (.int .i64 z) rfl (by rfl) rfl (by decide) (fun w => conv_u8 w rfl (by kernel_rfl) hz) ?_
  refine ownU_quiet (i := 2) (rest := [3, 4]) (.int .i64 y) rfl (by rfl) rfl (by decide) (fun w => rem_9 w rfl (by kernel_rfl) hz hy) ?_
  refine ownU_quiet (i := 3) (rest := [4]) (.int .i64 (r : Int)) rfl (by rfl) rfl (by decide) (fun _ => by kernel_rfl) ?_
  refine ownU_quiet (i := 4) (rest := []) (.bool true) rfl (by rfl) rfl (by decide) (fun _ => geq_v (p := y) (q := (r : Int)) rfl (by kernel_rfl) (by kernel_rfl) (by simp; omega)) ?_
  refine ownU_region_end ?_
  refine ownU_cond (c := .tmp 48) (x := sel [1, 1, 1, 1, 1, 1, 1, 0, 1, 4, 4, 1, 1, 0, 4, 1, 1, 4, 4, 1, 1, 0, 4, 1, 1, 2] bodyCf) (y := .skip) (t := true) (by kernel_rfl) ?_
  refine ownU_lit (List.toArray (.slice A n cap :: undef :: .bool false :: ptr sb :: ptr ob :: v :: .int .i64 tot :: undef :: (gs.getD 0 undef) :: .int .i64 (r : Int) :: .int .i64 (idx : Int) :: .int .u8 z :: .slice A n cap :: .int .i64 (n : Int) :: .bool false :: undef :: ptr sb :: ptr sb :: .slice A n cap :: .int .i64 (n : Int) :: .int .i64 (n : Int) :: (gs.getD 4 undef) :: (gs.getD 5 undef) :: (gs.getD 6 undef) :: (gs.getD 7 undef) :: (gs.getD 8 undef) :: (gs.getD 9 undef) :: (gs.getD 10 undef) :: (gs.getD 11 undef) :: (gs.getD 12 undef) :: (gs.getD 13 undef) :: (gs.getD 14 undef) :: (gs.getD 15 undef) :: (gs.getD 16 undef) :: .int .i64 (r : Int) :: (gs.getD 17 undef) :: (gs.getD 18 undef) :: .slice A n cap :: .int .i64 (n : Int) :: .int .i64 (idx : Int) :: .bool true :: .int .i64 (idx : Int) :: .pointer (some (ad.add idx)) :: .int .u8 z :: .int .u8 z :: .int .i64 z :: .int .i64 y :: .int .i64 (r : Int) :: .bool true :: (gs.getD 31 undef) :: (gs.getD 32 undef) :: (gs.getD 33 undef) :: (gs.getD 34 undef) :: (gs.getD 35 undef) :: (gs.getD 36 undef) :: (gs.getD 37 undef) :: undef :: undef :: undef :: undef :: undef :: undef :: undef :: undef :: undef :: undef :: undef :: undef :: undef :: undef :: undef :: undef :: undef :: undef :: undef :: [])) [clDefer sb] (by kernel_rfl) (by kernel_rfl) ?_
  refine ownU_region (id := 20) (ops := opsOf (sel [1, 1, 1, 1, 1, 1, 1, 0, 1, 4, 4, 1, 1, 0, 4, 1, 1, 4, 4, 1, 1, 0, 4, 1, 1, 2] bodyCf)) ?_
  refine ownU_quiet (i := 0) (rest := [1, 2, 3, 4, 5]) (v) rfl (by rfl) rfl (by decide) (fun _ => by kernel_rfl) ?_
  refine ownU_quiet (i := 1) (rest := [2, 3, 4, 5]) (.int .i64 (idx : Int)) rfl (by rfl) rfl (by decide) (fun _ => by kernel_rfl) ?_
  refine ownU_quiet (i := 2) (rest := [3, 4, 5]) (.int .i64 ((idx + 1 : Nat) : Int)) rfl (by rfl) rfl (by decide) (fun _ => by rw [← hi]; kernel_rfl) ?_
  refine ownU_newV (fun n => .slice (some ⟨n, 0, none⟩) 1 1) (.cells #[.int .i64 ((idx + 1 : Nat) : Int)] 3) (i := 3) (rest := [4, 5]) rfl (by rfl) rfl (by decide) (fun _ => by kernel_rfl) ?_
  refine ownU_append (j := 4) (rest := [5]) (xs := xs) (v := v) (c := 1) (ad := ⟨u.heap.size, 0, none⟩) (y := .int .i64 ((idx + 1 : Nat) : Int)) rfl rfl (by rfl) rfl (by decide) Try.underlying22 hti hz0 hz1 hz2 rfl (by kernel_rfl) hrow1 (by kernel_rfl) hcell rfl (by unfold maxLen; omega) (by omega) fun v' u2 q1 q2 q3 q4 q5 q6 => ?_
  refine ownU_quiet (i := 5) (rest := []) (v') rfl (by rfl) rfl (by decide) (fun _ => by kernel_rfl) ?_
  refine ownU_region_end ?_
  refine ownU_inBlock ?_
  refine ownU_lit (List.toArray (.slice A n cap :: undef :: .bool false :: ptr sb :: ptr ob :: v' :: .int .i64 tot :: undef :: (gs.getD 0 undef) :: .int .i64 (r : Int) :: .int .i64 (idx : Int) :: .int .u8 z :: .slice A n cap :: .int .i64 (n : Int) :: .bool false :: undef :: ptr sb :: ptr sb :: .slice A n cap :: .int .i64 (n : Int) :: .int .i64 (n : Int) :: (gs.getD 4 undef) :: (gs.getD 5 undef) :: (gs.getD 6 undef) :: (gs.getD 7 undef) :: (gs.getD 8 undef) :: (gs.getD 9 undef) :: (gs.getD 10 undef) :: (gs.getD 11 undef) :: (gs.getD 12 undef) :: (gs.getD 13 undef) :: (gs.getD 14 undef) :: (gs.getD 15 undef) :: (gs.getD 16 undef) :: .int .i64 (r : Int) :: (gs.getD 17 undef) :: (gs.getD 18 undef) :: .slice A n cap :: .int .i64 (n : Int) :: .int .i64 (idx : Int) :: .bool true :: .int .i64 (idx : Int) :: .pointer (some (ad.add idx)) :: .int .u8 z :: .int .u8 z :: .int .i64 z :: .int .i64 y :: .int .i64 (r : Int) :: .bool true :: v :: .int .i64 (idx : Int) :: .int .i64 ((idx + 1 : Nat) : Int) :: .slice (some ⟨u.heap.size, 0, none⟩) 1 1 :: v' :: (gs.getD 36 undef) :: (gs.getD 37 undef) :: undef :: undef :: undef :: undef :: undef :: undef :: undef :: undef :: undef :: undef :: undef :: undef :: undef :: undef :: undef :: undef :: undef :: undef :: undef :: [])) [clDefer sb] (by kernel_rfl) (by kernel_rfl) ?_
  refine ownU_region (id := 21) (ops := opsOf (sel [1, 1, 1, 1, 1, 1, 1, 0, 1, 4, 4, 1, 1, 0, 4, 1, 1, 4, 4, 1, 1, 1] bodyCf)) ?_
  refine ownU_quiet (i := 0) (rest := [1]) (.int .i64 ((idx + 1 : Nat) : Int)) rfl (by rfl) rfl (by decide) (fun _ => by rw [← hi]; kernel_rfl) ?_
  refine ownU_quiet (i := 1) (rest := []) (.int .i64 ((idx + 1 : Nat) : Int)) rfl (by rfl) rfl (by decide) (fun _ => by kernel_rfl) ?_
  refine ownU_region_end ?_
  refine ownU_inLoop ?_
  exact ownU_eq (by kernel_rfl) (hk v' u2 [(gs.getD 0 undef), .int .i64 (r : Int), .int .i64 (idx : Int), .int .u8 z, (gs.getD 4 undef), (gs.getD 5 undef), (gs.getD 6 undef), (gs.getD 7 undef), (gs.getD 8 undef), (gs.getD 9 undef), (gs.getD 10 undef), (gs.getD 11 undef), (gs.getD 12 undef), (gs.getD 13 undef), (gs.getD 14 undef), (gs.getD 15 undef), (gs.getD 16 undef), (gs.getD 17 undef), (gs.getD 18 undef), .slice A n cap, .int .i64 (n : Int), .int .i64 ((idx + 1 : Nat) : Int), .bool true, .int .i64 (idx : Int), .pointer (some (ad.add idx)), .int .u8 z, .int .u8 z, .int .i64 z, .int .i64 y, .int .i64 (r : Int), .bool true, v, .int .i64 (idx : Int), .int .i64 ((idx + 1 : Nat) : Int), .slice (some ⟨u.heap.size, 0, none⟩) 1 1, v', .int .i64 ((idx + 1 : Nat) : Int), (gs.getD 37 undef)] q1 (q2.trans hnew.os) (q3.trans hnew.output) (Nat.le_trans hsz q4) (fun g hg hv => (q5 g (by omega) hv).trans (hnew.block g hg)) (q6.imp id fun h g hg => Nat.le_trans hsz (h g hg)))
/-- The slots once the wants are laid. -/
noncomputable def cdAct (A : Option Addr) (n cap sb ob : Nat) (tot : Int) (v : Value) (r : Nat) (gs : List Value) : Act := ⟨List.toArray (.slice A n cap :: undef :: .bool false :: ptr sb :: ptr ob :: v :: .int .i64 tot :: undef :: (gs.getD 0 undef) :: (gs.getD 1 undef) :: (gs.getD 2 undef) :: (gs.getD 3 undef) :: .slice A n cap :: .int .i64 (n : Int) :: .bool false :: undef :: ptr sb :: ptr sb :: .slice A n cap :: .int .i64 (n : Int) :: .int .i64 (n : Int) :: (gs.getD 4 undef) :: (gs.getD 5 undef) :: (gs.getD 6 undef) :: (gs.getD 7 undef) :: (gs.getD 8 undef) :: (gs.getD 9 undef) :: (gs.getD 10 undef) :: (gs.getD 11 undef) :: (gs.getD 12 undef) :: (gs.getD 13 undef) :: (gs.getD 14 undef) :: (gs.getD 15 undef) :: (gs.getD 16 undef) :: .int .i64 (r : Int) :: (gs.getD 17 undef) :: (gs.getD 18 undef) :: (gs.getD 19 undef) :: (gs.getD 20 undef) :: (gs.getD 21 undef) :: (gs.getD 22 undef) :: (gs.getD 23 undef) :: (gs.getD 24 undef) :: (gs.getD 25 undef) :: (gs.getD 26 undef) :: (gs.getD 27 undef) :: (gs.getD 28 undef) :: (gs.getD 29 undef) :: (gs.getD 30 undef) :: (gs.getD 31 undef) :: (gs.getD 32 undef) :: (gs.getD 33 undef) :: (gs.getD 34 undef) :: (gs.getD 35 undef) :: (gs.getD 36 undef) :: (gs.getD 37 undef) :: undef :: undef :: undef :: undef :: undef :: undef :: undef :: undef :: undef :: undef :: undef :: undef :: undef :: undef :: undef :: undef :: undef :: undef :: undef :: []), [clDefer sb]⟩
theorem fair_d {main : Bool} {Z : Addr → Prop} {Stop : Goroutine → World → Prop} {w₀ u : World} {A : Option Addr} {n cap : Nat} {sb ob r : Nat} {tot : Int} {v : Value} {gs : List Value} (hr : 9 ≤ r) (hk : ∀ gs, OwnU Try.prog main Z Stop w₀ (aliveIn (((base 9).at (cdAct A n cap sb ob tot v r gs) (.inRegion (opsOf (sel [1, 1, 1, 1, 1, 1, 1, 1, 0] bodyCf)) (0 :: [1, 2, 3, 4, 5, 6, 7, 8, 9, 10, 11, 12, 13, 14, 15, 16, 17, 18, 19]) :: [.code .ret])) :: [])) u) : OwnU Try.prog main Z Stop w₀ (cwHead A n cap sb ob tot v r gs) u := by
  refine ownU_seq (x := sel [1, 1, 1, 1, 1, 1, 1, 0, 1, 4, 4, 0] bodyCf) (y := sel [1, 1, 1, 1, 1, 1, 1, 0, 1, 4, 4, 1] bodyCf) ?_
  refine ownU_region (id := 14) (ops := opsOf (sel [1, 1, 1, 1, 1, 1, 1, 0, 1, 4, 4, 0] bodyCf)) ?_
  refine ownU_quiet (i := 0) (rest := []) (.bool false) rfl (by rfl) rfl (by decide) (fun _ => lss_v (p := (r : Int)) (q := 9) rfl (by kernel_rfl) (by kernel_rfl) (by simp; omega)) ?_
  refine ownU_region_end ?_
  refine ownU_seq (x := sel [1, 1, 1, 1, 1, 1, 1, 0, 1, 4, 4, 1, 0] bodyCf) (y := sel [1, 1, 1, 1, 1, 1, 1, 0, 1, 4, 4, 1, 1] bodyCf) ?_
  refine ownU_cond (c := .tmp 35) (x := .skip) (y := .exit 2) (t := false) (by kernel_rfl) ?_
  refine ownU_exit (k' := [.code (sel [1, 1, 1, 1, 1, 1, 1, 1] bodyCf)]) rfl ?_
  refine ownU_lit (List.toArray (.slice A n cap :: undef :: .bool false :: ptr sb :: ptr ob :: v :: .int .i64 tot :: undef :: (gs.getD 0 undef) :: (gs.getD 1 undef) :: (gs.getD 2 undef) :: (gs.getD 3 undef) :: .slice A n cap :: .int .i64 (n : Int) :: .bool false :: undef :: ptr sb :: ptr sb :: .slice A n cap :: .int .i64 (n : Int) :: .int .i64 (n : Int) :: (gs.getD 4 undef) :: (gs.getD 5 undef) :: (gs.getD 6 undef) :: (gs.getD 7 undef) :: (gs.getD 8 undef) :: (gs.getD 9 undef) :: (gs.getD 10 undef) :: (gs.getD 11 undef) :: (gs.getD 12 undef) :: (gs.getD 13 undef) :: (gs.getD 14 undef) :: (gs.getD 15 undef) :: (gs.getD 16 undef) :: .int .i64 (r : Int) :: .bool false :: (gs.getD 18 undef) :: (gs.getD 19 undef) :: (gs.getD 20 undef) :: (gs.getD 21 undef) :: (gs.getD 22 undef) :: (gs.getD 23 undef) :: (gs.getD 24 undef) :: (gs.getD 25 undef) :: (gs.getD 26 undef) :: (gs.getD 27 undef) :: (gs.getD 28 undef) :: (gs.getD 29 undef) :: (gs.getD 30 undef) :: (gs.getD 31 undef) :: (gs.getD 32 undef) :: (gs.getD 33 undef) :: (gs.getD 34 undef) :: (gs.getD 35 undef) :: (gs.getD 36 undef) :: (gs.getD 37 undef) :: undef :: undef :: undef :: undef :: undef :: undef :: undef :: undef :: undef :: undef :: undef :: undef :: undef :: undef :: undef :: undef :: undef :: undef :: undef :: [])) [clDefer sb] (by kernel_rfl) (by kernel_rfl) ?_
  refine ownU_seq (x := sel [1, 1, 1, 1, 1, 1, 1, 1, 0] bodyCf) (y := .ret) ?_
  refine ownU_region (id := 23) (ops := opsOf (sel [1, 1, 1, 1, 1, 1, 1, 1, 0] bodyCf)) ?_
  refine ownU_enter (i := 0) (rest := [1, 2, 3, 4, 5, 6, 7, 8, 9, 10, 11, 12, 13, 14, 15, 16, 17, 18, 19]) (f := 34) rfl (by rfl) (by decide) rfl Try.func34 (by kernel_rfl) rfl ?_
  exact ownU_eq (by kernel_rfl) (hk [(gs.getD 0 undef), (gs.getD 1 undef), (gs.getD 2 undef), (gs.getD 3 undef), (gs.getD 4 undef), (gs.getD 5 undef), (gs.getD 6 undef), (gs.getD 7 undef), (gs.getD 8 undef), (gs.getD 9 undef), (gs.getD 10 undef), (gs.getD 11 undef), (gs.getD 12 undef), (gs.getD 13 undef), (gs.getD 14 undef), (gs.getD 15 undef), (gs.getD 16 undef), .bool false, (gs.getD 18 undef), (gs.getD 19 undef), (gs.getD 20 undef), (gs.getD 21 undef), (gs.getD 22 undef), (gs.getD 23 undef), (gs.getD 24 undef), (gs.getD 25 undef), (gs.getD 26 undef), (gs.getD 27 undef), (gs.getD 28 undef), (gs.getD 29 undef), (gs.getD 30 undef), (gs.getD 31 undef), (gs.getD 32 undef), (gs.getD 33 undef), (gs.getD 34 undef), (gs.getD 35 undef), (gs.getD 36 undef), (gs.getD 37 undef)])
noncomputable def ceAct (A : Option Addr) (n cap sb ob : Nat) (tot : Int) (v : Value) (r : Nat) (gs : List Value) : Act := ⟨List.toArray (.slice A n cap :: undef :: .bool false :: ptr sb :: ptr ob :: v :: .int .i64 tot :: undef :: (gs.getD 0 undef) :: (gs.getD 1 undef) :: (gs.getD 2 undef) :: (gs.getD 3 undef) :: .slice A n cap :: .int .i64 (n : Int) :: .bool false :: undef :: ptr sb :: ptr sb :: .slice A n cap :: .int .i64 (n : Int) :: .int .i64 (n : Int) :: (gs.getD 4 undef) :: (gs.getD 5 undef) :: (gs.getD 6 undef) :: (gs.getD 7 undef) :: (gs.getD 8 undef) :: (gs.getD 9 undef) :: (gs.getD 10 undef) :: (gs.getD 11 undef) :: (gs.getD 12 undef) :: (gs.getD 13 undef) :: (gs.getD 14 undef) :: (gs.getD 15 undef) :: (gs.getD 16 undef) :: .int .i64 (r : Int) :: (gs.getD 17 undef) :: (gs.getD 18 undef) :: (gs.getD 19 undef) :: (gs.getD 20 undef) :: (gs.getD 21 undef) :: (gs.getD 22 undef) :: (gs.getD 23 undef) :: (gs.getD 24 undef) :: (gs.getD 25 undef) :: (gs.getD 26 undef) :: (gs.getD 27 undef) :: (gs.getD 28 undef) :: (gs.getD 29 undef) :: (gs.getD 30 undef) :: (gs.getD 31 undef) :: (gs.getD 32 undef) :: (gs.getD 33 undef) :: (gs.getD 34 undef) :: (gs.getD 35 undef) :: (gs.getD 36 undef) :: (gs.getD 37 undef) :: .bool true :: .bool true :: ptr sb :: undef :: undef :: undef :: undef :: undef :: undef :: undef :: undef :: undef :: undef :: undef :: undef :: undef :: undef :: undef :: undef :: []), [clDefer sb]⟩
theorem fair_e {main : Bool} {Z : Addr → Prop} {Stop : Goroutine → World → Prop} {w₀ u : World} {A : Option Addr} {n cap : Nat} {sb ob r : Nat} {tot : Int} {v : Value} {gs : List Value} (hk : OwnU Try.prog main Z Stop w₀ (runIn sb (((base 9).at (ceAct A n cap sb ob tot v r gs) (.inRegion (opsOf (sel [1, 1, 1, 1, 1, 1, 1, 1, 0] bodyCf)) (3 :: [4, 5, 6, 7, 8, 9, 10, 11, 12, 13, 14, 15, 16, 17, 18, 19]) :: [.code .ret])) :: [])) u) : OwnU Try.prog main Z Stop w₀ (G ((base 9).at ((cdAct A n cap sb ob tot v r gs).put (((opsOf (sel [1, 1, 1, 1, 1, 1, 1, 1, 0] bodyCf))[0]?).bind (·.dst)) (.bool true)) (.inRegion (opsOf (sel [1, 1, 1, 1, 1, 1, 1, 1, 0] bodyCf)) [1, 2, 3, 4, 5, 6, 7, 8, 9, 10, 11, 12, 13, 14, 15, 16, 17, 18, 19] :: [.code .ret])) []) u := by
  refine ownU_quiet (i := 1) (rest := [2, 3, 4, 5, 6, 7, 8, 9, 10, 11, 12, 13, 14, 15, 16, 17, 18, 19]) (.bool true) rfl (by rfl) rfl (by decide) (fun _ => by kernel_rfl) ?_
  refine ownU_quiet (i := 2) (rest := [3, 4, 5, 6, 7, 8, 9, 10, 11, 12, 13, 14, 15, 16, 17, 18, 19]) (ptr sb) rfl (by kernel_rfl) rfl (by decide) (fun _ => by kernel_rfl) ?_
  refine ownU_lit (List.toArray (.slice A n cap :: undef :: .bool false :: ptr sb :: ptr ob :: v :: .int .i64 tot :: undef :: (gs.getD 0 undef) :: (gs.getD 1 undef) :: (gs.getD 2 undef) :: (gs.getD 3 undef) :: .slice A n cap :: .int .i64 (n : Int) :: .bool false :: undef :: ptr sb :: ptr sb :: .slice A n cap :: .int .i64 (n : Int) :: .int .i64 (n : Int) :: (gs.getD 4 undef) :: (gs.getD 5 undef) :: (gs.getD 6 undef) :: (gs.getD 7 undef) :: (gs.getD 8 undef) :: (gs.getD 9 undef) :: (gs.getD 10 undef) :: (gs.getD 11 undef) :: (gs.getD 12 undef) :: (gs.getD 13 undef) :: (gs.getD 14 undef) :: (gs.getD 15 undef) :: (gs.getD 16 undef) :: .int .i64 (r : Int) :: (gs.getD 17 undef) :: (gs.getD 18 undef) :: (gs.getD 19 undef) :: (gs.getD 20 undef) :: (gs.getD 21 undef) :: (gs.getD 22 undef) :: (gs.getD 23 undef) :: (gs.getD 24 undef) :: (gs.getD 25 undef) :: (gs.getD 26 undef) :: (gs.getD 27 undef) :: (gs.getD 28 undef) :: (gs.getD 29 undef) :: (gs.getD 30 undef) :: (gs.getD 31 undef) :: (gs.getD 32 undef) :: (gs.getD 33 undef) :: (gs.getD 34 undef) :: (gs.getD 35 undef) :: (gs.getD 36 undef) :: (gs.getD 37 undef) :: .bool true :: .bool true :: ptr sb :: undef :: undef :: undef :: undef :: undef :: undef :: undef :: undef :: undef :: undef :: undef :: undef :: undef :: undef :: undef :: undef :: [])) [clDefer sb] (by kernel_rfl) (by kernel_rfl) ?_
  refine ownU_enter (i := 3) (rest := [4, 5, 6, 7, 8, 9, 10, 11, 12, 13, 14, 15, 16, 17, 18, 19]) (f := 42) rfl (by kernel_rfl) (by decide) rfl Try.func42 (by kernel_rfl) rfl ?_
  exact ownU_eq (by kernel_rfl) hk
/-- CoroFair on its way out. -/
noncomputable def fairOutF (ts : Array Value) : Frame := { (base 9).at ⟨ts, []⟩ [.code .ret] with mode := .returning }
theorem fair_f {main : Bool} {Z : Addr → Prop} {Stop : Goroutine → World → Prop} {w₀ u : World} {A : Option Addr} {n cap : Nat} {sb ob r : Nat} {tot : Int} {v vo : Value} {gs : List Value} (hob : u.cell? ⟨ob, 0, none⟩ = some vo)
    (heq : ∀ A d, Calls Try.prog 17 #[vo, v] (tp u A d) fun e w' => e = .returned (.bool true) ∧ ∃ A d, w' = tp u A d)
    (hcnt : ∀ A d, Calls Try.prog 47 #[ptr sb, .int .i64 3] (tp u A d) fun e w' => e = .returned (.int .i64 (n : Int)) ∧ ∃ A d, w' = tp u A d)
    (hk : ∀ ts, ts.getD 2 undef = .bool true → OwnU Try.prog main Z Stop w₀ (closeIn .deferred sb [fairOutF ts]) u) : OwnU Try.prog main Z Stop w₀ (G ((base 9).at ((ceAct A n cap sb ob tot v r gs).put (((opsOf (sel [1, 1, 1, 1, 1, 1, 1, 1, 0] bodyCf))[3]?).bind (·.dst)) (.int .i64 tot)) (.inRegion (opsOf (sel [1, 1, 1, 1, 1, 1, 1, 1, 0] bodyCf)) [4, 5, 6, 7, 8, 9, 10, 11, 12, 13, 14, 15, 16, 17, 18, 19] :: [.code .ret])) []) u := by
  refine ownU_lit (List.toArray (.slice A n cap :: undef :: .bool false :: ptr sb :: ptr ob :: v :: .int .i64 tot :: undef :: (gs.getD 0 undef) :: (gs.getD 1 undef) :: (gs.getD 2 undef) :: (gs.getD 3 undef) :: .slice A n cap :: .int .i64 (n : Int) :: .bool false :: undef :: ptr sb :: ptr sb :: .slice A n cap :: .int .i64 (n : Int) :: .int .i64 (n : Int) :: (gs.getD 4 undef) :: (gs.getD 5 undef) :: (gs.getD 6 undef) :: (gs.getD 7 undef) :: (gs.getD 8 undef) :: (gs.getD 9 undef) :: (gs.getD 10 undef) :: (gs.getD 11 undef) :: (gs.getD 12 undef) :: (gs.getD 13 undef) :: (gs.getD 14 undef) :: (gs.getD 15 undef) :: (gs.getD 16 undef) :: .int .i64 (r : Int) :: (gs.getD 17 undef) :: (gs.getD 18 undef) :: (gs.getD 19 undef) :: (gs.getD 20 undef) :: (gs.getD 21 undef) :: (gs.getD 22 undef) :: (gs.getD 23 undef) :: (gs.getD 24 undef) :: (gs.getD 25 undef) :: (gs.getD 26 undef) :: (gs.getD 27 undef) :: (gs.getD 28 undef) :: (gs.getD 29 undef) :: (gs.getD 30 undef) :: (gs.getD 31 undef) :: (gs.getD 32 undef) :: (gs.getD 33 undef) :: (gs.getD 34 undef) :: (gs.getD 35 undef) :: (gs.getD 36 undef) :: (gs.getD 37 undef) :: .bool true :: .bool true :: ptr sb :: .int .i64 tot :: undef :: undef :: undef :: undef :: undef :: undef :: undef :: undef :: undef :: undef :: undef :: undef :: undef :: undef :: undef :: [])) [clDefer sb] (by kernel_rfl) (by kernel_rfl) ?_
  refine ownU_quiet (i := 4) (rest := [5, 6, 7, 8, 9, 10, 11, 12, 13, 14, 15, 16, 17, 18, 19]) (.int .i64 tot) rfl (by kernel_rfl) rfl (by decide) (fun _ => by kernel_rfl) ?_
  refine ownU_quiet (i := 5) (rest := [6, 7, 8, 9, 10, 11, 12, 13, 14, 15, 16, 17, 18, 19]) (.bool true) rfl (by kernel_rfl) rfl (by decide) (fun _ => eql_v (p := tot) (q := tot) rfl (by kernel_rfl) (by kernel_rfl) rfl) ?_
  refine ownU_quiet (i := 6) (rest := [7, 8, 9, 10, 11, 12, 13, 14, 15, 16, 17, 18, 19]) (.bool true) rfl (by kernel_rfl) rfl (by decide) (fun _ => by kernel_rfl) ?_
  refine ownU_quiet (i := 7) (rest := [8, 9, 10, 11, 12, 13, 14, 15, 16, 17, 18, 19]) (.bool true) rfl (by rfl) rfl (by decide) (fun _ => by kernel_rfl) ?_
  refine ownU_load (i := 8) (rest := [9, 10, 11, 12, 13, 14, 15, 16, 17, 18, 19]) ⟨ob, 0, none⟩ (vo) rfl (by kernel_rfl) (by decide) loads_ints rfl (by kernel_rfl) hob ?_
  refine ownU_quiet (i := 9) (rest := [10, 11, 12, 13, 14, 15, 16, 17, 18, 19]) (v) rfl (by kernel_rfl) rfl (by decide) (fun _ => by kernel_rfl) ?_
  refine ownU_callK (i := 10) (rest := [11, 12, 13, 14, 15, 16, 17, 18, 19]) (L := lone18) (R := fun e w' => e = .returned (.bool true) ∧ ∃ A d, w' = tp u A d) okL18 (by decide) rfl rfl (by kernel_rfl) (by kernel_rfl) (by decide) (fun A d => calls_eq (args' := #[vo, v]) (by kernel_rfl) (heq A d)) (fun e w h => ⟨_, h.1⟩) fun z u' hR => ?_
  obtain ⟨e, A1, d1, rfl⟩ := hR
  injection e with e
  subst e
  refine ownU_tp.2 ?_
  refine ownU_quiet (i := 11) (rest := [12, 13, 14, 15, 16, 17, 18, 19]) (.bool true) rfl (by kernel_rfl) rfl (by decide) (fun _ => by kernel_rfl) ?_
  refine ownU_quiet (i := 12) (rest := [13, 14, 15, 16, 17, 18, 19]) (.bool true) rfl (by rfl) rfl (by decide) (fun _ => by kernel_rfl) ?_
  refine ownU_quiet (i := 13) (rest := [14, 15, 16, 17, 18, 19]) (ptr sb) rfl (by kernel_rfl) rfl (by decide) (fun _ => by kernel_rfl) ?_
  refine ownU_callK (i := 14) (rest := [15, 16, 17, 18, 19]) (L := lone18) (R := fun e w' => e = .returned (.int .i64 (n : Int)) ∧ ∃ A d, w' = tp u A d) okL18 (by decide) rfl rfl (by kernel_rfl) (by kernel_rfl) (by decide) (fun A d => calls_eq (args' := #[ptr sb, .int .i64 3]) (by kernel_rfl) (hcnt A d)) (fun e w h => ⟨_, h.1⟩) fun z u' hR => ?_
  obtain ⟨e, A1, d1, rfl⟩ := hR
  injection e with e
  subst e
  refine ownU_tp.2 ?_
  refine ownU_quiet (i := 15) (rest := [16, 17, 18, 19]) (.slice A n cap) rfl (by kernel_rfl) rfl (by decide) (fun _ => by kernel_rfl) ?_
  refine ownU_quiet (i := 16) (rest := [17, 18, 19]) (.int .i64 (n : Int)) rfl (by kernel_rfl) rfl (by decide) (fun _ => by kernel_rfl) ?_
  refine ownU_quiet (i := 17) (rest := [18, 19]) (.bool true) rfl (by kernel_rfl) rfl (by decide) (fun _ => eql_v (p := (n : Int)) (q := (n : Int)) rfl (by kernel_rfl) (by kernel_rfl) rfl) ?_
  refine ownU_quiet (i := 18) (rest := [19]) (.bool true) rfl (by kernel_rfl) rfl (by decide) (fun _ => by kernel_rfl) ?_
  refine ownU_quiet (i := 19) (rest := []) (.bool true) rfl (by rfl) rfl (by decide) (fun _ => by kernel_rfl) ?_
  refine ownU_region_end ?_
  refine ownU_lit (List.toArray (.slice A n cap :: undef :: .bool true :: ptr sb :: ptr ob :: v :: .int .i64 tot :: undef :: (gs.getD 0 undef) :: (gs.getD 1 undef) :: (gs.getD 2 undef) :: (gs.getD 3 undef) :: .slice A n cap :: .int .i64 (n : Int) :: .bool false :: undef :: ptr sb :: ptr sb :: .slice A n cap :: .int .i64 (n : Int) :: .int .i64 (n : Int) :: (gs.getD 4 undef) :: (gs.getD 5 undef) :: (gs.getD 6 undef) :: (gs.getD 7 undef) :: (gs.getD 8 undef) :: (gs.getD 9 undef) :: (gs.getD 10 undef) :: (gs.getD 11 undef) :: (gs.getD 12 undef) :: (gs.getD 13 undef) :: (gs.getD 14 undef) :: (gs.getD 15 undef) :: (gs.getD 16 undef) :: .int .i64 (r : Int) :: (gs.getD 17 undef) :: (gs.getD 18 undef) :: (gs.getD 19 undef) :: (gs.getD 20 undef) :: (gs.getD 21 undef) :: (gs.getD 22 undef) :: (gs.getD 23 undef) :: (gs.getD 24 undef) :: (gs.getD 25 undef) :: (gs.getD 26 undef) :: (gs.getD 27 undef) :: (gs.getD 28 undef) :: (gs.getD 29 undef) :: (gs.getD 30 undef) :: (gs.getD 31 undef) :: (gs.getD 32 undef) :: (gs.getD 33 undef) :: (gs.getD 34 undef) :: (gs.getD 35 undef) :: (gs.getD 36 undef) :: (gs.getD 37 undef) :: .bool true :: .bool true :: ptr sb :: .int .i64 tot :: .int .i64 tot :: .bool true :: .bool true :: .bool true :: vo :: v :: .bool true :: .bool true :: .bool true :: ptr sb :: .int .i64 (n : Int) :: .slice A n cap :: .int .i64 (n : Int) :: .bool true :: .bool true :: [])) [clDefer sb] (by kernel_rfl) (by kernel_rfl) ?_
  refine ownU_ret ?_
  refine ownU_deferred (args := #[ptr sb]) (ca := #[]) (ds := []) (by simp) rfl Try.func36 (by kernel_rfl) rfl ?_
  exact ownU_eq (by kernel_rfl) (hk (List.toArray (.slice A n cap :: undef :: .bool true :: ptr sb :: ptr ob :: v :: .int .i64 tot :: undef :: (gs.getD 0 undef) :: (gs.getD 1 undef) :: (gs.getD 2 undef) :: (gs.getD 3 undef) :: .slice A n cap :: .int .i64 (n : Int) :: .bool false :: undef :: ptr sb :: ptr sb :: .slice A n cap :: .int .i64 (n : Int) :: .int .i64 (n : Int) :: (gs.getD 4 undef) :: (gs.getD 5 undef) :: (gs.getD 6 undef) :: (gs.getD 7 undef) :: (gs.getD 8 undef) :: (gs.getD 9 undef) :: (gs.getD 10 undef) :: (gs.getD 11 undef) :: (gs.getD 12 undef) :: (gs.getD 13 undef) :: (gs.getD 14 undef) :: (gs.getD 15 undef) :: (gs.getD 16 undef) :: .int .i64 (r : Int) :: (gs.getD 17 undef) :: (gs.getD 18 undef) :: (gs.getD 19 undef) :: (gs.getD 20 undef) :: (gs.getD 21 undef) :: (gs.getD 22 undef) :: (gs.getD 23 undef) :: (gs.getD 24 undef) :: (gs.getD 25 undef) :: (gs.getD 26 undef) :: (gs.getD 27 undef) :: (gs.getD 28 undef) :: (gs.getD 29 undef) :: (gs.getD 30 undef) :: (gs.getD 31 undef) :: (gs.getD 32 undef) :: (gs.getD 33 undef) :: (gs.getD 34 undef) :: (gs.getD 35 undef) :: (gs.getD 36 undef) :: (gs.getD 37 undef) :: .bool true :: .bool true :: ptr sb :: .int .i64 tot :: .int .i64 tot :: .bool true :: .bool true :: .bool true :: vo :: v :: .bool true :: .bool true :: .bool true :: ptr sb :: .int .i64 (n : Int) :: .slice A n cap :: .int .i64 (n : Int) :: .bool true :: .bool true :: [])) rfl)
end Go.Proofs.Ytolnmdanlggmhaa

/- CoroFair: who runs when, in rounds (plain). -/
namespace Go.Proofs.Ytolnmdanlggmhaa

/-- One round: those that have yields yet to do come again. -/
def fairDec (A : List (Nat × Nat)) : List (Nat × Nat) := (A.filter fun p => decide (1 ≤ p.2)).map fun p => (p.1, p.2 - 1)
theorem fairOut_round : ∀ (A B : List (Nat × Nat)) (N : Nat), A.length ≤ N → fairOut N (A ++ B) = A.map (·.1) ++ fairOut (N - A.length) (B ++ fairDec A)
  | [], B, N, _ => by simp [fairDec]
  | (i, 0) :: A, B, 0, h => by simp at h
  | (i, 0) :: A, B, N + 1, h => by
    have h' : A.length ≤ N := by simpa using h
    have e : fairOut (N + 1) ((i, 0) :: A ++ B) = i :: fairOut N (A ++ B) := by simp [fairOut]
    have e2 : fairDec ((i, 0) :: A) = fairDec A := by simp [fairDec]
    rw [e, e2, fairOut_round A B N h']
    simp
  | (i, r + 1) :: A, B, 0, h => by simp at h
  | (i, r + 1) :: A, B, N + 1, h => by
    have h' : A.length ≤ N := by simpa using h
    have e : fairOut (N + 1) ((i, r + 1) :: A ++ B) = i :: fairOut N (A ++ (B ++ [(i, r)])) := by simp [fairOut]
    have e2 : fairDec ((i, r + 1) :: A) = (i, r) :: fairDec A := by simp [fairDec]
    rw [e, e2, fairOut_round A (B ++ [(i, r)]) N h']
    simp
/-- Who is there in round s, with the yields that it has yet to do. -/
def fairAt (L : List (Nat × Nat)) (s : Nat) : List (Nat × Nat) := (L.filter fun p => decide (s ≤ p.2)).map fun p => (p.1, p.2 - s)
theorem fairAt_next (s : Nat) : ∀ L : List (Nat × Nat), fairDec (fairAt L s) = fairAt L (s + 1)
  | [] => rfl
  | (i, y) :: L => by
    have ih := fairAt_next s L
    unfold fairDec fairAt at *
    by_cases h : s ≤ y
    · by_cases h2 : s + 1 ≤ y
      · have h3 : 1 ≤ y - s := by omega
        simp only [List.filter_cons, h, h2, decide_true, if_true, List.map_cons, h3] at ih ⊢
        rw [ih]
        congr 1
      · have h3 : ¬ 1 ≤ y - s := by omega
        simp only [List.filter_cons, h, h2, decide_true, decide_false, if_true, List.map_cons, h3] at ih ⊢
        simpa using ih
    · have h2 : ¬ s + 1 ≤ y := by omega
      simp only [List.filter_cons, h, h2, decide_false] at ih ⊢
      simpa using ih
theorem fairMeas_dec : ∀ A : List (Nat × Nat), fairMeas (fairDec A) + A.length = fairMeas A
  | [] => rfl
  | (i, 0) :: A => by
    have ih := fairMeas_dec A
    have e2 : fairDec ((i, 0) :: A) = fairDec A := by simp [fairDec]
    rw [e2, fairMeas_cons]
    simp
    omega
  | (i, r + 1) :: A => by
    have ih := fairMeas_dec A
    have e2 : fairDec ((i, r + 1) :: A) = (i, r) :: fairDec A := by simp [fairDec]
    rw [e2, fairMeas_cons, fairMeas_cons]
    simp
    omega
/-- Who is there in round s. -/
def fairRow (L : List (Nat × Nat)) (s : Nat) : List Nat := (L.filter fun p => decide (s ≤ p.2)).map (·.1)
theorem fairAt_fst (L : List (Nat × Nat)) (s : Nat) : (fairAt L s).map (·.1) = fairRow L s := by
  unfold fairAt fairRow
  rw [List.map_map]
  rfl
theorem fairOut_rows (L : List (Nat × Nat)) : ∀ (k s N : Nat), (∀ p ∈ L, p.2 < s + k) → fairMeas (fairAt L s) ≤ N → fairOut N (fairAt L s) = (List.range' s k).flatMap (fairRow L)
  | 0, s, N, h, _ => by
    have : fairAt L s = [] := by
      unfold fairAt
      rw [List.map_eq_nil_iff, List.filter_eq_nil_iff]
      intro p hp
      have := h p hp
      simp; omega
    rw [this]
    cases N <;> simp [fairOut]
  | k + 1, s, N, h, hN => by
    have hl := fairMeas_len (fairAt L s)
    have hd := fairMeas_dec (fairAt L s)
    have e := fairOut_round (fairAt L s) [] N (by omega)
    rw [List.append_nil] at e
    rw [e, List.nil_append, fairAt_next, fairAt_fst, fairOut_rows L k (s + 1) _ (fun p hp => by have := h p hp; omega) (by rw [← fairAt_next]; omega)]
    simp [List.range'_succ]
/-- The coroutines, with their numbers. -/
def fairEnum : Nat → List Nat → List (Nat × Nat)
  | _, [] => []
  | s, y :: ys => (s, y) :: fairEnum (s + 1) ys
theorem fairAt_zero (L : List (Nat × Nat)) : fairAt L 0 = L := by
  unfold fairAt
  rw [List.filter_eq_self.2 (by simp)]
  simp
theorem fairEnum_snd : ∀ (ys : List Nat) (s : Nat) (p : Nat × Nat), p ∈ fairEnum s ys → p.2 ∈ ys
  | [], _, _, h => by cases h
  | y :: ys, s, p, h => by
    rcases List.mem_cons.1 h with rfl | h
    · exact List.mem_cons_self ..
    · exact List.mem_cons_of_mem _ (fairEnum_snd ys (s + 1) p h)
/-- THE LAW: who runs when is what the rounds say. -/
theorem fair_plain (ys : List Nat) (h : ∀ y ∈ ys, y < 9) : fairOut (fairMeas (fairEnum 0 ys)) (fairEnum 0 ys) = (List.range' 0 9).flatMap (fairRow (fairEnum 0 ys)) := by
  have := fairOut_rows (fairEnum 0 ys) 9 0 (fairMeas (fairEnum 0 ys)) (fun p hp => by have := h _ (fairEnum_snd ys 0 p hp); omega) (by rw [fairAt_zero]; exact Nat.le_refl _)
  rwa [fairAt_zero] at this
theorem fairEnum_snoc : ∀ (ys : List Nat) (s y : Nat), fairEnum s (ys ++ [y]) = fairEnum s ys ++ [(s + ys.length, y)]
  | [], s, y => by simp [fairEnum]
  | x :: ys, s, y => by
    simp only [List.cons_append, fairEnum, fairEnum_snoc ys (s + 1) y]
    congr 3
    simp; omega
theorem fairEnum_fst : ∀ (ys : List Nat) (s : Nat), (fairEnum s ys).map (·.1) = List.range' s ys.length
  | [], _ => rfl
  | y :: ys, s => by simp [fairEnum, fairEnum_fst ys (s + 1), List.range'_succ]
end Go.Proofs.Ytolnmdanlggmhaa

/- CoroFair: for every list of bytes the law returns true (its run, on whatever schedule). -/
namespace Go.Proofs.Ytolnmdanlggmhaa
open Go.RowKit Go.Maps Go.Conc
open Go.ConcN (upd upd_ne upd_same)

set_option maxRecDepth 100000
set_option maxHeartbeats 2000000

theorem ground_zero (W : World) : Ground [] 1 (fun _ => none) W := ⟨⟨by simp, fun r hr => (by cases hr)⟩, fun r hr => (by cases hr), fun x s h => (by cases h), fun x s r h => (by cases h), by omega, rfl⟩
theorem cell_same {w w' : World} {a : Addr} (h : w'.heap[a.block]? = w.heap[a.block]?) : w'.cell? a = w.cell? a := by
  unfold World.cell?
  rw [h]
theorem cell_notOdd {w : World} {a : Addr} {x : Value} (h : w.cell? a = some x) : ¬ Odd w.heap[a.block]? := by
  unfold World.cell? at h
  rintro (⟨_, _, e⟩ | ⟨_, _, e⟩) <;> rw [e] at h <;> cases h

section
variable {E : Env} {h : Nat} {own own' : Nat → Nat} {S S' : Sch} {ks ks' : List Kid} {FC FC' : List Row} {n : Nat} {Inb : Nat → Option Seat} {w w' : World} {ob : Nat} {q : List (Nat × Nat)}
/-- What was there before all is as it was. -/
theorem CI.old (C : CI E h own S ks FC n Inb w) (hF : E.FC0 = []) {a : Addr} {x : Value} (hx : E.W0.cell? a = some x) : (guardW FC w).cell? a = some x := by
  have hl := cell_lt hx
  have hr : ∀ r ∈ FC, r.b ≠ a.block := fun r hr e => by
    rcases C.sup r hr with h | h
    · rw [hF] at h; cases h
    · omega
  have e1 : w.heap[a.block]? = E.W0.heap[a.block]? := C.base.eq a.block hl (fun h => by have h' : E.W0.heap.size ≤ a.block := h; omega) (fun r hr' => by rw [hF] at hr'; cases hr')
  have hx1 : w.cell? a = some x := (cell_same e1).trans hx
  rw [cell_same (guard_same hr (cell_notOdd hx1)), hx1]
/-- A new block gets a tag. -/
theorem stp_new {u u' : World} {t b : Nat} (hlt : ∀ b, own b ≠ 0 → b < u.heap.size) (ho : u'.os = u.os) (hu : u'.output = u.output) (hs : u.heap.size ≤ u'.heap.size) (hb : ∀ i, i < u.heap.size → u'.heap[i]? = u.heap[i]?) (h1 : u.heap.size ≤ b) (h2 : b < u'.heap.size) : Stp (fun _ => False) own (retagC own t (· = b)) u u' := by
  refine ⟨ho, hu, hs, fun i hi _ => hb i hi, fun i hi => tag_ne fun e => ?_, fun i hz hn => ?_, fun i hn => ?_⟩
  · subst e; have := hlt _ hi; omega
  · by_cases e : i = b
    · omega
    · rw [tag_ne e] at hn; exact absurd hz hn
  · by_cases e : i = b
    · omega
    · rw [tag_ne e] at hn; have := hlt i hn; omega
theorem FJ.keep (J : FJ own S ks ob FC q w) (le : OLe own own') (s : Same8 own w w') (hF : ∀ r ∈ FC, r ∈ FC') : FJ own' S ks ob FC' q w' :=
  ⟨J.qs, J.nd, fun p hp => by obtain ⟨c, k, h1, h2, h3⟩ := J.act p hp; exact ⟨c, k, h1, h2, h3.keep le s hF⟩, J.rest⟩
theorem FJ.spawn {i y : Nat} {c : CoR} {k : Kid} (J : FJ own S ks ob FC q w) (hl : S.cos.length = i) (hkl : ks.length = i) (hq : ∀ p ∈ q, p.1 < i) (le : OLe own own') (s : Same8 own w w') (hF : ∀ r ∈ FC, r ∈ FC') (hsb : S'.sb = S.sb) (hc : S'.cos = S.cos ++ [c]) (hk : ks' = ks ++ [k]) (hqs : S'.qs = S.qs ++ [(i : Int) + 1]) (hfk : FK own' S.sb ob FC' w' c k y) : FJ own' S' ks' ob FC' (q ++ [(i, y)]) w' := by
  refine ⟨by rw [hqs, J.qs]; simp, ?_, fun p hp => ?_, fun j c0 k0 h1 h2 hn => ?_⟩
  · rw [List.map_append, List.nodup_append]
    refine ⟨J.nd, by simp, fun a ha b hb => ?_⟩
    obtain ⟨p, hp, rfl⟩ := List.mem_map.1 ha
    have := hq p hp
    simp at hb
    omega
  · rw [List.mem_append] at hp
    rcases hp with hp | hp
    · obtain ⟨c0, k0, h1, h2, h3⟩ := J.act p hp
      have := hq p hp
      refine ⟨c0, k0, ?_, ?_, by rw [hsb]; exact h3.keep le s hF⟩
      · rw [hc, List.getElem?_append_left (by omega)]; exact h1
      · rw [hk, List.getElem?_append_left (by omega)]; exact h2
    · simp at hp
      subst hp
      refine ⟨c, k, ?_, ?_, by rw [hsb]; exact hfk⟩
      · rw [hc, List.getElem?_append_right (by simp only; omega)]; simp [hl]
      · rw [hk, List.getElem?_append_right (by simp only; omega)]; simp [hkl]
  · have hne : j ∉ q.map (·.1) ∧ j ≠ i := by
      rw [List.map_append, List.mem_append] at hn
      exact ⟨fun h => hn (.inl h), fun e => hn (.inr (by simp [e]))⟩
    have hj : j < i := by
      have := (List.getElem?_eq_some_iff.1 h1).1
      rw [hc, List.length_append] at this
      simp at this
      omega
    rw [hc, List.getElem?_append_left (by omega)] at h1
    rw [hk, List.getElem?_append_left (by omega)] at h2
    exact J.rest j c0 k0 h1 h2 hne.1
end

/-- How often each yields. -/
def rests (zs : List Int) : List Nat := zs.map fun z => (z % 9).toNat
theorem rests_snoc (zs : List Int) (z : Int) : rests (zs ++ [z]) = rests zs ++ [(z % 9).toNat] := by simp [rests]
theorem rests_lt {zs : List Int} : ∀ y ∈ rests zs, y < 9 := fun y hy => by
  obtain ⟨z, _, rfl⟩ := List.mem_map.1 hy
  omega
theorem take_snoc {α : Type} {l : List α} {i : Nat} {x : α} (h : l[i]? = some x) : l.take (i + 1) = l.take i ++ [x] := by
  rw [List.take_add_one, h]; rfl
theorem fairMeas_le : ∀ (ys : List Nat) (s : Nat), (∀ y ∈ ys, y < 9) → fairMeas (fairEnum s ys) ≤ 9 * ys.length
  | [], s, _ => by simp [fairEnum, fairMeas]
  | y :: ys, s, h => by
    have h1 := h y (List.mem_cons_self ..)
    have h2 := fairMeas_le ys (s + 1) fun z hz => h z (List.mem_cons_of_mem _ hz)
    have e : fairEnum s (y :: ys) = (s, y) :: fairEnum (s + 1) ys := rfl
    rw [e, fairMeas_cons]
    simp only [List.length_cons]
    omega
theorem fairEnum_lt {ys : List Nat} {p : Nat × Nat} (h : p ∈ fairEnum 0 ys) : p.1 < ys.length := by
  have : p.1 ∈ (fairEnum 0 ys).map (·.1) := List.mem_map.2 ⟨p, h, rfl⟩
  rw [fairEnum_fst] at this
  simp [List.mem_range'] at this
  omega
theorem fairRow_snoc (L : List (Nat × Nat)) (i y s : Nat) : fairRow (L ++ [(i, y)]) s = fairRow L s ++ if s ≤ y then [i] else [] := by
  unfold fairRow
  rw [List.filter_append, List.map_append]
  by_cases h : s ≤ y <;> simp [h]
theorem fairEnum_len : ∀ (ys : List Nat) (s : Nat), (fairEnum s ys).length = ys.length
  | [], _ => rfl
  | y :: ys, s => by simp [fairEnum, fairEnum_len ys (s + 1)]
theorem fairRow_len (L : List (Nat × Nat)) (s : Nat) : (fairRow L s).length ≤ L.length := by
  unfold fairRow
  rw [List.length_map]
  exact List.length_filter_le _ _

/-- What is known of the argument. -/
def ArgAt (u : World) (A : Option Addr) (zs : List Int) : Prop := ∀ (i : Nat) z, zs[i]? = some z → ∃ ad, A = some ad ∧ u.cell? (ad.add i) = some (.int .u8 z)

section
variable {Post : Value → World → Prop} {E : Env} {A : Option Addr} {n cap ob nn : Nat} {zs : List Int}
/-- THE LOOP THAT SPAWNS. -/
theorem fair_spawns (hF : E.FC0 = []) (hn : n ≤ 20) (hzl : zs.length = n) (hA : ArgAt E.W0 A zs) (hz : ∀ z ∈ zs, 0 ≤ z ∧ z < 256) : ∀ (N idx : Nat) {own : Nat → Nat} {S : Sch} {ks : List Kid} {FC : List Row} {Inb : Nat → Option Seat} {w : World} {g : Goroutine}, N + idx = n →
    CI E 0 own S ks FC nn Inb w → S.fr = 0 → S.closed = false → S.cos.length = idx → (∀ k ∈ ks, k.tag = 0) → OrdAt own ob [] w → FJ own S ks ob FC (fairEnum 0 (rests (zs.take idx))) w → AtCf g A n cap S.sb ob (fairMeas (fairEnum 0 (rests (zs.take idx))) : Nat) idx →
    (∀ own' S' ks' FC' w' g', CI E 0 own' S' ks' FC' nn Inb w' → S'.fr = 0 → S'.closed = false → S'.cos.length = n → (∀ k ∈ ks', k.tag = 0) → OrdAt own' ob [] w' → FJ own' S' ks' ob FC' (fairEnum 0 (rests zs)) w' → AtCf g' A n cap S'.sb ob (fairMeas (fairEnum 0 (rests zs)) : Nat) n → Won Try.prog Post FC' nn Inb 0 g' w') → Won Try.prog Post FC nn Inb 0 g w
  | 0, idx, own, S, ks, FC, Inb, w, g, hN, C, hfr, hcl, hl, hk, ho, J, hg, next => by
    obtain rfl : idx = n := by omega
    have e : zs.take idx = zs := List.take_of_length_le (by omega)
    rw [e] at J hg
    exact next own S ks FC w g C hfr hcl hl hk ho J hg
  | N + 1, idx, own, S, ks, FC, Inb, w, g, hN, C, hfr, hcl, hl, hk, ho, J, hg, next => by
    have hidx : idx < n := by omega
    obtain ⟨z, hzi⟩ : ∃ z, zs[idx]? = some z := ⟨_, List.getElem?_eq_getElem (by omega)⟩
    obtain ⟨ad, hA1, hA2⟩ := hA idx z hzi
    have hzb := hz z (List.mem_of_getElem? hzi)
    have hyl : (rests (zs.take idx)).length = idx := by simp [rests]; omega
    have hml := fairMeas_le (rests (zs.take idx)) 0 rests_lt
    rw [hyl] at hml
    have het : rests (zs.take (idx + 1)) = rests (zs.take idx) ++ [(z % 9).toNat] := by rw [take_snoc hzi, rests_snoc]
    have hee : fairEnum 0 (rests (zs.take (idx + 1))) = fairEnum 0 (rests (zs.take idx)) ++ [(idx, (z % 9).toNat)] := by rw [het, fairEnum_snoc, hyl]; simp
    have hem : (fairMeas (fairEnum 0 (rests (zs.take (idx + 1)))) : Int) = (fairMeas (fairEnum 0 (rests (zs.take idx))) : Int) + (z % 9 + 1) := by rw [hee, fairMeas_snoc]; simp only; omega
    have hlt : ∀ p ∈ fairEnum 0 (rests (zs.take idx)), p.1 < idx := fun p hp => by have := fairEnum_lt hp; omega
    have hgs : (guardW FC w).heap.size = w.heap.size := by simp [guardW]
    refine win_own C.fi.wf (hg fun p8 p21 p22 p23 p24 p25 p26 p27 p28 p29 p30 p31 p32 p33 => fair_spawn hA1 hidx (C.old hF hA2) hzb rfl (wrap_id (by omega) (by omega)) (wrap_id (by omega) (by omega)) fun kb hkb p32 p33 => ownU_stop fun w1 hs hkp => ?_)
    rw [← hem] at *
    have hkbn := kb_new (guardW FC w) z
    rw [hkb] at hkbn
    have hsz : (((guardW FC w).alloc (.cells #[.int .u8 0] 5)).setCell ⟨kb, 0, none⟩ (.int .u8 z)).heap.size = w.heap.size + 1 := by rw [setCell_size, World.size_alloc, hgs]
    have st1 : Stp (fun _ => False) own (retagC own 8 (· = kb)) (guardW FC w) (((guardW FC w).alloc (.cells #[.int .u8 0] 5)).setCell ⟨kb, 0, none⟩ (.int .u8 z)) :=
      stp_new C.ltG rfl rfl (by omega) (fun b hb => by rw [setCell_get, if_neg (by simp only; omega)]; exact Below.heap_alloc _ _ _ hb) (by omega) (by omega)
    have fi1 : FI (retagC own 8 (· = kb)) S FC := C.fi.stp st1 fun r hr => by rw [hgs]; exact C.rows r hr
    obtain ⟨a1, C1⟩ := C.step hs hkp st1 (fun h => h) (C.siG.stp st1 fun t h => h.elim) fi1 rfl rfl (fun i c h => ⟨c, h, rfl, rfl⟩)
    have h8 : retagC own 8 (· = kb) kb = 8 := tag_eq rfl
    have s1 : Same6 own w w1 := same6_step a1 fi1 st1 (fun _ h => h.elim) C.lw C.fi
    have hkb1 : KbAt (retagC own 8 (· = kb)) kb z w1 := ⟨h8, (a1.eq kb (by omega) (fi1.ne (by omega) (by omega) (by omega))).trans hkbn⟩
    have ho1 := ho.same6 st1.le s1
    have J1 := J.keep st1.le s1.s8 (fun _ h => h)
    generalize retagC own 8 (· = kb) = own1 at *
    clear hs hkp a1 st1 s1
    refine spawn_won (fn := .func 45) (fi := #[]) (ca := #[ptr kb, ptr ob]) C1 hcl (by omega) (fun hm => ?_) ?_ fun own2 v2 c1 FC2 w2 hf1 hb1 hs1 hx1 C2 le2 s2 hsub2 => ?_
    · rw [J.qs] at hm
      obtain ⟨p, hp, e⟩ := List.mem_map.1 hm
      have := hlt p hp
      omega
    · have : S.qs.length = idx := by rw [J.qs, List.length_map, fairEnum_len, hyl]
      omega
    rw [hl] at C2 ⊢
    have J2 := J1.spawn (S' := { S with v := v2, cos := S.cos ++ [c1], qs := S.qs ++ [(idx : Int) + 1] }) (c := c1) (k := ⟨0, 0, default⟩) (y := (z % 9).toNat) hl (by rw [C.len, hl]) hlt le2 s2.s8 hsub2 rfl rfl rfl rfl (.inl ⟨rfl, kb, z, hf1, hkb1.keep le2 s2.s8, hzb, by omega⟩)
    rw [← hee] at J2
    have ho2 := ho1.same6 le2 s2
    refine fair_spawns hF hn hzl hA hz N (idx + 1) (by omega) C2 hfr hcl (by simp [hl]) (fun k hk' => ?_) ho2 J2 (fair_spawned (wrap_id (by omega) (by omega))) next
    rcases List.mem_append.1 hk' with h | h
    · exact hk k h
    · simp at h; rw [h]
end

section
variable {main : Bool} {Z : Addr → Prop} {Stop : Goroutine → World → Prop} {w₀ u0 : World} {A : Option Addr} {n cap sb ob : Nat} {tot : Int} {zs : List Int}
theorem New.after {u u2 : World} {v : Value} (h : New u0 u) (hv : ∀ g, v.ownBlock = some g → u0.heap.size ≤ g) (h1 : u2.os = u.os) (h2 : u2.output = u.output) (h3 : u.heap.size ≤ u2.heap.size) (h4 : ∀ g, g < u.heap.size → v.ownBlock ≠ some g → u2.heap[g]? = u.heap[g]?) : New u0 u2 :=
  ⟨h1.trans h.os, h2.trans h.output, Nat.le_trans h.size h3, fun b hb => (h4 b (Nat.lt_of_lt_of_le hb h.size) fun e => by have := hv b e; omega).trans (h.block b hb)⟩
/-- One row of the wants. -/
theorem want_row (hn : n ≤ 20) (hzl : zs.length = n) (hA : ArgAt u0 A zs) (hz : ∀ z ∈ zs, 0 ≤ z ∧ z < 256) {r : Nat} {L : List Nat} (hL : L.length ≤ 1000) : ∀ (N idx : Nat) {u : World} {v : Value} {gs : List Value}, N + idx = n → New u0 u → QRow u v ((L ++ fairRow (fairEnum 0 (rests (zs.take idx))) r).map idv) → (∀ g, v.ownBlock = some g → u0.heap.size ≤ g) → r < 9 →
    (∀ u' v' gs', New u0 u' → QRow u' v' ((L ++ fairRow (fairEnum 0 (rests zs)) r).map idv) → (∀ g, v'.ownBlock = some g → u0.heap.size ≤ g) → OwnU Try.prog main Z Stop w₀ (cwHead A n cap sb ob tot v' (r + 1) gs') u') → OwnU Try.prog main Z Stop w₀ (ciHead A n cap sb ob tot v r idx gs) u
  | 0, idx, u, v, gs, hN, hnew, hrow, hv, hr, next => by
    obtain rfl : idx = n := by omega
    have e : zs.take idx = zs := List.take_of_length_le (by omega)
    rw [e] at hrow
    exact want_out (Nat.le_refl _) (wrap_id (by omega) (by omega)) fun gs' => next u v gs' hnew hrow hv
  | N + 1, idx, u, v, gs, hN, hnew, hrow, hv, hr, next => by
    have hidx : idx < n := by omega
    obtain ⟨z, hzi⟩ : ∃ z, zs[idx]? = some z := ⟨_, List.getElem?_eq_getElem (by omega)⟩
    obtain ⟨ad, hA1, hA2⟩ := hA idx z hzi
    have hzb := hz z (List.mem_of_getElem? hzi)
    have hyl : (rests (zs.take idx)).length = idx := by simp [rests]; omega
    have hee : fairEnum 0 (rests (zs.take (idx + 1))) = fairEnum 0 (rests (zs.take idx)) ++ [(idx, (z % 9).toNat)] := by rw [take_snoc hzi, rests_snoc, fairEnum_snoc, hyl]; simp
    have hrl := fairRow_len (fairEnum 0 (rests (zs.take idx))) r
    rw [fairEnum_len, hyl] at hrl
    by_cases hry : (r : Int) ≤ z % 9
    · refine want_yes hA1 hidx (hnew.cell hA2) hzb rfl (wrap_id (by omega) (by omega)) hry hrow (by rw [List.length_map, List.length_append]; omega) fun v' u2 gs' q1 q2 q3 q4 q5 q6 => ?_
      refine want_row hn hzl hA hz hL N (idx + 1) (by omega) (hnew.after hv q2 q3 q4 q5) ?_ (fun g hg => ?_) hr next
      · rw [hee, fairRow_snoc, if_pos (by omega), ← List.append_assoc, List.map_append]
        exact q1
      · rcases q6 with e | e
        · exact hv g (by rw [← e]; exact hg)
        · have := e g hg; have := hnew.size; omega
    · refine want_no hA1 hidx (hnew.cell hA2) hzb rfl (wrap_id (by omega) (by omega)) (by omega) fun gs' => ?_
      refine want_row hn hzl hA hz hL N (idx + 1) (by omega) hnew ?_ hv hr next
      rw [hee, fairRow_snoc, if_neg (by omega), List.append_nil]
      exact hrow
def fairWant (Q : List (Nat × Nat)) (r : Nat) : List Nat := (List.range r).flatMap (fairRow Q)
theorem fairWant_succ (Q : List (Nat × Nat)) (r : Nat) : fairWant Q (r + 1) = fairWant Q r ++ fairRow Q r := by
  unfold fairWant
  rw [List.range_succ, List.flatMap_append]
  simp
theorem fairWant_len (Q : List (Nat × Nat)) : ∀ r, (fairWant Q r).length ≤ Q.length * r
  | 0 => by simp [fairWant]
  | r + 1 => by
    have h1 := fairWant_len Q r
    have h2 := fairRow_len Q r
    rw [fairWant_succ, List.length_append, Nat.mul_succ]
    omega
/-- ALL THE WANTS. -/
theorem want_rows (hn : n ≤ 20) (hzl : zs.length = n) (hA : ArgAt u0 A zs) (hz : ∀ z ∈ zs, 0 ≤ z ∧ z < 256) : ∀ (R r : Nat) {u : World} {v : Value} {gs : List Value}, R + r = 9 → New u0 u → QRow u v ((fairWant (fairEnum 0 (rests zs)) r).map idv) → (∀ g, v.ownBlock = some g → u0.heap.size ≤ g) →
    (∀ u' v' gs', New u0 u' → QRow u' v' ((fairWant (fairEnum 0 (rests zs)) 9).map idv) → (∀ g, v'.ownBlock = some g → u0.heap.size ≤ g) → OwnU Try.prog main Z Stop w₀ (cwHead A n cap sb ob tot v' 9 gs') u') → OwnU Try.prog main Z Stop w₀ (cwHead A n cap sb ob tot v r gs) u
  | 0, r, u, v, gs, hN, hnew, hrow, hv, next => by
    obtain rfl : r = 9 := by omega
    exact next u v gs hnew hrow hv
  | R + 1, r, u, v, gs, hN, hnew, hrow, hv, next => by
    have hl := fairWant_len (fairEnum 0 (rests zs)) r
    have hyl : (rests zs).length = n := by simp [rests, hzl]
    rw [fairEnum_len, hyl] at hl
    have hl2 : n * r ≤ 20 * 9 := Nat.mul_le_mul hn (by omega)
    refine want_in (by omega) fun gs' => want_row hn hzl hA hz (L := fairWant (fairEnum 0 (rests zs)) r) (by omega) n 0 (by omega) hnew (by simpa [rests, fairEnum, fairRow] using hrow) hv (by omega) fun u' v' gs' h1 h2 h3 => ?_
    refine want_rows hn hzl hA hz R (r + 1) (by omega) h1 ?_ h3 next
    rw [fairWant_succ]
    exact h2
end

/-- THE LAW. -/
theorem law_fair (A : Option Addr) (n cap : Nat) (zs : List Int) (W : World) (hW : IsRow .u8 W A n cap zs) : ∃ M last o w' t', runNT Try.prog (M + 1) (solo (G (Frame.enter Try.prog 9 #[.slice A n cap] .normal) []) W) #[] = (.ended o w', t') ∧
    runN Try.prog M (solo (G (Frame.enter Try.prog 9 #[.slice A n cap] .normal) []) W) = .next last ∧ step Try.prog last = .ended o w' ∧ Conc.Good Try.prog (LawPost W) last o w' t' := by
  have e : G (Frame.enter Try.prog 9 #[.slice A n cap] .normal) [] = fairIn A n cap := by kernel_rfl
  rw [e]
  clear e
  refine wins_start ?_
  have H := ground_zero W
  by_cases hn : 20 < n
  · refine win_own H.wf (fair_long hn (ownU_stop fun w1 hs hkp => ?_))
    obtain ⟨H1, ex1⟩ := ground_own H hs hkp (New.refl _)
    clear hs hkp
    refine alive_won H1 fun FC4 n4 w4 H4 hsub4 hsup4 ex4 hn4 => ?_
    refine win_own H4.wf (fair_long2 fun ts k h2 => ownU_stop fun w5 hs hkp => ?_)
    obtain ⟨H5, ex5⟩ := ground_own H4 hs hkp (New.refl _)
    refine won_end Try.func9 (t := 2) rfl (by kernel_rfl) (fun i hi => rfl) h2 ?_
    have hsz1 := ex1.size
    have hsz4 := ex4.size
    refine Ext.below (B := W.heap.size) (((ext_none ex1 fun b _ h => h).then (O := fun b => W.heap.size ≤ b) ex4 (fun b hb h => ?_) (fun r hr => hr) (fun r hr => .inl hr)).then (O := fun b => W.heap.size ≤ b) ex5 (fun b hb h => ?_) (fun r hr => hsub4 r hr) (fun r hr => ?_)) (Nat.le_refl _)
    · have h' : w1.heap.size ≤ b := h; omega
    · have h' : w4.heap.size ≤ b := h; omega
    · rcases hsup4 r hr with h | h
      · exact .inl h
      · exact .inr (by omega)
  have hn' : n ≤ 20 := by omega
  -- the argument
  obtain ⟨zs', hzl, hA, hz⟩ : ∃ zs' : List Int, zs'.length = n ∧ ArgAt W A zs' ∧ ∀ z ∈ zs', 0 ≤ z ∧ z < 256 := by
    rcases hW with ⟨_, rfl, _, _⟩ | ⟨x, rfl, h1, h2, h3, h4, h5⟩
    · exact ⟨[], rfl, fun i z h => by simp at h, fun z h => by cases h⟩
    · refine ⟨zs.take n, by rw [List.length_take]; omega, fun i z hi => ⟨x, rfl, ?_⟩, fun z hz => ?_⟩
      · rw [List.getElem?_take] at hi
        split at hi
        · have hil := (List.getElem?_eq_some_iff.1 hi).1
          rw [h4 i hil, List.getD_eq_getElem?_getD, hi]
          rfl
        · cases hi
      · have := h5 z (List.mem_of_mem_take hz)
        simp [Lit.wf, IntKind.min, IntKind.max, IntKind.signed, IntKind.bits] at this
        omega
  clear hW
  refine win_own H.wf (fair_a hn' (ownU_stop fun w1 hs hkp => ?_))
  obtain ⟨H1, ex1⟩ := ground_own H hs hkp (New.refl _)
  clear hs hkp
  have hA1 : ArgAt w1 A zs' := fun i z hi => by
    obtain ⟨ad, h1, h2⟩ := hA i z hi
    have hl := cell_lt h2
    exact ⟨ad, h1, (cell_same (ex1.eq _ hl (fun h => by have h' : W.heap.size ≤ (ad.add i).block := h; omega) (fun r hr => by cases hr))).trans h2⟩
  refine new_won H1 fun own sb qb sc FC1 w2 C2 hall hsub1 => ?_
  -- order's box
  have hgs : (guardW FC1 w2).heap.size = w2.heap.size := by simp [guardW]
  refine win_own C2.fi.wf (fair_b (sb := sb) fun ob hob p8 p21 p22 p23 p24 p25 p26 p27 p28 p29 p30 p31 p32 p33 => ownU_stop fun w3 hs hkp => ?_)
  rw [hgs] at hob
  have st3 : Stp (fun _ => False) own (retagC own 6 (· = ob)) (guardW FC1 w2) ((guardW FC1 w2).alloc (.cells #[.slice none 0 0] 22)) :=
    stp_new C2.ltG rfl rfl (by rw [World.size_alloc]; omega) (fun b hb => Below.heap_alloc _ _ _ hb) (by omega) (by rw [World.size_alloc]; omega)
  have fi3 : FI (retagC own 6 (· = ob)) (emptyS sb qb sc) FC1 := C2.fi.stp st3 fun r hr => by rw [hgs]; exact C2.rows r hr
  have hblk : ((guardW FC1 w2).alloc (.cells #[.slice none 0 0] 22)).heap[ob]? = some (.cells #[.slice none 0 0] 22 (0, 0)) := alloc_new' _ _ (by rw [hgs, hob])
  obtain ⟨a3, C3⟩ := C2.step hs hkp st3 (fun h => h) (C2.siG.stp st3 fun t h => h.elim) fi3 rfl rfl (fun i c h => ⟨c, h, rfl, rfl⟩)
  have h6 : retagC own 6 (· = ob) ob = 6 := tag_eq rfl
  have ho3 : OrdAt (retagC own 6 (· = ob)) ob [] w3 := by
    refine ⟨⟨.slice none 0 0, ?_, QRow.nil _, fun g hg => (by cases hg)⟩, h6⟩
    rw [a3.eq ob (by rw [h6]; omega) (fi3.ne (by rw [h6]; omega) (by rw [h6]; omega) (by rw [h6]; omega))]
    exact hblk
  generalize retagC own 6 (· = ob) = own3 at *
  clear hs hkp a3 st3
  -- the coroutines
  refine fair_spawns (zs := zs') rfl hn' hzl hA1 hz n 0 (by omega) C3 rfl rfl rfl (fun k hk => by cases hk) ho3 ⟨rfl, by simp [fairEnum, rests], fun p hp => (by cases hp), fun i c k hc => (by simp [emptyS] at hc)⟩ (fun hk => hk _ _ _ _ _ _ _ _ _ _ _ _ _ _) fun own4 S4 ks4 FC4 w4 g4 C4 hfr4 hcl4 hl4 hk4 ho4 J4 hg4 => ?_
  have hyl : (rests zs').length = n := by simp [rests, hzl]
  have hN := fairMeas_le (rests zs') 0 rests_lt
  rw [hyl] at hN
  have hA4 : ArgAt (guardW FC4 w4) A zs' := fun i z hi => by
    obtain ⟨ad, h1, h2⟩ := hA1 i z hi
    exact ⟨ad, h1, C4.old rfl h2⟩
  -- the wants
  have hgs4 : (guardW FC4 w4).heap.size = w4.heap.size := by simp [guardW]
  refine win_own C4.fi.wf (hg4 fun p8 p21 p22 p23 p24 p25 p26 p27 p28 p29 p30 p31 p32 p33 => fair_c rfl fun gs => want_rows hn' hzl hA4 hz 9 0 (by omega) (New.refl _) (by simpa [fairWant] using QRow.nil _) (fun g hg => by cases hg) fun u5 v gs5 hnew5 hrow5 hv5 => fair_d (by omega) fun gs6 => ownU_stop fun w5 hs hkp => ?_)
  have hpl := fair_plain (rests zs') rests_lt
  have hw9 : fairWant (fairEnum 0 (rests zs')) 9 = fairOut (fairMeas (fairEnum 0 (rests zs'))) (fairEnum 0 (rests zs')) := by rw [hpl]; unfold fairWant; rw [List.range_eq_range']
  rw [hw9] at hrow5
  have hwl : (fairOut (fairMeas (fairEnum 0 (rests zs'))) (fairEnum 0 (rests zs'))).length ≤ 180 := by
    rw [← hw9]
    have := fairWant_len (fairEnum 0 (rests zs')) 9
    rw [fairEnum_len, hyl] at this
    omega
  have st5 : Stp (fun _ => False) own4 (retagC own4 9 (fun b => v.ownBlock = some b)) (guardW FC4 w4) u5 := by
    refine ⟨hnew5.os, hnew5.output, hnew5.size, fun b hb _ => hnew5.block b hb, fun b hb => retagC_out fun e => ?_, fun b hz hb => ?_, fun b hb => ?_⟩
    · have := hv5 b e; have := C4.ltG b hb; omega
    · by_cases e : v.ownBlock = some b
      · exact hv5 b e
      · rw [retagC_out e] at hb; exact absurd hz hb
    · by_cases e : v.ownBlock = some b
      · exact hrow5.lt b e
      · rw [retagC_out e] at hb; have := C4.ltG b hb; have := hnew5.size; omega
  have fi5 : FI (retagC own4 9 (fun b => v.ownBlock = some b)) S4 FC4 := C4.fi.stp st5 fun r hr => by rw [hgs4]; exact C4.rows r hr
  obtain ⟨a5, C5⟩ := C4.step hs hkp st5 (fun h => h) (C4.siG.stp st5 fun t h => h.elim) fi5 rfl rfl (fun i c h => ⟨c, h, rfl, rfl⟩)
  have s5 : Same6 own4 w4 w5 := same6_step a5 fi5 st5 (fun _ h => h.elim) C4.lw C4.fi
  have hv9 : ∀ g, v.ownBlock = some g → retagC own4 9 (fun b => v.ownBlock = some b) g = 9 := fun g hg => retagC_in hg
  have hrow : QRow w5 v ((fairOut (fairMeas (fairEnum 0 (rests zs'))) (fairEnum 0 (rests zs'))).map idv) := hrow5.keep fun g hg => a5.eq g (by rw [hv9 g hg]; omega) (fi5.ne (by rw [hv9 g hg]; omega) (by rw [hv9 g hg]; omega) (by rw [hv9 g hg]; omega))
  have ho5 := ho4.same6 st5.le s5
  have J5 := J4.keep st5.le s5.s8 (fun _ h => h)
  generalize retagC own4 9 (fun b => v.ownBlock = some b) = own5 at *
  clear hs hkp a5 st5 s5 hw9 hpl hrow5 hnew5 hv5 ho4 J4
  -- alive
  obtain ⟨H5, hf5⟩ := C5.ends (fun k hk => by rw [hk4 k hk]; omega) rfl
  rw [hf5] at H5
  refine alive_won H5 fun FC6 n6 w6 H6 hsub6 hsup6 ex6 hn6 => ?_
  refine won_kf fun hK6 => ?_
  obtain ⟨C6, s6⟩ := C5.over H6 hsub6 hsup6 ex6 hK6 hn6
  have ho6 := ho5.same6 (OLe.refl _) s6
  have J6 := J5.keep (OLe.refl _) s6.s8 hsub6
  have hrow6 := hrow.keep (w' := w6) fun g hg => s6 g (by rw [hv9 g hg]; omega)
  -- Run
  refine win_own C6.fi.wf (fair_e (ownU_stop fun w7 hs hkp => ?_))
  obtain ⟨C7, s7⟩ := C6.rest0 hs hkp
  have ho7 := ho6.same6 (OLe.refl _) s7
  have J7 := J6.keep (OLe.refl _) s7.s8 (fun _ h => h)
  have hrow7 := hrow6.keep (w' := w7) fun g hg => s7 g (by rw [hv9 g hg]; omega)
  clear hs hkp
  refine fair_laps (fairMeas (fairEnum 0 (rests zs'))) C7 J7 rfl hcl4 (by omega) ho7 (by simp; omega) (by omega) (by omega) atHead_in fun own8 S8 ks8 FC8 n8 Inb8 w8 C8 hsb8 hcl8 hl8 hst8 hk8 hn8 hsub8 ho8 le8 s8 => ?_
  rw [Int.zero_add]
  have hrow8 := hrow7.keep (w' := w8) fun g hg => s8 g (by rw [hv9 g hg]; omega)
  -- what it returns
  have hoG := ho8.keep (w' := guardW FC8 w8) (OLe.refl _) fun b hb => C8.agr.eq b (by omega) (C8.fi.ne (by omega) (by omega) (by omega))
  have hv8 : ∀ g, v.ownBlock = some g → own8 g = 9 := fun g hg => le8.tag (hv9 g hg) (by omega)
  have hrowG : QRow (guardW FC8 w8) v ((fairOut (fairMeas (fairEnum 0 (rests zs'))) (fairEnum 0 (rests zs'))).map idv) := hrow8.keep fun g hg => C8.agr.eq g (by rw [hv8 g hg]; omega) (C8.fi.ne (by rw [hv8 g hg]; omega) (by rw [hv8 g hg]; omega) (by rw [hv8 g hg]; omega))
  obtain ⟨⟨vo, hbox, hrowo, _⟩, _⟩ := hoG
  have eiv : ∀ L : List Nat, L.map idv = ivs (L.map fun i : Nat => (i : Int) + 1) := fun L => by unfold ivs; rw [List.map_map]; rfl
  rw [List.nil_append, eiv] at hrowo
  rw [eiv] at hrowG
  have heq : ∀ B d, Calls Try.prog 17 #[vo, v] (tp (guardW FC8 w8) B d) fun e w' => e = .returned (.bool true) ∧ ∃ A d, w' = tp (guardW FC8 w8) A d := fun B d => by
    obtain ⟨A1, c1, hv1, _, _⟩ := hrowo.slice
    obtain ⟨A2, c2, hv2, _, _⟩ := hrowG.slice
    rw [hv1] at hrowo
    rw [hv2] at hrowG
    rw [hv1, hv2]
    exact (equal_u hrowo hrowG.rd (by simp; omega) (by simp; omega) B d).mono fun e w' h => by simpa using h
  have hcnt : ∀ B d, Calls Try.prog 47 #[ptr S4.sb, .int .i64 3] (tp (guardW FC8 w8) B d) fun e w' => e = .returned (.int .i64 (n : Int)) ∧ ∃ A d, w' = tp (guardW FC8 w8) A d := fun B d => by
    have hall : cntOf 3 S8.cos = n := by
      unfold cntOf
      rw [List.countP_eq_length.2 fun c hc => by simp [hst8 c hc], hl8, hl4]
    have := count_u C8.siG 3 (by omega) B d
    rw [hall] at this
    rw [← hsb8]
    exact this
  refine win_own C8.fi.wf (fair_f (blk_cell hbox 0 _ rfl) heq hcnt fun ts h2 => ownU_stop fun w9 hs hkp => ?_)
  obtain ⟨C9, _⟩ := C8.rest0 hs hkp
  clear hs hkp
  rw [← hsb8]
  refine close_enter_won (by decide) C9 hcl8 fun g10 w10 hg10 C10 _ => ?_
  refine close_done_won (by decide) (S := { S8 with closed := true }) (fun c hc => by rw [hst8 c hc]; omega) S8.cos.length 0 (by simp) C10 hg10 fun g11 w11 hg11 C11 _ => ?_
  refine win_own C11.fi.wf (clOut_deferred hg11 rfl (ownU_stop fun w12 hs hkp => ?_))
  obtain ⟨C12, _⟩ := C11.rest0 hs hkp
  obtain ⟨_, hf12⟩ := C12.ends (fun k hk => by rw [hk8 k hk]; omega) rfl
  refine won_end Try.func9 (t := 2) rfl (by kernel_rfl) (fun i hi => ?_) h2 ?_
  · have := congrFun hf12 i
    rw [upd_ne _ _ hi] at this
    exact this
  have hb := C12.base
  refine Ext.below (B := W.heap.size) ((ext_none ex1 fun b _ h => h).then hb (fun b hb h => ?_) (fun r hr => hr) (fun r hr => .inl hr)) (Nat.le_refl _)
  have := ex1.size
  have h' : w1.heap.size ≤ b := h
  omega
end Go.Proofs.Ytolnmdanlggmhaa
