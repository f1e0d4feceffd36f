/- slices.Equal and slices.Clone at bytes. -/
import Derived.Test.YthddhcodlmlaiaaProg
import Derived.Test.YthddhcodlmlaiaaBase
import Derived.Test.YthddhcodlmlaiaaConcat
import Derived.WalkSpells
import Derived.LoopTactic
import Derived.IntWalk
import Derived.Deep.QuietTactic
import Derived.BigQuiet
import Derived.Outline
namespace Go.Proofs.Ythddhcodlmlaiaa
open Go.RowKit

theorem len_ne {α : Type} {xs ys : List α} (h : ¬ xs.length = ys.length) : ¬ xs = ys := fun e => h (by rw [e])

set_option maxRecDepth 100000 in
set_option maxHeartbeats 1000000 in
theorem equal_any (A A' : Option Addr) (n c n' c' : Nat) (xs ys : List UInt8) (w : World) (B : Nat) (hx : Rd w B A n (bvs xs)) (hy : Rd w B A' n' (bvs ys)) (hn : n ≤ 9223372036854775807) (hn' : n' ≤ 9223372036854775807) :
    Calls Try.prog 25 #[.slice A n c, .slice A' n' c'] w fun e w' => e = .returned (.bool (decide (xs = ys))) ∧ ∃ k, w' = w.drewN k := by
  have hlx := hx.len; have hly := hy.len
  simp only [bvs_length] at hlx hly
  have HX := Lib.hid hlx; have HY := Lib.hid hly; clear hlx hly
  by_cases hl : n = n'
  · subst hl
    go_enter Try.func25, Try.ntmps25
    go_wp2_with fail
    go_loopw [5, 13] (fun _ i wr => ∃ k : Nat, k ≤ n ∧ i = .int .i64 k ∧ Hid (xs.take k = ys.take k) ∧ ∃ q, wr = w.drewN q) (fun _ i _ => n - (intOf i).toNat)
    case atStart => exact ⟨0, Nat.zero_le _, rfl, rfl, 0, rfl⟩
    case round =>
      obtain ⟨k, hk, rfl, ht, q, rfl⟩ := hrel
      by_cases hlt : k < n
      · obtain ⟨ax, ux, rfl, hbx, hux, hcx⟩ := hx.at hlt
        obtain ⟨ay, uy, rfl, hby, huy, hcy⟩ := hy.at hlt
        obtain ⟨bx, hbx2, rfl⟩ := bvs_get hux
        obtain ⟨by_, hby2, rfl⟩ := bvs_get huy
        have hc1 : w.cell? (ax.add k) = some (.int .u8 bx.toNat) := hcx
        have hc2 : w.cell? (ay.add k) = some (.int .u8 by_.toNat) := hcy
        clear hcx hcy
        have hkn : (k : Int) < (n : Int) := by omega
        go_wp2_with fail
        go_quiet (fail)
        go_wp2_with fail
        · have hne : ((bx.toNat : Int) != (by_.toNat : Int)) = true := by assumption
          go_ret
          refine ⟨ret_eq (congrArg Value.bool ?_), q + nq, World.drewN_drewN ..⟩
          refine (decide_eq_false fun e => ?_).symm
          rw [e, hby2] at hbx2
          injection hbx2 with hbx2
          rw [hbx2] at hne
          simp at hne
        · have heq : ((bx.toNat : Int) != (by_.toNat : Int)) = false := by assumption
          go_roundw
          case rel =>
            refine ⟨k + 1, by omega, by go_num, ?_, _, rfl⟩
            show _ = _
            have hb : bx = by_ := by
              rw [bne_eq_false_iff_eq] at heq
              exact UInt8.toNat_inj.1 (by omega)
            rw [List.take_add_one, List.take_add_one, ht.out, hbx2, hby2, hb]
          case measure => simp [intOf]; omega
      · go_wp2
        go_ret
        refine ⟨ret_eq (congrArg Value.bool ?_), q, rfl⟩
        refine (decide_eq_true ?_).symm
        have h := ht.out
        rwa [List.take_of_length_le (by rw [HX.out]; omega), List.take_of_length_le (by rw [HY.out]; omega)] at h
  · have hne : ((n : Int) == (n' : Int)) = false := by rw [beq_eq_false_iff_ne]; omega
    have hne2 : ((n : Int) != (n' : Int)) = true := by rw [bne_iff_ne]; omega
    have hd : decide (xs = ys) = false := by rw [decide_eq_false]; exact len_ne (by rw [HX.out, HY.out]; exact hl)
    have Hd := Lib.hid hd; clear hd
    go_enter Try.func25, Try.ntmps25
    go_wp2
    go_ret
    exact ⟨ret_eq (congrArg Value.bool Hd.out.symm), 0, rfl⟩

theorem equal_t {w : World} {B1 B2 : Nat} {A A' : Option Addr} {n c n' c' : Nat} {xs ys : List UInt8} {t : Bool} (hx : Rd w B1 A n (bvs xs)) (hy : Rd w B2 A' n' (bvs ys)) (hn : n ≤ 4000000) (hn' : n' ≤ 4000000) (ht : Hid (decide (xs = ys) = t)) :
    Calls Try.prog 25 #[.slice A n c, .slice A' n' c'] w fun e w' => e = .returned (.bool t) ∧ ∃ k, w' = w.drewN k :=
  (equal_any A A' n c n' c' xs ys w (max B1 B2) (hx.more (Nat.le_max_left ..)) (hy.more (Nat.le_max_right ..)) (by omega) (by omega)).mono fun _ _ ⟨h, k⟩ => ⟨by rw [h, ht.out], k⟩

/-- Equal at two rows, one of them, or both, of the call's own. -/
theorem equal_own {w : World} {B1 B2 : Nat} {A A' : Option Addr} {n c n' c' : Nat} {xs ys : List UInt8} (hx : Rd w B1 A n (bvs xs)) (hy : Rd w B2 A' n' (bvs ys)) (hn : n ≤ 4000000) (hn' : n' ≤ 4000000) (he : xs = ys) :
    Calls Try.prog 25 #[.slice A n c, .slice A' n' c'] w fun e w' => e = .returned (.bool true) ∧ ∃ k, w' = w.drewN k :=
  (equal_any A A' n c n' c' xs ys w (max B1 B2) (hx.more (Nat.le_max_left ..)) (hy.more (Nat.le_max_right ..)) (by omega) (by omega)).mono fun _ _ ⟨h, k⟩ => ⟨by rw [h, decide_eq_true he], k⟩

theorem below_drewN {B : Nat} {a w : World} (h : Below B a w) (n : Nat) : Below B a (w.drewN n) := ⟨h.os, h.tape, h.output, h.size, h.block⟩
set_option maxRecDepth 100000 in
set_option maxHeartbeats 1000000 in
/-- slices.Clone at bytes. -/
theorem clone_any (A : Option Addr) (n c : Nat) (bs : List UInt8) (w : World) (B : Nat) (hr : Rd w B A n (bvs bs)) (hB : B ≤ w.heap.size) (hn : n ≤ 4000000) :
    Calls Try.prog 21 #[.slice A n c] w fun e w' => ∃ v, e = .returned v ∧ w'.ownsRow w.heap.size 5 1 v n (bvs bs) ∧ Below w.heap.size w w' := by
  obtain ⟨i0, hi, hz0, hz1, hz2⟩ := info_parts infoE28
  cases A with
  | none =>
    have hb : bs = [] := by
      cases bs with
      | nil => rfl
      | cons b l => obtain ⟨ad, e, _⟩ := hr.at' 0 (bv b) rfl; cases e
    subst hb
    have hn0 : n = 0 := by simpa using hr.len.symm
    subst hn0
    have hne := Lib.run_eql_slice_nil (P := Try.prog) w 28 5 none 0 c 0 0 Try.underlying28
    go_enter Try.func21, Try.ntmps21
    go_wp2_with fail
    go_ret
    exact ⟨_, rfl, World.ownsRow_nil _ _ _ _, Below.refl _ _⟩
  | some a =>
    have hne := Lib.run_eql_slice_nil (P := Try.prog) w 28 5 (some a) n c 0 0 Try.underlying28
    have hown := World.ownsRow_lit (e := 5) (size := 1) (base := w.heap.size) w #[] 0 (Nat.le_refl _) (by simp [maxLen]) (by simp)
    have hr1 := hr.alloc hB (.cells #[] 5)
    go_enter Try.func21, Try.ntmps21
    go_wp2_with (at_builtin; refine wpList_app _ rfl (.tmp 5) (.tmp 6) 28 rfl w.heap.size 5 i0 _ 1 Try.underlying28 hi hz0 hz1 hz2 rfl _ _ _ rfl hown B _ _ _ _ rfl hr1 (bvs_one _) (by unfold maxLen; omega) (by omega) (by simp) ?_; intro v' w2 hown2 hg2 hat2)
    go_ret
    refine ⟨v', rfl, by simpa using hown2, ((Below.refl _ _).alloc (Nat.le_refl _) _).grown hg2 (by simp) fun k hk => ?_⟩
    exact (hown.lt k hk).1

set_option maxRecDepth 100000 in
set_option maxHeartbeats 1000000 in
theorem clone_nil (c : Nat) (w : World) : Calls Try.prog 21 #[.slice none 0 c] w fun e w' => e = .returned (.slice none 0 0) ∧ w = w' := by
  have hne := Lib.run_eql_slice_nil (P := Try.prog) w 28 5 none 0 c 0 0 Try.underlying28
  go_enter Try.func21, Try.ntmps21
  go_wp2_with fail
  go_ret
  exact ⟨rfl, rfl⟩

end Go.Proofs.Ythddhcodlmlaiaa
