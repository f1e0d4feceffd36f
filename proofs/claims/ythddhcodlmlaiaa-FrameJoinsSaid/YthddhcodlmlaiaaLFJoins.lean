/- The law FrameJoins, walked. -/
import Derived.Test.YthddhcodlmlaiaaFJoin
import Derived.Test.YthddhcodlmlaiaaFCut
import Derived.Test.YthddhcodlmlaiaaGrid
namespace Go.Proofs.Ythddhcodlmlaiaa
open Go.RowKit

set_option maxRecDepth 100000 in
set_option maxHeartbeats 4000000 in
theorem law_fjoins (A : Option Addr) (n c : Nat) (L : List (List UInt8)) (w : World) (w0 : IsGrid w A n c L) :
    Calls Try.prog 12 #[.slice A n c] w fun e w' => e = .returned (.bool true) ∧ Below w.heap.size w w' := by
  obtain ⟨hn, hnc, hcm, hr⟩ := w0
  have hf := few6_any A n c L w _ hr hn (by omega)
  have HN := Lib.hid hn; clear hn
  go_enter Try.func12, Try.ntmps12
  go_wp2_with fail
  refine hf.mono ?_
  rintro e w1 ⟨t, rfl, rfl, hfew⟩
  clear hf
  cases t with
  | false =>
    go_wp2_with fail
    refine (alive6_any _).mono ?_
    rintro e w2 ⟨rfl, hb⟩
    go_wp2_with fail
    go_ret
    exact ⟨rfl, hb⟩
  | true =>
    obtain ⟨h60, h15⟩ := hfew rfl
    clear hfew
    obtain ⟨m, hm⟩ : ∃ m, (joinC L).length = m := ⟨_, rfl⟩
    have hm2 : m ≤ 1980 := by rw [← hm, joinC_len, HN.out]; omega
    have hall : ∀ l ∈ L, l.length ≤ 1048576 := fun l hl => by
      obtain ⟨i, hi⟩ := List.getElem?_of_mem hl
      exact Nat.le_trans (len_le_flat hi) (by omega)
    have hsp := split_join L [] hall
    rw [List.append_nil, split_nil, List.append_nil, Nat.add_zero, hm] at hsp
    have HM := Lib.hid hm; have H15 := Lib.hid h15; have HS := Lib.hid hsp
    clear hm hall h15 hsp
    have hj1 := fjoin_any A n c L w1 _ m hr (Nat.le_refl _) HN.out h60 H15.out HM.out
    go_wp2_with fail
    refine hj1.mono ?_
    rintro e w2 ⟨v2, rfl, hown2, hb2⟩
    clear hj1
    obtain ⟨A2, c2, e2, hmc2, _⟩ := own_slice hown2
    subst e2
    have hj2 := refjoin_any A n c L w2 _ m (hr.below hb2) hb2.size HN.out h60 H15.out HM.out
    go_wp2_with fail
    refine hj2.mono ?_
    rintro e w3 ⟨v3, rfl, hown3, hb23⟩
    clear hj2
    obtain ⟨A3, c3, e3, _, _⟩ := own_slice hown3
    subst e3
    have hb3 := hb2.trans (hb23.mono hb2.size)
    have hr23 := ((Rd.of_own hown2).below hb23).more hb23.size
    have hs := split_any A2 m c2 (joinC L) w3 hr23 hmc2 (by omega)
    go_wp2_with fail
    refine hs.mono ?_
    rintro e w4 ⟨v4, he4, hg4, hb34⟩
    rw [HS.out] at he4 hg4
    dsimp only at he4 hg4
    rw [HN.out] at hg4
    obtain ⟨A4, c4, rfl⟩ := hg4.form
    subst he4
    have hb4 := hb3.trans (hb34.mono hb3.size)
    have hr24 := hr23.below hb34
    have hr34 := (Rd.of_own hown3).below hb34
    clear hs hr23 hown2 hown3
    go_wp2_with fail
    refine (alive6_any _).mono ?_
    rintro e w5 ⟨rfl, hb45⟩
    have hb5 := hb4.trans (hb45.mono hb4.size)
    have hb35 := hb34.trans (hb45.mono hb34.size)
    have hq := equal_own (c := c2) (c' := c3) (hr24.below (hb45.mono hb34.size)) (hr34.below (hb45.mono hb34.size)) (by omega) (by omega) rfl
    have hg5 := (hg4.below hb45).rds
    have hr5 := hr.below hb5
    clear hr24 hr34 hg4 hb34 hb45 hb4 hb35 hb23 hb3 hb2
    go_wp2_with fail
    refine hq.mono ?_
    rintro e _ ⟨rfl, q1, rfl⟩
    have hsm := same_any A4 A n c4 n c L L (w5.drewN q1) _ _ (hg5.drewN q1) (hr5.drewN q1) HN.out HN.out (by omega) (by omega)
    rw [decide_eq_true (rfl : L = L)] at hsm
    clear hq hg5
    go_wp2_with fail
    refine hsm.mono ?_
    rintro e _ ⟨rfl, q2, rfl⟩
    have hsz := fsize_any A n c L (w5.drewN (q1 + q2)) _ m (hr5.drewN _) HN.out h60 H15.out HM.out
    clear hsm hr5
    go_wp2_with fail
    refine hsz.mono ?_
    rintro e _ ⟨rfl, rfl⟩
    go_wp2_with fail
    go_ret
    exact ⟨rfl, below_drewN hb5 _⟩
end Go.Proofs.Ythddhcodlmlaiaa
