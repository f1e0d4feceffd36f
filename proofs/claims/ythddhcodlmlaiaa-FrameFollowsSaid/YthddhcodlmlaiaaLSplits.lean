/- The law FrameSplits, walked. -/
import Derived.Test.YthddhcodlmlaiaaFProg
import Derived.Test.YthddhcodlmlaiaaFSame
namespace Go.Proofs.Ythddhcodlmlaiaa
open Go.RowKit

theorem GridOwn.form {w : World} {base n : Nat} {v : Value} {L : List (List UInt8)} (h : GridOwn w base v n L) : ∃ A c, v = .slice A n c := by
  obtain ⟨_, vs, h2, _⟩ := h
  obtain ⟨A, c, e, _, _⟩ := own_slice h2
  exact ⟨A, c, e⟩

theorem nextC_len (bs : List UInt8) : (nextC bs).1.length ≤ bs.length := by
  cases h : goodC bs with
  | false => rw [next_bad h]; exact Nat.zero_le _
  | true => rw [next_good h]; simp only [List.length_drop, List.length_take]; omega
theorem splitF_len : ∀ (f : Nat) (bs : List UInt8), (splitF f bs).1.length ≤ f
  | 0, _ => Nat.le_refl _
  | f + 1, bs => by
    unfold splitF
    by_cases h : (nextC bs).2 = 0
    · rw [if_pos h]; exact Nat.zero_le _
    · rw [if_neg h]
      exact Nat.succ_le_succ (splitF_len f _)
theorem splitC_len (bs : List UInt8) : (splitC bs).1.length ≤ bs.length + 1 := splitF_len _ _

set_option maxRecDepth 100000 in
set_option maxHeartbeats 4000000 in
theorem law_splits (A : Option Addr) (n c : Nat) (z : List Int) (w : World) (w0 : IsRow .u8 w A n c z) :
    Calls Try.prog 9 #[.slice A n c] w fun e w' => e = .returned (.bool true) ∧ Below w.heap.size w w' := by
  obtain ⟨xs, hal, hra, hnc, hcm⟩ := w0.bytes
  have hn63 := isrow63 hnc hcm
  have HA := Lib.hid hal; clear hal w0 hcm
  by_cases h5 : n ≤ 1500
  case neg =>
    have h5i : (n : Int) > 1500 := by omega
    go_enter Try.func9, Try.ntmps9
    go_wp2_with fail
    refine (alive6_any _).mono ?_
    rintro e w2 ⟨rfl, hb⟩
    go_wp2_with fail
    go_ret
    exact ⟨rfl, hb⟩
  have h5i : ¬ (n : Int) > 1500 := by omega
  obtain ⟨xn, kn, hxk⟩ : ∃ x k, nextC xs = (x, k) := ⟨_, _, rfl⟩
  obtain ⟨L, m, hLm⟩ : ∃ L m, splitC xs = (L, m) := ⟨_, _, rfl⟩
  have HX := Lib.hid hxk; have HS := Lib.hid hLm
  have h1 := next_any A n c xs w _ hra (Nat.le_refl _) hnc (by omega)
  have hxl : xn.length ≤ 4000000 := by have := nextC_len xs; rw [hxk, HA.out] at this; exact Nat.le_trans this (by omega)
  have hLl : L.length ≤ 4000000 := by have := splitC_len xs; rw [hLm, HA.out] at this; exact Nat.le_trans this (by omega)
  clear hxk hLm
  go_enter Try.func9, Try.ntmps9
  go_wp2_with fail
  refine h1.mono ?_
  rintro e w1 ⟨A1, m1, c1, he1, hr1, hb1, _, _⟩
  rw [HX.out] at he1 hr1
  subst he1
  have hm1 : xn.length = m1 := by simpa using hr1.len
  have h2 := refnext_any A n c xs w1 _ (hra.below hb1) hb1.size hnc (by omega)
  clear h1
  go_wp2_with fail
  refine h2.mono ?_
  rintro e w2 ⟨A2, m2, c2, he2, hr2, hb12, _⟩
  rw [HX.out] at he2 hr2
  subst he2
  have hb2 := hb1.trans (hb12.mono hb1.size)
  have h3 := split_any A n c xs w2 ((hra.below hb2).more hb2.size) hnc (by omega)
  clear h2
  go_wp2_with fail
  refine h3.mono ?_
  rintro e w3 ⟨v3, he3, hg3, hb23⟩
  rw [HS.out] at he3 hg3
  dsimp only at he3 hg3
  obtain ⟨A3, c3, rfl⟩ := hg3.form
  subst he3
  have hb3 := hb2.trans (hb23.mono hb2.size)
  have h4 := refsplit_any A n c xs w3 ((hra.below hb3).more hb3.size) hnc (by omega)
  clear h3
  go_wp2_with fail
  refine h4.mono ?_
  rintro e w4 ⟨v4, he4, hg4, hb34⟩
  rw [HS.out] at he4 hg4
  dsimp only at he4 hg4
  obtain ⟨A4, c4, rfl⟩ := hg4.form
  subst he4
  have hb4 := hb3.trans (hb34.mono hb3.size)
  have hg34 := hg3.below hb34
  clear h4
  go_wp2_with fail
  refine (alive6_any _).mono ?_
  rintro e w5 ⟨rfl, hb45⟩
  have hb5 := hb4.trans (hb45.mono hb4.size)
  have hr15 := (((hr1.below hb12).more hb12.size).below hb23).more hb23.size
  have hr16 := (((hr15.below hb34).more hb34.size).below hb45)
  have hr26 := ((hr2.below (hb23.mono hb2.size)).below (hb34.mono hb3.size)).below (hb45.mono hb4.size)
  have hm2 : m2 = m1 := by have := hr2.len; rw [bvs_length] at this; omega
  subst hm2
  have hx4 : m2 ≤ 4000000 := by omega
  have hq := equal_own (c := c1) (c' := c2) hr16 hr26 hx4 hx4 rfl
  have hg35 := (hg34.below hb45).rds
  have hg45 := (hg4.below hb45).rds
  clear hg3 hg4 hg34 hr1 hr2 hr15 hr16 hr26 hb12 hb23 hb34 hb45 hb1 hb2 hb3 hb4
  go_wp2_with fail
  refine hq.mono ?_
  rintro e _ ⟨rfl, q1, rfl⟩
  have hs := same_any A3 A4 L.length c3 L.length c4 L L (w5.drewN q1) _ _ (hg35.drewN q1) (hg45.drewN q1) rfl rfl hLl hLl
  rw [decide_eq_true (rfl : L = L)] at hs
  clear hq hg35 hg45
  go_wp2_with fail
  refine hs.mono ?_
  rintro e _ ⟨rfl, q2, rfl⟩
  go_wp2_with fail
  go_ret
  exact ⟨rfl, below_drewN hb5 _⟩
end Go.Proofs.Ythddhcodlmlaiaa
