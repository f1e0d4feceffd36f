/- The law SumMore, walked. -/
import Derived.Test.YthddhcodlmlaiaaSumB
import Derived.OpenShut
namespace Go.Proofs.Ythddhcodlmlaiaa
open Go.RowKit Go.OpenShut

theorem isrow63 {n c : Nat} (h : n ≤ c) (h2 : c ≤ maxLen) : n ≤ 9223372036854775807 := by unfold maxLen at h2; omega

set_option maxRecDepth 100000 in
set_option maxHeartbeats 4000000 in
theorem law_more (A : Option Addr) (n c : Nat) (z : List Int) (A' : Option Addr) (n' c' : Nat) (z' : List Int) (x : Int) (w : World) (w0 : IsRow .u8 w A n c z) (w1 : IsRow .u8 w A' n' c' z') (w2 : (Lit.int .u32 x).wf = true) :
    Calls Try.prog 4 #[.slice A n c, .slice A' n' c', .int .u32 x] w fun e w' => e = .returned (.bool true) ∧ Below w.heap.size w w' := by
  obtain ⟨xs, hal, hra, hnc, hcm⟩ := w0.bytes
  obtain ⟨ys, hbl, hrb, hnc', hcm'⟩ := w1.bytes
  obtain ⟨hx0, hx1⟩ := bounds_u32 w2
  obtain ⟨X, rfl⟩ := Int.eq_ofNat_of_zero_le hx0
  have hX : X < 4294967296 := by omega
  have hn63 := isrow63 hnc hcm
  have hn63' := isrow63 hnc' hcm'
  have HA := Lib.hid hal; have HB := Lib.hid hbl; clear hal hbl w0 w1 w2 hx0 hx1 hcm hcm'
  have hb1 : Below w.heap.size w (w.alloc (.cells #[.slice A n c, .slice A' n' c'] 28)) := (Below.refl _ _).alloc (Nat.le_refl _) _
  have hf := few_any (some ⟨w.heap.size, 0, none⟩) 2 2 [xs, ys] _ _ (rds_two 28 (c := c) (c' := c') hra hrb (Nat.le_refl _)) rfl (by unfold maxLen; omega)
  go_enter Try.func4, Try.ntmps4
  go_wp2_with fail
  refine hf.mono ?_
  rintro e w1 ⟨t, rfl, rfl, hfew⟩
  clear hf
  generalize (w.alloc (.cells #[.slice A n c, .slice A' n' c'] 28)) = w1 at *
  cases t with
  | false =>
    go_wp2_with fail
    refine (alive_any _).mono ?_
    rintro e w2 ⟨rfl, hb⟩
    go_wp2_with fail
    go_ret
    exact ⟨rfl, hb1.trans (hb.mono hb1.size)⟩
  | true =>
    have h15 : n + n' ≤ 1500 := by
      have := (hfew rfl).2
      simp at this
      have := HA.out; have := HB.out; omega
    clear hfew
    go_wp2_with fail
    refine (alive_any _).mono ?_
    rintro e w2 ⟨rfl, hb⟩
    have hb2 := hb1.trans (hb.mono hb1.size)
    clear hb hb1
    have hs1 := sum_any (some ⟨w2.heap.size, 0, none⟩) 1 1 [xs] xs n _ _ (rds_one 28 (c := c) (hra.below hb2) hb2.size) (by simp) rfl (by simp) HA.out (by omega) (by omega)
    have hbx : Below w.heap.size w (w2.alloc (.cells #[.slice A n c] 28)) := hb2.alloc hb2.size _
    go_wp2_with fail
    refine hs1.mono ?_
    rintro e w3 ⟨rfl, hb⟩
    have hb3 := hbx.trans (hb.mono hbx.size)
    clear hb hbx hs1 hb2
    have hm := more_any (sumC xs) A' n' c' ys w3 _ (hrb.below hb3) hb3.size (sumC_lt xs) hn63'
    rw [moreC_sum] at hm
    go_wp2_with fail
    refine hm.mono ?_
    rintro e w4 ⟨rfl, hb⟩
    have hb4 := hb3.trans (hb.mono hb3.size)
    clear hb hb3 hm
    have hc := cat_any (some ⟨w4.heap.size, 0, none⟩) 2 2 [xs, ys] (xs ++ ys) (n + n') _ _ (rds_two 28 (c := c) (c' := c') (hra.below hb4) (hrb.below hb4) hb4.size) (by simp) rfl (by simp) (by rw [List.length_append, HA.out, HB.out]) (by omega) (by omega)
    have hbx : Below w.heap.size w (w4.alloc (.cells #[.slice A n c, .slice A' n' c'] 28)) := hb4.alloc hb4.size _
    go_wp2_with fail
    refine hc.mono ?_
    rintro e w5 ⟨v, rfl, hown, hb⟩
    have hb5 := hbx.trans (hb.mono hbx.size)
    obtain ⟨A1, c1, rfl, hr1⟩ := own_rd hown
    clear hb hbx hc hb4
    have hrs := refsum_any A1 (n + n') c1 (xs ++ ys) w5 _ hr1 (by omega)
    go_wp2_with fail
    refine hrs.mono ?_
    rintro e w5 ⟨rfl, rfl⟩
    clear hrs hown hr1
    have hm2 := more_any X A' n' c' ys w5 _ (hrb.below hb5) hb5.size hX hn63'
    go_wp2_with fail
    refine hm2.mono ?_
    rintro e w6 ⟨rfl, hb⟩
    have hb6 := hb5.trans (hb.mono hb5.size)
    clear hb hm2 hb5
    have hm3 := refmore_any X A' n' c' ys w6 _ (hrb.below hb6) hX hn63'
    go_wp2_with fail
    refine hm3.mono ?_
    rintro e w6 ⟨rfl, rfl⟩
    clear hm3
    have hm4 := more_any X none 0 0 [] w6 w6.heap.size (Rd.nil _ _ _) (Nat.le_refl _) hX (by omega)
    rw [moreC_nil] at hm4
    go_wp2_with fail
    refine hm4.mono ?_
    rintro e w7 ⟨rfl, hb⟩
    have hb7 := hb6.trans (hb.mono hb6.size)
    clear hb hm4 hb6
    go_wp2_with fail
    go_ret
    exact ⟨rfl, hb7⟩
end Go.Proofs.Ythddhcodlmlaiaa
