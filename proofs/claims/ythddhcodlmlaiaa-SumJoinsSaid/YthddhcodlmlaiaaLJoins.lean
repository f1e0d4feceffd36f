/- The law SumJoins, walked. -/
import Derived.Test.YthddhcodlmlaiaaMat
import Derived.OpenShut
namespace Go.Proofs.Ythddhcodlmlaiaa
open Go.RowKit Go.OpenShut

theorem isrow63' {n c : Nat} (h : n ≤ c) (h2 : c ≤ maxLen) : n ≤ 9223372036854775807 := by unfold maxLen at h2; omega

set_option maxRecDepth 100000 in
set_option maxHeartbeats 4000000 in
theorem law_joins (A : Option Addr) (n c : Nat) (z : List Int) (A' : Option Addr) (n' c' : Nat) (z' : List Int) (w : World) (w0 : IsRow .u8 w A n c z) (w1 : IsRow .u8 w A' n' c' z') :
    Calls Try.prog 5 #[.slice A n c, .slice A' n' c'] w fun e w' => e = .returned (.bool true) ∧ Below w.heap.size w w' := by
  obtain ⟨xs, hal, hra, hnc, hcm⟩ := w0.bytes
  obtain ⟨ys, hbl, hrb, hnc', hcm'⟩ := w1.bytes
  have hn63 := isrow63' hnc hcm
  have hn63' := isrow63' hnc' hcm'
  have HA := Lib.hid hal; have HB := Lib.hid hbl; clear hal hbl w0 w1 hcm hcm'
  have hb1 : Below w.heap.size w (w.alloc (.cells #[.slice A n c, .slice A' n' c'] 28)) := (Below.refl _ _).alloc (Nat.le_refl _) _
  have hf := few_any (some ⟨w.heap.size, 0, none⟩) 2 2 [xs, ys] _ _ (rds_two 28 (c := c) (c' := c') hra hrb (Nat.le_refl _)) rfl (by unfold maxLen; omega)
  go_enter Try.func5, Try.ntmps5
  go_wp2_with fail
  refine hf.mono ?_
  rintro e w1 ⟨t, rfl, rfl, hfew⟩
  clear hf
  generalize (w.alloc (.cells #[.slice A n c, .slice A' n' c'] 28)) = w1 at *
  cases t with
  | false =>
    go_wp2_with fail
    refine (alive_any _).mono ?_
    rintro e w2 ⟨rfl, hb⟩
    go_wp2_with fail
    go_ret
    exact ⟨rfl, hb1.trans (hb.mono hb1.size)⟩
  | true =>
    have h15 : n + n' ≤ 1500 := by
      have := (hfew rfl).2
      simp at this
      have := HA.out; have := HB.out; omega
    clear hfew
    have hsa := refsum_any A n c xs w1 _ (hra.below hb1) hn63
    have hsb := refsum_any A' n' c' ys w1 _ (hrb.below hb1) hn63'
    have hxl := sumC_lt xs
    have hyl := sumC_lt ys
    go_wp2_with fail
    refine hsa.mono ?_
    rintro e w2 ⟨rfl, rfl⟩
    go_wp2_with fail
    refine hsb.mono ?_
    rintro e w3 ⟨rfl, rfl⟩
    clear hsa hsb
    go_wp2_with fail
    refine (alive_any _).mono ?_
    rintro e w4 ⟨rfl, hb⟩
    have hb4 := hb1.trans (hb.mono hb1.size)
    clear hb hb1
    have hj := join_any (sumC xs) (sumC ys) n' w4 hxl hyl (by omega)
    have hjl : sh (8 * n') (sumC xs) ^^^ sumC ys = sumC (xs ++ ys) := by rw [← HB.out]; exact join_law xs ys
    rw [hjl] at hj
    clear hjl
    go_wp2_with fail
    refine hj.mono ?_
    rintro e w5 ⟨rfl, hb⟩
    have hb5 := hb4.trans (hb.mono hb4.size)
    clear hb hj hb4
    have hc := cat_any (some ⟨w5.heap.size, 0, none⟩) 2 2 [xs, ys] (xs ++ ys) (n + n') _ _ (rds_two 28 (c := c) (c' := c') (hra.below hb5) (hrb.below hb5) hb5.size) (by simp) rfl (by simp) (by rw [List.length_append, HA.out, HB.out]) (by omega) (by omega)
    have hbx : Below w.heap.size w (w5.alloc (.cells #[.slice A n c, .slice A' n' c'] 28)) := hb5.alloc hb5.size _
    go_wp2_with fail
    refine hc.mono ?_
    rintro e w6 ⟨v, rfl, hown, hb⟩
    have hb6 := hbx.trans (hb.mono hbx.size)
    obtain ⟨A1, c1, rfl, hr1⟩ := own_rd hown
    clear hb hbx hc hb5
    have hrs := refsum_any A1 (n + n') c1 (xs ++ ys) w6 _ hr1 (by omega)
    go_wp2_with fail
    refine hrs.mono ?_
    rintro e w7 ⟨rfl, rfl⟩
    clear hrs hown hr1
    have hj2 : Calls Try.prog 20 #[.int .u32 (sumC xs : Nat), .int .u32 0, .int .i64 0] w7 fun e w' => e = .returned (.int .u32 (sumC xs : Nat)) ∧ Below w7.heap.size w7 w' := by
      have h := join_any (sumC xs) 0 0 w7 hxl (by decide) (by omega)
      rw [Nat.mul_zero, Nat.xor_zero] at h
      exact h
    go_wp2_with fail
    refine hj2.mono ?_
    rintro e w8 ⟨rfl, hb⟩
    have hb8 := hb6.trans (hb.mono hb6.size)
    clear hb hj2 hb6
    have hj3 : Calls Try.prog 20 #[.int .u32 0, .int .u32 (sumC ys : Nat), .int .i64 n'] w8 fun e w' => e = .returned (.int .u32 (sumC ys : Nat)) ∧ Below w8.heap.size w8 w' := by
      have h := join_any 0 (sumC ys) n' w8 (by decide) hyl (by omega)
      rw [sh_zero, Nat.zero_xor] at h
      exact h
    go_wp2_with fail
    refine hj3.mono ?_
    rintro e w9 ⟨rfl, hb⟩
    have hb9 := hb8.trans (hb.mono hb8.size)
    clear hb hj3 hb8
    go_wp2_with fail
    go_ret
    exact ⟨rfl, hb9⟩
end Go.Proofs.Ythddhcodlmlaiaa
