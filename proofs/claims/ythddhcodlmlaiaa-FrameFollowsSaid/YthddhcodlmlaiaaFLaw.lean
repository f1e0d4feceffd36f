/- Frames in plain words; the example of the chapter. -/
import Derived.Test.YthddhcodlmlaiaaNext
import Derived.Test.YthddhcodlmlaiaaLSeals
namespace Go.Proofs.Ythddhcodlmlaiaa
open Go.RowKit

theorem num4_lit (n : Nat) (h : n < 4294967296) (t : List UInt8) : num4 (lit4 n ++ t) = n := by
  show (UInt8.ofNat n).toNat + (UInt8.ofNat (n / 256)).toNat * 256 + (UInt8.ofNat (n / 65536)).toNat * 65536 + (UInt8.ofNat (n / 16777216)).toNat * 16777216 = n
  simp only [UInt8.toNat_ofNat']
  omega
theorem frame_split (bs rest : List UInt8) : frameC bs ++ rest = (lit4 bs.length ++ bs) ++ (lit4 (sumC (lit4 bs.length ++ bs)) ++ rest) := by
  unfold frameC sealC; rw [List.append_assoc]
theorem lit4_len (n : Nat) : (lit4 n).length = 4 := rfl
theorem next_frame (bs rest : List UInt8) (h : bs.length ≤ 1048576) : goodC (frameC bs ++ rest) = true ∧ nextC (frameC bs ++ rest) = (bs, bs.length + 8) := by
  have h4 : num4 (frameC bs ++ rest) = bs.length := by rw [frame_split, List.append_assoc, num4_lit _ (by omega)]
  have hl := frameC_len bs
  have ht : (frameC bs ++ rest).take (bs.length + 8) = frameC bs := by rw [← hl, List.take_left]
  have hg : goodC (frameC bs ++ rest) = true := by
    unfold goodC
    rw [h4, ht, decide_eq_true_eq, List.length_append, hl]
    exact ⟨by omega, h, by omega, (seal_ok _).1⟩
  refine ⟨hg, ?_⟩
  rw [next_good hg, h4, frame_split, List.take_left' (by rw [List.length_append, lit4_len]; omega), List.drop_left' (lit4_len _)]

theorem frame_nil : frameC [] = [0, 0, 0, 0] ++ lit4 (sumC [0, 0, 0, 0]) := rfl

set_option maxRecDepth 100000 in
set_option maxHeartbeats 2000000 in
theorem alive6_any (w : World) : Calls Try.prog 27 #[] w fun e w' => e = .returned (.bool true) ∧ Below w.heap.size w w' := by
  have hm := make_any none 0 0 [] w _ (Rd.nil w w.heap.size none) (Nat.le_refl _) (by omega)
  go_enter Try.func27, Try.ntmps27
  go_wp2_with fail
  refine hm.mono ?_
  rintro e w1 ⟨v1, rfl, hown1, hb1⟩
  obtain ⟨go, c1, e1, hgo, hgol⟩ := hown1.form (by omega)
  subst e1
  have hnc1 : 0 + 8 ≤ c1 := by
    obtain ⟨A9, c9, e9, h9, _⟩ := own_slice hown1
    injection e9 with _ _ e9
    omega
  have r1 := Rd.of_own hown1
  have hn := next_any (some ⟨go, 0, none⟩) (0 + 8) c1 (frameC []) w1 _ r1 (Nat.le_refl _) hnc1 (by omega)
  have hnx := (next_frame [] [] (by simp)).2
  rw [List.append_nil] at hnx
  have h0 := hown1.cellAt 0 (by omega)
  have h3 := hown1.cellAt 3 (by omega)
  rw [frame_nil] at h0 h3
  have g0 : w1.cell? ⟨go, 0, none⟩ = some (.int .u8 0) := h0
  have g3 : w1.cell? ⟨go, 3, none⟩ = some (.int .u8 0) := h3
  clear h0 h3 hm hown1 r1
  simp only [Nat.zero_add] at hn ⊢
  go_wp2_with fail
  refine hn.mono ?_
  rintro e w2 ⟨A2, m, c2, he, hr2, hb12, _, _⟩
  rw [hnx] at he hr2
  have hm0 : m = 0 := by have := hr2.len; simpa using this.symm
  subst hm0
  subst he
  have k0 : w2.cell? ⟨go, 0, none⟩ = some (.int .u8 0) := (hb12.cell hgol).trans g0
  have k3 : w2.cell? ⟨go, 3, none⟩ = some (.int .u8 0) := (hb12.cell hgol).trans g3
  clear hn hnx g0 g3 hr2
  go_wp2_with fail
  go_ret
  exact ⟨by simp, hb1.trans (hb12.mono hb1.size)⟩
end Go.Proofs.Ythddhcodlmlaiaa
