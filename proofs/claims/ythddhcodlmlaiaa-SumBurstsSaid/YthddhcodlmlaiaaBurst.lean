/- The plain law of SumBursts. -/
import Derived.Test.YthddhcodlmlaiaaSeal
import Derived.Test.YthddhcodlmlaiaaMat
namespace Go.Proofs.Ythddhcodlmlaiaa
open Go.RowKit

theorem byte_flip (y q j : Nat) : ((y ^^^ 2 ^ q) / 2 ^ (8 * j)) % 2 ^ 8 = (y / 2 ^ (8 * j) % 2 ^ 8) ^^^ (if q / 8 = j then 2 ^ (q % 8) else 0) := by
  apply Nat.eq_of_testBit_eq
  intro i
  by_cases hq : q / 8 = j
  · rw [if_pos hq]
    simp only [Nat.testBit_xor, Nat.testBit_mod_two_pow, Nat.testBit_div_two_pow, Nat.testBit_two_pow]
    by_cases hi : i < 8
    · have e : (q = i + 8 * j) ↔ (q % 8 = i) := by omega
      simp [hi, e]
    · have e : ¬ q % 8 = i := by omega
      simp [hi, e]
  · rw [if_neg hq, Nat.xor_zero]
    simp only [Nat.testBit_xor, Nat.testBit_mod_two_pow, Nat.testBit_div_two_pow, Nat.testBit_two_pow]
    by_cases hi : i < 8
    · have e : ¬ (q = i + 8 * j) := by omega
      simp [hi, e]
    · simp [hi]

theorem lit4_get (y j : Nat) (hj : j < 4) : (lit4 y)[j]? = some (UInt8.ofNat (y / 2 ^ (8 * j))) := by
  match j, hj with
  | 0, _ => simp [lit4]
  | 1, _ => rfl
  | 2, _ => rfl
  | 3, _ => rfl
theorem lit4_flip {y q : Nat} {b c : UInt8} (hq : q < 32) (hb : (lit4 y)[q / 8]? = some b) (hc : c.toNat = b.toNat ^^^ 2 ^ (q % 8)) : (lit4 y).set (q / 8) c = lit4 (y ^^^ 2 ^ q) := by
  have hq4 : q / 8 < 4 := by omega
  apply List.ext_getElem?
  intro j
  by_cases hj : j < 4
  · rw [lit4_get _ j hj, List.getElem?_set]
    have hb2 := byte_flip y q j
    by_cases e : q / 8 = j
    · subst e
      rw [if_pos rfl, if_pos (by simp [lit4]; omega)]
      rw [lit4_get _ _ hq4] at hb
      simp only [Option.some.injEq] at hb ⊢
      rw [if_pos rfl] at hb2
      apply UInt8.toNat_inj.1
      rw [hc, ← hb, UInt8.toNat_ofNat', UInt8.toNat_ofNat']
      exact hb2.symm
    · rw [if_neg e, lit4_get _ _ hj]
      rw [if_neg e, Nat.xor_zero] at hb2
      simp only [Option.some.injEq]
      apply UInt8.toNat_inj.1
      rw [UInt8.toNat_ofNat', UInt8.toNat_ofNat']
      exact hb2.symm
  · rw [List.getElem?_eq_none (by simp [lit4]; omega), List.getElem?_eq_none (by simp [lit4]; omega)]

theorem low_set {ch i : Nat} (h : ch / 2 ^ i % 2 = 1) : ch % 2 ^ (i + 1) = ch % 2 ^ i ^^^ 2 ^ i := by
  rw [Nat.mod_pow_succ, h, Nat.mul_one, add_bit (Nat.mod_lt _ (Nat.two_pow_pos i))]
theorem low_clear {ch i : Nat} (h : ¬ ch / 2 ^ i % 2 = 1) : ch % 2 ^ (i + 1) = ch % 2 ^ i := by
  rw [Nat.mod_pow_succ, show ch / 2 ^ i % 2 = 0 from by omega, Nat.mul_zero, Nat.add_zero]
theorem low_ne {ch i : Nat} (h : ch / 2 ^ i % 2 = 1) : ¬ ch % 2 ^ (i + 1) = 0 := by
  rw [Nat.mod_pow_succ, h, Nat.mul_one]
  have := Nat.two_pow_pos i
  omega

/-- The sealed bytes after 'i' bits of the burst. -/
def St (bs : List UInt8) (frm ch i : Nat) (zs : List UInt8) : Prop :=
  zs.length = bs.length + 4 ∧
  ((frm < 8 * bs.length ∧ ∃ ys, zs = ys ++ lit4 (sumC bs) ∧ ys.length = bs.length ∧ sumC ys = sumC bs ^^^ sh (8 * bs.length - frm) (ch % 2 ^ i)) ∨
   (8 * bs.length ≤ frm ∧ zs = bs ++ lit4 (sumC bs ^^^ ch % 2 ^ i * 2 ^ (frm - 8 * bs.length))))

theorem St.start (bs : List UInt8) (frm ch : Nat) : St bs frm ch 0 (sealC bs) := by
  refine ⟨sealC_len bs, ?_⟩
  by_cases h : frm < 8 * bs.length
  · exact .inl ⟨h, bs, rfl, rfl, by rw [Nat.pow_zero, Nat.mod_one, sh_zero, Nat.xor_zero]⟩
  · exact .inr ⟨by omega, by rw [Nat.pow_zero, Nat.mod_one, Nat.zero_mul, Nat.xor_zero]; rfl⟩
theorem St.skip {bs zs : List UInt8} {frm ch i : Nat} (h : St bs frm ch i zs) (hb : ¬ ch / 2 ^ i % 2 = 1) : St bs frm ch (i + 1) zs := by
  unfold St; rw [low_clear hb]; exact h
theorem St.flip {bs zs : List UInt8} {frm ch i : Nat} (h : St bs frm ch i zs) (hb : ch / 2 ^ i % 2 = 1) {b c : UInt8}
    (hend : frm + i < if frm < 8 * bs.length then 8 * bs.length else 8 * (bs.length + 4))
    (hz : zs[(frm + i) / 8]? = some b) (hc : c.toNat = b.toNat ^^^ 2 ^ ((frm + i) % 8)) : St bs frm ch (i + 1) (zs.set ((frm + i) / 8) c) := by
  obtain ⟨hl, h⟩ := h
  refine ⟨by rw [List.length_set]; exact hl, ?_⟩
  rw [low_set hb]
  rcases h with ⟨hf, ys, rfl, hyl, hs⟩ | ⟨hf, rfl⟩
  · rw [if_pos hf] at hend
    have hp : (frm + i) / 8 < ys.length := by omega
    rw [List.getElem?_append_left hp] at hz
    refine .inl ⟨hf, ys.set ((frm + i) / 8) c, by rw [List.set_append_left _ _ hp], by rw [List.length_set]; exact hyl, ?_⟩
    have hfl := crc_flip (not32 0) ys ((frm + i) / 8) ((frm + i) % 8) b c hz (by omega) hc
    have e1 : sumC (ys.set ((frm + i) / 8) c) = sumC ys ^^^ sh (8 * ys.length - (8 * ((frm + i) / 8) + (frm + i) % 8)) 1 := by
      unfold sumC moreC
      rw [hfl]
      unfold not32
      rw [Nat.xor_assoc, Nat.xor_assoc, Nat.xor_comm 4294967295]
    rw [e1, hs, Nat.xor_assoc, sh_xor, hyl]
    congr 2
    rw [show 8 * bs.length - (8 * ((frm + i) / 8) + (frm + i) % 8) = (8 * bs.length - frm) - i from by omega]
    exact sh_bit (by omega)
  · rw [if_neg (by omega)] at hend
    have hp : bs.length ≤ (frm + i) / 8 := by omega
    rw [List.getElem?_append_right hp] at hz
    refine .inr ⟨hf, ?_⟩
    rw [List.set_append_right _ _ hp]
    congr 1
    obtain ⟨q, hq⟩ : ∃ q, frm + i = 8 * bs.length + q := ⟨frm + i - 8 * bs.length, by omega⟩
    have h1 : (frm + i) / 8 - bs.length = q / 8 := by omega
    have h2 : (frm + i) % 8 = q % 8 := by omega
    rw [h1] at hz
    rw [h2] at hc
    rw [h1, lit4_flip (by omega) hz hc]
    congr 1
    rw [Nat.xor_assoc]
    congr 1
    have hlt : ch % 2 ^ i < 2 ^ i := Nat.mod_lt _ (Nat.two_pow_pos i)
    rw [← add_bit hlt, Nat.add_mul, ← Nat.pow_add]
    have e : i + (frm - 8 * bs.length) = q := by omega
    rw [e]
    refine (add_bit ?_).symm
    rw [← e, Nat.pow_add]
    exact Nat.mul_lt_mul_of_pos_right hlt (Nat.two_pow_pos _)

theorem xor_self_eq {a b : Nat} (h : a ^^^ b = a) : b = 0 := by
  have : a ^^^ (a ^^^ b) = a ^^^ a := by rw [h]
  rwa [← Nat.xor_assoc, Nat.xor_self, Nat.zero_xor] at this
theorem St.ok {bs zs : List UInt8} {frm ch i : Nat} (h : St bs frm ch i zs) (hch : ch < 4294967296)
    (hend : frm + i ≤ if frm < 8 * bs.length then 8 * bs.length else 8 * (bs.length + 4)) : okC zs = decide (ch % 2 ^ i = 0) := by
  obtain ⟨hl, h⟩ := h
  have hd : ch % 2 ^ i < 4294967296 := Nat.lt_of_le_of_lt (Nat.mod_le _ _) hch
  unfold okC
  rw [hl, Nat.add_sub_cancel]
  rw [decide_eq_decide]
  rcases h with ⟨hf, ys, rfl, hyl, hs⟩ | ⟨hf, rfl⟩
  · rw [← hyl, List.take_left]
    unfold sealC
    constructor
    · rintro ⟨_, h⟩
      have h1 := lit4_inj (sumC_lt ys) (sumC_lt bs) (List.append_cancel_left h)
      rw [hs] at h1
      have h2 := xor_self_eq h1
      by_cases h0 : ch % 2 ^ i = 0
      · exact h0
      · exact absurd h2 (sh_ne _ hd h0)
    · intro h0
      rw [h0, sh_zero, Nat.xor_zero] at hs
      rw [hs]
      exact ⟨by omega, rfl⟩
  · rw [if_neg (by omega)] at hend
    rw [List.take_left]
    unfold sealC
    have hm : ch % 2 ^ i * 2 ^ (frm - 8 * bs.length) < 4294967296 := by
      have hlt : ch % 2 ^ i < 2 ^ i := Nat.mod_lt _ (Nat.two_pow_pos i)
      have h1 := Nat.mul_lt_mul_of_pos_right hlt (Nat.two_pow_pos (frm - 8 * bs.length))
      rw [← Nat.pow_add] at h1
      exact Nat.lt_of_lt_of_le h1 (show 2 ^ (i + (frm - 8 * bs.length)) ≤ 2 ^ 32 from Nat.pow_le_pow_right (by decide) (by omega))
    constructor
    · rintro ⟨_, h⟩
      have h1 := lit4_inj (sumC_lt bs) (xor32 (sumC_lt bs) hm) (List.append_cancel_left h)
      have h2 := xor_self_eq h1.symm
      rcases Nat.mul_eq_zero.1 h2 with h3 | h3
      · exact h3
      · have := Nat.two_pow_pos (frm - 8 * bs.length); omega
    · intro h0
      rw [h0, Nat.zero_mul, Nat.xor_zero]
      exact ⟨by omega, rfl⟩
end Go.Proofs.Ythddhcodlmlaiaa
