/- Words of 32 bits as the model reckons them. No program in sight. -/
import Derived.WalkKit
import Derived.Laws.BitsAllLaws
import Derived.Test.YthddhcodlmlaiaaCrc
namespace Go.Proofs.Ythddhcodlmlaiaa
open Go.RowKit

theorem and1_u32 {x : Nat} (h : x < 4294967296) : bits BinOp.and IntKind.u32 (x : Int) 1 = ((x % 2 : Nat) : Int) := by
  have := u32_and_nat x 1 h (by decide)
  rw [nat_mask1] at this; exact this
theorem xor_poly {x : Nat} (h : x < 4294967296) : bits BinOp.xor IntKind.u32 (x : Int) 2197175160 = ((x ^^^ 2197175160 : Nat) : Int) := u32_xor_nat x 2197175160 h (by decide)
theorem mask_all {x : Nat} (h : x < 4294967296) : bits BinOp.and IntKind.u32 (x : Int) 4294967295 = (x : Int) := by
  have h1 := u32_and_nat x 4294967295 h (by decide)
  have h2 : x &&& 4294967295 = x := by
    have := Nat.and_two_pow_sub_one_eq_mod x 32
    rw [show 4294967295 = 2 ^ 32 - 1 from rfl, this]; omega
  rw [h2] at h1; exact h1
theorem mask_none {x : Nat} (h : x < 4294967296) : bits BinOp.and IntKind.u32 (x : Int) 0 = 0 := by
  have h1 := u32_and_nat x 0 h (by decide)
  rw [Nat.and_zero] at h1; exact h1

/-- One shift as the program writes it. -/
theorem shift_bits {y : Nat} (h : y < 4294967296) :
    bits BinOp.xor IntKind.u32 ((y : Int) / 2) (bits BinOp.and IntKind.u32 2197175160 (-bits BinOp.and IntKind.u32 (y : Int) 1 % 4294967296)) = ((sh1 y : Nat) : Int) := by
  rw [and1_u32 h]
  have e : ((y : Int) / 2) = ((y / 2 : Nat) : Int) := by omega
  rw [e]
  unfold sh1
  rcases Nat.mod_two_eq_zero_or_one y with h1 | h1
  · rw [h1, if_neg (by decide)]
    have := mask_none (x := 2197175160) (by decide)
    show bits BinOp.xor IntKind.u32 _ (bits BinOp.and IntKind.u32 ((2197175160 : Nat) : Int) 0) = _
    rw [this]
    have h2 := u32_xor_nat (y / 2) 0 (by omega) (by decide)
    rw [Nat.xor_zero] at h2
    exact h2
  · rw [h1, if_pos rfl]
    have := mask_all (x := 2197175160) (by decide)
    show bits BinOp.xor IntKind.u32 _ (bits BinOp.and IntKind.u32 ((2197175160 : Nat) : Int) 4294967295) = _
    rw [this]
    exact xor_poly (by omega)

/-- One shift as the reference writes it. -/
theorem shift_ref1 {y : Nat} (h : y < 4294967296) (h1 : y % 2 = 1) : bits BinOp.xor IntKind.u32 ((y : Int) / 2) 2197175160 = ((sh1 y : Nat) : Int) := by
  have e : ((y : Int) / 2) = ((y / 2 : Nat) : Int) := by omega
  unfold sh1
  rw [e, if_pos h1]
  exact xor_poly (by omega)
theorem shift_ref0 {y : Nat} (h1 : y % 2 = 0) : ((y : Int) / 2) = ((sh1 y : Nat) : Int) := by
  unfold sh1
  rw [if_neg (by omega)]; omega

theorem byte_u32 {x : Nat} : (x : Int) % 256 = ((x % 256 : Nat) : Int) := by omega
theorem xor_u32 {x y : Nat} (h : x < 4294967296) (h2 : y < 4294967296) : bits BinOp.xor IntKind.u32 (x : Int) (y : Int) = ((x ^^^ y : Nat) : Int) := u32_xor_nat x y h h2
theorem xor_u8 {x y : Nat} (h : x < 256) (h2 : y < 256) : bits BinOp.xor IntKind.u8 (x : Int) (y : Int) = ((x ^^^ y : Nat) : Int) := u8_xor_nat x y h h2

/-- The first 'k' entries of the table. -/
structure Tab (k : Nat) (cs : Array Value) : Prop where
  size : cs.size = 256
  ints : ∀ i, i < 256 → ∃ z, cs[i]? = some (.int .u32 z)
  done : ∀ i, i < k → cs[i]? = some (.int .u32 (sh 8 i))
theorem Tab.zero : Tab 0 (Array.replicate 256 (.int .u32 0)) := ⟨Array.size_replicate, fun i hi => ⟨0, by rw [Array.getElem?_replicate, if_pos hi]⟩, fun i hi => by omega⟩
theorem Tab.succ {k : Nat} {cs : Array Value} (h : Tab k cs) (hk : k < 256) : Tab (k + 1) (cs.setIfInBounds k (.int .u32 (sh 8 k))) := by
  have hs := h.size
  refine ⟨by simp [hs], fun i hi => ?_, fun i hi => ?_⟩
  · rw [Array.getElem?_setIfInBounds]
    by_cases e : k = i
    · rw [if_pos e, if_pos (by omega)]; exact ⟨_, rfl⟩
    · rw [if_neg e]; exact h.ints i hi
  · rw [Array.getElem?_setIfInBounds]
    by_cases e : k = i
    · rw [if_pos e, if_pos (by omega), e]
    · rw [if_neg e]; exact h.done i (by omega)
theorem Tab.one {k : Nat} {cs : Array Value} (h : Tab k cs) : cs.all (·.oneCell') = true := by
  rw [Array.all_eq_true_iff_forall_mem]
  intro v hv
  obtain ⟨i, hi, rfl⟩ := Array.getElem_of_mem hv
  obtain ⟨z, hz⟩ := h.ints i (by rw [← h.size]; exact hi)
  rw [Array.getElem?_eq_getElem hi] at hz
  injection hz with hz
  rw [hz]; rfl

theorem not_u32 {x : Nat} (h : x < 4294967296) : bits BinOp.xor IntKind.u32 IntKind.u32.max (x : Int) = ((not32 x : Nat) : Int) := by
  have := u32_xor_nat 4294967295 x (by decide) h
  rw [Nat.xor_comm] at this
  exact this
theorem step_u32 {y c : Nat} (h : y < 4294967296) (hc : c < 256) : bits BinOp.xor IntKind.u32 ((y : Int) / 256) ((sh 8 (y % 256 ^^^ c) : Nat) : Int) = ((feed y c : Nat) : Int) := by
  have e : ((y : Int) / 256) = ((y / 256 : Nat) : Int) := by omega
  have hx : y % 256 ^^^ c < 256 := Nat.xor_lt_two_pow (n := 8) (by omega) hc
  rw [e, xor_u32 (by omega) (sh_lt 8 (by omega)), table_step]
theorem byte_xor {y c : Nat} (hc : c < 256) : bits BinOp.xor IntKind.u8 ((y : Int) % 256) (c : Int) = ((y % 256 ^^^ c : Nat) : Int) := by
  have e : ((y : Int) % 256) = ((y % 256 : Nat) : Int) := by omega
  rw [e, xor_u8 (by omega) hc]
theorem crc_take {r k : Nat} {bs : List UInt8} {b : UInt8} (h : bs[k]? = some b) : crc r (bs.take (k + 1)) = feed (crc r (bs.take k)) b.toNat := by
  rw [List.take_add_one, h, crc_append]; rfl
end Go.Proofs.Ythddhcodlmlaiaa
