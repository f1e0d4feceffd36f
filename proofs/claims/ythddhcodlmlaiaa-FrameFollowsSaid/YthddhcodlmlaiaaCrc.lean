/- CRC-32C in plain words: the register bit by bit, its linearity, what a burst does. No program in sight. -/
import Init.Data.Nat.Bitwise.Lemmas
import Init.Data.List.Lemmas
import Init.Omega
namespace Go.Proofs.Ythddhcodlmlaiaa

/-- One shift of the register. -/
def sh1 (r : Nat) : Nat := if r % 2 = 1 then r / 2 ^^^ 2197175160 else r / 2
def sh : Nat → Nat → Nat
  | 0, r => r
  | k + 1, r => sh k (sh1 r)
def feed (r c : Nat) : Nat := sh 8 (r ^^^ c)
def crc (r : Nat) : List UInt8 → Nat
  | [] => r
  | b :: bs => crc (feed r b.toNat) bs
def not32 (x : Nat) : Nat := x ^^^ 4294967295
def moreC (x : Nat) (bs : List UInt8) : Nat := not32 (crc (not32 x) bs)
def sumC (bs : List UInt8) : Nat := moreC 0 bs

theorem xor_mod2 (a b : Nat) : (a ^^^ b) % 2 = (a % 2 + b % 2) % 2 := by
  have h := Nat.xor_mod_two_pow (a := a) (b := b) (n := 1)
  rw [Nat.pow_one] at h
  rw [h]
  rcases Nat.mod_two_eq_zero_or_one a with h1 | h1 <;> rcases Nat.mod_two_eq_zero_or_one b with h2 | h2 <;> rw [h1, h2] <;> rfl

theorem sh1_xor (a b : Nat) : sh1 (a ^^^ b) = sh1 a ^^^ sh1 b := by
  unfold sh1
  rw [xor_mod2, Nat.xor_div_two]
  rcases Nat.mod_two_eq_zero_or_one a with h1 | h1 <;> rcases Nat.mod_two_eq_zero_or_one b with h2 | h2 <;> rw [h1, h2]
  · simp
  · simp [Nat.xor_assoc]
  · simp only [Nat.reduceAdd, Nat.reduceMod, if_true]
    rw [if_neg (by decide)]
    rw [Nat.xor_assoc, Nat.xor_assoc, Nat.xor_comm 2197175160]
  · simp only [Nat.reduceAdd, Nat.reduceMod, if_true]
    rw [if_neg (by decide)]
    have : a / 2 ^^^ 2197175160 ^^^ (b / 2 ^^^ 2197175160) = a / 2 ^^^ b / 2 ^^^ (2197175160 ^^^ 2197175160) := by
      rw [Nat.xor_assoc, Nat.xor_assoc, Nat.xor_comm 2197175160 (b / 2 ^^^ 2197175160), Nat.xor_assoc]
    rw [this, Nat.xor_self, Nat.xor_zero]
theorem sh1_zero : sh1 0 = 0 := rfl
theorem sh_xor (k a b : Nat) : sh k (a ^^^ b) = sh k a ^^^ sh k b := by
  induction k generalizing a b with
  | zero => rfl
  | succ k ih => rw [sh, sh1_xor, ih]; rfl
theorem sh_zero (k : Nat) : sh k 0 = 0 := by
  induction k with
  | zero => rfl
  | succ k ih => exact ih
theorem sh_add (j k a : Nat) : sh (j + k) a = sh k (sh j a) := by
  induction j generalizing a with
  | zero => rw [Nat.zero_add]; rfl
  | succ j ih => rw [Nat.succ_add, sh, ih]; rfl
theorem sh_succ (k a : Nat) : sh (k + 1) a = sh1 (sh k a) := sh_add k 1 a
theorem sh1_lt {r : Nat} (h : r < 4294967296) : sh1 r < 4294967296 := by
  unfold sh1
  split
  · exact Nat.xor_lt_two_pow (n := 32) (by omega) (by decide)
  · omega
theorem sh_lt {r : Nat} (k : Nat) (h : r < 4294967296) : sh k r < 4294967296 := by
  induction k generalizing r with
  | zero => exact h
  | succ k ih => exact ih (sh1_lt h)
theorem xor32 {a b : Nat} (ha : a < 4294967296) (hb : b < 4294967296) : a ^^^ b < 4294967296 := Nat.xor_lt_two_pow (n := 32) ha hb
theorem not32_lt {a : Nat} (ha : a < 4294967296) : not32 a < 4294967296 := xor32 ha (by decide)
theorem not32_not {a : Nat} : not32 (not32 a) = a := by unfold not32; rw [Nat.xor_assoc, Nat.xor_self, Nat.xor_zero]
theorem not32_xor (a b : Nat) : not32 (a ^^^ b) = a ^^^ not32 b := by unfold not32; rw [Nat.xor_assoc]
theorem feed_lt {r c : Nat} (hr : r < 4294967296) (hc : c < 256) : feed r c < 4294967296 := sh_lt 8 (xor32 hr (by omega))
theorem crc_lt {r : Nat} (bs : List UInt8) (hr : r < 4294967296) : crc r bs < 4294967296 := by
  induction bs generalizing r with
  | nil => exact hr
  | cons b bs ih => exact ih (feed_lt hr b.toNat_lt)
theorem moreC_lt {x : Nat} (bs : List UInt8) (hx : x < 4294967296) : moreC x bs < 4294967296 := not32_lt (crc_lt bs (not32_lt hx))
theorem sumC_lt (bs : List UInt8) : sumC bs < 4294967296 := moreC_lt bs (by decide)

theorem crc_append (r : Nat) (a b : List UInt8) : crc r (a ++ b) = crc (crc r a) b := by
  induction a generalizing r with
  | nil => rfl
  | cons x a ih => exact ih _
theorem moreC_append (x : Nat) (a b : List UInt8) : moreC x (a ++ b) = moreC (moreC x a) b := by
  unfold moreC; rw [not32_not, crc_append]
theorem moreC_sum (a b : List UInt8) : moreC (sumC a) b = sumC (a ++ b) := (moreC_append 0 a b).symm
theorem moreC_nil (x : Nat) : moreC x [] = x := not32_not

/-- The register's part and the bytes' part. -/
theorem crc_xor (r s : Nat) (bs : List UInt8) : crc (r ^^^ s) bs = sh (8 * bs.length) r ^^^ crc s bs := by
  induction bs generalizing r s with
  | nil => rfl
  | cons b bs ih =>
    show crc (feed (r ^^^ s) b.toNat) bs = _
    unfold feed
    rw [Nat.xor_assoc, sh_xor, ih, ← sh_add, List.length_cons, show 8 + 8 * bs.length = 8 * (bs.length + 1) from by omega]
    rfl

/-- Join. -/
theorem join_law (a b : List UInt8) : sh (8 * b.length) (sumC a) ^^^ sumC b = sumC (a ++ b) := by
  rw [← moreC_sum]
  unfold moreC sumC moreC
  rw [show not32 (not32 (crc (not32 0) a)) = not32 (crc (not32 0) a) ^^^ not32 0 from by unfold not32; rw [Nat.zero_xor], crc_xor, not32_xor]

/-- A byte of the table. -/
theorem sh_mul (k x : Nat) : sh k (x * 2 ^ k) = x := by
  induction k generalizing x with
  | zero => rw [Nat.pow_zero, Nat.mul_one]; rfl
  | succ k ih =>
    have e : sh1 (x * 2 ^ (k + 1)) = x * 2 ^ k := by
      unfold sh1
      have h1 : x * 2 ^ (k + 1) = 2 * (x * 2 ^ k) := by rw [Nat.pow_succ, ← Nat.mul_assoc, Nat.mul_comm]
      rw [h1, if_neg (by omega)]
      omega
    rw [sh, e, ih]
theorem split_xor (r : Nat) : r = (r / 256 * 256) ^^^ (r % 256) := by
  have h := Nat.two_pow_add_eq_or_of_lt (i := 8) (b := r % 256) (Nat.mod_lt _ (by decide)) (r / 256)
  apply Nat.eq_of_testBit_eq
  intro i
  rw [Nat.testBit_xor, show r / 256 * 256 = r / 256 * 2 ^ 8 from rfl, show r % 256 = r % 2 ^ 8 from rfl, Nat.testBit_mul_two_pow, Nat.testBit_mod_two_pow, show r / 256 = r / 2 ^ 8 from rfl, Nat.testBit_div_two_pow]
  by_cases h8 : i < 8
  · simp [h8, Nat.not_le.2 h8]
  · simp [h8, Nat.not_lt.1 h8]
theorem table_step (r c : Nat) : r / 256 ^^^ sh 8 (r % 256 ^^^ c) = feed r c := by
  unfold feed
  rw [show sh 8 (r ^^^ c) = sh 8 ((r / 256 * 256) ^^^ (r % 256 ^^^ c)) from by rw [← Nat.xor_assoc, ← split_xor], sh_xor 8 (r / 256 * 256)]
  congr 1
  exact (sh_mul 8 (r / 256)).symm

/-- A shift of a register that is not zero is not zero. -/
theorem sh1_ne {r : Nat} (h : r < 4294967296) (h0 : r ≠ 0) : sh1 r ≠ 0 := by
  unfold sh1
  split
  · intro e
    have : r / 2 = 2197175160 := by
      have h2 : r / 2 ^^^ 2197175160 ^^^ 2197175160 = 0 ^^^ 2197175160 := by rw [e]
      rwa [Nat.xor_assoc, Nat.xor_self, Nat.xor_zero, Nat.zero_xor] at h2
    omega
  · omega
theorem sh_ne {r : Nat} (k : Nat) (h : r < 4294967296) (h0 : r ≠ 0) : sh k r ≠ 0 := by
  induction k generalizing r with
  | zero => exact h0
  | succ k ih => exact ih (sh1_lt h) (sh1_ne h h0)

/-- A bit of byte 'i' is inverted. -/
theorem crc_flip (r : Nat) (bs : List UInt8) (i k : Nat) (b c : UInt8) (hb : bs[i]? = some b) (hk : k < 8) (hc : c.toNat = b.toNat ^^^ 2 ^ k) :
    crc r (bs.set i c) = crc r bs ^^^ sh (8 * bs.length - (8 * i + k)) 1 := by
  induction bs generalizing r i with
  | nil => simp at hb
  | cons a bs ih =>
    cases i with
    | zero =>
      simp only [List.getElem?_cons_zero, Option.some.injEq] at hb
      subst hb
      show crc (feed r c.toNat) bs = crc (feed r a.toNat) bs ^^^ _
      have e : feed r c.toNat = sh (8 - k) 1 ^^^ feed r a.toNat := by
        unfold feed
        rw [hc, ← Nat.xor_assoc, sh_xor, Nat.xor_comm]
        congr 1
        have h8 : sh 8 (2 ^ k) = sh (k + (8 - k)) (1 * 2 ^ k) := by rw [Nat.one_mul]; congr 1; omega
        rw [h8, sh_add, sh_mul]
      rw [e, crc_xor, ← sh_add, Nat.xor_comm]
      congr 2
      rw [List.length_cons]; omega
    | succ i =>
      simp only [List.getElem?_cons_succ] at hb
      show crc (feed r a.toNat) (bs.set i c) = crc (feed r a.toNat) bs ^^^ _
      rw [ih _ _ hb]
      congr 2
      rw [List.length_cons]; omega

theorem sh_bit {n i : Nat} (h : i ≤ n) : sh (n - i) 1 = sh n (2 ^ i) := by
  have e : sh n (2 ^ i) = sh (i + (n - i)) (1 * 2 ^ i) := by rw [Nat.one_mul]; congr 1; omega
  rw [e, sh_add, sh_mul]

theorem not32_inj {a b : Nat} (h : not32 a = not32 b) : a = b := by rw [← not32_not (a := a), h, not32_not]

/-- The four bytes. -/
def lit4 (x : Nat) : List UInt8 := [UInt8.ofNat x, UInt8.ofNat (x / 256), UInt8.ofNat (x / 65536), UInt8.ofNat (x / 16777216)]
theorem lit4_inj {x y : Nat} (hx : x < 4294967296) (hy : y < 4294967296) (h : lit4 x = lit4 y) : x = y := by
  unfold lit4 at h
  simp only [List.cons.injEq, and_true] at h
  obtain ⟨h1, h2, h3, h4⟩ := h
  have e1 := congrArg UInt8.toNat h1
  have e2 := congrArg UInt8.toNat h2
  have e3 := congrArg UInt8.toNat h3
  have e4 := congrArg UInt8.toNat h4
  simp only [UInt8.toNat_ofNat'] at e1 e2 e3 e4
  omega
end Go.Proofs.Ythddhcodlmlaiaa
