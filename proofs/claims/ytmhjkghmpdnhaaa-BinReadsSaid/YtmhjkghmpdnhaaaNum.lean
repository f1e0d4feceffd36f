/- Plain facts on the forms of numbers: reading inverts writing. No program in sight. -/
import Derived.Test.YtmhjkghmpdnhaaaBase
namespace Go.Proofs.Ytmhjkghmpdnhaaa

/-- The form of a number: seven bits a byte, the lowest first, all but the last with the high bit. -/
def leb (x : Nat) : List UInt8 :=
  if x < 128 then [UInt8.ofNat x] else UInt8.ofNat (x % 128 + 128) :: leb (x / 128)
  termination_by x
  decreasing_by omega

theorem leb_lt {x : Nat} (h : x < 128) : leb x = [UInt8.ofNat x] := by rw [leb, if_pos h]
theorem leb_ge {x : Nat} (h : ¬ x < 128) : leb x = UInt8.ofNat (x % 128 + 128) :: leb (x / 128) := by rw [leb, if_neg h]
theorem leb_pos (x : Nat) : 0 < (leb x).length := by rw [leb]; split <;> simp
theorem leb_len (k : Nat) : ∀ x, x < 128 ^ (k + 1) → (leb x).length ≤ k + 1 := by
  induction k with
  | zero => intro x h; rw [leb_lt (by simpa using h)]; simp
  | succ k ih =>
    intro x h
    by_cases hx : x < 128
    · rw [leb_lt hx]; simp
    · rw [leb_ge hx]
      have h2 : x < 128 ^ (k + 1) * 128 := by rw [← Nat.pow_succ]; exact h
      have := ih (x / 128) (Nat.div_lt_of_lt_mul (by rw [Nat.mul_comm]; exact h2))
      simp; omega
theorem leb_len10 {x : Nat} (h : x < 18446744073709551616) : (leb x).length ≤ 10 :=
  leb_len 9 x (Nat.lt_of_lt_of_le h (by decide))

/-- The number that bytes stand for. -/
def val : List UInt8 → Nat
  | [] => 0
  | b :: l => b.toNat % 128 + 128 * val l

theorem toNat_ofNat_small {n : Nat} (h : n < 256) : (UInt8.ofNat n).toNat = n := by rw [UInt8.toNat_ofNat']; omega

theorem val_leb (k : Nat) : ∀ x, x ≤ k → val (leb x) = x := by
  induction k with
  | zero => intro x h; rw [leb_lt (by omega)]; simp [val, toNat_ofNat_small (n := x) (by omega)]; omega
  | succ k ih =>
    intro x h
    by_cases hx : x < 128
    · rw [leb_lt hx]; simp only [val, toNat_ofNat_small (n := x) (by omega)]; omega
    · rw [leb_ge hx]
      simp only [val, toNat_ofNat_small (n := x % 128 + 128) (by omega), ih (x / 128) (by omega)]
      omega

theorem val_lt : ∀ l : List UInt8, val l < 128 ^ l.length
  | [] => by simp [val]
  | b :: l => by
    have := val_lt l
    simp only [val, List.length_cons, Nat.pow_succ]
    omega

theorem val_append : ∀ (l m : List UInt8), val (l ++ m) = val l + 128 ^ l.length * val m
  | [], m => by simp [val]
  | b :: l, m => by
    simp only [List.cons_append, val, val_append l m, List.length_cons, Nat.pow_succ, Nat.mul_add]
    have : 128 ^ l.length * (128 * val m) = 128 * (128 ^ l.length * val m) := by rw [← Nat.mul_assoc, Nat.mul_comm (128 ^ l.length) 128, Nat.mul_assoc]
    rw [Nat.mul_assoc]
    omega

/-- All bytes but the last bear the high bit; the last is below 128, and not 0 unless it is alone. -/
def canon (l : List UInt8) (d : UInt8) : Prop := (∀ b ∈ l, 128 ≤ b.toNat) ∧ d.toNat < 128 ∧ (l ≠ [] → d.toNat ≠ 0)

theorem leb_of_canon : ∀ (l : List UInt8) (d : UInt8), canon l d → leb (val (l ++ [d])) = l ++ [d]
  | [], d, h => by
    have hd := h.2.1
    simp only [List.nil_append, val]
    rw [leb_lt (by omega)]
    congr 1
    apply UInt8.toNat_inj.1
    rw [toNat_ofNat_small (by omega)]; omega
  | b :: l, d, h => by
    have hb : 128 ≤ b.toNat := h.1 b (List.mem_cons_self ..)
    have hb2 : b.toNat < 256 := b.toNat_lt
    have hd0 : d.toNat ≠ 0 := h.2.2 (by simp)
    have ih := leb_of_canon l d ⟨fun x hx => h.1 x (List.mem_cons_of_mem _ hx), h.2.1, fun _ => hd0⟩
    have hv : val (b :: l ++ [d]) = b.toNat % 128 + 128 * val (l ++ [d]) := rfl
    have hp : 0 < val (l ++ [d]) := by
      rw [val_append]
      have : 0 < 128 ^ l.length * val [d] := Nat.mul_pos (Nat.pow_pos (by omega)) (by have := h.2.1; simp only [val]; omega)
      omega
    rw [hv, leb_ge (by omega)]
    have e1 : (b.toNat % 128 + 128 * val (l ++ [d])) % 128 + 128 = b.toNat := by omega
    have e2 : (b.toNat % 128 + 128 * val (l ++ [d])) / 128 = val (l ++ [d]) := by omega
    rw [e1, e2, ih]
    show UInt8.ofNat b.toNat :: _ = b :: _
    congr 1
    exact UInt8.toNat_inj.1 (toNat_ofNat_small hb2)

theorem canon_leb (k : Nat) : ∀ x, x ≤ k → ∃ l d, leb x = l ++ [d] ∧ canon l d := by
  induction k with
  | zero =>
    intro x h
    refine ⟨[], UInt8.ofNat x, by rw [leb_lt (by omega)]; rfl, by simp, ?_, by simp⟩
    rw [toNat_ofNat_small (by omega)]; omega
  | succ k ih =>
    intro x h
    by_cases hx : x < 128
    · refine ⟨[], UInt8.ofNat x, by rw [leb_lt hx]; rfl, by simp, ?_, by simp⟩
      rw [toNat_ofNat_small (by omega)]; omega
    · obtain ⟨l, d, e, hc⟩ := ih (x / 128) (by omega)
      refine ⟨UInt8.ofNat (x % 128 + 128) :: l, d, by rw [leb_ge hx, e]; rfl, ?_, hc.2.1, fun _ => ?_⟩
      · intro b hb
        rcases List.mem_cons.1 hb with rfl | hb
        · rw [toNat_ofNat_small (by omega)]; omega
        · exact hc.1 b hb
      · by_cases hl : l = []
        · subst hl
          intro h0
          have hv := val_leb (x / 128) (x / 128) (Nat.le_refl _)
          rw [e] at hv
          simp [val, h0] at hv
          omega
        · exact hc.2.2 hl

/-- How far the continued bytes go: the number of leading bytes with the high bit. -/
def run7 : List UInt8 → Nat
  | [] => 0
  | b :: l => if b.toNat < 128 then 0 else run7 l + 1

theorem run7_le : ∀ l, run7 l ≤ l.length
  | [] => by simp [run7]
  | b :: l => by
    have := run7_le l
    simp only [run7]; split <;> simp <;> omega

theorem run7_high : ∀ (l : List UInt8) (j : Nat) (b : UInt8), j < run7 l → l[j]? = some b → 128 ≤ b.toNat
  | [], j, b, h, _ => by simp [run7] at h
  | a :: l, j, b, h, hb => by
    simp only [run7] at h
    split at h
    · omega
    · cases j with
      | zero => simp at hb; subst hb; omega
      | succ j => exact run7_high l j b (by omega) (by simpa using hb)

theorem run7_low : ∀ (l : List UInt8) (b : UInt8), l[run7 l]? = some b → b.toNat < 128
  | [], b, h => by simp [run7] at h
  | a :: l, b, h => by
    simp only [run7] at h
    split at h
    · simp at h; subst h; assumption
    · exact run7_low l b (by simpa using h)

/-- It is the one place with these two properties. -/
theorem run7_eq : ∀ (l : List UInt8) (k : Nat) (d : UInt8), (∀ j b, j < k → l[j]? = some b → 128 ≤ b.toNat) → l[k]? = some d → d.toNat < 128 → run7 l = k
  | [], k, d, _, h, _ => by simp at h
  | a :: l, k, d, h1, h2, h3 => by
    simp only [run7]
    cases k with
    | zero => simp at h2; subst h2; rw [if_pos h3]
    | succ k =>
      have := h1 0 a (by omega) rfl
      rw [if_neg (by omega), run7_eq l k d (fun j b hj hb => h1 (j + 1) b (by omega) (by simpa using hb)) (by simpa using h2) h3]

/-- Reading a number: the number and how many bytes it has. -/
def dec (bs : List UInt8) : Option (Nat × Nat) :=
  match bs[run7 bs]? with
  | none => none
  | some d => if run7 bs ≤ 9 ∧ (run7 bs = 9 → d.toNat ≤ 1) ∧ (0 < run7 bs → d.toNat ≠ 0) then some (val (bs.take (run7 bs + 1)), run7 bs + 1) else none

theorem take_run {bs : List UInt8} {d : UInt8} (h : bs[run7 bs]? = some d) : bs.take (run7 bs + 1) = bs.take (run7 bs) ++ [d] := by
  rw [List.take_add_one, h]; rfl

theorem canon_run {bs : List UInt8} {d : UInt8} (h : bs[run7 bs]? = some d) (h0 : 0 < run7 bs → d.toNat ≠ 0) : canon (bs.take (run7 bs)) d := by
  refine ⟨fun b hb => ?_, run7_low bs d h, fun hne => h0 ?_⟩
  · obtain ⟨j, hj, e⟩ := List.getElem_of_mem hb
    rw [List.length_take] at hj
    refine run7_high bs j b (by omega) ?_
    rw [List.getElem_take] at e
    rw [← e, List.getElem?_eq_getElem]
  · rcases Nat.eq_zero_or_pos (run7 bs) with h1 | h1
    · rw [h1] at hne; simp at hne
    · exact h1

theorem val_run_lt {bs : List UInt8} {d : UInt8} (h : bs[run7 bs]? = some d) (h9 : run7 bs ≤ 9) (h1 : run7 bs = 9 → d.toNat ≤ 1) : val (bs.take (run7 bs + 1)) < 18446744073709551616 := by
  have hlt := run7_low bs d h
  have hle : run7 bs < bs.length := (List.getElem?_eq_some_iff.1 h).1
  rw [take_run h, val_append, List.length_take, Nat.min_eq_left (by omega)]
  have hv := val_lt (bs.take (run7 bs))
  rw [List.length_take, Nat.min_eq_left (by omega)] at hv
  have hd : val [d] = d.toNat := by simp only [val]; omega
  rw [hd]
  by_cases h9' : run7 bs = 9
  · have := h1 h9'
    rw [h9'] at hv ⊢
    have e : 128 ^ 9 = 9223372036854775808 := by decide
    rw [e] at hv ⊢
    omega
  · have hp : 128 ^ (run7 bs + 1) ≤ 128 ^ 9 := Nat.pow_le_pow_right (by omega) (by omega)
    have e : 128 ^ 9 = 9223372036854775808 := by decide
    have hm : 128 ^ run7 bs * d.toNat ≤ 128 ^ run7 bs * 127 := Nat.mul_le_mul_left _ (by omega)
    rw [Nat.pow_succ] at hp
    omega

theorem dec_some {bs : List UInt8} {x n : Nat} (h : dec bs = some (x, n)) : leb x = bs.take n ∧ x < 18446744073709551616 ∧ 0 < n ∧ n ≤ 10 ∧ n ≤ bs.length := by
  unfold dec at h
  split at h
  · cases h
  · rename_i d hd
    split at h
    · rename_i hc
      simp only [Option.some.injEq, Prod.mk.injEq] at h
      obtain ⟨rfl, rfl⟩ := h
      have hle : run7 bs < bs.length := (List.getElem?_eq_some_iff.1 hd).1
      refine ⟨?_, val_run_lt hd hc.1 hc.2.1, by omega, by omega, by omega⟩
      rw [take_run hd]
      exact leb_of_canon _ _ (canon_run hd hc.2.2)
    · cases h

/-- What begins with a number's form is read as that number. -/
theorem dec_leb {x : Nat} (hx : x < 18446744073709551616) (m : List UInt8) : dec (leb x ++ m) = some (x, (leb x).length) := by
  obtain ⟨l, d, e, hc⟩ := canon_leb x x (Nat.le_refl _)
  have hget : (leb x ++ m)[l.length]? = some d := by
    rw [e]; simp
  have hrun : run7 (leb x ++ m) = l.length := run7_eq _ _ d (fun j b hj hb => by
    rw [e, List.append_assoc, List.getElem?_append_left hj] at hb
    exact hc.1 b (List.mem_of_getElem? hb)) hget hc.2.1
  have hl : (leb x).length = l.length + 1 := by rw [e]; simp
  have h10 := leb_len10 hx
  have htk : (leb x ++ m).take (l.length + 1) = leb x := by rw [← hl]; simp
  unfold dec
  rw [hrun, hget]
  simp only
  rw [if_pos, htk, val_leb x x (Nat.le_refl _), hl]
  refine ⟨by omega, fun h9 => ?_, fun h0 => hc.2.2 (by intro hn; rw [hn] at h0; simp at h0)⟩
  have hv := val_leb x x (Nat.le_refl _)
  rw [e, val_append, h9] at hv
  have e9 : 128 ^ 9 = 9223372036854775808 := by decide
  rw [e9] at hv
  have hd : val [d] = d.toNat := by have := hc.2.1; simp only [val]; omega
  rw [hd] at hv
  omega

theorem dec_take {bs : List UInt8} {x n : Nat} (hx : x < 18446744073709551616) (h : leb x = bs.take n) : dec bs = some (x, (leb x).length) := by
  have := dec_leb hx (bs.drop n)
  rwa [h, List.take_append_drop, ← h] at this

/-- The bytes are just the form of what is read. -/
theorem dec_whole {bs : List UInt8} {x : Nat} (hx : x < 18446744073709551616) : leb x = bs ↔ dec bs = some (x, bs.length) := by
  constructor
  · intro h
    have := dec_leb hx []
    rw [List.append_nil, h] at this
    exact this
  · intro h
    have := (dec_some h).1
    rwa [List.take_length] at this

theorem or_shift (V d s : Nat) (hV : V < 2 ^ s) (hs : s ≤ 63) : V ||| (d * 2 ^ s % 18446744073709551616) = (V + d * 2 ^ s) % 18446744073709551616 := by
  have e64 : 18446744073709551616 = 2 ^ s * 2 ^ (64 - s) := by rw [← Nat.pow_add, show s + (64 - s) = 64 from by omega]
  generalize hM : 2 ^ (64 - s) = M at e64
  have hMp : 0 < M := by rw [← hM]; exact Nat.pow_pos (by omega)
  have h1 : d * 2 ^ s % 18446744073709551616 = 2 ^ s * (d % M) := by
    rw [e64, Nat.mul_comm d, Nat.mul_mod_mul_left]
  rw [h1, Nat.or_comm, ← Nat.two_pow_add_eq_or_of_lt hV, e64]
  have h2 : V + d * 2 ^ s = (2 ^ s * (d % M) + V) + (2 ^ s * M) * (d / M) := by
    have hd := Nat.div_add_mod d M
    have : d * 2 ^ s = 2 ^ s * (d % M) + 2 ^ s * M * (d / M) := by
      rw [Nat.mul_assoc, ← Nat.mul_add, Nat.add_comm (d % M), hd, Nat.mul_comm]
    omega
  have h3 : 2 ^ s * (d % M) + V < 2 ^ s * M := by
    have hm : d % M + 1 ≤ M := Nat.mod_lt d hMp
    have := Nat.mul_le_mul_left (2 ^ s) hm
    rw [Nat.mul_add, Nat.mul_one] at this
    omega
  rw [h2, Nat.add_mul_mod_self_left, Nat.mod_eq_of_lt h3]

theorem and127_256 : ∀ m : Fin 256, bits BinOp.and IntKind.u8 ((m.val : Nat) : Int) 127 = ((m.val % 128 : Nat) : Int) := by decide +kernel
theorem and127 (b : UInt8) : bits BinOp.and IntKind.u8 (b.toNat : Int) 127 = ((b.toNat % 128 : Nat) : Int) := and127_256 ⟨b.toNat, b.toNat_lt⟩

theorem pow128 (k : Nat) : 128 ^ k = 2 ^ (7 * k) := by rw [Nat.pow_mul]

theorem val_take_lt (bs : List UInt8) (k : Nat) : val (bs.take k) < 128 ^ k :=
  Nat.lt_of_lt_of_le (val_lt _) (Nat.pow_le_pow_right (by omega) (List.length_take_le ..))

theorem val_take_succ {bs : List UInt8} {k : Nat} {b : UInt8} (h : bs[k]? = some b) : val (bs.take (k + 1)) = val (bs.take k) + b.toNat % 128 * 2 ^ (7 * k) := by
  have hk : k < bs.length := (List.getElem?_eq_some_iff.1 h).1
  rw [List.take_add_one, h, Option.toList, val_append, List.length_take, Nat.min_eq_left (by omega), pow128]
  simp only [val]
  rw [Nat.mul_comm, Nat.mul_zero, Nat.add_zero]

theorem pow_small {k : Nat} (hk : k ≤ 9) : 128 ^ k ≤ 9223372036854775808 := by
  have : 128 ^ k ≤ 128 ^ 9 := Nat.pow_le_pow_right (by omega) hk
  have e : 128 ^ 9 = 9223372036854775808 := by decide
  omega

/-- A step of the program's loop. -/
theorem or_step {bs : List UInt8} {k : Nat} {b : UInt8} {X : Nat} (hk : k ≤ 9) (h : bs[k]? = some b) (hX : X = val (bs.take k) % 18446744073709551616) :
    bits BinOp.or IntKind.u64 ((X : Nat) : Int) (IntKind.u64.wrap (IntKind.u64.wrap (bits BinOp.and IntKind.u8 (b.toNat : Int) 127) * 2 ^ (7 * k))) =
      ((val (bs.take (k + 1)) % 18446744073709551616 : Nat) : Int) := by
  have hv := val_take_lt bs k
  have hp := pow_small hk
  have hd : b.toNat % 128 < 128 := Nat.mod_lt _ (by omega)
  rw [and127, IntKind.wrap_u64, IntKind.wrap_u64]
  have e1 : ((b.toNat % 128 : Nat) : Int) % 18446744073709551616 = ((b.toNat % 128 : Nat) : Int) := by omega
  rw [e1]
  have e2 : (((b.toNat % 128 : Nat) : Int) * 2 ^ (7 * k)) % 18446744073709551616 = ((b.toNat % 128 * 2 ^ (7 * k) % 18446744073709551616 : Nat) : Int) := by
    simp
  have e3 : ((X : Nat) : Int) = ((val (bs.take k) : Nat) : Int) := by omega
  rw [e2, e3, u64_or_nat _ _ (by omega) (Nat.mod_lt _ (by omega)), or_shift _ _ _ (by rw [← pow128]; exact hv) (by omega), val_take_succ h]

/-- The reference's step. -/
theorem add_step {bs : List UInt8} {k : Nat} {b : UInt8} (hk : k ≤ 9) (h : bs[k]? = some b) (h9 : k = 9 → b.toNat % 128 ≤ 1) :
    val (bs.take (k + 1)) = val (bs.take k) + b.toNat % 128 * 2 ^ (7 * k) ∧ b.toNat % 128 * 2 ^ (7 * k) < 18446744073709551616 ∧ val (bs.take (k + 1)) < 18446744073709551616 := by
  have hv := val_take_lt bs k
  have hs := val_take_succ h
  have hd : b.toNat % 128 < 128 := Nat.mod_lt _ (by omega)
  by_cases h9' : k = 9
  · subst h9'
    have := h9 rfl
    have e : (2 : Nat) ^ (7 * 9) = 9223372036854775808 := by decide
    have e2 : (128 : Nat) ^ 9 = 9223372036854775808 := by decide
    rw [e] at hs
    rw [e2] at hv
    refine ⟨by rw [hs, e], by rw [e]; omega, by omega⟩
  · have hp := pow_small (k := k + 1) (by omega)
    rw [Nat.pow_succ, pow128] at hp
    rw [pow128] at hv
    have hm : b.toNat % 128 * 2 ^ (7 * k) ≤ 127 * 2 ^ (7 * k) := Nat.mul_le_mul_right _ (by omega)
    exact ⟨hs, by omega, by omega⟩

theorem dec_none_long {bs : List UInt8} {k : Nat} (h : ∀ j b, j < k → bs[j]? = some b → 128 ≤ b.toNat) (hk : k = bs.length ∨ 10 ≤ k) : dec bs = none := by
  unfold dec
  split
  · rfl
  · rename_i d hd
    have hlow := run7_low bs d hd
    have hlt := (List.getElem?_eq_some_iff.1 hd).1
    have hge : k ≤ run7 bs := by
      rcases Nat.lt_or_ge (run7 bs) k with h1 | h1
      · have := h _ d h1 hd; omega
      · exact h1
    rw [if_neg (by omega)]

theorem dec_at {bs : List UInt8} {k : Nat} {d : UInt8} (h : ∀ j b, j < k → bs[j]? = some b → 128 ≤ b.toNat) (hd : bs[k]? = some d) (hl : d.toNat < 128) :
    dec bs = if k ≤ 9 ∧ (k = 9 → d.toNat ≤ 1) ∧ (0 < k → d.toNat ≠ 0) then some (val (bs.take (k + 1)), k + 1) else none := by
  have hr := run7_eq bs k d h hd hl
  unfold dec
  rw [hr, hd]

/-- What the program looks at: whether the form of what it has read is what it has read. -/
theorem dec_peek {bs : List UInt8} {k : Nat} {d : UInt8} (h : ∀ j b, j < k → bs[j]? = some b → 128 ≤ b.toNat) (hd : bs[k]? = some d) (hl : d.toNat < 128) :
    dec bs = if leb (val (bs.take (k + 1)) % 18446744073709551616) = bs.take (k + 1) then some (val (bs.take (k + 1)) % 18446744073709551616, k + 1) else none := by
  have hlt := (List.getElem?_eq_some_iff.1 hd).1
  split
  · rename_i he
    rw [dec_take (Nat.mod_lt _ (by omega)) he, he, List.length_take, Nat.min_eq_left (by omega)]
  · rename_i hne
    rw [dec_at h hd hl]
    rw [if_neg]
    intro hc
    have hr := run7_eq bs k d h hd hl
    have hds : dec bs = some (val (bs.take (k + 1)), k + 1) := by rw [dec_at h hd hl, if_pos hc]
    obtain ⟨h1, h2, _⟩ := dec_some hds
    exact hne (by rw [Nat.mod_eq_of_lt h2]; exact h1)
end Go.Proofs.Ytmhjkghmpdnhaaa
