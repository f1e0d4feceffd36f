/- The program's reader: the reads. -/
import Derived.Test.YtmhjkghmpdnhaaaRead
import Derived.WalkSmall
import Derived.Laws.DeepNot64
namespace Go.Proofs.Ytmhjkghmpdnhaaa
open Go.RowKit

theorem peek_any (g : Nat) (bs : List UInt8) (w : World) (h : Rdr w g bs false) :
    Calls Try.prog 34 #[.pointer (some ⟨g, 0, none⟩)] w fun e w' => Peeked bs w e w' := by
  by_cases hl : (10 : Int) < (bs.length : Int)
  · exact peek_ge g bs w h hl
  · exact peek_lt g bs w h (by omega)

theorem peek_some {g : Nat} {bs : List UInt8} {w : World} {x n : Nat} (h : Rdr w g bs false) (hd : Hid (dec bs = some (x, n))) :
    Calls Try.prog 34 #[.pointer (some ⟨g, 0, none⟩)] w fun e w' => e = .returned (.tuple #[.int .u64 x, .int .i64 n, .bool true]) ∧ Below w.heap.size w w' :=
  (peek_any g bs w h).mono fun _ _ hp => ⟨by rw [hp.1, hd.out], hp.2⟩
theorem peek_none {g : Nat} {bs : List UInt8} {w : World} (h : Rdr w g bs false) (hd : Hid (dec bs = none)) :
    Calls Try.prog 34 #[.pointer (some ⟨g, 0, none⟩)] w fun e w' => e = .returned (.tuple #[.int .u64 0, .int .i64 0, .bool false]) ∧ Below w.heap.size w w' :=
  (peek_any g bs w h).mono fun _ _ hp => ⟨by rw [hp.1, hd.out], hp.2⟩

set_option maxRecDepth 100000 in
set_option maxHeartbeats 1000000 in
theorem peek_bad {g : Nat} {bs : List UInt8} {w : World} (h : Rdr w g bs true) :
    Calls Try.prog 34 #[.pointer (some ⟨g, 0, none⟩)] w fun e w' => e = .returned (.tuple #[.int .u64 0, .int .i64 0, .bool false]) ∧ Below w.heap.size w w' := by
  obtain ⟨A, c, h1, h2, h3, h4⟩ := h
  have hc1 : w.cell? ⟨g, 1, none⟩ = some (.bool true) := by simp [World.cell?, h1]
  clear h1
  go_enter Try.func34, Try.ntmps34
  go_wp2_with fail
  go_ret3
  exact ⟨rfl, Below.refl _ _⟩

/-- There is no number to be read. -/
theorem peek_no {g : Nat} {bs : List UInt8} {bad : Bool} {w : World} (h : Rdr w g bs bad) (hd : Hid (bad = true ∨ dec bs = none)) :
    Calls Try.prog 34 #[.pointer (some ⟨g, 0, none⟩)] w fun e w' => e = .returned (.tuple #[.int .u64 0, .int .i64 0, .bool false]) ∧ Below w.heap.size w w' := by
  cases bad with
  | true => exact peek_bad h
  | false => exact peek_none h (by rcases hd.out with h | h; cases h; exact h)

set_option maxRecDepth 100000 in
set_option maxHeartbeats 1000000 in
theorem uint_no {g : Nat} {bs : List UInt8} {bad : Bool} {w : World} (h : Rdr w g bs bad) (hd : Hid (bad = true ∨ dec bs = none)) :
    Calls Try.prog 18 #[.pointer (some ⟨g, 0, none⟩)] w fun e w' => e = .returned (.int .u64 0) ∧ Rdr w' g bs true ∧ w.grownBy w' (some g) := by
  have hlt := h.lt
  have H := Lib.hid h; clear h
  go_enter Try.func18, Try.ntmps18
  go_wp2_with fail
  refine (peek_no H.out hd).mono ?_
  rintro e w1 ⟨rfl, hb⟩
  go_wp2_with fail
  refine (fail_any g bs bad _ (H.out.below hb hlt)).mono ?_
  rintro e w2 ⟨rfl, hr, hg⟩
  go_wp2_with fail
  go_ret
  exact ⟨rfl, hr, grown_trans (grown_of_below hb _) hg⟩

set_option maxRecDepth 100000 in
set_option maxHeartbeats 1000000 in
theorem uint_some {g : Nat} {bs : List UInt8} {w : World} {x n : Nat} (h : Rdr w g bs false) (hd : Hid (dec bs = some (x, n))) :
    Calls Try.prog 18 #[.pointer (some ⟨g, 0, none⟩)] w fun e w' => e = .returned (.int .u64 x) ∧ Rdr w' g (bs.drop n) false ∧ w.grownBy w' (some g) := by
  have hlt := h.lt
  have hds := dec_some hd.out
  have hn : n ≤ bs.length := hds.2.2.2.2
  clear hds
  have H := Lib.hid h; clear h
  go_enter Try.func18, Try.ntmps18
  go_wp2_with fail
  refine (peek_some H.out hd).mono ?_
  rintro e w1 ⟨rfl, hb⟩
  go_wp2_with fail
  refine (cut_yes g bs n _ (H.out.below hb hlt) hn).mono ?_
  rintro e w2 ⟨A, c, rfl, _, _, hr, hg⟩
  go_wp2_with fail
  go_ret
  exact ⟨rfl, hr, grown_trans (grown_of_below hb _) hg⟩

/-- A number without a sign as one with a sign. -/
def unzz (x : Nat) : Int := if x % 2 = 0 then ((x / 2 : Nat) : Int) else -((x / 2 : Nat) : Int) - 1

theorem unzz_zz (y : Int) : unzz (zz y) = y := by
  unfold unzz zz
  split <;> split <;> omega

theorem i64_xor_nat' (a b : Nat) (ha : a < 9223372036854775808) (hb : b < 9223372036854775808) : bits .xor .i64 (a : Int) (b : Int) = ((a ^^^ b : Nat) : Int) := by
  have hx : a ^^^ b < 2 ^ 63 := Nat.xor_lt_two_pow (by omega) (by omega)
  have h : ∀ n : Nat, n < 9223372036854775808 → (BitVec.ofInt 64 (n : Int)).toNat = n := fun n hn => by
    rw [BitVec.ofInt_natCast, BitVec.toNat_ofNat]; exact Nat.mod_eq_of_lt (by omega)
  show IntKind.i64.wrap ((BitVec.ofInt 64 (a : Int) ^^^ BitVec.ofInt 64 (b : Int)).toNat : Int) = _
  rw [BitVec.toNat_xor, h a ha, h b hb, IntKind.wrap_i64]
  omega

theorem unzz_walk (x : Nat) (hx : x < 18446744073709551616) : bits BinOp.xor IntKind.i64 ((x : Int) / 2) (wrap64 (-wrap64 (bits BinOp.and IntKind.u64 (x : Int) 1))) = unzz x := by
  rw [and_one_u64 _ (by omega) (by omega)]
  have e0 : ((x : Int) / 2) = ((x / 2 : Nat) : Int) := by omega
  have hc : ∀ a b : Int, bits BinOp.xor IntKind.i64 a b = bits BinOp.xor IntKind.i64 b a := fun a b => by
    simp only [bits, BitVec.xor_comm]
  unfold unzz
  split
  · have e1 : wrap64 (-wrap64 ((x : Int) % 2)) = ((0 : Nat) : Int) := by unfold wrap64; omega
    rw [e1, e0, i64_xor_nat' _ _ (by omega) (by omega)]
    simp
  · have e1 : wrap64 (-wrap64 ((x : Int) % 2)) = -1 := by unfold wrap64; omega
    rw [e1, e0, hc, i64_not _ (by omega)]
    omega

set_option maxRecDepth 100000 in
set_option maxHeartbeats 1000000 in
theorem int_any {p : Option Addr} {x : Nat} {w : World} {R : World → Prop} (hx : U64 x) (h : Calls Try.prog 18 #[.pointer p] w fun e w' => e = .returned (.int .u64 x) ∧ R w') :
    Calls Try.prog 21 #[.pointer p] w fun e w' => e = .returned (.int .i64 (unzz x)) ∧ R w' := by
  have H := Lib.hid h; clear h
  have hxl := hx.lt
  go_enter Try.func21, Try.ntmps21
  go_wp2_with fail
  refine H.out.mono ?_
  rintro e w1 ⟨rfl, hR⟩
  go_wp2_with fail
  go_ret
  exact ⟨ret_eq (congrArg (Value.int .i64) (unzz_walk x hxl)), hR⟩

set_option maxRecDepth 100000 in
set_option maxHeartbeats 1000000 in
theorem take_yes {g : Nat} {bs : List UInt8} {K : Nat} {w : World} (h : Rdr w g bs false) (hK : K ≤ bs.length) :
    Calls Try.prog 26 #[.pointer (some ⟨g, 0, none⟩), .int .i64 K] w fun e w' => ∃ A c, e = .returned (.slice A K c) ∧ Rd w' w'.heap.size A K (bvs (bs.take K)) ∧ Rdr w' g (bs.drop K) false ∧ w.grownBy w' (some g) := by
  have hlt := h.lt
  have h6 : bs.length ≤ 1000000 := by obtain ⟨_, _, _, _, h, _⟩ := h; exact h
  have H := Lib.hid h; clear h
  go_enter Try.func26, Try.ntmps26
  go_wp2_with fail
  refine (cut_yes g bs K _ H.out hK).mono ?_
  rintro e w1 ⟨A, c, rfl, hr1, _, hr, hg⟩
  go_wp2_with fail
  refine (clone_any A K c _ _ g hr1 (by have := hr.lt; omega) (by omega)).mono ?_
  rintro e w2 ⟨v, rfl, hown, hb⟩
  obtain ⟨A2, c2, rfl, hr2⟩ := own_rd hown
  go_wp2_with fail
  go_ret
  exact ⟨A2, c2, rfl, hr2, hr.below hb hr.lt, grown_trans hg (grown_of_below hb _)⟩

set_option maxRecDepth 100000 in
set_option maxHeartbeats 1000000 in
theorem take_no {g : Nat} {bs : List UInt8} {bad : Bool} {k : Int} {w : World} (h : Rdr w g bs bad) (hk : Hid (bad = true ∨ k < 0 ∨ (bs.length : Int) < k)) :
    Calls Try.prog 26 #[.pointer (some ⟨g, 0, none⟩), .int .i64 k] w fun e w' => e = .returned (.slice none 0 0) ∧ Rdr w' g bs true ∧ w.grownBy w' (some g) := by
  have H := Lib.hid h; clear h
  go_enter Try.func26, Try.ntmps26
  go_wp2_with fail
  refine (cut_bad g bs bad k _ H.out hk.out).mono ?_
  rintro e w1 ⟨rfl, hr, hg⟩
  go_wp2_with fail
  refine (clone_nil 0 _).mono ?_
  rintro e _ ⟨rfl, rfl⟩
  go_wp2_with fail
  go_ret
  exact ⟨rfl, hr, hg⟩

set_option maxRecDepth 100000 in
set_option maxHeartbeats 1000000 in
theorem bytes_no {g : Nat} {bs : List UInt8} {bad : Bool} {w : World} (h : Rdr w g bs bad) (hd : Hid (bad = true ∨ dec bs = none)) :
    Calls Try.prog 23 #[.pointer (some ⟨g, 0, none⟩)] w fun e w' => e = .returned (.slice none 0 0) ∧ Rdr w' g bs true ∧ w.grownBy w' (some g) := by
  have hlt := h.lt
  have H := Lib.hid h; clear h
  go_enter Try.func23, Try.ntmps23
  go_wp2_with fail
  refine (peek_no H.out hd).mono ?_
  rintro e w1 ⟨rfl, hb⟩
  go_wp2_with fail
  refine (fail_any g bs bad _ (H.out.below hb hlt)).mono ?_
  rintro e w2 ⟨rfl, hr, hg⟩
  go_wp2_with fail
  go_ret
  exact ⟨rfl, hr, grown_trans (grown_of_below hb _) hg⟩

set_option maxRecDepth 100000 in
set_option maxHeartbeats 1000000 in
theorem bytes_few {g : Nat} {bs : List UInt8} {w : World} {x n : Nat} (h : Rdr w g bs false) (hd : Hid (dec bs = some (x, n))) (hx : bs.length - n < x) :
    Calls Try.prog 23 #[.pointer (some ⟨g, 0, none⟩)] w fun e w' => e = .returned (.slice none 0 0) ∧ Rdr w' g bs true ∧ w.grownBy w' (some g) := by
  have hlt := h.lt
  have h6 : bs.length ≤ 1000000 := by obtain ⟨_, _, _, _, h, _⟩ := h; exact h
  have hds := dec_some hd.out
  have hn : n ≤ bs.length := hds.2.2.2.2
  have hxu : x < 18446744073709551616 := hds.2.1
  clear hds
  have hh := h
  obtain ⟨A, c, h1, _, _, _⟩ := h
  have hc0 : w.cell? ⟨g, 0, none⟩ = some (.slice A bs.length c) := by simp [World.cell?, h1]
  have hx' : (bs.length : Int) - (n : Int) < (x : Int) := by omega
  clear h1
  have H := Lib.hid hh; clear hh
  go_enter Try.func23, Try.ntmps23
  go_wp2_with fail
  refine (peek_some H.out hd).mono ?_
  rintro e w1 ⟨rfl, hb⟩
  have hc1 := (hb.cell (p := ⟨g, 0, none⟩) hlt).trans hc0
  go_wp2_with fail
  refine (fail_any g bs false _ (H.out.below hb hlt)).mono ?_
  rintro e w2 ⟨rfl, hr, hg⟩
  go_wp2_with fail
  go_ret
  exact ⟨rfl, hr, grown_trans (grown_of_below hb _) hg⟩

set_option maxRecDepth 100000 in
set_option maxHeartbeats 1000000 in
theorem bytes_yes {g : Nat} {bs : List UInt8} {w : World} {x n : Nat} (h : Rdr w g bs false) (hd : Hid (dec bs = some (x, n))) (hx : x ≤ bs.length - n) :
    Calls Try.prog 23 #[.pointer (some ⟨g, 0, none⟩)] w fun e w' => ∃ A c, e = .returned (.slice A x c) ∧ Rd w' w'.heap.size A x (bvs ((bs.drop n).take x)) ∧ Rdr w' g ((bs.drop n).drop x) false ∧ w.grownBy w' (some g) := by
  have hlt := h.lt
  have h6 : bs.length ≤ 1000000 := by obtain ⟨_, _, _, _, h, _⟩ := h; exact h
  have hds := dec_some hd.out
  have hn : n ≤ bs.length := hds.2.2.2.2
  clear hds
  have hh := h
  obtain ⟨A, c, h1, _, _, _⟩ := h
  have hc0 : w.cell? ⟨g, 0, none⟩ = some (.slice A bs.length c) := by simp [World.cell?, h1]
  have hx' : ¬ (bs.length : Int) - (n : Int) < (x : Int) := by omega
  have hxi : (x : Int) ≤ 1000000 := by omega
  clear h1
  have H := Lib.hid hh; clear hh
  go_enter Try.func23, Try.ntmps23
  go_wp2_with fail
  refine (peek_some H.out hd).mono ?_
  rintro e w1 ⟨rfl, hb⟩
  have hc1 := (hb.cell (p := ⟨g, 0, none⟩) hlt).trans hc0
  go_wp2_with fail
  refine (cut_yes g bs n _ (H.out.below hb hlt) hn).mono ?_
  rintro e w2 ⟨A2, c2, rfl, _, _, hr, hg⟩
  clear hc1 hc0
  go_wp2_with fail
  refine (take_yes (K := x) hr (by rw [List.length_drop]; exact hx)).mono ?_
  rintro e w3 ⟨A3, c3, rfl, hr3, hr4, hg3⟩
  go_wp2_with fail
  go_ret
  exact ⟨A3, c3, rfl, hr3, hr4, grown_trans (grown_of_below hb _) (grown_trans hg hg3)⟩
end Go.Proofs.Ytmhjkghmpdnhaaa
