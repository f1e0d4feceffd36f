/- The forms of signed numbers, of bytes and of strings. -/
import Derived.Test.YtmhjkghmpdnhaaaForms
import Derived.Lib.AppendStr
namespace Go.Proofs.Ytmhjkghmpdnhaaa
open Go.RowKit

/-- A number with a sign as one without: 0, -1, 1, -2, 2 .. -/
def zz (y : Int) : Nat := if 0 ≤ y then (2 * y).toNat else (-(y + 1) * 2 + 1).toNat
theorem zz_u64 {y : Int} (h1 : -9223372036854775808 ≤ y) (h2 : y ≤ 9223372036854775807) : U64 (zz y) := by
  show zz y < 18446744073709551616
  unfold zz; split <;> omega

set_option maxRecDepth 100000 in
set_option maxHeartbeats 1000000 in
theorem ref_int (y : Int) (w : World) (h1 : -9223372036854775808 ≤ y) (h2 : y ≤ 9223372036854775807) :
    Calls Try.prog 13 #[.int .i64 y] w fun e w' => ∃ v, e = .returned v ∧ w'.ownsRow w.heap.size 5 1 v (leb (zz y)).length (bvs (leb (zz y))) ∧ Below w.heap.size w w' := by
  have hu := zz_u64 h1 h2
  by_cases hy : 0 ≤ y
  · have e : (zz y : Int) = y * 2 := by unfold zz; rw [if_pos hy]; omega
    have E := Lib.hid e; clear e
    go_enter Try.func13, Try.ntmps13
    go_wp2_with fail
    rw [← E.out]
    refine (ref_uint _ _ hu).mono ?_
    rintro e w' ⟨v, rfl, hown, hb⟩
    go_wp2_with fail
    go_ret
    exact ⟨v, rfl, hown, hb⟩
  · have e : (zz y : Int) = -(y + 1) * 2 + 1 := by unfold zz; rw [if_neg hy]; omega
    have E := Lib.hid e; clear e
    go_enter Try.func13, Try.ntmps13
    go_wp2_with fail
    rw [← E.out]
    refine (ref_uint _ _ hu).mono ?_
    rintro e w' ⟨v, rfl, hown, hb⟩
    go_wp2_with fail
    go_ret
    exact ⟨v, rfl, hown, hb⟩

theorem xor_ones (m : Nat) (h : m < 18446744073709551616) : m ^^^ 18446744073709551615 = 18446744073709551615 - m := by
  have e : (BitVec.ofNat 64 m ^^^ BitVec.allOnes 64) = ~~~ BitVec.ofNat 64 m := BitVec.xor_allOnes
  have e2 := congrArg BitVec.toNat e
  rw [BitVec.toNat_xor, BitVec.toNat_not, BitVec.toNat_ofNat, BitVec.toNat_allOnes, Nat.mod_eq_of_lt (by simpa using h)] at e2
  simpa using e2

theorem zz_xor (y : Int) (h1 : -9223372036854775808 ≤ y) (h2 : y ≤ 9223372036854775807) :
    bits BinOp.xor IntKind.u64 (IntKind.u64.wrap (wrap64 (y * 2))) (IntKind.u64.wrap (y / 9223372036854775808)) = ((zz y : Nat) : Int) := by
  by_cases hy : 0 ≤ y
  · have e1 : IntKind.u64.wrap (wrap64 (y * 2)) = ((zz y : Nat) : Int) := by
      unfold zz wrap64; rw [if_pos hy, IntKind.wrap_u64]; omega
    have e2 : IntKind.u64.wrap (y / 9223372036854775808) = ((0 : Nat) : Int) := by
      rw [IntKind.wrap_u64]; omega
    rw [e1, e2, u64_xor_nat _ _ (zz_u64 h1 h2) (by omega)]
    simp
  · have e1 : IntKind.u64.wrap (wrap64 (y * 2)) = ((18446744073709551615 - zz y : Nat) : Int) := by
      unfold zz wrap64; rw [if_neg hy, IntKind.wrap_u64]; omega
    have e2 : IntKind.u64.wrap (y / 9223372036854775808) = ((18446744073709551615 : Nat) : Int) := by
      rw [IntKind.wrap_u64]; omega
    have hz : zz y < 18446744073709551616 := zz_u64 h1 h2
    rw [e1, e2, u64_xor_nat _ _ (by omega) (by omega), xor_ones _ (by omega)]
    omega

set_option maxRecDepth 100000 in
set_option maxHeartbeats 1000000 in
theorem bin_int (y : Int) (w : World) (h1 : -9223372036854775808 ≤ y) (h2 : y ≤ 9223372036854775807) :
    Calls Try.prog 12 #[.int .i64 y] w fun e w' => ∃ v, e = .returned v ∧ w'.ownsRow w.heap.size 5 1 v (leb (zz y)).length (bvs (leb (zz y))) ∧ Below w.heap.size w w' := by
  go_enter Try.func12, Try.ntmps12
  go_wp2_with fail
  rw [zz_xor y h1 h2]
  refine (bin_uint _ _ (zz_u64 h1 h2)).mono ?_
  rintro e w' ⟨v, rfl, hown, hb⟩
  go_wp2_with fail
  go_ret
  exact ⟨v, rfl, hown, hb⟩

set_option maxRecDepth 100000 in
set_option maxHeartbeats 1000000 in
theorem ref_bytes (A : Option Addr) (n c : Nat) (bs : List UInt8) (w : World) (B : Nat) (hr : Rd w B A n (bvs bs)) (hB : B ≤ w.heap.size) (hn : n ≤ 1000000) :
    Calls Try.prog 15 #[.slice A n c] w fun e w' => ∃ v, e = .returned v ∧ w'.ownsRow w.heap.size 5 1 v ((leb n).length + n) (bvs (leb n ++ bs)) ∧ Below w.heap.size w w' := by
  obtain ⟨i0, hi, hz0, hz1, hz2⟩ := info_parts info5
  have hu : U64 n := U64.mk (by omega)
  have hlen := hu.len
  go_enter Try.func15, Try.ntmps15
  go_wp2_with fail
  refine (ref_uint _ _ hu).mono ?_
  rintro e w1 ⟨v, rfl, hown, hb⟩
  have hr1 := hr.below (hb.mono hB)
  go_wp2_with (at_builtin; refine wpList_app _ rfl (.tmp 6) (.tmp 7) 23 rfl w.heap.size 5 i0 _ 1 Try.underlying23 hi hz0 hz1 hz2 rfl v _ _ rfl hown B _ _ _ _ rfl hr1 (bvs_one _) (by unfold maxLen; omega) (by omega) hb.size ?_; intro v' w2 hown2 hg2 hat2)
  go_ret
  refine ⟨_, rfl, by rw [bvs_append]; exact hown2, hb.grown hg2 hb.size fun k hk => (hown.lt k hk).1⟩

set_option maxRecDepth 100000 in
set_option maxHeartbeats 1000000 in
theorem bin_bytes (A : Option Addr) (n c : Nat) (bs : List UInt8) (w : World) (B : Nat) (hr : Rd w B A n (bvs bs)) (hB : B ≤ w.heap.size) (hn : n ≤ 1000000) :
    Calls Try.prog 14 #[.slice A n c] w fun e w' => ∃ v, e = .returned v ∧ w'.ownsRow w.heap.size 5 1 v ((leb n).length + n) (bvs (leb n ++ bs)) ∧ Below w.heap.size w w' := by
  obtain ⟨i0, hi, hz0, hz1, hz2⟩ := info_parts info5
  have hu : U64 n := U64.mk (by omega)
  have hlen := hu.len
  go_enter Try.func14, Try.ntmps14
  go_wp2_with fail
  refine (bin_uint _ _ hu).mono ?_
  rintro e w1 ⟨v, rfl, hown, hb⟩
  have hr1 := hr.below (hb.mono hB)
  go_wp2_with (at_builtin; refine wpList_app _ rfl (.tmp 6) (.tmp 7) 23 rfl w.heap.size 5 i0 _ 1 Try.underlying23 hi hz0 hz1 hz2 rfl v _ _ rfl hown B _ _ _ _ rfl hr1 (bvs_one _) (by unfold maxLen; omega) (by omega) hb.size ?_; intro v' w2 hown2 hg2 hat2)
  go_ret
  refine ⟨_, rfl, by rw [bvs_append]; exact hown2, hb.grown hg2 hb.size fun k hk => (hown.lt k hk).1⟩

set_option maxRecDepth 100000 in
set_option maxHeartbeats 1000000 in
theorem bin_text (s : ByteArray) (w : World) (hn : s.size ≤ 1000000) :
    Calls Try.prog 16 #[.string s] w fun e w' => ∃ v, e = .returned v ∧ w'.ownsRow w.heap.size 5 1 v ((leb s.size).length + s.size) (bvs (leb s.size ++ s.data.toList)) ∧ Below w.heap.size w w' := by
  obtain ⟨i0, hi, hz0, hz1, hz2⟩ := info_parts info5
  have hu : U64 s.size := U64.mk (by omega)
  have hlen := hu.len
  go_enter Try.func16, Try.ntmps16
  go_wp2_with fail
  refine (bin_uint _ _ hu).mono ?_
  rintro e w1 ⟨v, rfl, hown, hb⟩
  go_wp2_with (at_builtin; refine Lib.wpList_append_own_string _ rfl (.tmp 6) (.tmp 7) 23 9 rfl w.heap.size 5 i0 Try.underlying23 Try.underlying9 hi hz0 hz1 hz2 v _ _ rfl hown s rfl (by unfold maxLen; omega) (by omega) hb.size ?_; intro v' w2 hown2 hg2 hat2)
  go_ret
  have e : Lib.strCells s = bvs s.data.toList := rfl
  refine ⟨_, rfl, by rw [bvs_append, ← e]; exact hown2, hb.grown hg2 hb.size fun k hk => (hown.lt k hk).1⟩
end Go.Proofs.Ytmhjkghmpdnhaaa
