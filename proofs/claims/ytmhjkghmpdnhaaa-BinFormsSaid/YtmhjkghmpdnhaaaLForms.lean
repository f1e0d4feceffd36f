/- The law BinForms, walked. -/
import Derived.Test.YtmhjkghmpdnhaaaAlive
import Derived.Test.YtmhjkghmpdnhaaaEq
import Derived.OpenShut
namespace Go.Proofs.Ytmhjkghmpdnhaaa
open Go.RowKit Go.OpenShut

set_option maxRecDepth 100000 in
set_option maxHeartbeats 2000000 in
theorem law_forms (x y : Int) (A : Option Addr) (n c : Nat) (z : List Int) (w : World) (w0 : (Lit.int .u64 x).wf = true) (w1 : (Lit.int .i64 y).wf = true) (w2 : IsRow .u8 w A n c z) :
    Calls Try.prog 3 #[.int .u64 x, .int .i64 y, .slice A n c] w fun e w' => e = .returned (.bool true) ∧ Below w.heap.size w w' := by
  obtain ⟨bs, hbl, hr, hnc, hcm⟩ := w2.bytes
  have hm : n ≤ 9223372036854775807 := by unfold maxLen at hcm; omega
  have HBL := Lib.hid hbl; clear hbl
  obtain ⟨hx0, hx1⟩ := bounds_u64 w0
  obtain ⟨hy0, hy1⟩ := bounds_i64 w1
  obtain ⟨X, rfl⟩ := Int.eq_ofNat_of_zero_le hx0
  have hX : U64 X := U64.mk (by omega)
  have hXl := hX.len
  have hY : U64 (zz y) := zz_u64 hy0 hy1
  have hYl := hY.len
  clear w0 w1 hx0 hx1
  by_cases hbig : 500 < n
  · have hb1 : (500 : Int) < (n : Int) := by omega
    go_enter Try.func3, Try.ntmps3
    go_wp2_with fail
    refine (alive_any _).mono ?_
    rintro e w' ⟨rfl, hb⟩
    go_wp2_with fail
    go_ret
    exact ⟨rfl, hb⟩
  · have hb1 : ¬ (500 : Int) < (n : Int) := by omega
    go_enter Try.func3, Try.ntmps3
    go_wp2_with fail
    refine (alive_any _).mono ?_
    rintro e w1 ⟨rfl, hb⟩
    go_wp2_with fail
    refine (bin_uint _ _ hX).mono ?_
    rintro e w2 ⟨v1, rfl, hown1, hb1'⟩
    obtain ⟨A1, c1, rfl, hr1⟩ := own_rd hown1
    go_wp2_with fail
    refine (ref_uint _ _ hX).mono ?_
    rintro e w3 ⟨v2, rfl, hown2, hb2⟩
    obtain ⟨A2, c2, rfl, hr2⟩ := own_rd hown2
    go_wp2_with fail
    refine (equal_own (hr1.below hb2) hr2 (by omega) (by omega) rfl).mono ?_
    rintro e _ ⟨rfl, q1, rfl⟩
    have hB1 := below_drewN ((hb.trans (hb1'.mono hb.size)).trans (hb2.mono (by have := hb1'.size; have := hb.size; omega))) q1
    clear hown1 hown2 hr1 hr2 hb hb1' hb2
    generalize w3.drewN q1 = w3 at *
    go_wp2_with fail
    refine (bin_int _ _ hy0 hy1).mono ?_
    rintro e w4 ⟨v3, rfl, hown1, hb1'⟩
    obtain ⟨A3, c3, rfl, hr1⟩ := own_rd hown1
    go_wp2_with fail
    refine (ref_int _ _ hy0 hy1).mono ?_
    rintro e w5 ⟨v4, rfl, hown2, hb2⟩
    obtain ⟨A4, c4, rfl, hr2⟩ := own_rd hown2
    go_wp2_with fail
    refine (equal_own (hr1.below hb2) hr2 (by omega) (by omega) rfl).mono ?_
    rintro e _ ⟨rfl, q2, rfl⟩
    have hB2 := below_drewN ((hB1.trans (hb1'.mono hB1.size)).trans (hb2.mono (by have := hb1'.size; have := hB1.size; omega))) q2
    clear hown1 hown2 hr1 hr2 hb1' hb2
    generalize w5.drewN q2 = w5 at *
    go_wp2_with fail
    have hn0 : (n : Int) ≤ 500 := by omega
    refine (bin_bytes A n c bs _ w.heap.size (hr.below hB2) hB2.size (by omega)).mono ?_
    rintro e w6 ⟨v5, rfl, hown1, hb1'⟩
    have hnl := (U64.mk (x := n) (by omega)).len
    obtain ⟨A5, c5, rfl, hr1⟩ := own_rd hown1
    go_wp2_with fail
    have hB3 := hB2.trans (hb1'.mono hB2.size)
    refine (ref_bytes A n c bs _ w.heap.size (hr.below hB3) hB3.size (by omega)).mono ?_
    rintro e w7 ⟨v6, rfl, hown2, hb2⟩
    obtain ⟨A6, c6, rfl, hr2⟩ := own_rd hown2
    go_wp2_with fail
    refine (equal_own (hr1.below hb2) hr2 (by omega) (by omega) rfl).mono ?_
    rintro e _ ⟨rfl, q3, rfl⟩
    have hB4 := below_drewN (hB3.trans (hb2.mono hB3.size)) q3
    clear hown1 hown2 hr1 hr2 hb1' hb2
    generalize w7.drewN q3 = w7 at *
    have hstr := run_str (P := Try.prog) (c := c) 23 9 5 Try.underlying23 Try.underlying5 Try.underlying9 (hr.below hB4)
    have hsz : (ByteArray.mk bs.toArray).size = n := by rw [← HBL.out]; rfl
    have Hsz := Lib.hid hsz; clear hsz
    go_wp2_with fail
    clear hstr
    refine (bin_text ⟨bs.toArray⟩ _ (by rw [Hsz.out]; omega)).mono ?_
    rintro e w8 ⟨v7, rfl, hown1, hb1'⟩
    rw [Hsz.out] at hown1
    obtain ⟨A7, c7, rfl, hr1⟩ := own_rd hown1
    go_wp2_with fail
    have hB5 := hB4.trans (hb1'.mono hB4.size)
    refine (ref_bytes A n c bs _ w.heap.size (hr.below hB5) hB5.size (by omega)).mono ?_
    rintro e w9 ⟨v8, rfl, hown2, hb2⟩
    obtain ⟨A8, c8, rfl, hr2⟩ := own_rd hown2
    go_wp2_with fail
    refine (equal_own (hr1.below hb2) hr2 (by omega) (by omega) rfl).mono ?_
    rintro e _ ⟨rfl, q4, rfl⟩
    have hB6 := below_drewN (hB5.trans (hb2.mono hB5.size)) q4
    go_wp2_with fail
    go_ret
    exact ⟨rfl, hB6⟩
end Go.Proofs.Ytmhjkghmpdnhaaa
