/- The law BinOnly, walked. -/
import Derived.Test.YtmhjkghmpdnhaaaRef2
import Derived.Test.YtmhjkghmpdnhaaaAlive
namespace Go.Proofs.Ytmhjkghmpdnhaaa
open Go.RowKit

theorem below_grown {B : Nat} {a w w' : World} {g : Nat} (h : Below B a w) (hg : w.grownBy w' (some g)) (hB : B ≤ w.heap.size) (hgB : B ≤ g) : Below B a w' :=
  h.grown hg hB (fun k e => by injection e with e; omega)
theorem Rd.grow {w w' : World} {B g n : Nat} {A : Option Addr} {xs : List Value} (h : Rd w B A n xs) (hg : w.grownBy w' (some g)) (hB : B ≤ w.heap.size) (hgB : B ≤ g) : Rd w' B A n xs :=
  h.grown hg hB (fun k e => by injection e with e; omega)

theorem isEmpty_drop (bs : List UInt8) (n : Nat) : doneB (bs.drop n) false = decide (bs.length ≤ n) := by
  unfold doneB
  rw [Bool.eq_iff_iff]
  simp

set_option maxRecDepth 100000 in
set_option maxHeartbeats 4000000 in
theorem law_only (A : Option Addr) (n c : Nat) (z : List Int) (w : World) (w2 : IsRow .u8 w A n c z) :
    Calls Try.prog 4 #[.slice A n c] w fun e w' => e = .returned (.bool true) ∧ Below w.heap.size w w' := by
  obtain ⟨bs, hbl, hr, hnc, hcm⟩ := w2.bytes
  clear w2
  have hm : n ≤ 9223372036854775807 := by unfold maxLen at hcm; omega
  have HBL := Lib.hid hbl; clear hbl
  by_cases hbig : 100 < n
  · have hb1 : (100 : Int) < (n : Int) := by omega
    go_enter Try.func4, Try.ntmps4
    go_wp2_with fail
    refine (alive_any _).mono ?_
    rintro e w' ⟨rfl, hb⟩
    go_wp2_with fail
    go_ret
    exact ⟨rfl, hb⟩
  · have hb1 : ¬ (100 : Int) < (n : Int) := by omega
    -- the number that is read, the reader behind it, and whether all bytes were read
    have key : ∃ (x : Nat) (bs' : List UInt8) (bad t : Bool), U64 x ∧ doneB bs' bad = t ∧ Hid (decide (leb x = bs) = t) ∧
        (∀ g w, Rdr w g bs false → Calls Try.prog 18 #[.pointer (some ⟨g, 0, none⟩)] w fun e w' => e = .returned (.int .u64 x) ∧ Rdr w' g bs' bad ∧ w.grownBy w' (some g)) := by
      cases hd : dec bs with
      | none =>
        refine ⟨0, bs, true, false, U64.mk (by omega), rfl, ?_, fun g w h => uint_no h (.inr hd)⟩
        show _ = _
        rw [decide_eq_false]
        intro h
        rw [dec_whole (by omega)] at h
        rw [hd] at h; cases h
      | some p =>
        obtain ⟨x, m⟩ := p
        have hds := dec_some hd
        refine ⟨x, bs.drop m, false, decide (bs.length ≤ m), U64.mk hds.2.1, isEmpty_drop _ _, ?_, fun g w h => uint_some h hd⟩
        show _ = _
        rw [decide_eq_decide, dec_whole hds.2.1, hd]
        constructor
        · intro h; injection h with h; injection h with _ h; omega
        · intro h; have : m = bs.length := by have := hds.2.2.2.2; omega
          rw [this]
    obtain ⟨x, bs', bad, t, hx, hdone, hT, hU⟩ := key
    have HU := Lib.hid hU; clear hU
    have HDN := Lib.hid hdone; clear hdone
    have hxl := hx.len
    go_enter Try.func4, Try.ntmps4
    go_wp2_with fail
    refine (new_any A n c bs _ w.heap.size hr (Nat.le_refl _) (by omega)).mono ?_
    rintro e w1 ⟨g, rfl, hg1, hrd, hb⟩
    have hrb := hr.below hb
    go_wp2_with fail
    refine (HU.out _ _ hrd).mono ?_
    rintro e w2 ⟨rfl, hrd2, hgr⟩
    have hB2 := below_grown hb hgr hb.size hg1
    have hr2 := hrb.grow hgr hb.size hg1
    clear hrd hgr hrb hb
    go_wp2_with fail
    refine (alive_any _).mono ?_
    rintro e w3 ⟨rfl, hb⟩
    have hrd3 := hrd2.below hb hrd2.lt
    have hB3 := hB2.trans (hb.mono hB2.size)
    have hr3 := hr2.below (hb.mono hB2.size)
    clear hrd2 hb hB2 hr2
    go_wp2_with fail
    refine (done_any hrd3).mono ?_
    rintro e _ ⟨rfl, rfl⟩
    rw [HDN.out]
    go_wp2_with fail
    refine (ref_uint _ _ hx).mono ?_
    rintro e w4 ⟨v1, rfl, hown, hb⟩
    obtain ⟨A1, c1, rfl, hr1⟩ := own_rd hown
    have hrd4 := hrd3.below hb hrd3.lt
    have hB4 := hB3.trans (hb.mono hB3.size)
    have hr4 := hr3.below (hb.mono hB3.size)
    clear hrd3 hb hB3 hr3 hown
    go_wp2_with fail
    refine (equal_t hr1 hr4 (by omega) (by omega) hT).mono ?_
    rintro e _ ⟨rfl, q1, rfl⟩
    have hrd5 := hrd4.drewN q1
    have hB5 := below_drewN hB4 q1
    have hr5 := hr4.drewN q1
    clear hrd4 hB4 hr4 hr1
    generalize w4.drewN q1 = w5 at *
    cases t with
    | false =>
      go_wp2_with fail
      refine (done_any hrd5).mono ?_
      rintro e _ ⟨rfl, rfl⟩
      rw [HDN.out]
      go_wp2_with fail
      go_ret
      exact ⟨rfl, hB5⟩
    | true =>
      go_wp2_with fail
      refine (done_any hrd5).mono ?_
      rintro e _ ⟨rfl, rfl⟩
      rw [HDN.out]
      go_wp2_with fail
      refine (bin_uint _ _ hx).mono ?_
      rintro e w6 ⟨v1, rfl, hown, hb⟩
      obtain ⟨A2, c2, rfl, hr1⟩ := own_rd hown
      have hB6 := hB5.trans (hb.mono hB5.size)
      have hr6 := hr5.below (hb.mono hB5.size)
      go_wp2_with fail
      refine (equal_t hr1 hr6 (by omega) (by omega) hT).mono ?_
      rintro e _ ⟨rfl, q2, rfl⟩
      go_wp2_with fail
      go_ret
      exact ⟨rfl, below_drewN hB6 q2⟩
end Go.Proofs.Ytmhjkghmpdnhaaa
