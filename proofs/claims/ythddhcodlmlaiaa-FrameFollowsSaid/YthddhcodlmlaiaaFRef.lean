/- The reference's Next. -/
import Derived.Test.YthddhcodlmlaiaaFLaw
import Derived.Test.YthddhcodlmlaiaaOpen
namespace Go.Proofs.Ythddhcodlmlaiaa
open Go.RowKit

/-- What the reference's Next hands back. -/
def Nexted2 (w : World) (B : Nat) (bs : List UInt8) (e : Ending) (w' : World) : Prop :=
  ∃ A m c, e = .returned (.tuple #[.slice A m c, .int .i64 ((nextC bs).2 : Nat)]) ∧ Rd w' B A m (bvs (nextC bs).1) ∧ Below w.heap.size w w' ∧ m ≤ c
theorem Nexted2.no {w w' : World} {B : Nat} {bs : List UInt8} {e : Ending} (h : goodC bs = false) (he : e = .returned (.tuple #[.slice none 0 0, .int .i64 0])) (hb : Below w.heap.size w w') : Nexted2 w B bs e w' :=
  ⟨none, 0, 0, by rw [he, next_bad h]; rfl, by rw [next_bad h]; exact Rd.nil _ _ _, hb, Nat.le_refl _⟩
theorem Nexted2.yes {w w' : World} {B : Nat} {bs : List UInt8} {e : Ending} {k c0 c : Nat} {A0 A : Option Addr} (h : goodC bs = true) (hk : num4 bs = k) (hr : Rd w' B A0 (k + 4) (bvs (bs.take (k + 4))))
    (hc0 : k + 4 ≤ c0) (hA : A = if c0 = 4 then A0 else A0.map (·.add 4)) (hc : c = c0 - 4) (he : e = .returned (.tuple #[.slice A k c, .int .i64 ((k : Int) + 8)])) (hb : Below w.heap.size w w') : Nexted2 w B bs e w' := by
  have hd := hr.drop (k := 4) (cap := c0) (by omega) hc0
  have e4 : (bvs (bs.take (k + 4))).drop 4 = bvs ((bs.take (k + 4)).drop 4) := by simp [bvs, List.map_drop]
  rw [e4, Nat.add_sub_cancel, ← hA] at hd
  refine ⟨A, k, c, ?_, ?_, hb, by omega⟩
  · rw [he, next_good h, hk]; rfl
  · rw [next_good h, hk]; exact hd

set_option maxRecDepth 100000 in
set_option maxHeartbeats 2000000 in
theorem refnext_any (A : Option Addr) (n c : Nat) (bs : List UInt8) (w : World) (B : Nat) (hr : Rd w B A n (bvs bs)) (hB : B ≤ w.heap.size) (hnc : n ≤ c) (hn : n ≤ 2000000) :
    Calls Try.prog 30 #[.slice A n c] w fun e w' => Nexted2 w B bs e w' := by
  have hl : bs.length = n := by simpa using hr.len
  by_cases h8 : n < 8
  · have hno : goodC bs = false := by unfold goodC; rw [decide_eq_false_iff_not]; omega
    have HO := Lib.hid hno; clear hno hl
    have h8i : (n : Int) < 8 := by omega
    go_enter Try.func30, Try.ntmps30
    go_wp2_with fail
    go_ret2
    exact Nexted2.no HO.out rfl (Below.refl _ _)
  · obtain ⟨ad, _, rfl, _, _, _⟩ := hr.at (k := 0) (by omega)
    have h8i : ¬ (n : Int) < 8 := by omega
    have hlt := num4_lt bs
    have hnt : num4 (bs.take 4) = num4 bs := by
      unfold num4
      simp [List.getD_eq_getElem?_getD]
    obtain ⟨k, hk⟩ : ∃ k, num4 bs = k := ⟨_, rfl⟩
    obtain ⟨b0, b1, b2, b3, hb4, hc0, hc1, hc2, hc3⟩ := four_cells hr (by omega)
    rw [hb4] at hnt
    have hsum : b0.toNat + b1.toNat * 256 + b2.toNat * 65536 + b3.toNat * 16777216 = k := hnt.trans hk
    rw [hk] at hlt
    have g0 := b0.toNat_lt; have g1 := b1.toNat_lt; have g2 := b2.toNat_lt; have g3 := b3.toNat_lt
    have hki : (b0.toNat : Int) + (b1.toNat : Int) * 256 + (b2.toNat : Int) * 65536 + (b3.toNat : Int) * 16777216 = (k : Int) := by omega
    have n0 : (0 : Int) < (n : Int) := by omega
    have n1 : (1 : Int) < (n : Int) := by omega
    have n2 : (2 : Int) < (n : Int) := by omega
    have n3 : (3 : Int) < (n : Int) := by omega
    have HK := Lib.hid hk; have HL := Lib.hid hl; clear hk hl hnt hb4 hsum
    by_cases h1 : k ≤ 1048576 ∧ k + 8 ≤ n
    · obtain ⟨h1, h2⟩ := h1
      have h1i : ¬ (k : Int) > 1048576 := by omega
      have h2i : ¬ (k : Int) > (n : Int) - 8 := by omega
      have h3i : ¬ (k : Int) + 8 < 0 := by omega
      have h4i : (0 : Int) ≤ (k : Int) + 8 := by omega
      have h5i : (k : Int) + 8 ≤ (c : Int) := by omega
      have hrt := hr.take (k := k + 8) (by omega)
      have et : (bvs bs).take (k + 8) = bvs (bs.take (k + 8)) := by simp [bvs, List.map_take]
      rw [et] at hrt
      obtain ⟨t, ht⟩ : ∃ t, okC (bs.take (k + 8)) = t := ⟨_, rfl⟩
      have hgd : goodC bs = t := by
        unfold goodC
        rw [HK.out, ht]
        cases t with
        | true => rw [decide_eq_true_eq]; exact ⟨by rw [HL.out]; omega, h1, by rw [HL.out]; omega, rfl⟩
        | false => rw [decide_eq_false_iff_not]; rintro ⟨_, _, _, h⟩; cases h
      have HG := Lib.hid hgd; have HT := Lib.hid ht
      clear et hgd ht
      have hop : ∀ q, Calls Try.prog 24 #[.slice (some ad) (k + 8) c] (w.drewN q) fun e w' => Opened3 w B (bs.take (k + 8)) e w' := fun q =>
        (refopen_b (some ad) (k + 8) c (bs.take (k + 8)) (w.drewN q) _ (hrt.drewN q) hB (by omega) (by omega)).mono (by
          rintro e w' ⟨A2, m2, c2, he2, hr2, hb12, hmc2⟩
          exact ⟨A2, m2, c2, he2, hr2, (below_drewN (Below.refl w.heap.size w) q).trans hb12, hmc2⟩)
      go_enter Try.func30, Try.ntmps30
      go_wp2_with fail
      go_quiet (fail)
      go_wp2_with fail
      refine (hop _).mono ?_
      rintro e w2 ⟨A2, m2, c2, he2, hr2, hb2, hmc2⟩
      rw [HT.out] at he2
      subst he2
      clear hop
      cases t with
      | false =>
        go_wp2_with fail
        go_ret2
        exact Nexted2.no HG.out rfl hb2
      | true =>
        have hin : inC (bs.take (k + 8)) = bs.take (k + 4) := by
          unfold inC
          rw [if_pos HT.out, List.length_take, HL.out, List.take_take]
          congr 1
          omega
        have hil : (bs.take (k + 4)).length = k + 4 := by rw [List.length_take, HL.out]; omega
        rw [hin] at hr2
        have hm2 : m2 = k + 4 := by have := hr2.len; rw [bvs_length, hil] at this; omega
        subst hm2
        clear hin hil
        obtain ⟨ad2, _, rfl, _, _, _⟩ := hr2.at (k := 0) (by omega)
        have h7i : (4 : Int) ≤ (c2 : Int) := by omega
        go_wp2_with fail
        all_goals go_ret2
        · rename_i hc24
          exact Nexted2.yes HG.out HK.out hr2 hmc2 (by rw [if_pos (by omega)]) (by omega) rfl hb2
        · rename_i hc24
          exact Nexted2.yes HG.out HK.out hr2 hmc2 (by rw [if_neg (by omega)]; rfl) rfl rfl hb2
    · have hgd : goodC bs = false := by
        unfold goodC
        rw [HK.out, HL.out, decide_eq_false_iff_not]
        rintro ⟨_, ha, hb, _⟩
        exact h1 ⟨ha, hb⟩
      have HG := Lib.hid hgd; clear hgd
      by_cases h2 : k ≤ 1048576
      · have h1i : ¬ (k : Int) > 1048576 := by omega
        have h2i : (k : Int) > (n : Int) - 8 := by omega
        go_enter Try.func30, Try.ntmps30
        go_wp2_with fail
        go_quiet (fail)
        go_wp2_with fail
        go_ret2
        exact Nexted2.no HG.out rfl (below_drewN (Below.refl _ _) _)
      · have h1i : (k : Int) > 1048576 := by omega
        go_enter Try.func30, Try.ntmps30
        go_wp2_with fail
        go_quiet (fail)
        go_wp2_with fail
        go_ret2
        exact Nexted2.no HG.out rfl (below_drewN (Below.refl _ _) _)
end Go.Proofs.Ythddhcodlmlaiaa
