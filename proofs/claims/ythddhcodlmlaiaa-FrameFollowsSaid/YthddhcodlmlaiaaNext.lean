/- frame.Next. -/
import Derived.Test.YthddhcodlmlaiaaFrm
import Derived.Laws.Cover3
namespace Go.Proofs.Ythddhcodlmlaiaa
open Go.RowKit

/-- Whether a whole frame lies ahead. -/
def goodC (bs : List UInt8) : Bool := decide (8 ≤ bs.length ∧ num4 bs ≤ 1048576 ∧ num4 bs + 8 ≤ bs.length ∧ okC (bs.take (num4 bs + 8)) = true)
def nextC (bs : List UInt8) : List UInt8 × Nat := if goodC bs then ((bs.take (num4 bs + 4)).drop 4, num4 bs + 8) else ([], 0)
theorem next_bad {bs : List UInt8} (h : goodC bs = false) : nextC bs = ([], 0) := by unfold nextC; rw [h]; rfl
theorem next_good {bs : List UInt8} (h : goodC bs = true) : nextC bs = ((bs.take (num4 bs + 4)).drop 4, num4 bs + 8) := by unfold nextC; rw [h]; rfl

/-- What Next hands back. -/
def Nexted (w : World) (bs : List UInt8) (e : Ending) (w' : World) : Prop :=
  ∃ A m c, e = .returned (.tuple #[.slice A m c, .int .i64 ((nextC bs).2 : Nat)]) ∧ Rd w' w'.heap.size A m (bvs (nextC bs).1) ∧ Below w.heap.size w w' ∧ m ≤ c ∧
    (m = 0 ∨ ∃ go c0, A = some ⟨go, 4, none⟩ ∧ w'.ownsRow w.heap.size 5 1 (.slice (some ⟨go, 0, none⟩) (m + 4) c0) (m + 4) (bvs (bs.take (m + 4))))
theorem Nexted.no {w w' : World} {bs : List UInt8} {e : Ending} (h : goodC bs = false) (he : e = .returned (.tuple #[.slice none 0 0, .int .i64 0])) (hb : Below w.heap.size w w') : Nexted w bs e w' :=
  ⟨none, 0, 0, by rw [he, next_bad h]; rfl, by rw [next_bad h]; exact Rd.nil _ _ _, hb, Nat.le_refl _, .inl rfl⟩

theorem Nexted.yes {w w' : World} {bs : List UInt8} {e : Ending} {k go c0 c : Nat} {A : Option Addr} (h : goodC bs = true) (hk : num4 bs = k) (hown : w'.ownsRow w.heap.size 5 1 (.slice (some ⟨go, 0, none⟩) (k + 4) c0) (k + 4) (bvs (bs.take (k + 4))))
    (hc0 : k + 4 ≤ c0) (hA : A = if c0 = 4 then some ⟨go, 0, none⟩ else some ⟨go, 4, none⟩) (hc : c = c0 - 4) (he : e = .returned (.tuple #[.slice A k c, .int .i64 ((k : Int) + 8)])) (hb : Below w.heap.size w w') : Nexted w bs e w' := by
  have hd := (Rd.of_own hown).drop (k := 4) (cap := c0) (by omega) hc0
  have e4 : (bvs (bs.take (k + 4))).drop 4 = bvs ((bs.take (k + 4)).drop 4) := by simp [bvs, List.map_drop]
  rw [e4, Nat.add_sub_cancel] at hd
  have hA2 : (if c0 = 4 then some (⟨go, 0, none⟩ : Addr) else (some (⟨go, 0, none⟩ : Addr)).map (·.add 4)) = A := by rw [hA]; rfl
  rw [hA2] at hd
  refine ⟨A, k, c, ?_, ?_, hb, by omega, ?_⟩
  · rw [he, next_good h, hk]; rfl
  · rw [next_good h, hk]; exact hd
  · by_cases h0 : k = 0
    · exact .inl h0
    · exact .inr ⟨go, c0, by rw [hA, if_neg (by omega)], hown⟩

theorem num4_lt (bs : List UInt8) : num4 bs < 4294967296 := by
  unfold num4
  have h0 := (bs.getD 0 0).toNat_lt; have h1 := (bs.getD 1 0).toNat_lt; have h2 := (bs.getD 2 0).toNat_lt; have h3 := (bs.getD 3 0).toNat_lt
  omega

theorem take_four : ∀ {bs : List UInt8}, 4 ≤ bs.length → ∃ b0 b1 b2 b3, bs.take 4 = [b0, b1, b2, b3]
  | a :: b :: c :: d :: _, _ => ⟨a, b, c, d, rfl⟩
  | [], h => by simp at h
  | [_], h => by simp at h
  | [_, _], h => by simp at h
  | [_, _, _], h => by simp at h
/-- The first four cells. -/
theorem four_cells {w : World} {B n : Nat} {ad : Addr} {bs : List UInt8} (hr : Rd w B (some ad) n (bvs bs)) (h4 : 4 ≤ n) :
    ∃ b0 b1 b2 b3 : UInt8, bs.take 4 = [b0, b1, b2, b3] ∧ w.cell? ad = some (.int .u8 (b0.toNat : Int)) ∧ w.cell? ⟨ad.block, ad.off + 1, none⟩ = some (.int .u8 (b1.toNat : Int)) ∧
      w.cell? ⟨ad.block, ad.off + 2, none⟩ = some (.int .u8 (b2.toNat : Int)) ∧ w.cell? ⟨ad.block, ad.off + 3, none⟩ = some (.int .u8 (b3.toNat : Int)) := by
  have hl : bs.length = n := by simpa using hr.len
  obtain ⟨b0, b1, b2, b3, hb⟩ := take_four (bs := bs) (by omega)
  have hr4 := hr.take (k := 4) h4
  have e4 : (bvs bs).take 4 = bvs (bs.take 4) := by simp [bvs, List.map_take]
  rw [e4, hb] at hr4
  have hc : ∀ j u, (bvs [b0, b1, b2, b3])[j]? = some u → w.cell? (ad.add j) = some u := fun j u hu => by
    obtain ⟨ad', e, _, hc⟩ := hr4.at' j u hu
    injection e with e; subst e; exact hc
  exact ⟨b0, b1, b2, b3, hb, hc 0 _ rfl, hc 1 _ rfl, hc 2 _ rfl, hc 3 _ rfl⟩

set_option maxRecDepth 100000 in
set_option maxHeartbeats 2000000 in
theorem next_any (A : Option Addr) (n c : Nat) (bs : List UInt8) (w : World) (B : Nat) (hr : Rd w B A n (bvs bs)) (hB : B ≤ w.heap.size) (hnc : n ≤ c) (hn : n ≤ 2000000) :
    Calls Try.prog 29 #[.slice A n c] w fun e w' => Nexted w bs e w' := by
  have hl : bs.length = n := by simpa using hr.len
  by_cases h8 : n < 8
  · have hno : goodC bs = false := by unfold goodC; rw [decide_eq_false_iff_not]; omega
    have HO := Lib.hid hno; clear hno hl
    have h8i : (n : Int) < 8 := by omega
    go_enter Try.func29, Try.ntmps29
    go_wp2_with fail
    go_ret2
    exact Nexted.no HO.out rfl (Below.refl _ _)
  · obtain ⟨ad, _, rfl, _, _, _⟩ := hr.at (k := 0) (by omega)
    have h8i : ¬ (n : Int) < 8 := by omega
    have hlt := num4_lt bs
    have hn4 := number_any (bs.take 4) w (by rw [List.length_take]; omega)
    have hnt : num4 (bs.take 4) = num4 bs := by
      unfold num4
      simp [List.getD_eq_getElem?_getD]
    rw [hnt] at hn4
    obtain ⟨k, hk⟩ : ∃ k, num4 bs = k := ⟨_, rfl⟩
    rw [hk] at hn4 hlt
    obtain ⟨b0, b1, b2, b3, hb4, hc0, hc1, hc2, hc3⟩ := four_cells hr (by omega)
    rw [hb4] at hn4 hnt
    clear hb4
    have harr : (Instr.arrayAt 63 (.slice (some ad) n c)).run Try.prog w = .ok (.pointer (some ad)) w := run_arrayAt w _ 5 4 (some ad) n c Try.underlying63 (by omega)
    have HK := Lib.hid hk; have HL := Lib.hid hl; clear hk hl hnt
    by_cases h1 : k ≤ 1048576 ∧ k + 8 ≤ n
    · obtain ⟨h1, h2⟩ := h1
      have h1i : ¬ (k : Int) > 1048576 := by omega
      have h2i : ¬ (k : Int) + 8 > (n : Int) := by omega
      have h3i : ¬ (k : Int) + 8 < 0 := by omega
      have h4i : (0 : Int) ≤ (k : Int) + 8 := by omega
      have h5i : (k : Int) + 8 ≤ (c : Int) := by omega
      have hrt := hr.take (k := k + 8) (by omega)
      have et : (bvs bs).take (k + 8) = bvs (bs.take (k + 8)) := by simp [bvs, List.map_take]
      rw [et] at hrt
      obtain ⟨t, ht⟩ : ∃ t, okC (bs.take (k + 8)) = t := ⟨_, rfl⟩
      have hgd : goodC bs = t := by
        unfold goodC
        rw [HK.out, ht]
        cases t with
        | true => rw [decide_eq_true_eq]; exact ⟨by rw [HL.out]; omega, h1, by rw [HL.out]; omega, rfl⟩
        | false => rw [decide_eq_false_iff_not]; rintro ⟨_, _, _, h⟩; cases h
      have HG := Lib.hid hgd; have HT := Lib.hid ht
      clear et hgd ht
      go_enter Try.func29, Try.ntmps29
      go_wp2_with fail
      refine hn4.mono ?_
      rintro e w1 ⟨rfl, hb1⟩
      have hop := open_any (some ad) (k + 8) c (bs.take (k + 8)) w1 _ ((hrt.more hB).below hb1) hb1.size (by omega) (by omega)
      clear hn4 harr hc0 hc1 hc2 hc3
      go_wp2_with fail
      refine hop.mono ?_
      rintro e w2 ⟨v2, he2, hown2, hb12⟩
      rw [HT.out] at he2
      subst he2
      have hb2 := hb1.trans (hb12.mono hb1.size)
      clear hop hb12
      cases t with
      | false =>
        go_wp2_with fail
        go_ret2
        exact Nexted.no HG.out rfl hb2
      | true =>
        have hin : inC (bs.take (k + 8)) = bs.take (k + 4) := by
          unfold inC
          rw [if_pos HT.out, List.length_take, HL.out, List.take_take]
          congr 1
          omega
        have hil : (bs.take (k + 4)).length = k + 4 := by rw [List.length_take, HL.out]; omega
        rw [hin, hil] at hown2
        clear hin hil
        obtain ⟨go, c2, e2, hgo, hgol⟩ := hown2.form (by omega)
        subst e2
        have hnc2 : k + 4 ≤ c2 := by
          obtain ⟨A9, c9, e9, h9, _⟩ := own_slice hown2
          injection e9 with _ _ e9
          omega
        have h7i : (4 : Int) ≤ (c2 : Int) := by omega
        go_wp2_with fail
        all_goals go_ret2
        · rename_i hc24
          exact Nexted.yes HG.out HK.out (hown2.mono hb1.size) hnc2 (by rw [if_pos (by omega)]) (by omega) rfl hb2
        · rename_i hc24
          exact Nexted.yes HG.out HK.out (hown2.mono hb1.size) hnc2 (by rw [if_neg (by omega)]) rfl rfl hb2
    · have hgd : goodC bs = false := by
        unfold goodC
        rw [HK.out, HL.out, decide_eq_false_iff_not]
        rintro ⟨_, ha, hb, _⟩
        exact h1 ⟨ha, hb⟩
      have HG := Lib.hid hgd; clear hgd
      by_cases h2 : k ≤ 1048576
      · have h1i : ¬ (k : Int) > 1048576 := by omega
        have h2i : (k : Int) + 8 > (n : Int) := by omega
        go_enter Try.func29, Try.ntmps29
        go_wp2_with fail
        refine hn4.mono ?_
        rintro e w1 ⟨rfl, hb1⟩
        go_wp2_with fail
        go_ret2
        exact Nexted.no HG.out rfl hb1
      · have h1i : (k : Int) > 1048576 := by omega
        go_enter Try.func29, Try.ntmps29
        go_wp2_with fail
        refine hn4.mono ?_
        rintro e w1 ⟨rfl, hb1⟩
        go_wp2_with fail
        go_ret2
        exact Nexted.no HG.out rfl hb1
end Go.Proofs.Ythddhcodlmlaiaa
