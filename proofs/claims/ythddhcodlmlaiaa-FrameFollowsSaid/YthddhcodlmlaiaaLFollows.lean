/- The law FrameFollows, walked. -/
import Derived.Test.YthddhcodlmlaiaaFCut
import Derived.Test.YthddhcodlmlaiaaFConcat
import Derived.Test.YthddhcodlmlaiaaLSplits
import Derived.Test.YthddhcodlmlaiaaGrid
namespace Go.Proofs.Ythddhcodlmlaiaa
open Go.RowKit

/-- Two parts, of whatever elements. -/
theorem rds_pair {w : World} {A A' : Option Addr} {n c n' c' : Nat} {xs ys : List Value} {B : Nat} (t : TypeId) (h : Rd w B A n xs) (h' : Rd w B A' n' ys) (hB : B ≤ w.heap.size) :
    Rds (w.alloc (.cells #[.slice A n c, .slice A' n' c'] t)) (w.heap.size + 1) (some ⟨w.heap.size, 0, none⟩) [xs, ys] := by
  have e1 := h.len
  have e2 := h'.len
  refine ⟨[.slice A n c, .slice A' n' c'], ⟨rfl, fun i u hu => ⟨_, rfl, by simp, ?_⟩⟩, fun i l hl => ?_⟩
  · rcases i with _ | _ | i
    · exact blk_cell (heap_alloc_new w _) 0 _ hu
    · exact blk_cell (heap_alloc_new w _) 1 _ hu
    · simp at hu
  · rcases i with _ | _ | i
    · simp at hl; subst hl; exact ⟨A, c, by rw [e1]; rfl, by rw [e1]; exact (h.alloc hB _).more (by omega)⟩
    · simp at hl; subst hl; exact ⟨A', c', by rw [e2]; rfl, by rw [e2]; exact (h'.alloc hB _).more (by omega)⟩
    · simp at hl

/-- Two slices of byte slices, one behind the other. -/
theorem rds_cat {w : World} {B n : Nat} {A : Option Addr} {L M : List (List Value)} {vs us : List Value} (hr : Rd w B A n (vs ++ us)) (hv : vs.length = L.length) (hn : n = (L ++ M).length)
    (h1 : ∀ (i : Nat) (l : List Value), L[i]? = some l → ∃ (A' : Option Addr) (c' : Nat), vs[i]? = some (Value.slice A' l.length c') ∧ Rd w B A' l.length l)
    (h2 : ∀ (i : Nat) (l : List Value), M[i]? = some l → ∃ (A' : Option Addr) (c' : Nat), us[i]? = some (Value.slice A' l.length c') ∧ Rd w B A' l.length l) : Rds w B A (L ++ M) := by
  refine ⟨vs ++ us, hn ▸ hr, fun i l hl => ?_⟩
  by_cases hi : i < L.length
  · rw [List.getElem?_append_left hi] at hl
    obtain ⟨A', c', h3, h4⟩ := h1 i l hl
    exact ⟨A', c', by rw [List.getElem?_append_left (by omega)]; exact h3, h4⟩
  · rw [List.getElem?_append_right (by omega)] at hl
    obtain ⟨A', c', h3, h4⟩ := h2 _ l hl
    exact ⟨A', c', by rw [List.getElem?_append_right (by omega), hv]; exact h3, h4⟩

theorem splitF_le : ∀ (f : Nat) (bs : List UInt8), (splitF f bs).2 ≤ bs.length
  | 0, _ => Nat.zero_le _
  | f + 1, bs => by
    unfold splitF
    by_cases h : (nextC bs).2 = 0
    · rw [if_pos h]; exact Nat.zero_le _
    · rw [if_neg h]
      have h1 := splitF_le f (bs.drop (nextC bs).2)
      rw [List.length_drop] at h1
      have h2 := (next_le bs).1
      show (nextC bs).2 + _ ≤ _
      omega
theorem split_le (bs : List UInt8) : (splitC bs).2 ≤ bs.length := splitF_le _ _

set_option maxRecDepth 100000 in
set_option maxHeartbeats 4000000 in
theorem law_follows (A : Option Addr) (n c : Nat) (L : List (List UInt8)) (A1 : Option Addr) (n1 c1 : Nat) (z1 : List Int) (w : World) (w0 : IsGrid w A n c L) (w1 : IsRow .u8 w A1 n1 c1 z1) :
    Calls Try.prog 11 #[.slice A n c, .slice A1 n1 c1] w fun e w' => e = .returned (.bool true) ∧ Below w.heap.size w w' := by
  obtain ⟨hn, hnc, hcm, hr⟩ := w0
  obtain ⟨xs, hal, hra, hnc1, hcm1⟩ := w1.bytes
  have hn63 := isrow63 hnc1 hcm1
  have HA := Lib.hid hal; clear hal w1 hcm1
  have hf := few6_any A n c L w _ hr hn (by omega)
  have HN := Lib.hid hn; clear hn
  go_enter Try.func11, Try.ntmps11
  go_wp2_with fail
  refine hf.mono ?_
  rintro e w1 ⟨t, rfl, rfl, hfew⟩
  clear hf
  cases t with
  | false =>
    go_wp2_with fail
    refine (alive6_any _).mono ?_
    rintro e w2 ⟨rfl, hb⟩
    go_wp2_with fail
    go_ret
    exact ⟨rfl, hb⟩
  | true =>
    by_cases h5 : n1 ≤ 500
    case neg =>
      have h5i : (n1 : Int) > 500 := by omega
      clear hfew
      go_wp2_with fail
      refine (alive6_any _).mono ?_
      rintro e w2 ⟨rfl, hb⟩
      go_wp2_with fail
      go_ret
      exact ⟨rfl, hb⟩
    have h5i : ¬ (n1 : Int) > 500 := by omega
    obtain ⟨h60, h15⟩ := hfew rfl
    clear hfew
    obtain ⟨m, hm⟩ : ∃ m, (joinC L).length = m := ⟨_, rfl⟩
    have hm2 : m ≤ 1980 := by rw [← hm, joinC_len, HN.out]; omega
    have hall : ∀ l ∈ L, l.length ≤ 1048576 := fun l hl => by
      obtain ⟨i, hi⟩ := List.getElem?_of_mem hl
      exact Nat.le_trans (len_le_flat hi) (by omega)
    have hsp := split_join L xs hall
    obtain ⟨Y, q, hYq⟩ : ∃ Y q, splitC xs = (Y, q) := ⟨_, _, rfl⟩
    have hYl : Y.length ≤ n1 + 1 := by have := splitC_len xs; rw [hYq, HA.out] at this; exact this
    have hql : q ≤ n1 := by have := split_le xs; rw [hYq, HA.out] at this; exact this
    rw [hYq, hm] at hsp
    dsimp only at hsp
    obtain ⟨F, hF⟩ : ∃ F, joinC L ++ xs = F := ⟨_, rfl⟩
    have hFl : F.length = m + n1 := by rw [← hF, List.length_append, hm, HA.out]
    rw [hF] at hsp
    have HM := Lib.hid hm; have H15 := Lib.hid h15; have HS := Lib.hid hsp; have HY := Lib.hid hYq; have HF := Lib.hid hF; have HFL := Lib.hid hFl
    clear hm hall h15 hsp hYq hF hFl
    have hj2 := refjoin_any A n c L w1 _ m hr (Nat.le_refl _) HN.out h60 H15.out HM.out
    go_wp2_with fail
    refine hj2.mono ?_
    rintro e w2 ⟨v2, rfl, hown2, hb2⟩
    clear hj2
    obtain ⟨A2, c2, e2, hmc2, _⟩ := own_slice hown2
    subst e2
    have hr2 := Rd.of_own hown2
    have hp2 := rds_pair (c := c2) (c' := c1) 28 hr2 ((hra.below hb2).more hb2.size) (Nat.le_refl _)
    have efl : [bvs (joinC L), bvs xs].flatten = bvs F := by rw [← HF.out, bvs_append]; simp
    have hcc := concat36 (some ⟨w2.heap.size, 0, none⟩) 2 [bvs (joinC L), bvs xs] _ _ hp2 (by simp) (by simp) (by rw [efl, bvs_length, HFL.out]; omega) (by rw [efl]; exact bvs_one _)
    rw [efl, bvs_length, HFL.out] at hcc
    have hb2' := hb2.alloc hb2.size (.cells #[.slice A2 m c2, .slice A1 n1 c1] 28)
    clear hp2 hr2 hown2 efl
    go_wp2_with fail
    refine hcc.mono ?_
    rintro e w3 ⟨v3, rfl, hown3, hb23⟩
    have hb3 := hb2'.trans (hb23.mono hb2'.size)
    obtain ⟨A3, c3, e3, hmc3, _⟩ := own_slice hown3
    subst e3
    have hs := split_any A3 (m + n1) c3 F w3 (Rd.of_own hown3) hmc3 (by omega)
    clear hcc hown3 hb23 hb2' hb2
    go_wp2_with fail
    refine hs.mono ?_
    rintro e w4 ⟨v4, he4, hg4, hb34⟩
    rw [HS.out] at he4 hg4
    dsimp only at he4 hg4
    obtain ⟨A4, c4, rfl⟩ := hg4.form
    subst he4
    have hb4 := hb3.trans (hb34.mono hb3.size)
    have hs2 := refsplit_any A1 n1 c1 xs w4 ((hra.below hb4).more hb4.size) hnc1 (by omega)
    clear hs hb34 hb3
    go_wp2_with fail
    refine hs2.mono ?_
    rintro e w5 ⟨v5, he5, hg5, hb45⟩
    rw [HY.out] at he5 hg5
    dsimp only at he5 hg5
    obtain ⟨A5, c5, rfl⟩ := hg5.form
    subst he5
    have hb5 := hb4.trans (hb45.mono hb4.size)
    have hg45 := hg4.below hb45
    clear hs2 hg4 hb45 hb4
    go_wp2_with fail
    refine (alive6_any _).mono ?_
    rintro e w6 ⟨rfl, hb56⟩
    have hb6 := hb5.trans (hb56.mono hb5.size)
    have hg6 := (hg45.below hb56).rds
    obtain ⟨us, hus, hue⟩ := (hg5.below hb56).rds
    obtain ⟨vs, hvs, hve⟩ := (hr.below hb6).more hb6.size
    clear hg45 hg5 hb56 hb5
    rw [List.length_map, HN.out] at hvs
    rw [List.length_map] at hus
    have hvl := hvs.len
    have hul := hus.len
    have one : ∀ {K : List (List UInt8)} {ts : List Value} {B : Nat}, ts.length = K.length → (∀ (i : Nat) (l : List Value), (K.map bvs)[i]? = some l → ∃ (A' : Option Addr) (c' : Nat), ts[i]? = some (Value.slice A' l.length c') ∧ Rd w6 B A' l.length l) → ∀ u ∈ ts, u.oneCell' = true := by
      intro K ts B hl h u hu
      obtain ⟨i, hi⟩ := List.getElem?_of_mem hu
      have hlt : i < K.length := by have := (List.getElem?_eq_some_iff.1 hi).1; omega
      obtain ⟨A', c', h1, _⟩ := h i (bvs K[i]) (by rw [List.getElem?_map, List.getElem?_eq_getElem hlt]; rfl)
      rw [hi] at h1
      injection h1 with h1
      subst h1; rfl
    have ov := one (K := L) (by rw [hvl, HN.out]) hve
    have ou := one (K := Y) hul hue
    have hp6 := rds_pair (c := c) (c' := c5) 22 hvs hus (Nat.le_refl _)
    have efl : [vs, us].flatten = vs ++ us := by simp
    have hlen : (vs ++ us).length = n + Y.length := by rw [List.length_append, hvl, hul]
    have hcc := concat37 (some ⟨w6.heap.size, 0, none⟩) 2 [vs, us] _ _ hp6 (by simp) (by simp) (by rw [efl, hlen]; omega) (by rw [efl]; intro u hu; rcases List.mem_append.1 hu with h | h; exact ov u h; exact ou u h)
    rw [efl, hlen] at hcc
    have hb7 : Below w6.heap.size w6 (w6.alloc (.cells #[.slice A n c, .slice A5 Y.length c5] 22)) := (Below.refl _ _).alloc (Nat.le_refl _) _
    have hLY : (L ++ Y).length = n + Y.length := by rw [List.length_append, HN.out]
    have HV := Lib.hid hve; have HU := Lib.hid hue; have HVL := Lib.hid hvl; have HUL := Lib.hid hul; have HLY := Lib.hid hLY
    have hmq : (m : Int) + (q : Int) ≤ 3000 := by omega
    have hLn : L.length + Y.length = n + Y.length := by rw [HN.out]
    have HLN := Lib.hid hLn
    clear one ov ou hp6 efl hlen hve hue hvl hul hLY hLn hvs hus
    go_wp2_with fail
    refine hcc.mono ?_
    rintro e w7 ⟨v7, rfl, hown7, hb67⟩
    have hb17 := hb7.trans (hb67.mono hb7.size)
    obtain ⟨A7, c7, e7, _, _⟩ := own_slice hown7
    subst e7
    have hr7 := Rd.of_own hown7
    have hrd7 : Rds w7 w7.heap.size A7 ((L ++ Y).map bvs) := by
      rw [List.map_append]
      refine rds_cat hr7 (by rw [HVL.out, List.length_map, HN.out]) (by simp [HN.out]) (fun i l hl => ?_) (fun i l hl => ?_)
      · obtain ⟨A', c', h3, h4⟩ := HV.out i l hl
        exact ⟨A', c', h3, (h4.below hb17).more hb17.size⟩
      · obtain ⟨A', c', h3, h4⟩ := HU.out i l hl
        exact ⟨A', c', h3, (h4.below hb17).more hb17.size⟩
    have hg7 := (hg6.below hb17)
    have hsm := same_any A4 A7 (L.length + Y.length) c4 (n + Y.length) c7 (L ++ Y) (L ++ Y) w7 _ _ hg7 hrd7 List.length_append HLY.out (by rw [HLN.out]; omega) (by omega)
    rw [decide_eq_true (rfl : L ++ Y = L ++ Y)] at hsm
    clear hcc hg6 hg7 hrd7 hr7 hown7
    go_wp2_with fail
    refine hsm.mono ?_
    rintro e _ ⟨rfl, q2, rfl⟩
    go_wp2_with fail
    go_ret
    exact ⟨rfl, below_drewN (hb6.trans (hb17.mono hb6.size)) _⟩
end Go.Proofs.Ythddhcodlmlaiaa
