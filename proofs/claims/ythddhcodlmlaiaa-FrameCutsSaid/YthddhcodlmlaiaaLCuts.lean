/- The law FrameCuts, walked. -/
import Derived.Test.YthddhcodlmlaiaaLSplits
import Derived.Test.YthddhcodlmlaiaaFCut
import Derived.Test.YthddhcodlmlaiaaGrid
namespace Go.Proofs.Ythddhcodlmlaiaa
open Go.RowKit

theorem Rds.take {w : World} {B : Nat} {A : Option Addr} {L : List (List Value)} (h : Rds w B A L) (k : Nat) : Rds w B A (L.take k) := by
  obtain ⟨vs, h1, h2⟩ := h
  refine ⟨vs.take k, ⟨?_, fun j u hu => ?_⟩, fun i l hl => ?_⟩
  · rw [List.length_take, List.length_take, h1.len]
  · rw [List.getElem?_take] at hu
    by_cases hj : j < k
    · rw [if_pos hj] at hu; exact h1.at' j u hu
    · rw [if_neg hj] at hu; cases hu
  · rw [List.getElem?_take] at hl
    by_cases hj : i < k
    · rw [if_pos hj] at hl
      obtain ⟨A', c', h3, h4⟩ := h2 i l hl
      exact ⟨A', c', by rw [List.getElem?_take, if_pos hj]; exact h3, h4⟩
    · rw [if_neg hj] at hl; cases hl

set_option maxRecDepth 100000 in
set_option maxHeartbeats 4000000 in
theorem law_cuts (A : Option Addr) (n c : Nat) (L : List (List UInt8)) (x : Int) (w : World) (w0 : IsGrid w A n c L) (w1 : (Lit.int .u16 x).wf = true) :
    Calls Try.prog 10 #[.slice A n c, .int .u16 x] w fun e w' => e = .returned (.bool true) ∧ Below w.heap.size w w' := by
  obtain ⟨hn, hnc, hcm, hr⟩ := w0
  obtain ⟨p, rfl, hp⟩ : ∃ k : Nat, x = k ∧ k < 65536 := by
    simp [Lit.wf, IntKind.min, IntKind.max, IntKind.signed, IntKind.bits] at w1
    exact ⟨x.toNat, by omega, by omega⟩
  have hf := few6_any A n c L w _ hr hn (by omega)
  have HN := Lib.hid hn; clear hn w1
  go_enter Try.func10, Try.ntmps10
  go_wp2_with fail
  refine hf.mono ?_
  rintro e w1 ⟨t, rfl, rfl, hfew⟩
  clear hf
  cases t with
  | false =>
    go_wp2_with fail
    refine (alive6_any _).mono ?_
    rintro e w2 ⟨rfl, hb⟩
    go_wp2_with fail
    go_ret
    exact ⟨rfl, hb⟩
  | true =>
    obtain ⟨h60, h15⟩ := hfew rfl
    clear hfew
    obtain ⟨m, hm⟩ : ∃ m, (joinC L).length = m := ⟨_, rfl⟩
    have hm2 : m ≤ 1980 := by rw [← hm, joinC_len, HN.out]; omega
    have hall : ∀ l ∈ L, l.length ≤ 1500 := fun l hl => by
      obtain ⟨i, hi⟩ := List.getElem?_of_mem hl
      exact Nat.le_trans (len_le_flat hi) h15
    have hj := refjoin_any A n c L w1 _ m hr (Nat.le_refl _) HN.out h60 h15 hm
    have HM := Lib.hid hm; have HA := Lib.hid hall; have H15 := Lib.hid h15
    clear hm hall h15
    go_wp2_with fail
    refine hj.mono ?_
    rintro e w2 ⟨v2, rfl, hown2, hb2⟩
    clear hj
    obtain ⟨A2, c2, e2, hmc2, _⟩ := own_slice hown2
    subst e2
    obtain ⟨k, hk⟩ : ∃ k, p % (m + 1) = k := ⟨_, rfl⟩
    have hkm : k ≤ m := by have := Nat.mod_lt p (show 0 < m + 1 by omega); omega
    have hki : (p : Int) % ((m : Int) + 1) = (k : Int) := by rw [← hk]; rfl
    clear hk
    have hr2 := (Rd.of_own hown2).take (k := k) hkm
    have et : (bvs (joinC L)).take k = bvs ((joinC L).take k) := by simp [bvs, List.map_take]
    rw [et] at hr2
    have hsp := split_any A2 k c2 ((joinC L).take k) w2 hr2 (by omega) (by omega)
    clear et hr2 hown2
    have hm1 : ¬ (m : Int) + 1 = 0 := by omega
    have hm3 : ¬ (m : Int) + 1 < 0 := by omega
    have hk0 : (0 : Int) ≤ (k : Int) := by omega
    have hkc : (k : Int) ≤ (c2 : Int) := by omega
    go_wp2_with fail
    refine hsp.mono ?_
    rintro e w3 ⟨v3, he3, hg3, hb23⟩
    obtain ⟨M, q, hMq⟩ : ∃ M q, splitC ((joinC L).take k) = (M, q) := ⟨_, _, rfl⟩
    rw [hMq] at he3 hg3
    dsimp only at he3 hg3
    obtain ⟨A3, c3, rfl⟩ := hg3.form
    subst he3
    have hb3 := hb2.trans (hb23.mono hb2.size)
    have HS := Lib.hid hMq
    clear hMq hsp hb23 hb2
    have hr3 := hr.below hb3
    go_wp2_with fail
    go_loop [10, 11] (fun sz i => ∃ j s : Nat, j ≤ n ∧ i = .int .i64 j ∧ sz = .int .i64 s ∧ s ≤ k ∧ Hid (s = (joinC (L.take j)).length)) (fun _ i => n - (intOf i).toNat)
    case atStart => exact ⟨0, 0, Nat.zero_le _, rfl, rfl, Nat.zero_le _, rfl⟩
    case round =>
      obtain ⟨j, s, hj, rfl, rfl, hsk, hs⟩ := hrel
      by_cases hlt : j < n
      · have hji : (j : Int) < (n : Int) := by omega
        obtain ⟨ad, l, A', c', rfl, hl, hc, hrl⟩ := hr3.at (k := j) (by have := HN.out; rw [List.length_map]; omega)
        rw [List.getElem?_map, Option.map_eq_some_iff] at hl
        obtain ⟨l, hl, rfl⟩ := hl
        simp only [bvs_length] at hc hrl
        have hl15 := HA.out l (List.mem_of_getElem? hl)
        have hx : (joinC (L.take (j + 1))).length = s + (l.length + 8) := by rw [joinC_succ hl, List.length_append, frameC_len, hs.out]
        have HX := Lib.hid hx; have HL := Lib.hid hl
        clear hx hl hrl
        by_cases hfit : s + l.length + 8 ≤ k
        · have hfi : (s : Int) + (l.length : Int) + 8 ≤ (k : Int) := by omega
          obtain ⟨y, hy⟩ : ∃ y, l.length = y := ⟨_, rfl⟩
          rw [hy] at hc hfit HX hfi hl15
          clear hy
          have hy2 : (y : Int) ≤ 1500 := by omega
          go_wp2_with fail
          go_round
          case rel => exact ⟨j + 1, s + (y + 8), by omega, by go_num, by go_num, by omega, HX.out.symm⟩
          case measure => simp [intOf]; omega
        · have hfi : ¬ (s : Int) + (l.length : Int) + 8 ≤ (k : Int) := by omega
          have hsc := split_cut L j k (fun l hl => by have := HA.out l hl; omega) (by rw [← hs.out]; exact hsk) (fun l' hl' => by rw [HL.out] at hl'; injection hl' with e; subst e; rw [← hs.out]; omega)
          rw [HS.out, ← hs.out] at hsc
          injection hsc with e1 e2
          have HMe := Lib.hid e1
          subst e2
          have hjl : (L.take j).length = j := by rw [List.length_take, HN.out]; omega
          have hMj : M.length = j := by rw [HMe.out]; exact hjl
          have hjc : (j : Int) ≤ (c : Int) := by omega
          rw [hMj] at hg3
          clear e1 hr3
          go_wp2_with fail
          refine (alive6_any _).mono ?_
          rintro e w4 ⟨rfl, hb34⟩
          have hb4 := hb3.trans (hb34.mono hb3.size)
          have hg4 := (hg3.below hb34).rds
          have hr4 := (hr.below hb4).take j
          rw [← List.map_take] at hr4
          have hsm := same_any A3 _ j c3 j c M (L.take j) w4 _ _ hg4 hr4 hMj hjl (by omega) (by omega)
          rw [decide_eq_true HMe.out] at hsm
          clear hg3 hg4 hr4 hr hMj hjl
          go_wp2_with fail
          refine hsm.mono ?_
          rintro e _ ⟨rfl, q2, rfl⟩
          go_wp2_with fail
          go_ret
          exact ⟨rfl, below_drewN hb4 _⟩
      · have hji : ¬ (j : Int) < (n : Int) := by omega
        have hsc := split_cut L j k (fun l hl => by have := HA.out l hl; omega) (by rw [← hs.out]; exact hsk) (fun l' hl' => by have := (List.getElem?_eq_some_iff.1 hl').1; have := HN.out; omega)
        rw [HS.out, ← hs.out] at hsc
        injection hsc with e1 e2
        have HMe := Lib.hid e1
        subst e2
        have hjl : (L.take j).length = j := by rw [List.length_take, HN.out]; omega
        have hMj : M.length = j := by rw [HMe.out]; exact hjl
        have hjc : (j : Int) ≤ (c : Int) := by omega
        rw [hMj] at hg3
        clear e1 hr3
        go_wp2_with fail
        refine (alive6_any _).mono ?_
        rintro e w4 ⟨rfl, hb34⟩
        have hb4 := hb3.trans (hb34.mono hb3.size)
        have hg4 := (hg3.below hb34).rds
        have hr4 := (hr.below hb4).take j
        rw [← List.map_take] at hr4
        have hsm := same_any A3 _ j c3 j c M (L.take j) w4 _ _ hg4 hr4 hMj hjl (by omega) (by omega)
        rw [decide_eq_true HMe.out] at hsm
        clear hg3 hg4 hr4 hr hMj hjl
        go_wp2_with fail
        refine hsm.mono ?_
        rintro e _ ⟨rfl, q2, rfl⟩
        go_wp2_with fail
        go_ret
        exact ⟨rfl, below_drewN hb4 _⟩
end Go.Proofs.Ythddhcodlmlaiaa
