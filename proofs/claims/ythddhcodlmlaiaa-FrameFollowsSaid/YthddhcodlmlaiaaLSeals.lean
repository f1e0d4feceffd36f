/- The law SumSeals, walked. -/
import Derived.Test.YthddhcodlmlaiaaOpen
import Derived.Test.YthddhcodlmlaiaaLMore
namespace Go.Proofs.Ythddhcodlmlaiaa
open Go.RowKit

theorem seal_ok (bs : List UInt8) : okC (sealC bs) = true ∧ inC (sealC bs) = bs := by
  have hl := sealC_len bs
  have ht : (sealC bs).take bs.length = bs := by unfold sealC; simp
  have h1 : okC (sealC bs) = true := by
    unfold okC
    rw [decide_eq_true_eq, hl, Nat.add_sub_cancel, ht]
    exact ⟨by omega, rfl⟩
  refine ⟨h1, ?_⟩
  unfold inC
  rw [if_pos h1, hl, Nat.add_sub_cancel, ht]
theorem inC_len (bs : List UInt8) : (inC bs).length ≤ bs.length := by
  unfold inC
  split
  · rw [List.length_take]; omega
  · simp

set_option maxRecDepth 100000 in
set_option maxHeartbeats 4000000 in
theorem law_seals (A : Option Addr) (n c : Nat) (z : List Int) (w : World) (w0 : IsRow .u8 w A n c z) :
    Calls Try.prog 6 #[.slice A n c] w fun e w' => e = .returned (.bool true) ∧ Below w.heap.size w w' := by
  obtain ⟨xs, hal, hra, hnc, hcm⟩ := w0.bytes
  have hn63 := isrow63 hnc hcm
  have HA := Lib.hid hal; clear hal w0 hcm
  have hb1 : Below w.heap.size w (w.alloc (.cells #[.slice A n c] 28)) := (Below.refl _ _).alloc (Nat.le_refl _) _
  have hf := few_any (some ⟨w.heap.size, 0, none⟩) 1 1 [xs] _ _ (rds_one 28 (c := c) hra (Nat.le_refl _)) rfl (by unfold maxLen; omega)
  go_enter Try.func6, Try.ntmps6
  go_wp2_with fail
  refine hf.mono ?_
  rintro e w1 ⟨t, rfl, rfl, hfew⟩
  clear hf
  generalize (w.alloc (.cells #[.slice A n c] 28)) = w1 at *
  cases t with
  | false =>
    go_wp2_with fail
    refine (alive_any _).mono ?_
    rintro e w2 ⟨rfl, hb⟩
    go_wp2_with fail
    go_ret
    exact ⟨rfl, hb1.trans (hb.mono hb1.size)⟩
  | true =>
    have h15 : n ≤ 1500 := by
      have := (hfew rfl).2
      simp at this
      have := HA.out; omega
    clear hfew
    have hr1 := hra.below hb1
    have hcl := clone_any A n c xs w1 _ hr1 hb1.size (by omega)
    go_wp2_with fail
    refine hcl.mono ?_
    rintro e w2 ⟨v2, rfl, hown2, hb12⟩
    have hb2 := hb1.trans (hb12.mono hb1.size)
    have hs20 := hb2.size
    obtain ⟨A2, c2, e2, hnc2, _⟩ := own_slice hown2
    subst e2
    have r2 := Rd.of_own hown2
    have hse := seal_any A2 n c2 xs w2 _ r2 (Nat.le_refl _) hnc2 (by omega)
    clear hcl hown2 hr1 hb12
    go_wp2_with fail
    refine hse.mono ?_
    rintro e w3 ⟨v3, rfl, hown3, hb23⟩
    have hb3 := hb2.trans (hb23.mono hb2.size)
    obtain ⟨A3, c3, e3, hnc3, _⟩ := own_slice hown3
    subst e3
    have r3 := Rd.of_own hown3
    obtain ⟨hok3, hin3⟩ := seal_ok xs
    have hop := open_any A3 (n + 4) c3 (sealC xs) w3 _ r3 (Nat.le_refl _) hnc3 (by omega)
    clear hse
    go_wp2_with fail
    refine hop.mono ?_
    rintro e w4 ⟨v4, he4, hown4, hb34⟩
    rw [hok3] at he4
    rw [hin3, HA.out] at hown4
    subst he4
    have hb4 := hb3.trans (hb34.mono hb3.size)
    obtain ⟨A4, c4, e4, hnc4, _⟩ := own_slice hown4
    subst e4
    have r4 := Rd.of_own hown4
    have hop2 := open_any A n c xs w4 _ (hra.below hb4) hb4.size hnc (by omega)
    clear hop
    go_wp2_with fail
    refine hop2.mono ?_
    rintro e w5 ⟨v5, he5, hown5, hb45⟩
    subst he5
    have hb5 := hb4.trans (hb45.mono hb4.size)
    obtain ⟨A5, c5, e5, hnc5, _⟩ := own_slice hown5
    subst e5
    have r5 := Rd.of_own hown5
    obtain ⟨ok, hok⟩ : ∃ ok, okC xs = ok := ⟨_, rfl⟩
    obtain ⟨ys, hys⟩ : ∃ ys, inC xs = ys := ⟨_, rfl⟩
    have hyl := inC_len xs
    have hop3 := refopen_any A n c xs w5 _ (hra.below hb5) hb5.size hnc (by omega)
    rw [hys, HA.out] at hyl
    rw [hys] at r5
    rw [hok, hys]
    clear hop2 hown5 hown4
    obtain ⟨m5, hm5⟩ : ∃ m5, ys.length = m5 := ⟨_, rfl⟩
    rw [hm5] at r5 hyl ⊢
    go_wp2_with fail
    refine hop3.mono ?_
    rintro e w6 ⟨A6, m6, c6, he6, r6, hb56, _⟩
    rw [hok] at he6
    rw [hys] at r6
    subst he6
    have hb6 := hb5.trans (hb56.mono hb5.size)
    have hl6 : m6 = m5 := by have := r6.len; rw [bvs_length] at this; omega
    subst hl6
    have hrs := refseal_any A n c xs w6 _ (hra.below hb6) hb6.size (by omega)
    clear hop3
    go_wp2_with fail
    refine hrs.mono ?_
    rintro e w7 ⟨v7, rfl, hown7, hb67⟩
    have hb7 := hb6.trans (hb67.mono hb6.size)
    obtain ⟨A7, c7, e7, _, _⟩ := own_slice hown7
    subst e7
    have r7 := Rd.of_own hown7
    have hb37 : Below w3.heap.size w3 w7 := ((hb34.trans (hb45.mono hb34.size)).trans (hb56.mono (Nat.le_trans hb34.size hb45.size))).trans (hb67.mono (Nat.le_trans hb34.size (Nat.le_trans hb45.size hb56.size)))
    have hb47 : Below w4.heap.size w4 w7 := (hb45.trans (hb56.mono hb45.size)).trans (hb67.mono (Nat.le_trans hb45.size hb56.size))
    have hb57 : Below w5.heap.size w5 w7 := hb56.trans (hb67.mono hb56.size)
    have hb27 : Below w2.heap.size w2 w7 := hb23.trans (hb37.mono hb23.size)
    have q2 := r2.below hb27
    have q3 := r3.below hb37
    have q4 := r4.below hb47
    have q5 := r5.below hb57
    have q6 := (r6.more hb56.size).below hb67
    have qb := hra.below hb7
    have hown37 : w7.ownsRow w2.heap.size 5 1 (.slice A3 (n + 4) c3) (n + 4) (bvs (sealC xs)) := hown3.kept (w' := w7) (row := none) ⟨hb37.os, hb37.tape, hb37.output, hb37.size, fun i hi _ => hb37.block i hi⟩ (Classical.em _)
    have hq1 := equal_own (c := c3) (c' := c7) q3 r7 (by omega) (by omega) rfl
    clear hrs hown7 hown3 r2 r3 r4 r5 r6 hb34 hb45 hb56 hb67 hb37 hb47 hb57 hb23 hb2 hb3 hb4 hb5 hb6
    go_wp2_with fail
    refine hq1.mono ?_
    rintro e _ ⟨rfl, k1, rfl⟩
    have hq2 := equal_own (c := c4) (c' := c) (q4.drewN k1) (qb.drewN k1) (by omega) (by omega) rfl
    go_wp2_with fail
    refine hq2.mono ?_
    rintro e _ ⟨rfl, k2, rfl⟩
    have hq3 := equal_own (c := c5) (c' := c6) (q5.drewN (k1 + k2)) (q6.drewN (k1 + k2)) (by omega) (by omega) rfl
    go_wp2_with fail
    refine hq3.mono ?_
    rintro e _ ⟨rfl, k3, rfl⟩
    clear hq1 hq2 hq3 q3 q4 q5 q6 r7
    have hb8 : Below w.heap.size w (w7.drewN (k1 + k2 + k3)) := below_drewN hb7 _
    have q28 := q2.drewN (k1 + k2 + k3)
    have hown8 : (w7.drewN (k1 + k2 + k3)).ownsRow w2.heap.size 5 1 (.slice A3 (n + 4) c3) (n + 4) (bvs (sealC xs)) := hown37
    have hs8 : w2.heap.size ≤ (w7.drewN (k1 + k2 + k3)).heap.size := hb27.size
    have hs2 : w.heap.size ≤ w2.heap.size := hs20
    clear hown37 q2 qb hb7 hb27 hok3 hin3
    go_wp2_with fail
    generalize w7.drewN (k1 + k2 + k3) = w8 at *
    obtain ⟨m, hm⟩ : ∃ m, n + 4 = m := ⟨_, rfl⟩
    rw [hm] at hown8
    have HM := Lib.hid hm
    simp only [hm]
    go_loopw [61] (fun i wr => ∃ (k : Nat) (zs : List UInt8), k ≤ m ∧ i = .int .i64 k ∧ wr.ownsRow w2.heap.size 5 1 (.slice A3 m c3) m (bvs zs) ∧ w8.grownBy wr (Value.ownBlock (.slice A3 m c3))) (fun i _ => m - (intOf i).toNat)
    case atStart => exact ⟨0, _, Nat.zero_le _, rfl, hown8, World.grownBy.refl _ _⟩
    case round =>
      obtain ⟨k, zs, hk, rfl, hownr, hgr⟩ := hrel
      by_cases hlt : k < m
      · have hki : (k : Int) < (m : Int) := by omega
        obtain ⟨go, cap, hv, hgo, hgol⟩ := hownr.form (by omega)
        obtain ⟨rfl, rfl⟩ : A3 = some ⟨go, 0, none⟩ ∧ c3 = cap := by injection hv with h1 _ h2; exact ⟨h1, h2⟩
        clear hv
        have hzl : zs.length = m := by simpa using hownr.1
        have hcell := hownr.cellAt k (by omega)
        have hfr := hownr.frozenAt k
        obtain ⟨b, hbk⟩ : ∃ b, zs[k]? = some b := ⟨zs[k], List.getElem?_eq_getElem (by omega)⟩
        have hcell' : wr.cell? ⟨go, k, none⟩ = some (.int .u8 b.toNat) := by rw [hcell, bvs, List.getElem?_map, hbk]; rfl
        have HST := Lib.hid (fun u => hownr.stored k u)
        have Hzl := Lib.hid hzl; clear hzl
        have hb256 : b.toNat < 256 := b.toNat_lt
        clear hcell hbk
        go_wp2_with fail
        go_roundw
        case rel =>
          have h1 := HST.out (.int .u8 (IntKind.u8.wrap ((b.toNat : Int) + 1)))
          refine ⟨k + 1, zs.set k (b + 1), by omega, by go_num, ?_, ?_⟩
          · have e : bvs (zs.set k (b + 1)) = (bvs zs).set k (.int .u8 (IntKind.u8.wrap ((b.toNat : Int) + 1))) := by
              rw [bvs, List.map_set]
              congr 1
            rw [e]; exact h1.1
          · exact World.grownBy.trans hgr h1.2
        case measure => simp [intOf]; omega
      · have hki : ¬ (k : Int) < (m : Int) := by omega
        have hrow : ∀ g, (Value.slice A3 m c3).ownBlock = some g → w2.heap.size ≤ g := fun g hg => (hownr.lt g hg).1
        have hsr := hgr.size
        have q2r := q28.grown hgr hs8 hrow
        have hbr := hb8.grown hgr hb8.size fun g hg => Nat.le_trans (by have := hs2; omega) (hrow g hg)
        clear q28 hb8 hown8 hownr hgr
        go_wp2_with fail
        refine (alive_any _).mono ?_
        rintro e w9 ⟨rfl, hb9⟩
        have hs9 := hbr.trans (hb9.mono hbr.size)
        have q29 := (q2r.more (Nat.le_trans hs8 hsr)).below hb9
        have hq4 := equal_own (c := c2) (c' := c) q29 (hra.below hs9) (by omega) (by omega) rfl
        go_wp2_with fail
        refine hq4.mono ?_
        rintro e _ ⟨rfl, k4, rfl⟩
        go_wp2_with fail
        go_ret
        exact ⟨rfl, below_drewN hs9 _⟩
end Go.Proofs.Ythddhcodlmlaiaa
