/- The law FrameLongs, walked. -/
import Derived.Test.YthddhcodlmlaiaaFLaw
import Derived.Laws.OwnMore
namespace Go.Proofs.Ythddhcodlmlaiaa
open Go.RowKit

theorem own_zeros {w : World} {base g n : Nat} (h : w.ownsRow base 5 1 (.slice (some ⟨g, 0, none⟩) n n) n (madeCells (Value.int .u8 0).cells (n * 1)).toList) :
    w.ownsRow base 5 1 (.slice (some ⟨g, 0, none⟩) n n) n (bvs (List.replicate n 0)) := by
  have e : (madeCells (Value.int .u8 0).cells (n * 1)).toList = bvs (List.replicate n 0) := by
    rw [Nat.mul_one]
    show (madeCells #[Value.int .u8 0] n).toList = _
    rw [toList_madeCells_one, bvs, List.map_replicate]
    rfl
  rw [← e]; exact h

/-- Make, of bytes of any length up to one too many. -/
theorem make_two (A : Option Addr) (n c : Nat) (bs : List UInt8) (w : World) (B : Nat) (hr : Rd w B A n (bvs bs)) (hB : B ≤ w.heap.size) (hn : n ≤ 2000000) :
    Calls Try.prog 28 #[.slice A n c] w fun e w' => ∃ A' m' c', e = .returned (.tuple #[.slice A' m' c', .bool (decide (n ≤ 1048576))]) ∧ Below w.heap.size w w' ∧ (n > 1048576 → m' = 0) ∧ m' ≤ 3000000 := by
  by_cases h : n ≤ 1048576
  · refine (make_any A n c bs w B hr hB h).mono ?_
    rintro e w' ⟨v, rfl, hown, hb⟩
    obtain ⟨A1, c1, rfl, _, _⟩ := own_slice hown
    exact ⟨A1, n + 8, c1, by rw [decide_eq_true h], hb, fun h' => by omega, by omega⟩
  · refine (make_long A n c w (by omega) (by omega)).mono ?_
    rintro e w' ⟨rfl, rfl⟩
    exact ⟨none, 0, 0, by rw [decide_eq_false h], Below.refl _ _, fun _ => rfl, by omega⟩

/-- What is known of the record that Next handed back while it is changed. -/
def RecOwn (base n : Nat) (A : Option Addr) (w : World) : Prop :=
  n = 0 ∨ ∃ go c0 zs, A = some ⟨go, 4, none⟩ ∧ w.ownsRow base 5 1 (.slice (some ⟨go, 0, none⟩) (n + 4) c0) (n + 4) (bvs zs)

set_option maxRecDepth 100000 in
set_option maxHeartbeats 4000000 in
theorem law_longs (x : Int) (A : Option Addr) (n c : Nat) (z : List Int) (w : World) (w0 : (Lit.int .u8 x).wf = true) (w1 : IsRow .u8 w A n c z) :
    Calls Try.prog 8 #[.int .u8 x, .slice A n c] w fun e w' => e = .returned (.bool true) ∧ Below w.heap.size w w' := by
  obtain ⟨xs, hal, hra, hnc, hcm⟩ := w1.bytes
  have hn63 := isrow63 hnc hcm
  obtain ⟨p, rfl, hp⟩ : ∃ k : Nat, x = k ∧ k < 256 := by
    simp [Lit.wf, IntKind.min, IntKind.max, IntKind.signed, IntKind.bits] at w0
    exact ⟨x.toNat, by omega, by omega⟩
  have HA := Lib.hid hal; clear hal w0 w1 hcm
  by_cases h5 : n ≤ 500
  case neg =>
    have h5i : (n : Int) > 500 := by omega
    go_enter Try.func8, Try.ntmps8
    go_wp2_with fail
    refine (alive6_any _).mono ?_
    rintro e w2 ⟨rfl, hb⟩
    go_wp2_with fail
    go_ret
    exact ⟨rfl, hb⟩
  have h5i : ¬ (n : Int) > 500 := by omega
  obtain ⟨i0, hi, hz0, hz1, hz2⟩ := info_parts infoE28
  obtain ⟨r, hr⟩ : ∃ r, p % 4 = r := ⟨_, rfl⟩
  have hr4 : r < 4 := by omega
  have hri : (p : Int) % 4 = (r : Int) := by omega
  obtain ⟨L, hL⟩ : ∃ L, 1048574 + r = L := ⟨_, rfl⟩
  have hLi : 1048574 + (r : Int) = (L : Int) := by omega
  have hL0 : ¬ (L : Int) < 0 := by omega
  obtain ⟨w1, hmk, hmown, hmg⟩ := run_make_full (P := Try.prog) w w.heap.size 28 5 i0 _ 1 Try.underlying28 hi hz0 hz1 .i64 .i64 L (by rw [hz2]; omega) (by unfold maxLen; omega) (Nat.le_refl _)
  have hown1 := own_zeros hmown
  have hb1 : Below w.heap.size w w1 := (Below.refl _ _).grown hmg (Nat.le_refl _) fun _ h => by cases h
  have HR := Lib.hid hr; have HL := Lib.hid hL
  clear hmown hmg hr hL
  have r1 := Rd.of_own hown1
  have hmt := make_two _ L L _ w1 _ r1 (Nat.le_refl _) (by omega)
  go_enter Try.func8, Try.ntmps8
  go_wp2_with fail
  refine hmt.mono ?_
  rintro e w2 ⟨AL, mL, cL, rfl, hb12, hmL, hmL3⟩
  have hb2 := hb1.trans (hb12.mono hb1.size)
  clear hmt r1 hown1 hb12 hb1 hmk hi hz0 hz1 hz2
  have hcl := clone_any A n c xs w2 _ (hra.below hb2) hb2.size (by omega)
  go_wp2_with fail
  refine hcl.mono ?_
  rintro e w3 ⟨v3, rfl, hown3, hb23⟩
  obtain ⟨A3, c3, e3, hnc3, _⟩ := own_slice hown3
  subst e3
  have hb3 := hb2.trans (hb23.mono hb2.size)
  have hmk := make_any A3 n c3 xs w3 _ (Rd.of_own hown3) (Nat.le_refl _) (by omega)
  clear hcl
  go_wp2_with fail
  refine hmk.mono ?_
  rintro e w4 ⟨v4, rfl, hown4, hb34⟩
  have hb4 := hb3.trans (hb34.mono hb3.size)
  obtain ⟨go4, c4, e4, hgo4, hgol4⟩ := hown4.form (by omega)
  subst e4
  have hnc4 : n + 8 ≤ c4 := by
    obtain ⟨A9, c9, e9, h9, _⟩ := own_slice hown4
    injection e9 with _ _ e9
    omega
  have hown34 : w4.ownsRow w2.heap.size 5 1 (.slice A3 n c3) n (bvs xs) := hown3.kept (w' := w4) (row := none) ⟨hb34.os, hb34.tape, hb34.output, hb34.size, fun i hi _ => hb34.block i hi⟩ (Classical.em _)
  have hlt3 : ∀ g, (Value.slice A3 n c3).ownBlock = some g → w2.heap.size ≤ g ∧ g < w3.heap.size := fun g hg => hown3.lt g hg
  have hs2 : w.heap.size ≤ w2.heap.size := hb2.size
  clear hmk hown3 hb34 hb3 hb23 hb2
  go_wp2_with fail
  go_loopw [39] (fun i wr => ∃ (k : Nat) (zs : List UInt8), k ≤ n ∧ i = .int .i64 k ∧ wr.ownsRow w2.heap.size 5 1 (.slice A3 n c3) n (bvs zs) ∧ w4.grownBy wr (Value.ownBlock (.slice A3 n c3))) (fun i _ => n - (intOf i).toNat)
  case atStart => exact ⟨0, _, Nat.zero_le _, rfl, hown34, World.grownBy.refl _ _⟩
  case round =>
    obtain ⟨k, zs, hk, rfl, hownr, hgr⟩ := hrel
    by_cases hlt : k < n
    · have hki : (k : Int) < (n : Int) := by omega
      obtain ⟨go, cap, hv, hgo, hgol⟩ := hownr.form (by omega)
      obtain ⟨rfl, rfl⟩ : A3 = some ⟨go, 0, none⟩ ∧ c3 = cap := by injection hv with h1 _ h2; exact ⟨h1, h2⟩
      clear hv
      have hzl : zs.length = n := by simpa using hownr.1
      have hcell := hownr.cellAt k (by omega)
      have hfr := hownr.frozenAt k
      obtain ⟨b, hbk⟩ : ∃ b, zs[k]? = some b := ⟨zs[k], List.getElem?_eq_getElem (by omega)⟩
      have hcell' : wr.cell? ⟨go, k, none⟩ = some (.int .u8 b.toNat) := by rw [hcell, bvs, List.getElem?_map, hbk]; rfl
      have HST := Lib.hid (fun u => hownr.stored k u)
      have Hzl := Lib.hid hzl; clear hzl
      have hb256 : b.toNat < 256 := b.toNat_lt
      clear hcell hbk
      go_wp2_with fail
      go_roundw
      case rel =>
        have h1 := HST.out (.int .u8 (IntKind.u8.wrap ((b.toNat : Int) + 1)))
        refine ⟨k + 1, zs.set k (b + 1), by omega, by go_num, ?_, ?_⟩
        · have e : bvs (zs.set k (b + 1)) = (bvs zs).set k (.int .u8 (IntKind.u8.wrap ((b.toNat : Int) + 1))) := by
            rw [bvs, List.map_set]
            congr 1
          rw [e]; exact h1.1
        · exact World.grownBy.trans hgr h1.2
      case measure => simp [intOf]; omega
    · have hki : ¬ (k : Int) < (n : Int) := by omega
      rename World => wF
      have hown4r : wF.ownsRow w3.heap.size 5 1 (.slice (some ⟨go4, 0, none⟩) (n + 8) c4) (n + 8) (bvs (frameC xs)) := hown4.kept hgr (.inr fun e => by
        have h1 := (hlt3 go4 (by rw [← e]; rfl)).2
        omega)
      have hbr := hb4.grown hgr hb4.size fun g hg => Nat.le_trans hs2 (hlt3 g hg).1
      clear hownr hgr hown4 hown34 hb4
      have hnx := next_any _ (n + 8) c4 _ wF _ (Rd.of_own hown4r) (Nat.le_refl _) hnc4 (by omega)
      go_wp2_with fail
      refine hnx.mono ?_
      rintro e w5 ⟨A5, m5, c5, he5, hr5, hb45, hmc5, hwr5⟩
      have hxl := HA.out
      have hfn := (next_frame xs [] (by omega)).2
      rw [List.append_nil] at hfn
      rw [hfn] at he5 hr5
      simp only [hxl] at he5
      have hm5 : m5 = n := by have := hr5.len; simp at this; omega
      subst hm5
      clear hnx hxl
      subst he5
      have hb5 := hbr.trans (hb45.mono hbr.size)
      have hq1 := equal_own (c := c5) (c' := c) hr5 (hra.below hb5) (by omega) (by omega) rfl
      go_wp2_with fail
      refine hq1.mono ?_
      rintro e _ ⟨rfl, k1, rfl⟩
      go_wp2_with fail
      have hrF := (Rd.of_own hown4r)
      have hinv : RecOwn wF.heap.size m5 A5 (w5.drewN k1) := by
        rcases hwr5 with h | ⟨go, c0, h1, h2⟩
        · exact .inl h
        · exact .inr ⟨go, c0, _, h1, h2⟩
      have hb56 : Below wF.heap.size wF (w5.drewN k1) := below_drewN hb45 k1
      have hsr := hbr.size
      clear hq1 hwr5 hown4r hb45 hb5 hr5
      generalize w5.drewN k1 = w6 at *
      go_loopw [59] (fun i wq => ∃ k : Nat, k ≤ m5 ∧ i = .int .i64 k ∧ Below wF.heap.size wF wq ∧ RecOwn wF.heap.size m5 A5 wq) (fun i _ => m5 - (intOf i).toNat)
      case atStart => exact ⟨0, Nat.zero_le _, rfl, hb56, hinv⟩
      case round =>
        obtain ⟨k, hk, rfl, hbq, hinvq⟩ := hrel
        by_cases hlt : k < m5
        · have hki : (k : Int) < (m5 : Int) := by omega
          obtain ⟨go, c0, zs, rfl, hownq⟩ := hinvq.resolve_left (by omega)
          have hzl : zs.length = m5 + 4 := by simpa using hownq.1
          have hcell := hownq.cellAt (4 + k) (by omega)
          have hfr := hownq.frozenAt (4 + k)
          obtain ⟨b, hbk⟩ : ∃ b, zs[4 + k]? = some b := ⟨zs[4 + k], List.getElem?_eq_getElem (by omega)⟩
          have hcell' : wr.cell? ⟨go, 4 + k, none⟩ = some (.int .u8 b.toNat) := by rw [hcell, bvs, List.getElem?_map, hbk]; rfl
          have HST := Lib.hid (fun u => hownq.stored (4 + k) u)
          have hgo2 := (hownq.lt go rfl).1
          have Hzl := Lib.hid hzl; clear hzl
          have hb256 : b.toNat < 256 := b.toNat_lt
          clear hcell hbk
          go_wp2_with fail
          go_roundw
          case rel =>
            have h1 := HST.out (.int .u8 (IntKind.u8.wrap ((b.toNat : Int) + 1)))
            refine ⟨k + 1, by omega, by go_num, hbq.setCell hgo2 _, .inr ⟨go, c0, zs.set (4 + k) (b + 1), rfl, ?_⟩⟩
            have e : bvs (zs.set (4 + k) (b + 1)) = (bvs zs).set (4 + k) (.int .u8 (IntKind.u8.wrap ((b.toNat : Int) + 1))) := by
              rw [bvs, List.map_set]
              congr 1
            rw [e]; exact h1.1
          case measure => simp [intOf]; omega
        · have hki : ¬ (k : Int) < (m5 : Int) := by omega
          rename World => wG
          have hnx2 := next_any _ (m5 + 8) c4 _ wG _ (hrF.below hbq) hbq.size hnc4 (by omega)
          have hb7 := hbr.trans (hbq.mono hsr)
          clear hinvq hinv hbq hb56 hrF
          go_wp2_with fail
          refine hnx2.mono ?_
          rintro e w8 ⟨A8, m8, c8, he8, hr8, hb78, hmc8, _⟩
          have hxl := HA.out
          rw [hfn] at he8 hr8
          simp only [hxl] at he8
          have hm8 : m8 = m5 := by have := hr8.len; simp at this; omega
          subst hm8
          clear hnx2 hxl
          subst he8
          have hb8 := hb7.trans (hb78.mono hb7.size)
          have hr8' := hr8
          go_wp2_with fail
          refine (alive6_any _).mono ?_
          rintro e w9 ⟨rfl, hb89⟩
          have hb9 := hb8.trans (hb89.mono hb8.size)
          have hq2 := equal_own (c := c8) (c' := c) (hr8.below hb89) (hra.below hb9) (by omega) (by omega) rfl
          by_cases hr3 : r < 3
          · have h1 : decide (L ≤ 1048576) = true := by rw [decide_eq_true_eq, ← HL.out]; omega
            have h2 : (r : Int) < 3 := by omega
            simp only [h1]
            clear hr8 hr8' hb89 hb8 hb78 hb7 hbr hfn
            go_wp2_with fail
            refine hq2.mono ?_
            rintro e _ ⟨rfl, k2, rfl⟩
            go_wp2_with fail
            go_ret
            exact ⟨by simp, below_drewN hb9 _⟩
          · have h1 : decide (L ≤ 1048576) = false := by rw [decide_eq_false_iff_not, ← HL.out]; omega
            have h2 : ¬ (r : Int) < 3 := by omega
            have h3 : mL = 0 := hmL (by rw [← HL.out]; omega)
            subst h3
            simp only [h1]
            clear hr8 hr8' hb89 hb8 hb78 hb7 hbr hfn
            go_wp2_with fail
            refine hq2.mono ?_
            rintro e _ ⟨rfl, k2, rfl⟩
            go_wp2_with fail
            go_ret
            exact ⟨by simp, below_drewN hb9 _⟩
end Go.Proofs.Ythddhcodlmlaiaa
