/- The law SumBursts, walked. -/
import Derived.Test.YthddhcodlmlaiaaBurst
import Derived.Test.YthddhcodlmlaiaaLMore
namespace Go.Proofs.Ythddhcodlmlaiaa
open Go.RowKit

theorem flip_u8 {b r : Nat} (hb : b < 256) (hr : r < 8) : bits BinOp.xor IntKind.u8 (b : Int) (2 ^ r % 256) = ((b ^^^ 2 ^ r : Nat) : Int) := by
  have h : (2 : Int) ^ r % 256 = ((2 ^ r : Nat) : Int) := by
    match r, hr with
    | 0, _ => decide
    | 1, _ => decide
    | 2, _ => decide
    | 3, _ => decide
    | 4, _ => decide
    | 5, _ => decide
    | 6, _ => decide
    | 7, _ => decide
  rw [h]
  exact xor_u8 hb (show 2 ^ r < 2 ^ 8 from Nat.pow_lt_pow_right (by decide) hr)

set_option maxRecDepth 100000 in
set_option maxHeartbeats 4000000 in
theorem law_bursts (A : Option Addr) (n c : Nat) (z : List Int) (x y : Int) (w : World) (w0 : IsRow .u8 w A n c z) (w1 : (Lit.int .u16 x).wf = true) (w2 : (Lit.int .u32 y).wf = true) :
    Calls Try.prog 7 #[.slice A n c, .int .u16 x, .int .u32 y] w fun e w' => e = .returned (.bool true) ∧ Below w.heap.size w w' := by
  obtain ⟨xs, hal, hra, hnc, hcm⟩ := w0.bytes
  have hn63 := isrow63 hnc hcm
  obtain ⟨at_, rfl, hat⟩ : ∃ k : Nat, x = k ∧ k < 65536 := by
    simp [Lit.wf, IntKind.min, IntKind.max, IntKind.signed, IntKind.bits] at w1
    exact ⟨x.toNat, by omega, by omega⟩
  obtain ⟨ch, rfl, hch⟩ : ∃ k : Nat, y = k ∧ k < 4294967296 := by
    simp [Lit.wf, IntKind.min, IntKind.max, IntKind.signed, IntKind.bits] at w2
    exact ⟨y.toNat, by omega, by omega⟩
  have HA := Lib.hid hal; clear hal w0 hcm w1 w2
  have hb1 : Below w.heap.size w (w.alloc (.cells #[.slice A n c] 28)) := (Below.refl _ _).alloc (Nat.le_refl _) _
  have hf := few_any (some ⟨w.heap.size, 0, none⟩) 1 1 [xs] _ _ (rds_one 28 (c := c) hra (Nat.le_refl _)) rfl (by unfold maxLen; omega)
  obtain ⟨z0, hz0⟩ : ∃ z0, ((ch : Int) == 0) = z0 := ⟨_, rfl⟩
  go_enter Try.func7, Try.ntmps7
  go_wp2_with fail
  refine hf.mono ?_
  rintro e w1 ⟨t, rfl, rfl, hfew⟩
  clear hf
  generalize (w.alloc (.cells #[.slice A n c] 28)) = w1 at *
  cases t with
  | false =>
    go_wp2_with fail
    refine (alive_any _).mono ?_
    rintro e w2 ⟨rfl, hb⟩
    go_wp2_with fail
    go_ret
    exact ⟨rfl, hb1.trans (hb.mono hb1.size)⟩
  | true =>
    cases z0 with
    | true =>
      go_wp2_with fail
      refine (alive_any _).mono ?_
      rintro e w2 ⟨rfl, hb⟩
      go_wp2_with fail
      go_ret
      exact ⟨rfl, hb1.trans (hb.mono hb1.size)⟩
    | false =>
      have h15 : n ≤ 1500 := by
        have := (hfew rfl).2
        simp at this
        have := HA.out; omega
      clear hfew
      have hr1 := hra.below hb1
      have hrs := refseal_any A n c xs w1 _ hr1 hb1.size (by omega)
      go_wp2_with fail
      refine hrs.mono ?_
      rintro e w2 ⟨v2, rfl, hown2, hb12⟩
      have hb2 := hb1.trans (hb12.mono hb1.size)
      have hs12 : w.heap.size ≤ w1.heap.size := hb1.size
      obtain ⟨A2, c2, e2, hnc2, hcm2⟩ := own_slice hown2
      subst e2
      clear hrs hr1 hra hb1 hb12 hz0
      obtain ⟨m, hm⟩ : ∃ m, n + 4 = m := ⟨_, rfl⟩
      rw [hm] at hown2 hnc2
      have h4m : 4 ≤ m := by omega
      have hm15 : m ≤ 1504 := by omega
      have hnm : (n : Int) = (m : Int) - 4 := by omega
      have HM := Lib.hid hm
      simp only [hm]
      have hst := St.start xs (at_ % (8 * m)) ch
      obtain ⟨frm, hfrm⟩ : ∃ frm, at_ % (8 * m) = frm := ⟨_, rfl⟩
      have hfm : frm < 8 * m := by rw [← hfrm]; exact Nat.mod_lt _ (by omega)
      have hmod : (at_ : Int) % (8 * (m : Int)) = (frm : Int) := by rw [← hfrm, Int.natCast_emod, Int.natCast_mul]; rfl
      have hm0 : ¬ (8 * (m : Int)) = 0 := by omega
      rw [hfrm] at hst
      have HF := Lib.hid hfrm; clear hfrm
      go_wp2_with fail
      all_goals simp only [hmod]
      all_goals
        rename_i hsp K hK
        have hxl := HA.out
        obtain ⟨e, he⟩ : ∃ e : Nat, e = if frm < 8 * xs.length then 8 * xs.length else 8 * (xs.length + 4) := ⟨_, rfl⟩
        have he8 : e ≤ 8 * m := by rw [he]; split <;> omega
        have hfe : frm ≤ e := by rw [he]; split <;> omega
        have hei : (8 * ((m : Int) - 4) = (e : Int) ∧ (frm : Int) < 8 * ((m : Int) - 4)) ∨ (8 * (m : Int) = (e : Int) ∧ ¬ (frm : Int) < 8 * ((m : Int) - 4)) := by
          by_cases hs : frm < 8 * xs.length
          · rw [if_pos hs] at he; exact .inl ⟨by omega, by omega⟩
          · rw [if_neg hs] at he; exact .inr ⟨by omega, by omega⟩
        clear hxl
        have HE := Lib.hid he; clear he
        have HST := Lib.hid hst; clear hst
        rcases hei with ⟨hei, hl⟩ | ⟨hei, hl⟩
        all_goals first
          | (exfalso; clear HE HST hown2 HF HM HA; omega)
          | simp only [hei]
        clear hei hl hsp hm0 hmod hnm
        go_loopw [10, 11] (fun sm i wr => ∃ (k : Nat) (zs : List UInt8), k ≤ 32 ∧ frm + k ≤ e ∧ i = .int .i64 k ∧ sm = .bool (decide (ch % 2 ^ k = 0)) ∧ Hid (St xs frm ch k zs) ∧ wr.ownsRow w1.heap.size 5 1 (.slice A2 m c2) m (bvs zs) ∧ w2.grownBy wr (Value.ownBlock (.slice A2 m c2))) (fun _ i _ => 32 - (intOf i).toNat)
        case atStart => exact ⟨0, _, by omega, by omega, rfl, by simp [Nat.mod_one], HST, hown2, World.grownBy.refl _ _⟩
        case round =>
          obtain ⟨k, zs, hk, hke, rfl, rfl, hst, hownr, hgr⟩ := hrel
          by_cases hlt : k < 32 ∧ frm + k < e
          · obtain ⟨hk1, hk2⟩ := hlt
            have hk1i : (k : Int) < 32 := by omega
            have hk2i : (frm : Int) + (k : Int) < (e : Int) := by omega
            have hk0 : ¬ (k : Int) < 0 := by omega
            obtain ⟨b1, hb1⟩ : ∃ b1, ch / 2 ^ k % 2 = b1 := ⟨_, rfl⟩
            have hbit : bits BinOp.and IntKind.u32 ((ch : Int) / 2 ^ k) 1 = (b1 : Int) := by
              rw [div_int, and1_u32 (Nat.lt_of_le_of_lt (Nat.div_le_self _ _) hch), hb1]
            by_cases h1 : b1 = 1
            · subst h1
              obtain ⟨go, cap, hv, hgo, hgol⟩ := hownr.form (by omega)
              obtain ⟨rfl, rfl⟩ : A2 = some ⟨go, 0, none⟩ ∧ c2 = cap := by injection hv with h1 _ h2; exact ⟨h1, h2⟩
              clear hv
              have hzl : zs.length = m := by simpa using hownr.1
              obtain ⟨q, hq⟩ : ∃ q, (frm + k) / 8 = q := ⟨_, rfl⟩
              obtain ⟨r, hr⟩ : ∃ r, (frm + k) % 8 = r := ⟨_, rfl⟩
              have hqm : q < m := by omega
              have hr8 : r < 8 := by omega
              have hqi : ((frm : Int) + (k : Int)) / 8 = (q : Int) := by omega
              have hri : ((frm : Int) + (k : Int)) % 8 = (r : Int) := by omega
              have hr0 : ¬ (r : Int) < 0 := by omega
              have hcell := hownr.cellAt q (by omega)
              have hfr := hownr.frozenAt q
              obtain ⟨b, hbk⟩ : ∃ b, zs[q]? = some b := ⟨zs[q], List.getElem?_eq_getElem (by omega)⟩
              have hcell' : wr.cell? ⟨go, q, none⟩ = some (.int .u8 b.toNat) := by rw [hcell, bvs, List.getElem?_map, hbk]; rfl
              have HS := Lib.hid (fun u => hownr.stored q u)
              have Hzl := Lib.hid hzl; clear hzl
              have hb256 : b.toNat < 256 := b.toNat_lt
              have HQ := Lib.hid hq; have HR := Lib.hid hr; have HB1 := Lib.hid hb1
              clear hcell hq hr hb1
              go_wp2_with fail
              rw [flip_u8 hb256 hr8]
              have hx256 : b.toNat ^^^ 2 ^ r < 256 := Nat.xor_lt_two_pow (n := 8) hb256 (show 2 ^ r < 2 ^ 8 from Nat.pow_lt_pow_right (by decide) hr8)
              obtain ⟨d, hd⟩ : ∃ d : UInt8, d.toNat = b.toNat ^^^ 2 ^ r := ⟨UInt8.ofNat (b.toNat ^^^ 2 ^ r), by rw [UInt8.toNat_ofNat']; exact Nat.mod_eq_of_lt hx256⟩
              have hnew := HS.out (.int .u8 (d.toNat : Int))
              have hst2 := St.flip hst.out HB1.out (b := b) (c := d) (by have h1 := HE.out; rw [h1] at hk2; exact hk2) (by rw [HQ.out]; exact hbk) (by rw [HR.out]; exact hd)
              rw [HQ.out] at hst2
              rw [← hd]
              refine ⟨⟨k + 1, zs.set q d, by omega, by omega, by go_num, by rw [decide_eq_false (low_ne HB1.out)], hst2, ?_, World.grownBy.trans hgr hnew.2⟩, by simp [intOf]; omega⟩
              have e : bvs (zs.set q d) = (bvs zs).set q (.int .u8 (d.toNat : Int)) := by
                rw [bvs, List.map_set]
                rfl
              rw [e]; exact hnew.1
            · have hb0 : b1 = 0 := by omega
              subst hb0
              have h0 : ¬ ch / 2 ^ k % 2 = 1 := by omega
              go_wp2_with fail
              exact ⟨⟨k + 1, zs, by omega, by omega, by go_num, by rw [low_clear h0], hst.out.skip h0, hownr, hgr⟩, by simp [intOf]; omega⟩
          · have hok := (St.ok hst.out hch (by rw [← HE.out]; exact hke))
            obtain ⟨sm, hsm⟩ : ∃ sm, decide (ch % 2 ^ k = 0) = sm := ⟨_, rfl⟩
            rw [hsm] at hok
            simp only [hsm]
            clear hsm hst HST hown2
            have hbr := hb2.grown hgr hb2.size fun g hg => Nat.le_trans hs12 (hownr.lt g hg).1
            have r2 := Rd.of_own hownr
            have hop := open_any A2 m c2 zs wr _ r2 (Nat.le_refl _) hnc2 (by omega)
            by_cases hk1 : k < 32
            · have hk1i : (k : Int) < 32 := by omega
              have hk2i : ¬ (frm : Int) + (k : Int) < (e : Int) := by omega
              go_wp2_with fail
              refine hop.mono ?_
              rintro e4 w4 ⟨v4, he4, hown4, hb34⟩
              rw [hok] at he4
              subst he4
              have hb4 := hbr.trans (hb34.mono hbr.size)
              obtain ⟨A4, c4, e4, hnc4, _⟩ := own_slice hown4
              subst e4
              clear hop hown4 hb34 r2 hgr hownr hbr hb2
              go_wp2_with fail
              refine (alive_any _).mono ?_
              rintro e w5 ⟨rfl, hb5⟩
              go_wp2_with fail
              go_ret
              exact ⟨by simp, hb4.trans (hb5.mono hb4.size)⟩
            · have hk1i : ¬ (k : Int) < 32 := by omega
              go_wp2_with fail
              refine hop.mono ?_
              rintro e4 w4 ⟨v4, he4, hown4, hb34⟩
              rw [hok] at he4
              subst he4
              have hb4 := hbr.trans (hb34.mono hbr.size)
              obtain ⟨A4, c4, e4, hnc4, _⟩ := own_slice hown4
              subst e4
              clear hop hown4 hb34 r2 hgr hownr hbr hb2
              go_wp2_with fail
              refine (alive_any _).mono ?_
              rintro e w5 ⟨rfl, hb5⟩
              go_wp2_with fail
              go_ret
              exact ⟨by simp, hb4.trans (hb5.mono hb4.size)⟩
end Go.Proofs.Ythddhcodlmlaiaa
