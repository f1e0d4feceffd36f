/- The reference's reader: readers are values. -/
import Derived.Test.YtmhjkghmpdnhaaaRead3
namespace Go.Proofs.Ytmhjkghmpdnhaaa
open Go.RowKit

def numV (o : Option (Nat × Nat)) : Value := match o with
  | some (x, n) => .tuple #[.int .u64 x, .int .i64 n]
  | none => .tuple #[.int .u64 0, .int .i64 0]

theorem hi_succ {bs : List UInt8} {k : Nat} {b : UInt8} (h : ∀ j b, j < k → bs[j]? = some b → 128 ≤ b.toNat) (hb : bs[k]? = some b) (hl : ¬ b.toNat < 128) :
    ∀ j b, j < k + 1 → bs[j]? = some b → 128 ≤ b.toNat := by
  intro j c hj hc
  by_cases hjk : j = k
  · subst hjk; rw [hb] at hc; injection hc with hc; subst hc; omega
  · exact h j c (by omega) hc

set_option maxRecDepth 100000 in
set_option maxHeartbeats 2000000 in
theorem number_any (A : Option Addr) (c : Nat) (bs : List UInt8) (w : World) (B : Nat) (hr : Rd w B A bs.length (bvs bs)) (hn : bs.length ≤ 1000000) :
    Calls Try.prog 37 #[.slice A bs.length c] w fun e w' => e = .returned (numV (dec bs)) ∧ w = w' := by
  go_enter Try.func37, Try.ntmps37
  go_wp2_with fail
  go_loop [4, 5] (fun x i => ∃ (k X : Nat), k ≤ bs.length ∧ k ≤ 10 ∧ i = .int .i64 k ∧ x = .int .u64 (X : Int) ∧ Hid (X = val (bs.take k)) ∧ U64 X ∧ Hid (∀ j b, j < k → bs[j]? = some b → 128 ≤ b.toNat))
    (fun _ i => bs.length - (intOf i).toNat)
  case atStart => exact ⟨0, 0, Nat.zero_le _, by omega, rfl, rfl, by show 0 = _; simp [val], U64.mk (by omega), fun j b h => by omega⟩
  case round =>
    obtain ⟨k, X, hk, hk10, rfl, rfl, hX, hXu, hhi⟩ := hrel
    have hXl := hXu.lt
    by_cases hlt : k < bs.length ∧ k < 10
    · obtain ⟨hl1, hl2⟩ := hlt
      have hl1' : (k : Int) < (bs.length : Int) := by omega
      have hl2' : (k : Int) < 10 := by omega
      obtain ⟨ad, u, rfl, hB, hu, hcu⟩ := hr.at (k := k) hl1
      obtain ⟨b, hb, rfl⟩ := bvs_get hu
      have hcb : w.cell? (ad.add k) = some (.int .u8 b.toNat) := hcu
      clear hcu hu
      have hb2 : b.toNat < 256 := b.toNat_lt
      have Hb := Lib.hid hb; clear hb
      by_cases h9 : k = 9 ∧ 1 < b.toNat % 128
      · obtain ⟨hk9, hd⟩ := h9
        have hk9' : (9 : Int) ≤ (k : Int) := by omega
        have hd' : (1 : Int) < (b.toNat : Int) % 128 := by omega
        have hdn : Hid (dec bs = none) := by
          show _ = _
          by_cases hlow : b.toNat < 128
          · rw [dec_at hhi.out Hb.out hlow, if_neg]
            intro h; have := h.2.1 hk9; omega
          · exact dec_none_long (hi_succ hhi.out Hb.out hlow) (.inr (by omega))
        clear hk9
        go_wp2_with fail
        go_ret2
        exact ⟨by rw [hdn.out]; rfl, rfl⟩
      · obtain ⟨hs1, hs2, hs3⟩ := add_step (by omega) Hb.out (fun h => by omega)
        obtain ⟨Y, hY⟩ : ∃ Y, Y = val (bs.take (k + 1)) := ⟨_, rfl⟩
        rw [← hY] at hs1 hs3
        have HY := Lib.hid hY; clear hY
        have hYu : U64 Y := U64.mk hs3
        have hor : (IntKind.u64.wrap (((b.toNat : Int) % 128) * 2 ^ (7 * k))) = ((b.toNat % 128 * 2 ^ (7 * k) : Nat) : Int) := by
          rw [IntKind.wrap_u64]
          have e2 : (((b.toNat : Int) % 128) * 2 ^ (7 * k)) = ((b.toNat % 128 * 2 ^ (7 * k) : Nat) : Int) := by simp
          rw [e2]; omega
        obtain ⟨Z, hZ⟩ : ∃ Z, Z = b.toNat % 128 * 2 ^ (7 * k) := ⟨_, rfl⟩
        rw [← hZ] at hor hs1 hs2
        rw [← hX.out] at hs1
        have HS := Lib.hid hs1
        have hXZ : (X : Int) + (Z : Int) = (Y : Int) := by omega
        clear hs1 hZ
        have hYl := hYu.lt
        by_cases hk9 : k = 9
        · have hd9 : ¬ (1 : Int) < (b.toNat : Int) % 128 := by omega
          clear h9
          subst hk9
          have hl1'' : (9 : Int) < (bs.length : Int) := by omega
          have hor' : (IntKind.u64.wrap (((b.toNat : Int) % 128) * 9223372036854775808)) = (Z : Int) := by simpa using hor
          have hcb' : w.cell? { block := ad.block, off := ad.off + 9 } = some (.int .u8 b.toNat) := hcb
          clear hor hl1' hl2' hl2 hk10
          by_cases hlow : b.toNat < 128
          · have hlow' : (b.toNat : Int) < 128 := by omega
            have hdec := dec_at hhi.out Hb.out hlow
            rw [← HY.out] at hdec
            have HD := Lib.hid hdec; clear hdec
            by_cases h0 : b.toNat = 0
            · have hdn : Hid (dec bs = none) := by
                show _ = _
                rw [HD.out, if_neg]; intro h; exact h.2.2 (by omega) h0
              have hb0 : (b.toNat : Int) % 128 ≤ 0 := by omega
              clear h0 hlow
              go_wp2_with fail
              go_ret2
              exact ⟨by rw [hdn.out]; rfl, rfl⟩
            · have hds : Hid (dec bs = some (Y, 10)) := by
                show _ = _
                rw [HD.out, if_pos]; refine ⟨by omega, fun h => by omega, fun h => by omega⟩
              have hb0 : (0 : Int) < (b.toNat : Int) % 128 := by omega
              clear h0 hlow
              go_wp2_with fail
              go_ret2
              exact ⟨by rw [hds.out]; rfl, rfl⟩
          · have hlow' : ¬ (b.toNat : Int) < 128 := by omega
            go_wp2_with fail
            go_round
            case rel => exact ⟨10, Y, by omega, by omega, rfl, rfl, HY, hYu, hi_succ hhi.out Hb.out hlow⟩
            case measure => simp [intOf]; omega
        · have hk9' : (k : Int) < 9 := by omega
          clear h9 hk9
          by_cases hlow : b.toNat < 128
          · have hlow' : (b.toNat : Int) < 128 := by omega
            have hdec := dec_at hhi.out Hb.out hlow
            rw [← HY.out] at hdec
            have HD := Lib.hid hdec; clear hdec
            by_cases h0 : 0 < k ∧ b.toNat = 0
            · have hdn : Hid (dec bs = none) := by
                show _ = _
                rw [HD.out, if_neg]; intro h; exact h.2.2 h0.1 h0.2
              have hk0 : (0 : Int) < (k : Int) := by omega
              have hb0 : (b.toNat : Int) % 128 ≤ 0 := by omega
              clear h0 hlow
              go_wp2_with fail
              go_ret2
              exact ⟨by rw [hdn.out]; rfl, rfl⟩
            · have hds : Hid (dec bs = some (Y, k + 1)) := by
                show _ = _
                rw [HD.out, if_pos]; refine ⟨by omega, fun h => by omega, fun h => by omega⟩
              have ek : ((k + 1 : Nat) : Int) = (k : Int) + 1 := by omega
              have EK := Lib.hid ek; clear ek
              by_cases hk0 : (0 : Int) < (k : Int)
              · have hb0 : (0 : Int) < (b.toNat : Int) % 128 := by omega
                clear h0 hlow
                go_wp2_with fail
                go_ret2
                exact ⟨by rw [hds.out]; show _ = Ending.returned (.tuple #[.int .u64 (Y : Int), .int .i64 ((k + 1 : Nat) : Int)]); rw [EK.out]; rfl, rfl⟩
              · clear h0 hlow
                go_wp2_with fail
                go_ret2
                exact ⟨by rw [hds.out]; show _ = Ending.returned (.tuple #[.int .u64 (Y : Int), .int .i64 ((k + 1 : Nat) : Int)]); rw [EK.out]; rfl, rfl⟩
          · have hlow' : ¬ (b.toNat : Int) < 128 := by omega
            go_wp2_with fail
            go_round
            case rel => exact ⟨k + 1, Y, by omega, by omega, by go_num, rfl, HY, hYu, hi_succ hhi.out Hb.out hlow⟩
            case measure => simp [intOf]; omega
    · have hdn : Hid (dec bs = none) := dec_none_long hhi.out (by omega)
      by_cases hl1 : (k : Int) < (bs.length : Int)
      · have hl2 : ¬ (k : Int) < 10 := by omega
        clear hlt
        go_wp2_with fail
        go_ret2
        exact ⟨by rw [hdn.out]; rfl, rfl⟩
      · clear hlt
        go_wp2_with fail
        go_ret2
        exact ⟨by rw [hdn.out]; rfl, rfl⟩
end Go.Proofs.Ytmhjkghmpdnhaaa
