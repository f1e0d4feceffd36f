/- The matrix of the register's shifts; Join. -/
import Derived.Test.YthddhcodlmlaiaaSumB
import Derived.Deep.QuietTactic
import Derived.BigQuiet
import Derived.RegionTactic
namespace Go.Proofs.Ythddhcodlmlaiaa
open Go.RowKit

/-- The images of single bits under 'k' shifts. -/
structure Mat (k : Nat) (cs : Array Value) : Prop where
  size : cs.size = 32
  img : ∀ i, i < 32 → cs[i]? = some (.int .u32 (sh k (2 ^ i)))

theorem split_xor' (r j : Nat) : r = (r / 2 ^ j * 2 ^ j) ^^^ (r % 2 ^ j) := by
  apply Nat.eq_of_testBit_eq
  intro i
  rw [Nat.testBit_xor, Nat.testBit_mul_two_pow, Nat.testBit_mod_two_pow, Nat.testBit_div_two_pow]
  by_cases h8 : i < j
  · simp [h8, Nat.not_le.2 h8]
  · simp [h8, Nat.not_lt.1 h8]
theorem add_bit {r j : Nat} (h : r < 2 ^ j) : r + 2 ^ j = r ^^^ 2 ^ j := by
  have h1 := split_xor' (r + 2 ^ j) j
  have h2 : (r + 2 ^ j) / 2 ^ j = 1 := by rw [Nat.add_div_right _ (Nat.two_pow_pos j), Nat.div_eq_of_lt h]
  have h3 : (r + 2 ^ j) % 2 ^ j = r := by rw [Nat.add_mod_right, Nat.mod_eq_of_lt h]
  rw [h2, h3, Nat.one_mul, Nat.xor_comm] at h1
  exact h1
theorem div_int (x j : Nat) : (x : Int) / 2 ^ j = ((x / 2 ^ j : Nat) : Int) := by
  rw [Int.natCast_ediv, Int.natCast_pow]; rfl
theorem of_bits {v c x j : Nat} (hv : v < 4294967296) (hc : c < 4294967296) (hx : x < 4294967296) :
    bits BinOp.xor IntKind.u32 (v : Int) (bits BinOp.and IntKind.u32 (c : Int) (-bits BinOp.and IntKind.u32 ((x : Int) / 2 ^ j) 1 % 4294967296)) = ((if x / 2 ^ j % 2 = 1 then v ^^^ c else v : Nat) : Int) := by
  rw [div_int, and1_u32 (Nat.lt_of_le_of_lt (Nat.div_le_self _ _) hx)]
  rcases Nat.mod_two_eq_zero_or_one (x / 2 ^ j) with h1 | h1
  · rw [h1, if_neg (by decide)]
    show bits BinOp.xor IntKind.u32 _ (bits BinOp.and IntKind.u32 (c : Int) 0) = _
    rw [mask_none hc]
    have h2 := u32_xor_nat v 0 hv (by decide)
    rw [Nat.xor_zero] at h2
    exact h2
  · rw [h1, if_pos rfl]
    show bits BinOp.xor IntKind.u32 _ (bits BinOp.and IntKind.u32 (c : Int) 4294967295) = _
    rw [mask_all hc]
    exact xor_u32 hv hc
theorem of_step (k x j : Nat) : (if x / 2 ^ j % 2 = 1 then sh k (x % 2 ^ j) ^^^ sh k (2 ^ j) else sh k (x % 2 ^ j)) = sh k (x % 2 ^ (j + 1)) := by
  have hlt : x % 2 ^ j < 2 ^ j := Nat.mod_lt _ (Nat.two_pow_pos j)
  rw [Nat.mod_pow_succ]
  rcases Nat.mod_two_eq_zero_or_one (x / 2 ^ j) with h1 | h1
  · rw [h1, if_neg (by decide), Nat.mul_zero, Nat.add_zero]
  · rw [h1, if_pos rfl, Nat.mul_one, add_bit hlt, sh_xor]

theorem i64_and1 {q : Nat} (h : q < 4611686018427387904) : bits BinOp.and IntKind.i64 (q : Int) 1 = ((q % 2 : Nat) : Int) := by
  show IntKind.i64.wrap ((BitVec.ofInt 64 (q : Int) &&& BitVec.ofInt 64 ((1 : Nat) : Int)).toNat : Int) = _
  rw [BitVec.toNat_and, ofInt_u64 q (by omega), ofInt_u64 1 (by decide), nat_mask1]
  rcases Nat.mod_two_eq_zero_or_one q with h | h <;> rw [h] <;> decide
theorem shl_bit {j : Nat} (h1 : 1 ≤ j) (h : j < 32) : Value.int IntKind.u32 (2 ^ (j - 1) % 4294967296) = .int .u32 (sh 1 (2 ^ j)) := by
  obtain ⟨i, rfl⟩ : ∃ i, j = i + 1 := ⟨j - 1, by omega⟩
  have h2 := sh_mul 1 (2 ^ i)
  rw [Nat.pow_one, ← Nat.pow_succ] at h2
  rw [h2, Nat.add_sub_cancel]
  have h3 : 2 ^ i < 2 ^ 32 := Nat.pow_lt_pow_right (by decide) (by omega)
  have h4 : ((2 ^ i : Nat) : Int) = (2 : Int) ^ i := by rw [Int.natCast_pow]; rfl
  rw [h4]
  congr 1
  omega

theorem below_drewN' {B : Nat} {a w : World} (h : Below B a w) (n : Nat) : Below B a (w.drewN n) := ⟨h.os, h.tape, h.output, h.size, h.block⟩

set_option maxRecDepth 100000 in
set_option maxHeartbeats 2000000 in
theorem of_any (g k : Nat) (cs : Array Value) (x : Nat) (w : World) (hg : w.heap[g]? = some (.cells cs 59 (0, 0))) (hm : Mat k cs) (hx : x < 4294967296) :
    Calls Try.prog 42 #[.pointer (some ⟨g, 0, none⟩), .int .u32 x] w fun e w' => e = .returned (.int .u32 (sh k x)) ∧ ∃ q, w' = w.drewN q := by
  go_enter Try.func42, Try.ntmps42
  go_wp2_with fail
  go_loopw [5, 6, 7, 9] (fun y _ _ i wr => ∃ j v : Nat, j ≤ 32 ∧ i = .int .i64 j ∧ y = .int .u32 v ∧ v < 4294967296 ∧ Hid (v = sh k (x % 2 ^ j)) ∧ ∃ q, wr = w.drewN q) (fun _ _ _ i _ => 32 - (intOf i).toNat)
  case atStart => exact ⟨0, 0, by omega, rfl, rfl, by omega, by show _ = _; rw [Nat.pow_zero, Nat.mod_one, sh_zero], 0, rfl⟩
  case round =>
    obtain ⟨j, v, hj, rfl, rfl, hv, hs, q, rfl⟩ := hrel
    by_cases hlt : j < 32
    · have hji : (j : Int) < 32 := by omega
      have hj0 : ¬ (j : Int) < 0 := by omega
      have hc : w.cell? ⟨g, j, none⟩ = some (.int .u32 (sh k (2 ^ j))) := blk_cell hg j _ (hm.img j hlt)
      go_wp2_with fail
      go_quiet (fail)
      go_wp2_with fail
      go_roundw
      case rel =>
        have hc32 : sh k (2 ^ j) < 4294967296 := sh_lt k (Nat.pow_lt_pow_right (by decide) hlt)
        rw [of_bits hv hc32 hx]
        refine ⟨j + 1, _, by omega, by go_num, rfl, ?_, ?_, _, rfl⟩
        · split
          · exact xor32 hv hc32
          · exact hv
        · show _ = _
          rw [hs.out, of_step]
      case measure => simp [intOf]; omega
    · have hji : ¬ (j : Int) < 32 := by omega
      go_wp2_with fail
      go_ret
      have e : j = 32 := by omega
      have h := hs.out
      rw [e, Nat.mod_eq_of_lt (show x < 2 ^ 32 from hx)] at h
      exact ⟨ret_eq (by rw [← h]; rfl), q, rfl⟩

theorem infoM : (Try.prog.info? 59).map (fun i => (i.zero, i.size)) = some (some (.agg (Array.replicate 32 (.int .u32 0))), 32) := by kernel_rfl

/-- The square on its way. -/
structure Half (k j : Nat) (cs : Array Value) : Prop where
  size : cs.size = 32
  ints : ∀ i, i < 32 → ∃ z, cs[i]? = some (.int .u32 z)
  img : ∀ i, i < j → cs[i]? = some (.int .u32 (sh k (2 ^ i)))
theorem Half.zero (k : Nat) : Half k 0 (Array.replicate 32 (.int .u32 0)) := ⟨Array.size_replicate, fun i hi => ⟨0, by rw [Array.getElem?_replicate, if_pos hi]⟩, fun i hi => by omega⟩
theorem Half.succ {k j : Nat} {cs : Array Value} (h : Half k j cs) (hj : j < 32) {v : Value} (hv : v = .int .u32 (sh k (2 ^ j))) : Half k (j + 1) (cs.setIfInBounds j v) := by
  have hs := h.size
  subst hv
  refine ⟨by simp [hs], fun i hi => ?_, fun i hi => ?_⟩
  · rw [Array.getElem?_setIfInBounds]
    by_cases e : j = i
    · rw [if_pos e, if_pos (by omega)]; exact ⟨_, rfl⟩
    · rw [if_neg e]; exact h.ints i hi
  · rw [Array.getElem?_setIfInBounds]
    by_cases e : j = i
    · rw [if_pos e, if_pos (by omega), e]
    · rw [if_neg e]; exact h.img i (by omega)
theorem Half.mat {k : Nat} {cs : Array Value} (h : Half k 32 cs) : Mat k cs := ⟨h.size, h.img⟩

set_option maxRecDepth 100000 in
set_option maxHeartbeats 2000000 in
theorem square_any (g k : Nat) (cs : Array Value) (w : World) (hg : w.heap[g]? = some (.cells cs 59 (0, 0))) (hm : Mat k cs) :
    Calls Try.prog 43 #[.pointer (some ⟨g, 0, none⟩)] w fun e w' => ∃ cs', e = .returned (.pointer (some ⟨w.heap.size, 0, none⟩)) ∧ w'.heap[w.heap.size]? = some (.cells cs' 59 (0, 0)) ∧ Mat (k + k) cs' ∧ Below w.heap.size w w' := by
  obtain ⟨hz, hi⟩ := zero_of_info infoM
  have hgl := blk_lt hg
  go_enter Try.func43, Try.ntmps43
  go_wp2_with fail
  have hb0 : Below w.heap.size w (w.alloc (.cells (Array.replicate 32 (.int .u32 0)) 59)) := (Below.refl _ _).alloc (Nat.le_refl _) _
  have g0 := heap_alloc_new w (.cells (Array.replicate 32 (.int .u32 0)) 59)
  generalize (w.alloc (.cells (Array.replicate 32 (.int .u32 0)) 59)) = w1 at *
  go_loopw [4, 5, 7] (fun _ _ i wr => ∃ (j : Nat) (cs' : Array Value), j ≤ 32 ∧ i = .int .i64 j ∧ Below w.heap.size w wr ∧ wr.heap[w.heap.size]? = some (.cells cs' 59 (0, 0)) ∧ Half (k + k) j cs') (fun _ _ i _ => 32 - (intOf i).toNat)
  case atStart => exact ⟨0, _, by omega, rfl, hb0, g0, Half.zero _⟩
  case round =>
    obtain ⟨j, cs', hj, rfl, hb, hg', hh⟩ := hrel
    by_cases hlt : j < 32
    · have hji : (j : Int) < 32 := by omega
      have hj0 : ¬ (j : Int) < 0 := by omega
      have hgw : wr.heap[g]? = some (.cells cs 59 (0, 0)) := (hb.block g hgl).trans hg
      have hc : wr.cell? ⟨g, j, none⟩ = some (.int .u32 (sh k (2 ^ j))) := blk_cell hgw j _ (hm.img j hlt)
      obtain ⟨z, hz2⟩ := hh.ints j hlt
      have hc2 := blk_cell hg' j _ hz2
      have hf2 := blk_frozen hg' j
      have hc32 : sh k (2 ^ j) < 4294967296 := sh_lt k (Nat.pow_lt_pow_right (by decide) hlt)
      go_wp2_with fail
      go_quiet (fail)
      have ho := of_any g k cs (sh k (2 ^ j)) (wr.drewN nq) hgw hm hc32
      rw [← sh_add] at ho
      go_wp2_with fail
      refine ho.mono ?_
      rintro e _ ⟨rfl, q, rfl⟩
      clear ho
      go_wp2_with fail
      go_roundw
      case rel => exact ⟨j + 1, _, by omega, by go_num, ((below_drewN' hb (nq + q)).setCell (p := ⟨w.heap.size, j, none⟩) (Nat.le_refl _) _), heap_setCell_same _ _ _ _ _ _ hg', hh.succ hlt rfl⟩
      case measure => simp [intOf]; omega
    · have hji : ¬ (j : Int) < 32 := by omega
      have e : j = 32 := by omega
      subst e
      go_wp2_with fail
      go_ret
      exact ⟨rfl, cs', hg', hh.mat, hb⟩

/-- Join's loop. -/
def JoinRel (w : World) (a n : Nat) (v m k : Value) (wr : World) : Prop :=
  ∃ (i q x g : Nat) (cs : Array Value), q ≤ 8000000 ∧ k = .int .i64 q ∧ v = .int .u32 x ∧ m = .pointer (some ⟨g, 0, none⟩) ∧ x < 4294967296 ∧ Hid (q = 8 * n / 2 ^ i) ∧ Hid (x = sh (8 * n % 2 ^ i) a) ∧ wr.heap[g]? = some (.cells cs 59 (0, 0)) ∧ Mat (2 ^ i) cs ∧ Below w.heap.size w wr

set_option maxRecDepth 100000 in
set_option maxHeartbeats 4000000 in
theorem join_any (a b n : Nat) (w : World) (ha : a < 4294967296) (hbb : b < 4294967296) (hn : n ≤ 1000000) :
    Calls Try.prog 20 #[.int .u32 a, .int .u32 b, .int .i64 n] w fun e w' => e = .returned (.int .u32 (sh (8 * n) a ^^^ b : Nat)) ∧ Below w.heap.size w w' := by
  obtain ⟨hz, hi⟩ := zero_of_info infoM
  go_enter Try.func20, Try.ntmps20
  go_wp2_with fail
  have hb0 : Below w.heap.size w (w.alloc (.cells ((Array.replicate 32 (.int .u32 0)).setIfInBounds 0 (.int .u32 2197175160)) 59)) := (Below.refl _ _).alloc (Nat.le_refl _) _
  have g0 := heap_alloc_new w (.cells ((Array.replicate 32 (.int .u32 0)).setIfInBounds 0 (.int .u32 2197175160)) 59)
  have hh0 : Half 1 1 ((Array.replicate 32 (.int .u32 0)).setIfInBounds 0 (.int .u32 2197175160)) := (Half.zero 1).succ (by decide) rfl
  generalize (w.alloc (.cells ((Array.replicate 32 (.int .u32 0)).setIfInBounds 0 (.int .u32 2197175160)) 59)) = w1 at *
  generalize ((Array.replicate 32 (Value.int .u32 0)).setIfInBounds 0 (.int .u32 2197175160)) = cs0 at *
  go_loopw [8] (fun i wr => ∃ (j : Nat) (cs' : Array Value), 1 ≤ j ∧ j ≤ 32 ∧ i = .int .i64 j ∧ Below w.heap.size w wr ∧ wr.heap[w.heap.size]? = some (.cells cs' 59 (0, 0)) ∧ Half 1 j cs') (fun i _ => 32 - (intOf i).toNat)
  case atStart => exact ⟨1, cs0, by omega, by omega, rfl, hb0, g0, hh0⟩
  case round =>
    obtain ⟨j, cs', hj1, hj, rfl, hb, hg', hh⟩ := hrel
    by_cases hlt : j < 32
    · have hji : (j : Int) < 32 := by omega
      have hj0 : ¬ (j : Int) < 0 := by omega
      have hj10 : ¬ (j : Int) - 1 < 0 := by omega
      obtain ⟨z, hz2⟩ := hh.ints j hlt
      have hc2 := blk_cell hg' j _ hz2
      have hf2 := blk_frozen hg' j
      go_wp2_with fail
      go_region
      go_wp2_with fail
      refine ⟨⟨j + 1, _, by omega, by omega, by go_num, (hb.setCell (p := ⟨w.heap.size, j, none⟩) (Nat.le_refl _) _).drew, heap_setCell_same _ _ _ _ _ _ hg', hh.succ hlt ?_⟩, by simp [intOf]; omega⟩
      rw [shl_bit hj1 hlt]
    · have hji : ¬ (j : Int) < 32 := by omega
      have e : j = 32 := by omega
      subst e
      have hq0 : ((8 * n : Nat) : Int) = 8 * (n : Int) := by omega
      clear hlt hji hj hj1
      go_wp2_with fail
      go_loopw [0, 7, 9] (fun v m k wr => JoinRel w a n v m k wr) (fun _ _ k _ => (intOf k).toNat)
      case atStart =>
        exact ⟨0, 8 * n, a, w.heap.size, cs', by omega, by rw [hq0], rfl, rfl, ha, by show _ = _; rw [Nat.pow_zero, Nat.div_one], by show _ = _; rw [Nat.pow_zero, Nat.mod_one]; rfl, hg', hh.mat, hb⟩
      case round =>
        obtain ⟨i, q, x, g, cs, hq, rfl, rfl, rfl, hx, hqe, hxe, hgr, hmr, hbr⟩ := hrel
        clear hh hg' hb hh0 g0 hb0 hq0
        by_cases h0 : 0 < q
        · have h0i : (0 : Int) < (q : Int) := by omega
          have h1 := i64_and1 (q := q) (by omega)
          have hsq := fun w' hgw => square_any g (2 ^ i) cs w' hgw hmr
          have hdiv : Hid (q / 2 = 8 * n / 2 ^ (i + 1)) := by show _ = _; rw [hqe.out, Nat.div_div_eq_div_mul, Nat.pow_succ]
          have hpow : 2 ^ i + 2 ^ i = 2 ^ (i + 1) := by rw [Nat.pow_succ]; omega
          have hmod := Nat.mod_pow_succ (b := 2) (x := 8 * n) (k := i)
          rw [← hqe.out] at hmod
          rw [hpow] at hsq
          have HM := Lib.hid hmod; clear hmod hpow
          rcases Nat.mod_two_eq_zero_or_one q with h2 | h2
          · rw [h2] at h1
            have hnx : Hid (x = sh (8 * n % 2 ^ (i + 1)) a) := by show _ = _; rw [HM.out, h2, Nat.mul_zero, Nat.add_zero]; exact hxe.out
            clear HM h2
            go_wp2_with fail
            refine (hsq _ hgr).mono ?_
            rintro e w2 ⟨cs2, rfl, hg2, hm2, hb2⟩
            go_wp2_with fail
            go_roundw
            case rel =>
              refine ⟨_, _, _, _, _, _, _, _, _, _, _, _, _, _, _, ?_, rfl⟩
              exact ⟨i + 1, q / 2, x, _, cs2, by omega, by go_num, rfl, rfl, hx, hdiv, hnx, hg2, hm2, hbr.trans (hb2.mono hbr.size)⟩
            case measure => simp [intOf]; omega
          · rw [h2] at h1
            have hnx : Hid (sh (2 ^ i) x = sh (8 * n % 2 ^ (i + 1)) a) := by show _ = _; rw [HM.out, h2, Nat.mul_one, hxe.out, ← sh_add]
            clear HM h2
            have ho := of_any g (2 ^ i) cs x _ hgr hmr hx
            have hxl := sh_lt (2 ^ i) hx
            go_wp2_with fail
            refine ho.mono ?_
            rintro e _ ⟨rfl, q1, rfl⟩
            have hsq2 := hsq (wr.drewN q1) hgr
            go_wp2_with fail
            refine hsq2.mono ?_
            rintro e w2 ⟨cs2, rfl, hg2, hm2, hb2⟩
            go_wp2_with fail
            go_roundw
            case rel =>
              refine ⟨_, _, _, _, _, _, _, _, _, _, _, _, _, _, _, ?_, rfl⟩
              exact ⟨i + 1, q / 2, _, _, cs2, by omega, by go_num, rfl, rfl, hxl, hdiv, hnx, hg2, hm2, (below_drewN' hbr q1).trans (hb2.mono hbr.size)⟩
            case measure => simp [intOf]; omega
        · have h0i : ¬ (0 : Int) < (q : Int) := by omega
          have hxb := xor_u32 hx hbb
          go_wp2_with fail
          go_ret
          refine ⟨ret_eq ?_, hbr⟩
          have hqz : 8 * n / 2 ^ i = 0 := by have := hqe.out; omega
          have hlt2 : 8 * n < 2 ^ i := (Nat.div_eq_zero_iff_lt (Nat.two_pow_pos i)).1 hqz
          have h := hxe.out
          rw [Nat.mod_eq_of_lt hlt2] at h
          rw [← h]; rfl
end Go.Proofs.Ythddhcodlmlaiaa
