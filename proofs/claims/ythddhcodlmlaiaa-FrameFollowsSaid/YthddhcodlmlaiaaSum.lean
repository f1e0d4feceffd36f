/- The checksum's functions, each by a contract. -/
import Derived.Test.YthddhcodlmlaiaaProg
import Derived.Test.YthddhcodlmlaiaaBase
import Derived.Test.YthddhcodlmlaiaaCrc
import Derived.Test.YthddhcodlmlaiaaBits
import Derived.Deep.WholeRow
import Derived.LoopTactic
import Derived.IntWalk
import Derived.Outline
import Derived.Laws.BitsAllLaws
namespace Go.Proofs.Ythddhcodlmlaiaa
open Go.RowKit

set_option maxRecDepth 100000 in
set_option maxHeartbeats 1000000 in
theorem shift_any (x : Nat) (w : World) (hx : x < 4294967296) :
    Calls Try.prog 52 #[.int .u32 x] w fun e w' => e = .returned (.int .u32 (sh 8 x)) ∧ w' = w := by
  go_enter Try.func52, Try.ntmps52
  go_wp2_with fail
  go_loop [0, 3] (fun r i => ∃ k y : Nat, k ≤ 8 ∧ i = .int .i64 k ∧ y < 4294967296 ∧ r = .int .u32 y ∧ Hid (sh (8 - k) y = sh 8 x)) (fun _ i => 8 - (intOf i).toNat)
  case atStart => exact ⟨0, x, by omega, rfl, hx, rfl, rfl⟩
  case round =>
    obtain ⟨k, y, hk, rfl, hy, rfl, hs⟩ := hrel
    by_cases hlt : k < 8
    · have hki : (k : Int) < 8 := by omega
      go_wp2_with fail
      go_round
      case rel =>
        refine ⟨k + 1, sh1 y, by omega, by go_num, sh1_lt hy, ?_, ?_⟩
        · exact congrArg (Value.int IntKind.u32) (shift_bits hy)
        · show _ = _
          rw [← hs.out, show 8 - k = 8 - (k + 1) + 1 from by omega]; rfl
      case measure => simp [intOf]; omega
    · have hki : ¬ (k : Int) < 8 := by omega
      go_wp2_with fail
      go_ret
      have e : 8 - k = 0 := by omega
      have h := hs.out
      rw [e] at h
      exact ⟨ret_eq (by rw [← h]; rfl), rfl⟩

theorem below_setRow {B g : Nat} {a w : World} {cs : Array Value} (h : Below B a w) (hg : B ≤ g) : Below B a (w.setRow g cs) :=
  ⟨h.os, h.tape, h.output, by simpa using h.size, fun k hk => (setRow_other w g k cs (by omega)).trans (h.block k hk)⟩

theorem run_storeCells_row {P : Program} (w : World) (g : Nat) (t : TypeId) (c c' : Array Value) (hg : w.heap[g]? = some (.cells c t (0, 0))) (hi : (P.info? t).map (·.size) = some c'.size) (ho : c.size = c'.size) (h1 : c'.all (·.oneCell') = true) :
    (storeCells ⟨g, 0, none⟩ c'.toList 0).run P w = .ok () (w.setRow g c') := by
  have := run_storeVar_row (P := P) w g t t c c' hg hi ho h1
  cases hq : P.info? t with
  | none => simp [hq] at hi
  | some i =>
    have hs : c'.size = i.size := by simp [hq] at hi; omega
    simpa [storeVar, sizeOf, typeInfo, hq, Value.cells, hs] using this

theorem infoT : (Try.prog.info? 54).map (fun i => (i.zero, i.size)) = some (some (.agg (Array.replicate 256 (.int .u32 0))), 256) := by kernel_rfl

set_option maxRecDepth 100000 in
set_option maxHeartbeats 1000000 in
theorem table_any (w : World) :
    Calls Try.prog 40 #[] w fun e w' => ∃ cs, e = .returned (.agg cs) ∧ Tab 256 cs ∧ Below w.heap.size w w' := by
  obtain ⟨hz, hi⟩ := zero_of_info infoT
  go_enter Try.func40, Try.ntmps40
  go_wp2_with fail
  have hb0 : Below w.heap.size w ((w.alloc (.cells (Array.replicate 256 (.int .u32 0)) 54)).alloc (.cells (Array.replicate 256 (.int .u32 0)) 54)) := ((Below.refl _ _).alloc (Nat.le_refl _) _).alloc (by simp) _
  have g0 := heap_alloc2_old w (.cells (Array.replicate 256 (.int .u32 0)) 54) (.cells (Array.replicate 256 (.int .u32 0)) 54)
  have g1 := heap_alloc2_new w (.cells (Array.replicate 256 (.int .u32 0)) 54) (.cells (Array.replicate 256 (.int .u32 0)) 54)
  generalize ((w.alloc (.cells (Array.replicate 256 (.int .u32 0)) 54)).alloc (.cells (Array.replicate 256 (.int .u32 0)) 54)) = w1 at *
  go_loopw [3, 4] (fun _ i wr => ∃ (k : Nat) (cs : Array Value), k ≤ 256 ∧ i = .int .i64 k ∧ Below w.heap.size w wr ∧ wr.heap[w.heap.size]? = some (.cells (Array.replicate 256 (.int .u32 0)) 54 (0, 0)) ∧ wr.heap[w.heap.size + 1]? = some (.cells cs 54 (0, 0)) ∧ Tab k cs) (fun _ i _ => 256 - (intOf i).toNat)
  case atStart => exact ⟨0, _, by omega, rfl, hb0, g0, g1, Tab.zero⟩
  case round =>
    obtain ⟨k, cs, hk, rfl, hb, hg0, hg1, ht⟩ := hrel
    by_cases hlt : k < 256
    · have hki : (k : Int) < 256 := by omega
      obtain ⟨z, hz⟩ := ht.ints k hlt
      have hc := blk_cell hg1 k _ hz
      have hf := blk_frozen hg1 k
      go_wp2_with fail
      refine (shift_any k _ (by omega)).mono ?_
      rintro e _ ⟨rfl, rfl⟩
      go_wp2_with fail
      go_roundw
      case rel => exact ⟨k + 1, _, by omega, by go_num, hb.setCell (by simp) _, (heap_setCell_other _ _ _ _ (by simp)).trans hg0, heap_setCell_same _ _ _ _ _ _ hg1, ht.succ hlt⟩
      case measure => simp [intOf]; omega
    · have hki : ¬ (k : Int) < 256 := by omega
      have hk2 : k = 256 := by omega
      subst hk2
      have hi1 : (Try.prog.info? 54).map (·.size) = some cs.size := by rw [ht.size]; exact hi
      have hsz := ht.size
      have hsc := run_storeCells_row (P := Try.prog) wr w.heap.size 54 _ cs hg0 hi1 (by simp [hsz]) ht.one
      go_wp2_with fail
      refine wp_load_row 54 (.tmp 1) rfl _ rfl _ cs _ _ hg1 Try.underlying54 rfl hi1 ?_
      go_wp2_with fail
      have hg2 := setRow_heap wr w.heap.size (Array.replicate 256 (.int .u32 0)) cs 54 (0, 0) hg0
      refine bodyPost_ret (v := .agg cs) (results_cell_row (p := 0) (ty := 54) rfl _ _ w.heap.size _ cs _ _ rfl hg2 Try.underlying54 rfl hi1) rfl ⟨_, rfl, ht, below_setRow hb (Nat.le_refl _)⟩

set_option maxRecDepth 100000 in
set_option maxHeartbeats 1000000 in
/-- sum.More. -/
theorem more_any (x : Nat) (A : Option Addr) (n c : Nat) (bs : List UInt8) (w : World) (B : Nat) (hr : Rd w B A n (bvs bs)) (hB : B ≤ w.heap.size) (hx : x < 4294967296) (hn : n ≤ 9223372036854775807) :
    Calls Try.prog 18 #[.int .u32 x, .slice A n c] w fun e w' => e = .returned (.int .u32 (moreC x bs)) ∧ Below w.heap.size w w' := by
  obtain ⟨hz, hi⟩ := zero_of_info infoT
  have hl := hr.len
  simp only [bvs_length] at hl
  have HL := Lib.hid hl; clear hl
  go_enter Try.func18, Try.ntmps18
  go_wp2_with fail
  refine (table_any _).mono ?_
  rintro e w1 ⟨cs, rfl, ht, hb⟩
  have hi1 : (Try.prog.info? 54).map (·.size) = some cs.size := by rw [ht.size]; exact hi
  have hb1 : Below w.heap.size w (w1.alloc (.cells (Array.replicate 256 (.int .u32 0)) 54)) := hb.alloc hb.size _
  have hsz := ht.size
  have hsc := run_storeCells_new (P := Try.prog) w1 54 (Array.replicate 256 (.int .u32 0)) cs hi1 (by simp [hsz]) ht.one
  have hb1 : Below w.heap.size w (w1.alloc (.cells cs 54)) := hb.alloc hb.size _
  have g2 := heap_alloc_new w1 (.cells cs 54)
  have hnx := not_u32 hx
  have hr2 := (hr.more hB).below hb1
  go_wp2_with fail
  clear hsc
  generalize (w1.alloc (.cells cs 54)) = w2 at *
  go_loop [6, 8, 14] (fun r _ i => ∃ k y : Nat, k ≤ n ∧ i = .int .i64 k ∧ y < 4294967296 ∧ r = .int .u32 y ∧ Hid (y = crc (not32 x) (bs.take k))) (fun _ _ i => n - (intOf i).toNat)
  case atStart => 
    exact ⟨0, not32 x, by omega, rfl, not32_lt hx, rfl, rfl⟩
  case round =>
    obtain ⟨k, y, hk, rfl, hy, rfl, hs⟩ := hrel
    by_cases hlt : k < n
    · have hki : (k : Int) < (n : Int) := by omega
      obtain ⟨ad, u, rfl, hB, hu, hcu⟩ := hr2.at hlt
      obtain ⟨b, hb8, rfl⟩ := bvs_get hu
      have hcb : w2.cell? (ad.add k) = some (.int .u8 b.toNat) := hcu
      clear hcu
      have hbl := b.toNat_lt
      have hxl : y % 256 ^^^ b.toNat < 256 := Nat.xor_lt_two_pow (n := 8) (by omega) hbl
      have hb1 := byte_xor (y := y) hbl
      have hb2 := step_u32 hy hbl
      have hct := blk_cell g2 _ _ (ht.done (y % 256 ^^^ b.toNat) hxl)
      go_wp2_with fail
      go_round
      case rel => exact ⟨k + 1, _, by omega, by go_num, feed_lt hy hbl, rfl, by show _ = _; rw [crc_take hb8, hs.out]⟩
      case measure => simp [intOf]; omega
    · have hki : ¬ (k : Int) < (n : Int) := by omega
      have hny := not_u32 hy
      go_wp2_with fail
      go_ret
      have e := hs.out
      rw [List.take_of_length_le (by have := HL.out; omega)] at e
      refine ⟨?_, hb1⟩
      rw [e]; rfl
end Go.Proofs.Ythddhcodlmlaiaa
