/- slices.Grow from nil, slices.Concat. -/
import Derived.Test.YthddhcodlmlaiaaProg
import Derived.Test.YthddhcodlmlaiaaBase
import Derived.LoopTactic
import Derived.IntWalk
import Derived.Outline
import Derived.Lib.AppendZeros
namespace Go.Proofs.Ythddhcodlmlaiaa
open Go.RowKit

theorem infoE28 : (Try.prog.info? 5).map (fun i => (i.zero, i.size, i.bytes)) = some (some (.int .u8 0), 1, 1) := by kernel_rfl

set_option maxRecDepth 100000 in
set_option maxHeartbeats 1000000 in
theorem grow50 (n : Nat) (w : World) (hn : n ≤ 4000000) :
    Calls Try.prog 50 #[.slice none 0 0, .int .i64 n] w fun e w' => ∃ v, e = .returned v ∧ w'.ownsRow w.heap.size 5 1 v 0 [] ∧ Below w.heap.size w w' := by
  obtain ⟨i0, hi, hz0, hz1, hz2⟩ := info_parts infoE28
  by_cases h0 : n = 0
  · subst h0
    go_enter Try.func50, Try.ntmps50
    go_wp2_with fail
    go_ret
    exact ⟨_, rfl, World.ownsRow_nil _ _ _ _, Below.refl _ _⟩
  · have h1 : (0 : Int) < (n : Int) := by omega
    have hge := grownCap_ge w n 0 5
    have hle := grownCap_le_maxLen w n 0 5 (by unfold maxLen; omega)
    have hr := fun ty => Lib.run_append_nil_zeros (P := Try.prog) w 28 3 ty 5 i0 _ .i64 .i64 Try.underlying28 Try.underlying3 hi hz0 n (by omega) (by omega) (by omega) (by rw [hz2]; omega)
    obtain ⟨G, hG⟩ : ∃ G, grownCap w n 0 5 = G := ⟨_, rfl⟩
    rw [hG] at hr hge hle
    clear hG
    have hG63 : G ≤ 9223372036854775807 := by unfold maxLen at hle; omega
    have hmade := World.ownsRow_made (e := 5) (size := 1) (base := w.heap.size) w.drew (Builtin.zeroCells (Value.int IntKind.u8 0).cells n ++ Builtin.zeroCells (Value.int IntKind.u8 0).cells (G - n)) G (Nat.le_refl _) hle (by simp [size_zeroCells, Value.cells]; omega)
    have hb : Below w.heap.size w (w.drew.alloc (.cells (Builtin.zeroCells (Value.int IntKind.u8 0).cells n ++ Builtin.zeroCells (Value.int IntKind.u8 0).cells (G - n)) 5)) := ((Below.refl _ _).drew).alloc (Nat.le_refl _) _
    generalize (w.drew.alloc (.cells (Builtin.zeroCells (Value.int IntKind.u8 0).cells n ++ Builtin.zeroCells (Value.int IntKind.u8 0).cells (G - n)) 5)) = w1 at *
    have hgn : (n : Int) ≤ (G : Int) := by omega
    go_enter Try.func50, Try.ntmps50
    go_wp2_with (at_builtin; refine Lib.wpList_append_run _ rfl (.tmp 20) (.tmp 21) 28 3 rfl _ _ rfl rfl _ _ (hr _) ?_)
    go_ret
    exact ⟨_, rfl, hmade, hb⟩

set_option maxRecDepth 100000 in
set_option maxHeartbeats 2000000 in
theorem concat36 (A : Option Addr) (c : Nat) (L : List (List Value)) (w : World) (B : Nat) (hr : Rds w B A L) (hB : B ≤ w.heap.size) (hL : L.length ≤ 1000000000) (hn : L.flatten.length ≤ 4000000) (h1 : ∀ u ∈ L.flatten, u.oneCell' = true) :
    Calls Try.prog 36 #[.slice A L.length c] w fun e w' => ∃ v, e = .returned v ∧ w'.ownsRow w.heap.size 5 1 v L.flatten.length L.flatten ∧ Below w.heap.size w w' := by
  obtain ⟨i0, hi, hz0, hz1, hz2⟩ := info_parts infoE28
  go_enter Try.func36, Try.ntmps36
  go_wp2_with fail
  go_loop [3, 11] (fun sz i => ∃ k m : Nat, k ≤ L.length ∧ i = .int .i64 k ∧ sz = .int .i64 m ∧ Hid (m = (L.take k).flatten.length)) (fun _ i => L.length - (intOf i).toNat)
  case atStart => exact ⟨0, 0, Nat.zero_le _, rfl, rfl, rfl⟩
  case round =>
    obtain ⟨k, m, hk, rfl, rfl, hm⟩ := hrel
    by_cases hlt : k < L.length
    · obtain ⟨ad, l, A', c', rfl, hl, hc, hrl⟩ := hr.at hlt
      have hf1 := flat_le L (k + 1)
      rw [flat_succ hl, List.length_append] at hf1
      have hml : m + l.length ≤ 4000000 := by have := hm.out; omega
      clear hf1
      go_wp2_with fail
      go_round
      case rel => exact ⟨k + 1, m + l.length, by omega, by go_num, by go_num, by show _ = _; rw [flat_succ hl, List.length_append, hm.out]⟩
      case measure => simp [intOf]; omega
    · have hmm : m ≤ 4000000 := by have := hm.out; have := flat_le L k; omega
      clear hm
      go_wp2_with fail
      refine (grow50 m w hmm).mono ?_
      rintro e w1 ⟨v, rfl, hown, hb⟩
      go_wp2_with fail
      go_loopw [6, 27] (fun v i wr => ∃ k : Nat, k ≤ L.length ∧ i = .int .i64 k ∧ wr.ownsRow w.heap.size 5 1 v (L.take k).flatten.length (L.take k).flatten ∧ Below w.heap.size w wr) (fun _ i _ => L.length - (intOf i).toNat)
      case atStart => exact ⟨0, Nat.zero_le _, rfl, hown, hb⟩
      case round =>
        obtain ⟨k, hk, rfl, hown, hb⟩ := hrel
        by_cases hlt : k < L.length
        · obtain ⟨ad, l, A', c', rfl, hl, hc, hrl⟩ := (hr.below (hb.mono hB)).at hlt
          have hf1 := flat_le L (k + 1)
          rw [flat_succ hl, List.length_append] at hf1
          have h1l : ∀ u ∈ l, u.oneCell' = true := fun u hu => h1 u (List.mem_flatten.2 ⟨l, List.mem_of_getElem? hl, hu⟩)
          have H1 := Lib.hid h1l; clear h1l
          go_wp2_with (at_builtin; refine wpList_app _ rfl (.tmp 31) (.tmp 32) 28 rfl w.heap.size 5 i0 _ 1 Try.underlying28 hi hz0 hz1 hz2 rfl u6 _ _ rfl hown B _ _ _ _ rfl hrl H1.out (by unfold maxLen; omega) (by omega) hb.size ?_; intro v' w2 hown2 hg2 hat2)
          go_roundw
          case rel => exact ⟨k + 1, by omega, by go_num, by rw [flat_succ hl, List.length_append]; exact hown2, hb.grown hg2 hb.size fun k hk => (hown.lt k hk).1⟩
          case measure => simp [intOf]; omega
        · go_wp2_with fail
          go_ret
          refine ⟨_, rfl, ?_, hb⟩
          have e : L.take k = L := List.take_of_length_le (by omega)
          rw [e] at hown
          exact hown
end Go.Proofs.Ythddhcodlmlaiaa
