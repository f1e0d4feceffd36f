/- The reference's Few, Make and Join of frames. -/
import Derived.Test.YthddhcodlmlaiaaFLaw
namespace Go.Proofs.Ythddhcodlmlaiaa
open Go.RowKit

/-- The frames of some records. -/
def joinC (L : List (List UInt8)) : List UInt8 := (L.map frameC).flatten
theorem joinC_len (L : List (List UInt8)) : (joinC L).length = L.flatten.length + 8 * L.length := by
  induction L with
  | nil => rfl
  | cons l L ih =>
    have e : joinC (l :: L) = frameC l ++ joinC L := rfl
    rw [e, List.length_append, frameC_len, ih]
    simp; omega
theorem joinC_succ {L : List (List UInt8)} {k : Nat} {l : List UInt8} (h : L[k]? = some l) : joinC (L.take (k + 1)) = joinC (L.take k) ++ frameC l := by
  have hm : (L.map frameC)[k]? = some (frameC l) := by rw [List.getElem?_map, h]; rfl
  unfold joinC
  rw [List.map_take, List.map_take, flat_succ hm]
theorem len_le_flat {L : List (List UInt8)} {k : Nat} {l : List UInt8} (h : L[k]? = some l) : l.length ≤ L.flatten.length := by
  have h1 := flat_le L (k + 1)
  rw [flat_succ h, List.length_append] at h1
  omega

set_option maxRecDepth 100000 in
set_option maxHeartbeats 2000000 in
theorem few6_any (A : Option Addr) (n c : Nat) (L : List (List UInt8)) (w : World) (B : Nat) (hr : Rds w B A (L.map bvs)) (hn : L.length = n) (hm : n ≤ maxLen) :
    Calls Try.prog 34 #[.slice A n c] w fun e w' => Few n L w e w' := by
  have HN := Lib.hid hn; clear hn
  unfold maxLen at hm
  go_enter Try.func34, Try.ntmps34
  go_wp2_with fail
  go_loop [3, 4] (fun s i => ∃ (k : Nat) (m : Int), k ≤ n ∧ i = .int .i64 k ∧ s = .int .i64 m ∧ Hid (k ≤ 60 → ∃ q : Nat, m = q ∧ q ≤ 2000 * k ∧ (q ≤ 1500 → q = (L.take k).flatten.length))) (fun _ i => n - (intOf i).toNat)
  case atStart => exact ⟨0, 0, Nat.zero_le _, rfl, rfl, fun _ => ⟨0, rfl, by omega, fun _ => rfl⟩⟩
  case round =>
    obtain ⟨k, m, hk, rfl, rfl, hs⟩ := hrel
    by_cases hlt : k < n
    · have hki : (k : Int) < (n : Int) := by omega
      obtain ⟨ad, l, A', c', rfl, hl, hc, hrl⟩ := hr.at (k := k) (by have := HN.out; rw [List.length_map]; omega)
      rw [List.getElem?_map, Option.map_eq_some_iff] at hl
      obtain ⟨l, hl, rfl⟩ := hl
      simp only [bvs_length] at hc hrl
      by_cases hk60 : k < 60
      · obtain ⟨m, rfl, hmk, hs⟩ := hs.out (by omega)
        by_cases hbig : l.length ≤ 2000
        · have hnext : m + l.length ≤ 1500 → m + l.length = (L.take (k + 1)).flatten.length := fun h => by rw [flat_succ hl, List.length_append, ← hs (by omega)]
          have HX := Lib.hid hnext; clear hnext
          clear hs hrl hl
          obtain ⟨q, hq⟩ : ∃ q, l.length = q := ⟨_, rfl⟩
          rw [hq] at hc hbig HX
          clear hq
          have hmin : min (q : Int) 2000 = (q : Int) := by omega
          go_wp2_with fail
          go_round
          case rel => exact ⟨k + 1, ((m + q : Nat) : Int), by omega, by go_num, by go_num, fun _ => ⟨m + q, rfl, by omega, HX.out⟩⟩
          case measure => simp [intOf]; omega
        · have hmin : min (l.length : Int) 2000 = 2000 := by omega
          clear hs hrl hl
          go_wp2_with fail
          go_round
          case rel => exact ⟨k + 1, ((m + 2000 : Nat) : Int), by omega, by go_num, by go_num, fun _ => ⟨m + 2000, rfl, by omega, fun h => by omega⟩⟩
          case measure => simp [intOf]; omega
      · clear hs hrl hl
        go_wp2_with fail
        go_round
        case rel => exact ⟨k + 1, _, by omega, by go_num, rfl, fun h => by omega⟩
        case measure => simp [intOf]; omega
    · have hki : ¬ (k : Int) < (n : Int) := by omega
      have e : L.take k = L := List.take_of_length_le (by have := HN.out; omega)
      rw [e] at hs
      by_cases h60 : n ≤ 60
      · have h60i : (n : Int) ≤ 60 := by omega
        obtain ⟨m, rfl, hmk, hs⟩ := hs.out (by omega)
        have HS := Lib.hid hs; clear hs
        by_cases h15 : m ≤ 1500
        · have h15i : (m : Int) ≤ 1500 := by omega
          go_wp2_with fail
          go_ret
          exact ⟨true, rfl, rfl, fun _ => ⟨h60, by have := HS.out h15; omega⟩⟩
        · have h15i : ¬ (m : Int) ≤ 1500 := by omega
          go_wp2_with fail
          go_ret
          exact ⟨false, rfl, rfl, by simp⟩
      · have h60i : ¬ (n : Int) ≤ 60 := by omega
        go_wp2_with fail
        go_ret
        exact ⟨false, rfl, rfl, by simp⟩

set_option maxRecDepth 100000 in
set_option maxHeartbeats 2000000 in
theorem refmake_any (A : Option Addr) (n c : Nat) (bs : List UInt8) (w : World) (B : Nat) (hr : Rd w B A n (bvs bs)) (hB : B ≤ w.heap.size) (hn : n ≤ 1048576) :
    Calls Try.prog 49 #[.slice A n c] w fun e w' => ∃ v, e = .returned (.tuple #[v, .bool true]) ∧ w'.ownsRow w.heap.size 5 1 v (n + 8) (bvs (frameC bs)) ∧ Below w.heap.size w w' := by
  obtain ⟨i0, hi, hz0, hz1, hz2⟩ := info_parts infoE28
  have hl : bs.length = n := by simpa using hr.len
  have HL := Lib.hid hl; clear hl
  have hni : ¬ (n : Int) > 1048576 := by omega
  have hli := little_any n w (by omega)
  go_enter Try.func49, Try.ntmps49
  go_wp2_with fail
  refine hli.mono ?_
  rintro e w1 ⟨v1, rfl, hown1, hb1⟩
  have hr1 := hr.below (hb1.mono hB)
  clear hli
  go_wp2_with (at_builtin; refine wpList_app _ rfl (.tmp 10) (.tmp 11) 28 rfl w.heap.size 5 i0 _ 1 Try.underlying28 hi hz0 hz1 hz2 rfl _ _ _ rfl hown1 B _ _ _ _ rfl hr1 (bvs_one _) (by unfold maxLen; omega) (by omega) hb1.size ?_; intro v2 w2 hown2 hg2 hat2)
  have hb2 := hb1.grown hg2 hb1.size fun k hk => (hown1.lt k hk).1
  have e4 : bvs (lit4 n) ++ bvs bs = bvs (lit4 bs.length ++ bs) := by rw [HL.out, bvs_append]
  rw [e4] at hown2
  obtain ⟨A2, c2, e2, _, _⟩ := own_slice hown2
  subst e2
  have hse := refseal_any A2 (4 + n) c2 (lit4 bs.length ++ bs) w2 _ (Rd.of_own hown2) (Nat.le_refl _) (by omega)
  refine hse.mono ?_
  rintro e w3 ⟨v3, rfl, hown3, hb23⟩
  have hn8 : 4 + n + 4 = n + 8 := by omega
  rw [hn8] at hown3
  have hown3' : w3.ownsRow w.heap.size 5 1 v3 (n + 8) (bvs (frameC bs)) := World.ownsRow.mono hown3 hb2.size
  go_wp2_with fail
  go_ret2
  exact ⟨v3, rfl, hown3', hb2.trans (hb23.mono hb2.size)⟩

set_option maxRecDepth 100000 in
set_option maxHeartbeats 4000000 in
theorem refjoin_any (A : Option Addr) (n c : Nat) (L : List (List UInt8)) (w : World) (B m : Nat) (hr : Rds w B A (L.map bvs)) (hB : B ≤ w.heap.size) (hn : L.length = n) (hn6 : n ≤ 60) (hf : L.flatten.length ≤ 1500) (hm : (joinC L).length = m) :
    Calls Try.prog 35 #[.slice A n c] w fun e w' => ∃ v, e = .returned (.tuple #[v, .bool true]) ∧ w'.ownsRow w.heap.size 5 1 v m (bvs (joinC L)) ∧ Below w.heap.size w w' := by
  obtain ⟨i0, hi, hz0, hz1, hz2⟩ := info_parts infoE28
  have HN := Lib.hid hn; clear hn
  have HM := Lib.hid hm; clear hm
  have HF := Lib.hid hf; clear hf
  go_enter Try.func35, Try.ntmps35
  go_wp2_with fail
  go_loopw [4, 5] (fun v i wr => ∃ k q : Nat, k ≤ n ∧ i = .int .i64 k ∧ Hid (q = (joinC (L.take k)).length) ∧ q ≤ 1508 * k ∧ wr.ownsRow w.heap.size 5 1 v q (bvs (joinC (L.take k))) ∧ Below w.heap.size w wr) (fun _ i _ => n - (intOf i).toNat)
  case atStart => exact ⟨0, 0, Nat.zero_le _, rfl, rfl, by omega, World.ownsRow_nil _ _ _ _, Below.refl _ _⟩
  case round =>
    obtain ⟨k, q, hk, rfl, hq, hqk, hown, hb⟩ := hrel
    by_cases hlt : k < n
    · have hki : (k : Int) < (n : Int) := by omega
      obtain ⟨ad, l, A', c', rfl, hl, hc, hrl⟩ := (hr.below (hb.mono hB)).at (k := k) (by have := HN.out; rw [List.length_map]; omega)
      rw [List.getElem?_map, Option.map_eq_some_iff] at hl
      obtain ⟨l, hl, rfl⟩ := hl
      have hll : l.length ≤ 1500 := Nat.le_trans (len_le_flat hl) HF.out
      simp only [bvs_length] at hc hrl
      have hmk := refmake_any A' l.length c' l wr B hrl (Nat.le_trans hB hb.size) (by omega)
      have HL := Lib.hid hl
      have hfl := frameC_len l
      have HFL := Lib.hid hfl
      clear hl hfl
      obtain ⟨p, hp⟩ : ∃ p, l.length = p := ⟨_, rfl⟩
      rw [hp] at hc hll hmk HFL
      clear hp hrl
      go_wp2_with fail
      refine hmk.mono ?_
      rintro e w1 ⟨v1, rfl, hown1, hb1⟩
      obtain ⟨A1, c1, e1, _, _⟩ := own_slice hown1
      subst e1
      have hown0 := hown.kept (w' := w1) (row := none) ⟨hb1.os, hb1.tape, hb1.output, hb1.size, fun i hi _ => hb1.block i hi⟩ (Classical.em _)
      have hb01 := hb.trans (hb1.mono hb.size)
      have hr1 := Rd.of_own hown1
      clear hmk hown hown1
      go_wp2_with (at_builtin; refine wpList_app _ rfl (.tmp 24) (.tmp 25) 28 rfl w.heap.size 5 i0 _ 1 Try.underlying28 hi hz0 hz1 hz2 rfl _ _ _ rfl hown0 w1.heap.size _ _ _ _ rfl hr1 (bvs_one _) (by unfold maxLen; omega) (by omega) hb01.size ?_; intro v2 w2 hown2 hg2 hat2)
      refine ⟨⟨k + 1, q + (p + 8), by omega, by go_num, ?_, by omega, ?_, hb01.grown hg2 hb01.size fun k hk => (hown0.lt k hk).1⟩, ?_⟩
      · show _ = _
        rw [joinC_succ HL.out, List.length_append, ← hq.out, HFL.out]
      · rw [joinC_succ HL.out, bvs_append]; exact hown2
      · simp [intOf]; omega
    · have hki : ¬ (k : Int) < (n : Int) := by omega
      go_wp2_with fail
      go_ret2
      refine ⟨_, rfl, ?_, hb⟩
      have e : L.take k = L := List.take_of_length_le (by have := HN.out; omega)
      have e2 := hq.out
      rw [e, HM.out] at e2
      rw [e, e2] at hown
      exact hown
end Go.Proofs.Ythddhcodlmlaiaa
