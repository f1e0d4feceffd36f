/- frame.Join, frame.Size. -/
import Derived.Test.YthddhcodlmlaiaaFFew
import Derived.Test.YthddhcodlmlaiaaFRSplit
import Derived.Test.YthddhcodlmlaiaaLSplits
namespace Go.Proofs.Ythddhcodlmlaiaa
open Go.RowKit

theorem flat_map_bvs (L : List (List UInt8)) : ((L.map frameC).map bvs).flatten = bvs (joinC L) := flat_bvs _

set_option maxRecDepth 100000 in
set_option maxHeartbeats 4000000 in
theorem fjoin_any (A : Option Addr) (n c : Nat) (L : List (List UInt8)) (w : World) (B m : Nat) (hr : Rds w B A (L.map bvs)) (hB : B ≤ w.heap.size) (hn : L.length = n) (hn6 : n ≤ 60) (hf : L.flatten.length ≤ 1500) (hm : (joinC L).length = m) :
    Calls Try.prog 38 #[.slice A n c] w fun e w' => ∃ v, e = .returned (.tuple #[v, .bool true]) ∧ w'.ownsRow w.heap.size 5 1 v m (bvs (joinC L)) ∧ Below w.heap.size w w' := by
  obtain ⟨i0, hi, hz0, hz1, hz2⟩ := info_parts infoG
  have HN := Lib.hid hn; clear hn
  have hm2 : m ≤ 1980 := by rw [← hm, joinC_len, HN.out]; omega
  have HM := Lib.hid hm; clear hm
  have HF := Lib.hid hf; clear hf
  go_enter Try.func38, Try.ntmps38
  go_wp2_with fail
  go_loopw [4, 11] (fun v i wr => ∃ k : Nat, k ≤ n ∧ i = .int .i64 k ∧ GridOwn wr w.heap.size v k ((L.take k).map frameC) ∧ Below w.heap.size w wr) (fun _ i _ => n - (intOf i).toNat)
  case atStart => exact ⟨0, Nat.zero_le _, rfl, GridOwn.nil _ _, Below.refl _ _⟩
  case round =>
    obtain ⟨k, hk, rfl, hgo, hb⟩ := hrel
    by_cases hlt : k < n
    · have hki : (k : Int) < (n : Int) := by omega
      obtain ⟨ad, l, A', c', rfl, hl, hc, hrl⟩ := (hr.below (hb.mono hB)).at (k := k) (by have := HN.out; rw [List.length_map]; omega)
      rw [List.getElem?_map, Option.map_eq_some_iff] at hl
      obtain ⟨l, hl, rfl⟩ := hl
      have hll : l.length ≤ 1500 := Nat.le_trans (len_le_flat hl) HF.out
      simp only [bvs_length] at hc hrl
      have hmk := make_any A' l.length c' l wr B hrl (Nat.le_trans hB hb.size) (by omega)
      have HL := Lib.hid hl
      have hfl := frameC_len l
      have HFL := Lib.hid hfl
      clear hl hfl
      obtain ⟨p, hp⟩ : ∃ p, l.length = p := ⟨_, rfl⟩
      rw [hp] at hc hll hmk HFL
      clear hp hrl
      go_wp2_with fail
      refine hmk.mono ?_
      rintro e w2 ⟨v1, rfl, hown1, hb1⟩
      obtain ⟨go, c1, e1, hgo1, hgol1⟩ := hown1.form (by omega)
      subst e1
      have hb3 := hb.trans (hb1.mono hb.size)
      have hg2 := hgo.below hb1
      obtain ⟨hgl, vs, hvs, hgs⟩ := hg2.below ((Below.refl _ _).alloc (Nat.le_refl _) (.cells #[.slice (some ⟨go, 0, none⟩) (p + 8) c1] 28))
      have hvlt : ∀ g, u4.ownBlock = some g → g < wr.heap.size := by
        obtain ⟨_, vs0, hvs0, _⟩ := hgo
        exact fun g hg => (hvs0.lt g hg).2
      have hrb : Rd (w2.alloc (.cells #[.slice (some ⟨go, 0, none⟩) (p + 8) c1] 28)) (w2.heap.size + 1) (some ⟨w2.heap.size, 0, none⟩) 1 [.slice (some ⟨go, 0, none⟩) (p + 8) c1] := by
        refine ⟨rfl, fun i u hu => ⟨_, rfl, by simp, ?_⟩⟩
        have hi0 : i = 0 := by
          have := (List.getElem?_eq_some_iff.1 hu).1
          simp at this; exact this
        subst hi0
        exact blk_cell (heap_alloc_new w2 _) 0 _ hu
      have HX1 := Lib.hid hgs; have HX2 := Lib.hid hgl
      have hb4 : Below w.heap.size w (w2.alloc (.cells #[.slice (some ⟨go, 0, none⟩) (p + 8) c1] 28)) := hb3.alloc hb3.size _
      have hr2 := Rd.of_own hown1
      clear hmk hgs hgl hg2 hgo hown1
      go_wp2_with (at_builtin; refine wpList_app _ rfl (.tmp 22) (.tmp 24) 22 rfl w.heap.size 28 i0 _ 24 Try.underlying22 hi hz0 hz1 hz2 rfl u4 _ _ rfl hvs _ _ _ _ _ rfl hrb (fun u hu => by rw [List.mem_singleton.1 hu]; rfl) (by unfold maxLen; omega) (by omega) hb4.size ?_; intro v' w4 hown4 hg4 hat4)
      have hvl : vs.length = k := by simpa using hvs.1
      refine ⟨⟨k + 1, by omega, by go_num, ?_, ?_⟩, ?_⟩
      · have e : (L.take (k + 1)).map frameC = (L.take k).map frameC ++ [frameC l] := by rw [List.take_add_one, HL.out]; simp
        rw [e]
        refine GridOwn.push HX2.out HX1.out hvl hown4 hg4 hat4 HFL.out ?_
        right
        refine ⟨_, rfl, (hr2.alloc (Nat.le_refl _) _).more (by simp), fun e => ?_⟩
        have h9 : go < wr.heap.size := hvlt _ e
        omega
      · exact hb4.grown hg4 hb4.size fun g hg => (hvs.lt g hg).1
      · simp [intOf]; omega
    · have hki : ¬ (k : Int) < (n : Int) := by omega
      have hkn : k = n := by omega
      have e : L.take k = L := List.take_of_length_le (by have := HN.out; omega)
      rw [e, hkn] at hgo
      obtain ⟨A4, c4, rfl⟩ := hgo.form
      have hcc := concat36 A4 c4 ((L.map frameC).map bvs) wr _ hgo.rds (Nat.le_refl _) (by simp [HN.out]; omega) (by rw [flat_map_bvs, bvs_length, HM.out]; omega) (by rw [flat_map_bvs]; exact bvs_one _)
      rw [flat_map_bvs, bvs_length, HM.out, List.length_map, List.length_map, HN.out] at hcc
      clear hgo
      go_wp2_with fail
      refine hcc.mono ?_
      rintro e w5 ⟨v5, rfl, hown5, hb5⟩
      go_wp2_with fail
      go_ret2
      exact ⟨v5, rfl, World.ownsRow.mono hown5 hb.size, hb.trans (hb5.mono hb.size)⟩

set_option maxRecDepth 100000 in
set_option maxHeartbeats 2000000 in
theorem fsize_any (A : Option Addr) (n c : Nat) (L : List (List UInt8)) (w : World) (B m : Nat) (hr : Rds w B A (L.map bvs)) (hn : L.length = n) (hn6 : n ≤ 60) (hf : L.flatten.length ≤ 1500) (hm : (joinC L).length = m) :
    Calls Try.prog 39 #[.slice A n c] w fun e w' => e = .returned (.int .i64 m) ∧ w' = w := by
  have HN := Lib.hid hn; clear hn
  have HM := Lib.hid hm; clear hm
  have HF := Lib.hid hf; clear hf
  go_enter Try.func39, Try.ntmps39
  go_wp2_with fail
  go_loop [3, 8] (fun s i => ∃ k q : Nat, k ≤ n ∧ i = .int .i64 k ∧ s = .int .i64 q ∧ Hid (q = (joinC (L.take k)).length) ∧ q ≤ 1508 * k) (fun _ i => n - (intOf i).toNat)
  case atStart => exact ⟨0, 0, Nat.zero_le _, rfl, rfl, rfl, by omega⟩
  case round =>
    obtain ⟨k, q, hk, rfl, rfl, hq, hqk⟩ := hrel
    by_cases hlt : k < n
    · have hki : (k : Int) < (n : Int) := by omega
      obtain ⟨ad, l, A', c', rfl, hl, hc, hrl⟩ := hr.at (k := k) (by have := HN.out; rw [List.length_map]; omega)
      rw [List.getElem?_map, Option.map_eq_some_iff] at hl
      obtain ⟨l, hl, rfl⟩ := hl
      have hll : l.length ≤ 1500 := Nat.le_trans (len_le_flat hl) HF.out
      simp only [bvs_length] at hc hrl
      have hx : (joinC (L.take (k + 1))).length = q + (8 + l.length) := by rw [joinC_succ hl, List.length_append, frameC_len, hq.out]; omega
      have HX := Lib.hid hx
      clear hx hl hrl
      obtain ⟨y, hy⟩ : ∃ y, l.length = y := ⟨_, rfl⟩
      rw [hy] at hc HX hll
      clear hy
      go_wp2_with fail
      go_round
      case rel => exact ⟨k + 1, q + (8 + y), by omega, by go_num, by go_num, HX.out.symm, by omega⟩
      case measure => simp [intOf]; omega
    · have hki : ¬ (k : Int) < (n : Int) := by omega
      have e : L.take k = L := List.take_of_length_le (by have := HN.out; omega)
      have e2 := hq.out
      rw [e, HM.out] at e2
      clear hq
      subst e2
      go_wp2_with fail
      go_ret
      exact ⟨rfl, rfl⟩
end Go.Proofs.Ythddhcodlmlaiaa
