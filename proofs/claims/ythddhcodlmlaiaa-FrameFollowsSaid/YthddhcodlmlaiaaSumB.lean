/- The reference's checksum; Sum; few; alive. -/
import Derived.Test.YthddhcodlmlaiaaSum
import Derived.Test.YthddhcodlmlaiaaConcat
import Derived.Lib.SlBytesConst
namespace Go.Proofs.Ythddhcodlmlaiaa
open Go.RowKit

set_option maxRecDepth 100000 in
set_option maxHeartbeats 1000000 in
theorem feed_any (x : Nat) (b : UInt8) (w : World) (hx : x < 4294967296) :
    Calls Try.prog 41 #[.int .u32 x, .int .u8 b.toNat] w fun e w' => e = .returned (.int .u32 (feed x b.toNat)) ∧ w' = w := by
  have hbl := b.toNat_lt
  have hx0 := xor_u32 (x := x) (y := b.toNat) hx (by omega)
  have hx1 : x ^^^ b.toNat < 4294967296 := xor32 hx (by omega)
  go_enter Try.func41, Try.ntmps41
  go_wp2_with fail
  go_loop [0, 5, 6] (fun r i _ => ∃ k y : Nat, k ≤ 8 ∧ i = .int .i64 k ∧ y < 4294967296 ∧ r = .int .u32 y ∧ Hid (sh (8 - k) y = feed x b.toNat)) (fun _ i _ => 8 - (intOf i).toNat)
  case atStart => exact ⟨0, _, by omega, rfl, hx1, rfl, rfl⟩
  case round =>
    obtain ⟨k, y, hk, rfl, hy, rfl, hs⟩ := hrel
    by_cases hlt : k < 8
    · have hki : (k : Int) < 8 := by omega
      have h1 := and1_u32 hy
      have hnext : Hid (sh (8 - (k + 1)) (sh1 y) = feed x b.toNat) := by show _ = _; rw [← hs.out, show 8 - k = 8 - (k + 1) + 1 from by omega]; rfl
      rcases Nat.mod_two_eq_zero_or_one y with h2 | h2
      · rw [h2] at h1
        have h3 := shift_ref0 h2
        go_wp2_with fail
        go_round
        case rel => exact ⟨k + 1, sh1 y, by omega, by go_num, sh1_lt hy, rfl, hnext⟩
        case measure => simp [intOf]; omega
      · rw [h2] at h1
        have h3 := shift_ref1 hy h2
        go_wp2_with fail
        go_round
        case rel => exact ⟨k + 1, sh1 y, by omega, by go_num, sh1_lt hy, rfl, hnext⟩
        case measure => simp [intOf]; omega
    · have hki : ¬ (k : Int) < 8 := by omega
      go_wp2_with fail
      go_ret
      have e : 8 - k = 0 := by omega
      have h := hs.out
      rw [e] at h
      exact ⟨ret_eq (by rw [← h]; rfl), rfl⟩

set_option maxRecDepth 100000 in
set_option maxHeartbeats 1000000 in
theorem refmore_any (x : Nat) (A : Option Addr) (n c : Nat) (bs : List UInt8) (w : World) (B : Nat) (hr : Rd w B A n (bvs bs)) (hx : x < 4294967296) (hn : n ≤ 9223372036854775807) :
    Calls Try.prog 19 #[.int .u32 x, .slice A n c] w fun e w' => e = .returned (.int .u32 (moreC x bs)) ∧ w' = w := by
  have hl := hr.len
  simp only [bvs_length] at hl
  have HL := Lib.hid hl; clear hl
  have hnx := not_u32 hx
  go_enter Try.func19, Try.ntmps19
  go_wp2_with fail
  go_loop [5, 6] (fun r i => ∃ k y : Nat, k ≤ n ∧ i = .int .i64 k ∧ y < 4294967296 ∧ r = .int .u32 y ∧ Hid (y = crc (not32 x) (bs.take k))) (fun _ i => n - (intOf i).toNat)
  case atStart => exact ⟨0, not32 x, by omega, rfl, not32_lt hx, rfl, rfl⟩
  case round =>
    obtain ⟨k, y, hk, rfl, hy, rfl, hs⟩ := hrel
    by_cases hlt : k < n
    · have hki : (k : Int) < (n : Int) := by omega
      obtain ⟨ad, u, rfl, hB, hu, hcu⟩ := hr.at hlt
      obtain ⟨b, hb8, rfl⟩ := bvs_get hu
      have hcb : w.cell? (ad.add k) = some (.int .u8 b.toNat) := hcu
      clear hcu
      go_wp2_with fail
      refine (feed_any y b _ hy).mono ?_
      rintro e _ ⟨rfl, rfl⟩
      go_wp2_with fail
      go_round
      case rel => exact ⟨k + 1, _, by omega, by go_num, feed_lt hy b.toNat_lt, rfl, by show _ = _; rw [crc_take hb8, hs.out]⟩
      case measure => simp [intOf]; omega
    · have hki : ¬ (k : Int) < (n : Int) := by omega
      have hny := not_u32 hy
      go_wp2_with fail
      go_ret
      have e := hs.out
      rw [List.take_of_length_le (by have := HL.out; omega)] at e
      refine ⟨?_, rfl⟩
      rw [e]; rfl

set_option maxRecDepth 100000 in
set_option maxHeartbeats 1000000 in
theorem refsum_any (A : Option Addr) (n c : Nat) (bs : List UInt8) (w : World) (B : Nat) (hr : Rd w B A n (bvs bs)) (hn : n ≤ 9223372036854775807) :
    Calls Try.prog 16 #[.slice A n c] w fun e w' => e = .returned (.int .u32 (sumC bs)) ∧ w' = w := by
  have h := refmore_any 0 A n c bs w B hr (by decide) hn
  go_enter Try.func16, Try.ntmps16
  go_wp2_with fail
  refine h.mono ?_
  rintro e _ ⟨rfl, rfl⟩
  go_wp2_with fail
  go_ret
  exact ⟨rfl, rfl⟩

theorem flat_bvs (L : List (List UInt8)) : (L.map bvs).flatten = bvs L.flatten := by
  induction L with
  | nil => rfl
  | cons a L ih => simp [ih, bvs_append]

set_option maxRecDepth 100000 in
set_option maxHeartbeats 1000000 in
theorem sum_any (A : Option Addr) (n c : Nat) (L : List (List UInt8)) (F : List UInt8) (m : Nat) (w : World) (B : Nat) (hr : Rds w B A (L.map bvs)) (hB : B ≤ w.heap.size) (hn : L.length = n) (hF : L.flatten = F) (hm : F.length = m) (hL : n ≤ 1000000000) (hf : m ≤ 4000000) :
    Calls Try.prog 15 #[.slice A n c] w fun e w' => e = .returned (.int .u32 (sumC F)) ∧ Below w.heap.size w w' := by
  have h := concat36 A c (L.map bvs) w B hr hB (by rw [List.length_map]; omega) (by rw [flat_bvs, bvs_length, hF]; omega) (by rw [flat_bvs]; exact bvs_one _)
  rw [flat_bvs, List.length_map, bvs_length, hF, hm, hn] at h
  clear hn hF hr
  go_enter Try.func15, Try.ntmps15
  go_wp2_with fail
  refine h.mono ?_
  rintro e w1 ⟨v, rfl, hown, hb⟩
  clear h
  obtain ⟨A1, c1, rfl, hr1⟩ := own_rd hown
  have h2 : Calls Try.prog 18 #[.int .u32 0, .slice A1 m c1] w1 fun e w' => e = .returned (.int .u32 (sumC F)) ∧ Below w1.heap.size w1 w' := more_any 0 A1 m c1 F w1 _ hr1 (Nat.le_refl _) (by decide) (by omega)
  go_wp2_with fail
  refine h2.mono ?_
  rintro e w2 ⟨rfl, hb2⟩
  clear h2
  go_wp2_with fail
  go_ret
  exact ⟨rfl, hb.trans (hb2.mono hb.size)⟩

set_option maxRecDepth 100000 in
set_option maxHeartbeats 1000000 in
theorem cat_any (A : Option Addr) (n c : Nat) (L : List (List UInt8)) (F : List UInt8) (m : Nat) (w : World) (B : Nat) (hr : Rds w B A (L.map bvs)) (hB : B ≤ w.heap.size) (hn : L.length = n) (hF : L.flatten = F) (hm : F.length = m) (hL : n ≤ 1000000000) (hf : m ≤ 4000000) :
    Calls Try.prog 17 #[.slice A n c] w fun e w' => ∃ v, e = .returned v ∧ w'.ownsRow w.heap.size 5 1 v m (bvs F) ∧ Below w.heap.size w w' := by
  obtain ⟨i0, hi, hz0, hz1, hz2⟩ := info_parts infoE28
  have HN := Lib.hid hn; clear hn
  have HF := Lib.hid hF; clear hF
  have HM := Lib.hid hm; clear hm
  go_enter Try.func17, Try.ntmps17
  go_wp2_with fail
  go_loopw [3, 4] (fun v i wr => ∃ k q : Nat, k ≤ n ∧ i = .int .i64 k ∧ Hid (q = (L.take k).flatten.length) ∧ wr.ownsRow w.heap.size 5 1 v q (bvs (L.take k).flatten) ∧ Below w.heap.size w wr) (fun _ i _ => n - (intOf i).toNat)
  case atStart => exact ⟨0, 0, Nat.zero_le _, rfl, rfl, World.ownsRow_nil _ _ _ _, Below.refl _ _⟩
  case round =>
    obtain ⟨k, q, hk, rfl, hq, hown, hb⟩ := hrel
    by_cases hlt : k < n
    · have hki : (k : Int) < (n : Int) := by omega
      obtain ⟨ad, l, A', c', rfl, hl, hc, hrl⟩ := (hr.below (hb.mono hB)).at (k := k) (by have := HN.out; rw [List.length_map]; omega)
      rw [List.getElem?_map, Option.map_eq_some_iff] at hl
      obtain ⟨l, hl, rfl⟩ := hl
      have hf1 := flat_le L (k + 1)
      rw [flat_succ hl, List.length_append, HF.out, HM.out, ← hq.out] at hf1
      have hml : q + l.length ≤ 4000000 := by omega
      clear hf1
      simp only [bvs_length] at hc hrl
      go_wp2_with (at_builtin; refine wpList_app _ rfl (.tmp 11) (.tmp 15) 28 rfl w.heap.size 5 i0 _ 1 Try.underlying28 hi hz0 hz1 hz2 rfl _ _ _ rfl hown B _ _ _ _ rfl hrl (bvs_one _) (by unfold maxLen; omega) (by omega) hb.size ?_; intro v' w2 hown2 hg2 hat2)
      go_roundw
      case rel => exact ⟨k + 1, q + l.length, by omega, by go_num, by show _ = _; rw [flat_succ hl, List.length_append, hq.out], by rw [flat_succ hl, bvs_append]; exact hown2, hb.grown hg2 hb.size fun k hk => (hown.lt k hk).1⟩
      case measure => simp [intOf]; omega
    · have hki : ¬ (k : Int) < (n : Int) := by omega
      go_wp2_with fail
      go_ret
      refine ⟨_, rfl, ?_, hb⟩
      have e : L.take k = L := List.take_of_length_le (by have := HN.out; omega)
      have e2 := hq.out
      rw [e, HF.out, HM.out] at e2
      rw [e, HF.out, e2] at hown
      exact hown

/-- What few says of parts. -/
def Few (n : Nat) (L : List (List UInt8)) (w : World) (e : Ending) (w' : World) : Prop :=
  ∃ t, e = .returned (.bool t) ∧ w' = w ∧ (t = true → n ≤ 60 ∧ L.flatten.length ≤ 1500)

set_option maxRecDepth 100000 in
set_option maxHeartbeats 1000000 in
theorem few_any (A : Option Addr) (n c : Nat) (L : List (List UInt8)) (w : World) (B : Nat) (hr : Rds w B A (L.map bvs)) (hn : L.length = n) (hm : n ≤ maxLen) :
    Calls Try.prog 13 #[.slice A n c] w fun e w' => Few n L w e w' := by
  have HN := Lib.hid hn; clear hn
  unfold maxLen at hm
  go_enter Try.func13, Try.ntmps13
  go_wp2_with fail
  go_loop [3, 5, 8] (fun s _ i => ∃ k m : Nat, k ≤ n ∧ i = .int .i64 k ∧ s = .int .i64 m ∧ m ≤ 1500 ∧ Hid (m = (L.take k).flatten.length)) (fun _ _ i => n - (intOf i).toNat)
  case atStart => exact ⟨0, 0, Nat.zero_le _, rfl, rfl, by omega, rfl⟩
  case round =>
    obtain ⟨k, m, hk, rfl, rfl, hm15, hs⟩ := hrel
    by_cases hlt : k < n
    · have hki : (k : Int) < (n : Int) := by omega
      obtain ⟨ad, l, A', c', rfl, hl, hc, hrl⟩ := hr.at (k := k) (by have := HN.out; rw [List.length_map]; omega)
      rw [List.getElem?_map, Option.map_eq_some_iff] at hl
      obtain ⟨l, hl, rfl⟩ := hl
      simp only [bvs_length] at hc hrl
      have hnext : (L.take (k + 1)).flatten.length = m + l.length := by rw [flat_succ hl, List.length_append, hs.out]
      have HX := Lib.hid hnext; clear hnext
      clear hs hrl hl
      by_cases hbig : l.length < 2000
      · have hmin : min (l.length : Int) 2000 = (l.length : Int) := by omega
        by_cases h15 : m + l.length ≤ 1500
        · have h15i : ¬ (1500 : Int) < (m : Int) + (l.length : Int) := by omega
          go_wp2_with fail
          go_round
          case rel => exact ⟨k + 1, m + l.length, by omega, by go_num, by go_num, h15, HX.out.symm⟩
          case measure => simp [intOf]; omega
        · have h15i : (1500 : Int) < (m : Int) + (l.length : Int) := by omega
          go_wp2_with fail
          all_goals
            go_ret
            exact ⟨false, rfl, rfl, by simp⟩
      · have hmin : min (l.length : Int) 2000 = 2000 := by omega
        have h15i : (1500 : Int) < (m : Int) + 2000 := by omega
        go_wp2_with fail
        all_goals
          go_ret
          exact ⟨false, rfl, rfl, by simp⟩
    · have hki : ¬ (k : Int) < (n : Int) := by omega
      have e : L.take k = L := List.take_of_length_le (by have := HN.out; omega)
      rw [e] at hs
      by_cases h60 : n ≤ 60
      · have h60i : (n : Int) ≤ 60 := by omega
        go_wp2_with fail
        go_ret
        exact ⟨true, rfl, rfl, fun _ => ⟨h60, by have := hs.out; omega⟩⟩
      · have h60i : ¬ (n : Int) ≤ 60 := by omega
        go_wp2_with fail
        go_ret
        exact ⟨false, rfl, rfl, by simp⟩

theorem sum_example : sumC [49, 50, 51, 52, 53, 54, 55, 56, 57] = 3808858755 := by kernel_rfl

/-- One part. -/
theorem rds_one {w : World} {A : Option Addr} {n c : Nat} {bs : List UInt8} {B : Nat} (t : TypeId) (h : Rd w B A n (bvs bs)) (hB : B ≤ w.heap.size) :
    Rds (w.alloc (.cells #[.slice A n c] t)) (w.heap.size + 1) (some ⟨w.heap.size, 0, none⟩) ([bs].map bvs) :=
  rds_blk (heap_alloc_new w _) (by omega) rfl fun i l hi => by
    rcases i with _ | i
    · simp at hi; subst hi; exact ⟨_, rfl, SliceOf.mk' ((h.alloc hB _).more (by omega))⟩
    · simp at hi
/-- Two parts. -/
theorem rds_two {w : World} {A A' : Option Addr} {n c n' c' : Nat} {bs bs' : List UInt8} {B : Nat} (t : TypeId) (h : Rd w B A n (bvs bs)) (h' : Rd w B A' n' (bvs bs')) (hB : B ≤ w.heap.size) :
    Rds (w.alloc (.cells #[.slice A n c, .slice A' n' c'] t)) (w.heap.size + 1) (some ⟨w.heap.size, 0, none⟩) ([bs, bs'].map bvs) :=
  rds_blk (heap_alloc_new w _) (by omega) rfl fun i l hi => by
    rcases i with _ | _ | i
    · simp at hi; subst hi; exact ⟨_, rfl, SliceOf.mk' ((h.alloc hB _).more (by omega))⟩
    · simp at hi; subst hi; exact ⟨_, rfl, SliceOf.mk' ((h'.alloc hB _).more (by omega))⟩
    · simp at hi

set_option maxRecDepth 100000 in
set_option maxHeartbeats 1000000 in
theorem rd_blk {w : World} {B g n : Nat} {cs : Array Value} {t : TypeId} {fr : Nat × Nat} {bs : List UInt8} (hg : w.heap[g]? = some (.cells cs t fr)) (hB : g < B) (hl : bs.length = n) (hc : ∀ j : Nat, j < n → cs[j]? = (bvs bs)[j]?) : Rd w B (some ⟨g, 0, none⟩) n (bvs bs) := by
  refine ⟨by simpa using hl, fun j u hu => ⟨_, rfl, hB, ?_⟩⟩
  have hadd : (⟨g, 0, none⟩ : Addr).add j = ⟨g, j, none⟩ := by unfold Addr.add; split <;> simp_all
  have hj : j < n := by
    have := (List.getElem?_eq_some_iff.1 hu).1
    simp at this; omega
  rw [hadd, cell_of_row w g j cs t fr hg, hc j hj, hu]

def nine : List UInt8 := [49, 50, 51, 52, 53, 54, 55, 56, 57]
def nineC : Array Value := #[.int .u8 49, .int .u8 50, .int .u8 51, .int .u8 52, .int .u8 53, .int .u8 54, .int .u8 55, .int .u8 56, .int .u8 57]

theorem alive_sum (w : World) : Calls Try.prog 15 #[.slice (some ⟨w.heap.size + 1, 0, none⟩) 1 1] ((w.alloc (.cells nineC 5 (9, 10))).alloc (.cells #[.slice (some ⟨w.heap.size, 0, none⟩) 9 9] 28))
    fun e w' => e = .returned (.int .u32 3808858755) ∧ Below ((w.alloc (.cells nineC 5 (9, 10))).alloc (.cells #[.slice (some ⟨w.heap.size, 0, none⟩) 9 9] 28)).heap.size ((w.alloc (.cells nineC 5 (9, 10))).alloc (.cells #[.slice (some ⟨w.heap.size, 0, none⟩) 9 9] 28)) w' := by
  have hr : Rd (w.alloc (.cells nineC 5 (9, 10))) (w.heap.size + 1) (some ⟨w.heap.size, 0, none⟩) 9 (bvs nine) := by
    refine rd_blk (heap_alloc_new w _) (by omega) rfl fun j hj => ?_
    rcases j with _ | _ | _ | _ | _ | _ | _ | _ | _ | j
    all_goals first | rfl | omega
  have hs : (w.alloc (.cells nineC 5 (9, 10))).heap.size = w.heap.size + 1 := by simp
  have h1 := rds_one (c := 9) 28 hr (by omega)
  rw [hs] at h1
  have h := sum_any (some ⟨w.heap.size + 1, 0, none⟩) 1 1 [nine] nine 9 _ _ h1 (by simp) rfl rfl rfl (by omega) (by omega)
  have e : sumC nine = 3808858755 := sum_example
  rw [e] at h
  exact h

set_option maxRecDepth 100000 in
set_option maxHeartbeats 1000000 in
theorem alive_any (w : World) : Calls Try.prog 14 #[] w fun e w' => e = .returned (.bool true) ∧ Below w.heap.size w w' := by
  have kc := fun (w : World) (C : Array Value) (n c : Nat) => Lib.run_convert_bytes_const (P := Try.prog) w 28 5 C n c Try.underlying28 Try.underlying5
  have h := alive_sum w
  go_enter Try.func14, Try.ntmps14
  go_wp2_with fail
  refine h.mono ?_
  rintro e w1 ⟨rfl, hb⟩
  have hb1 : Below w.heap.size w w1 := (((Below.refl _ _).alloc (Nat.le_refl _) _).alloc (by simp) _).trans (hb.mono (by simp; omega))
  clear hb h
  go_wp2_with fail
  go_ret
  exact ⟨rfl, hb1⟩
end Go.Proofs.Ythddhcodlmlaiaa
