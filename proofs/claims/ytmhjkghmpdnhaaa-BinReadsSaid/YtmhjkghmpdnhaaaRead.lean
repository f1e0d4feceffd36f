/- The program's reader: its methods, each by a contract. -/
import Derived.Test.YtmhjkghmpdnhaaaInt
import Derived.Test.YtmhjkghmpdnhaaaEq
import Derived.OpenShut
import Derived.WalkSpells
import Derived.Outline
import Derived.Deep.RegionHeld3
namespace Go.Proofs.Ytmhjkghmpdnhaaa
open Go.RowKit

theorem info60 : (Try.prog.info? 60).map (fun i => (i.zero, i.size, i.bytes)) = some (some (.agg #[.slice none 0 0, .bool false]), 2, 32) := by kernel_rfl

set_option maxRecDepth 100000 in
set_option maxHeartbeats 1000000 in
/-- slices.Clone at bytes. -/
theorem clone_any (A : Option Addr) (n c : Nat) (bs : List UInt8) (w : World) (B : Nat) (hr : Rd w B A n (bvs bs)) (hB : B ≤ w.heap.size) (hn : n ≤ 1000000) :
    Calls Try.prog 33 #[.slice A n c] w fun e w' => ∃ v, e = .returned v ∧ w'.ownsRow w.heap.size 5 1 v n (bvs bs) ∧ Below w.heap.size w w' := by
  obtain ⟨i0, hi, hz0, hz1, hz2⟩ := info_parts info5
  cases A with
  | none =>
    have hb : bs = [] := by
      cases bs with
      | nil => rfl
      | cons b l => obtain ⟨ad, e, _⟩ := hr.at' 0 (bv b) rfl; cases e
    subst hb
    have hn0 : n = 0 := by simpa using hr.len.symm
    subst hn0
    have hne := Lib.run_eql_slice_nil (P := Try.prog) w 23 5 none 0 c 0 0 Try.underlying23
    go_enter Try.func33, Try.ntmps33
    go_wp2_with fail
    go_ret
    exact ⟨_, rfl, World.ownsRow_nil _ _ _ _, Below.refl _ _⟩
  | some a =>
    have hne := Lib.run_eql_slice_nil (P := Try.prog) w 23 5 (some a) n c 0 0 Try.underlying23
    have hown := World.ownsRow_lit (e := 5) (size := 1) (base := w.heap.size) w #[] 0 (Nat.le_refl _) (by simp [maxLen]) (by simp)
    have hr1 := hr.alloc hB (.cells #[] 5)
    go_enter Try.func33, Try.ntmps33
    go_wp2_with (at_builtin; refine wpList_app _ rfl (.tmp 5) (.tmp 6) 23 rfl w.heap.size 5 i0 _ 1 Try.underlying23 hi hz0 hz1 hz2 rfl _ _ _ rfl hown B _ _ _ _ rfl hr1 (bvs_one _) (by unfold maxLen; omega) (by omega) (by simp) ?_; intro v' w2 hown2 hg2 hat2)
    go_ret
    refine ⟨v', rfl, by simpa using hown2, ((Below.refl _ _).alloc (Nat.le_refl _) _).grown hg2 (by simp) fun k hk => ?_⟩
    exact (hown.lt k hk).1

set_option maxRecDepth 100000 in
set_option maxHeartbeats 1000000 in
theorem clone_nil (c : Nat) (w : World) : Calls Try.prog 33 #[.slice none 0 c] w fun e w' => e = .returned (.slice none 0 0) ∧ w = w' := by
  have hne := Lib.run_eql_slice_nil (P := Try.prog) w 23 5 none 0 c 0 0 Try.underlying23
  go_enter Try.func33, Try.ntmps33
  go_wp2_with fail
  go_ret
  exact ⟨rfl, rfl⟩

/-- A reader lies in block 'g': what is left of its bytes, and whether a read was wrong. -/
def Rdr (w : World) (g : Nat) (bs : List UInt8) (bad : Bool) : Prop :=
  ∃ A c, w.heap[g]? = some (.cells #[.slice A bs.length c, .bool bad] 60 (0, 0)) ∧ bs.length ≤ c ∧ bs.length ≤ 1000000 ∧ Rd w g A bs.length (bvs bs)

theorem Rdr.lt {w : World} {g : Nat} {bs : List UInt8} {bad : Bool} (h : Rdr w g bs bad) : g < w.heap.size := by
  obtain ⟨A, c, hg, _⟩ := h
  exact (Array.getElem?_eq_some_iff.1 hg).1
theorem Rdr.below {w w' : World} {g B : Nat} {bs : List UInt8} {bad : Bool} (h : Rdr w g bs bad) (hb : Below B w w') (hg : g < B) : Rdr w' g bs bad := by
  obtain ⟨A, c, h1, h2, h3, h4⟩ := h
  exact ⟨A, c, (hb.block g hg).trans h1, h2, h3, h4.below (hb.mono (by omega))⟩
theorem Rdr.drewN {w : World} {g : Nat} {bs : List UInt8} {bad : Bool} (h : Rdr w g bs bad) (k : Nat) : Rdr (w.drewN k) g bs bad := by
  obtain ⟨A, c, h1, h2, h3, h4⟩ := h
  exact ⟨A, c, h1, h2, h3, h4.drewN k⟩

set_option maxRecDepth 100000 in
set_option maxHeartbeats 1000000 in
/-- New, its row in sight. -/
theorem new_own (A : Option Addr) (n c : Nat) (bs : List UInt8) (w : World) (B : Nat) (hr : Rd w B A n (bvs bs)) (hB : B ≤ w.heap.size) (hn : n ≤ 1000000) :
    Calls Try.prog 17 #[.slice A n c] w fun e w' => ∃ g A1 c1, e = .returned (.pointer (some ⟨g, 0, none⟩)) ∧ w.heap.size ≤ g ∧ w'.heap[g]? = some (.cells #[.slice A1 n c1, .bool false] 60 (0, 0)) ∧
      w'.ownsRow w.heap.size 5 1 (.slice A1 n c1) n (bvs bs) ∧ Rd w' g A1 n (bvs bs) ∧ n ≤ c1 ∧ Below w.heap.size w w' := by
  go_enter Try.func17, Try.ntmps17
  go_wp2_with fail
  refine (clone_any A n c bs w B hr hB hn).mono ?_
  rintro e w1 ⟨v, rfl, hown, hb⟩
  obtain ⟨A1, c1, rfl, hc1, _⟩ := own_slice hown
  have hr1 := Rd.of_own hown
  go_wp2_with fail
  go_ret
  exact ⟨w1.heap.size, A1, c1, rfl, hb.size, heap_alloc_new w1 _, hown.alloc _, hr1.alloc (Nat.le_refl _) _, hc1, hb.alloc hb.size _⟩

theorem new_any (A : Option Addr) (n c : Nat) (bs : List UInt8) (w : World) (B : Nat) (hr : Rd w B A n (bvs bs)) (hB : B ≤ w.heap.size) (hn : n ≤ 1000000) :
    Calls Try.prog 17 #[.slice A n c] w fun e w' => ∃ g, e = .returned (.pointer (some ⟨g, 0, none⟩)) ∧ w.heap.size ≤ g ∧ Rdr w' g bs false ∧ Below w.heap.size w w' := by
  have hbl : bs.length = n := by simpa using hr.len
  subst hbl
  exact (new_own A _ c bs w B hr hB hn).mono fun e w' ⟨g, A1, c1, he, hg, h1, _, h3, h4, h5⟩ => ⟨g, he, hg, ⟨A1, c1, h1, h4, hn, h3⟩, h5⟩

set_option maxRecDepth 100000 in
set_option maxHeartbeats 1000000 in
theorem fail_any (g : Nat) (bs : List UInt8) (bad : Bool) (w : World) (h : Rdr w g bs bad) :
    Calls Try.prog 35 #[.pointer (some ⟨g, 0, none⟩)] w fun e w' => e = .returned (.tuple #[]) ∧ Rdr w' g bs true ∧ w.grownBy w' (some g) := by
  obtain ⟨A, c, h1, h2, h3, h4⟩ := h
  have hc : w.cell? ⟨g, 1, none⟩ = some (.bool bad) := by simp [World.cell?, h1]
  have hf : w.frozen? ⟨g, 1, none⟩ = false := by simp [World.frozen?, h1]
  go_enter Try.func35, Try.ntmps35
  go_wp2_with fail
  go_end0
  refine ⟨rfl, ⟨A, c, ?_, h2, h3, h4.setCell (Nat.le_refl _) _⟩, ⟨rfl, rfl, rfl, by simp, fun k _ hk => Below.heap_setCell _ _ _ k (fun e => hk (by rw [e]))⟩⟩
  simp [World.setCell, Array.getElem?_modify, h1]

/-- A reader's state behind a read of 'k' bytes; the bytes. -/
def cutS (bs : List UInt8) (bad : Bool) (k : Int) : List UInt8 × Bool × List UInt8 :=
  if bad = true ∨ k < 0 ∨ (bs.length : Int) < k then (bs, true, []) else (bs.drop k.toNat, false, bs.take k.toNat)

theorem Rdr.moved {w : World} {g : Nat} {bs : List UInt8} {A : Option Addr} {c K : Nat} (h1 : w.heap[g]? = some (.cells #[.slice A bs.length c, .bool false] 60 (0, 0))) (h2 : bs.length ≤ c) (h3 : bs.length ≤ 1000000)
    (h4 : Rd w g A bs.length (bvs bs)) (hK : K ≤ bs.length) {A' : Option Addr} {c' : Nat} (hA : A' = if c = K then A else A.map (·.add K)) (hc : c' = c - K) :
    Rdr (w.setCell ⟨g, 0, none⟩ (.slice A' (bs.length - K) c')) g (bs.drop K) false := by
  subst hA hc
  refine ⟨if c = K then A else A.map (·.add K), c - K, ?_, by simp; omega, by simp; omega, ?_⟩
  · simp [World.setCell, Array.getElem?_modify, h1]
  · have := (h4.drop hK h2).setCell (p := ⟨g, 0, none⟩) (Nat.le_refl _) (.slice (if c = K then A else A.map (·.add K)) (bs.length - K) (c - K))
    simpa [bvs, List.map_drop] using this

theorem cut_ok {bs : List UInt8} {K : Nat} (hK : K ≤ bs.length) : cutS bs false (K : Int) = (bs.drop K, false, bs.take K) := by
  unfold cutS; rw [if_neg (by simp; omega)]; rfl
theorem cut_no {bs : List UInt8} {bad : Bool} {k : Int} (h : bad = true ∨ k < 0 ∨ (bs.length : Int) < k) : cutS bs bad k = (bs, true, []) := by
  unfold cutS; rw [if_pos h]

set_option maxRecDepth 100000 in
set_option maxHeartbeats 1000000 in
theorem cut_yes (g : Nat) (bs : List UInt8) (K : Nat) (w : World) (h : Rdr w g bs false) (hK : K ≤ bs.length) :
    Calls Try.prog 36 #[.pointer (some ⟨g, 0, none⟩), .int .i64 K] w fun e w' => ∃ A c, e = .returned (.slice A K c) ∧ Rd w' g A K (bvs (bs.take K)) ∧ K ≤ c ∧
      Rdr w' g (bs.drop K) false ∧ w.grownBy w' (some g) := by
  obtain ⟨A, c, h1, h2, h3, h4⟩ := h
  have hc0 : w.cell? ⟨g, 0, none⟩ = some (.slice A bs.length c) := by simp [World.cell?, h1]
  have hc1 : w.cell? ⟨g, 1, none⟩ = some (.bool false) := by simp [World.cell?, h1]
  have hf0 : w.frozen? ⟨g, 0, none⟩ = false := by simp [World.frozen?, h1]
  have hkl : ¬ (bs.length : Int) < (K : Int) := by omega
  have hkl2 : (K : Int) ≤ (bs.length : Int) := by omega
  have hk0 : ¬ (K : Int) < 0 := by omega
  have H1 := Lib.hid h1; clear h1
  go_enter Try.func36, Try.ntmps36
  go_wp2_with fail
  all_goals
    have ht : bvs (bs.take K) = (bvs bs).take K := by simp [bvs, List.map_take]
    go_ret
    refine ⟨A, _, rfl, by rw [ht]; exact (h4.take hK).setCell (Nat.le_refl _) _, by omega, Rdr.moved H1.out h2 h3 h4 hK ?_ ?_, grownBy_setCell' _ _ _⟩
    · first | rw [if_pos (by assumption)] | rw [if_neg (by assumption)]
    · omega

set_option maxRecDepth 100000 in
set_option maxHeartbeats 1000000 in
theorem cut_bad (g : Nat) (bs : List UInt8) (bad : Bool) (k : Int) (w : World) (h : Rdr w g bs bad) (hk : bad = true ∨ k < 0 ∨ (bs.length : Int) < k) :
    Calls Try.prog 36 #[.pointer (some ⟨g, 0, none⟩), .int .i64 k] w fun e w' => e = .returned (.slice none 0 0) ∧
      Rdr w' g bs true ∧ w.grownBy w' (some g) := by
  have hh := h
  obtain ⟨A, c, h1, h2, h3, h4⟩ := h
  have hc0 : w.cell? ⟨g, 0, none⟩ = some (.slice A bs.length c) := by simp [World.cell?, h1]
  have hc1 : w.cell? ⟨g, 1, none⟩ = some (.bool bad) := by simp [World.cell?, h1]
  clear h1
  have hf := fail_any g bs bad w hh
  have HF := Lib.hid hf; clear hf
  cases bad with
  | true =>
    go_enter Try.func36, Try.ntmps36
    go_wp2_with (go_at_call 35; refine HF.out.mono ?_; rintro e w' ⟨rfl, hr, hw⟩)
    go_ret
    exact ⟨rfl, hr, hw⟩
  | false =>
    by_cases h0 : k < 0
    · go_enter Try.func36, Try.ntmps36
      go_wp2_with (go_at_call 35; refine HF.out.mono ?_; rintro e w' ⟨rfl, hr, hw⟩)
      go_ret
      exact ⟨rfl, hr, hw⟩
    · have hkl : (bs.length : Int) < k := by simp at hk; omega
      clear hk
      go_enter Try.func36, Try.ntmps36
      go_wp2_with (go_at_call 35; refine HF.out.mono ?_; rintro e w' ⟨rfl, hr, hw⟩)
      go_ret
      exact ⟨rfl, hr, hw⟩

/-- What a read does to the world: the reader's block may turn, new blocks may come. -/
theorem grown_trans {a b c : World} {r : Option Nat} (h : a.grownBy b r) (k : b.grownBy c r) : a.grownBy c r := World.grownBy.trans h k
theorem grown_of_below {a b : World} (h : Below a.heap.size a b) (r : Option Nat) : a.grownBy b r := ⟨h.os, h.tape, h.output, h.size, fun i hi _ => h.block i hi⟩
theorem grown_drewN (w : World) (k : Nat) (r : Option Nat) : w.grownBy (w.drewN k) r := ⟨rfl, rfl, rfl, Nat.le_refl _, fun _ _ _ => rfl⟩

/-- What peek hands back. -/
def Peeked (bs : List UInt8) (w : World) (e : Ending) (w' : World) : Prop :=
  e = .returned (match dec bs with
        | some (x, n) => .tuple #[.int .u64 x, .int .i64 n, .bool true]
        | none => .tuple #[.int .u64 0, .int .i64 0, .bool false]) ∧ Below w.heap.size w w'

set_option maxRecDepth 100000 in
set_option maxHeartbeats 1000000 in
theorem peek_ge (g : Nat) (bs : List UInt8) (w : World) (h : Rdr w g bs false) (hlen : (10 : Int) < (bs.length : Int)) :
    Calls Try.prog 34 #[.pointer (some ⟨g, 0, none⟩)] w fun e w' => Peeked bs w e w' := by
  have hh := h
  obtain ⟨A, c, h1, h2, h3, h4⟩ := h
  have hc0 : w.cell? ⟨g, 0, none⟩ = some (.slice A bs.length c) := by simp [World.cell?, h1]
  have hc1 : w.cell? ⟨g, 1, none⟩ = some (.bool false) := by simp [World.cell?, h1]
  clear h1
  have emax : max (10 : Int) 0 = 10 := by decide
  go_enter Try.func34, Try.ntmps34
  go_wp2_with fail
  go_quiet (fail)
  go_wp2_with fail
  go_loopw [2, 3, 30] (fun x n i wr => ∃ (k q X : Nat), k ≤ 10 ∧ i = .int .i64 k ∧ n = .int .i64 0 ∧ x = .int .u64 (X : Int) ∧ Hid (X = val (bs.take k) % 18446744073709551616) ∧ Hid (∀ j b, j < k → bs[j]? = some b → 128 ≤ b.toNat) ∧ wr = w.drewN q)
    (fun _ _ i _ => 10 - (intOf i).toNat)
  case atStart => exact ⟨0, _, 0, Nat.zero_le _, rfl, rfl, rfl, by show 0 = _; simp [val], fun j b h => by omega, rfl⟩
  case round =>
    obtain ⟨k, q, X, hk, rfl, rfl, rfl, hX, hhi, rfl⟩ := hrel
    by_cases hlt : k < 10
    · obtain ⟨ad, u, rfl, hB, hu, hcu⟩ := h4.at (k := k) (by omega)
      obtain ⟨b, hb, rfl⟩ := bvs_get hu
      have hcb : w.cell? (ad.add k) = some (.int .u8 b.toNat) := hcu
      clear hcu hu
      have hb2 : b.toNat < 256 := b.toNat_lt
      have hk7 : (k : Int) ≤ 9 := by omega
      obtain ⟨Y, hY⟩ : ∃ Y, Y = val (bs.take (k + 1)) % 18446744073709551616 := ⟨_, rfl⟩
      have hor := or_step (by omega) hb hX.out
      rw [← hY] at hor
      have HY := Lib.hid hY; clear hY
      have hYu : U64 Y := U64.mk (by rw [HY.out]; omega)
      by_cases hlow : b.toNat < 128
      · have hlow' : (b.toNat : Int) < 128 := by omega
        have hdec := dec_peek hhi.out hb hlow
        rw [← HY.out] at hdec
        have HD := Lib.hid hdec; clear hdec
        have hkn : ((k : Int) + 1 == 0) = false := by rw [beq_eq_false_iff_ne]; omega
        go_wp2_with fail
        have hkl : (k : Int) + 1 ≤ (bs.length : Int) := by omega
        have hYl := hYu.len
        obtain ⟨t, ht⟩ : ∃ t, decide (leb Y = bs.take (k + 1)) = t := ⟨_, rfl⟩
        have HT := Lib.hid ht; clear ht
        have hkl0 : (0 : Int) ≤ (k : Int) + 1 := by omega
        have hklc : (k : Int) + 1 ≤ (c : Int) := by omega
        have hgl := hh.lt
        have htk : bvs (bs.take (k + 1)) = (bvs bs).take (k + 1) := by simp [bvs, List.map_take]
        have hrk := (h4.take (k := k + 1) (by omega)).more (B' := w.heap.size) (by omega)
        rw [← htk] at hrk
        clear htk
        go_region_held3 (fun w' => w'.cell? ⟨g, 0, none⟩ = some (.slice (some ad) bs.length c))
          (first | go_keep | (rw [hb1.cell (by simpa using hgl)]; assumption))
          (first | (go_at_call 10; refine (bin_uint _ _ hYu).mono ?_; rintro e w1 ⟨v, rfl, hown, hb1⟩; obtain ⟨A1, c1, rfl, hr1⟩ := own_rd hown) | (go_at_call 9; refine (equal_t hr1 ((hrk.drewN _).below hb1) (by omega) (by omega) HT).mono ?_; rintro e w2 ⟨rfl, q2, rfl⟩))
        have hbel : Below w.heap.size w (w1.drewN q2) := below_drewN ((below_drewN (Below.refl _ w) (q + 1)).trans hb1) q2
        clear hown hr1 hb1 hor
        cases t with
        | true =>
          have HE : Hid (dec bs = some (Y, k + 1)) := by show _ = _; rw [HD.out, if_pos (of_decide_eq_true HT.out)]
          go_wp2_with fail
          go_ret3
          have ek : ((k + 1 : Nat) : Int) = (k : Int) + 1 := by omega
          exact ⟨by rw [HE.out]; show _ = Ending.returned (.tuple #[.int .u64 (Y : Int), .int .i64 ((k + 1 : Nat) : Int), .bool true]); rw [ek]; rfl, hbel⟩
        | false =>
          have HE : Hid (dec bs = none) := by show _ = _; rw [HD.out, if_neg (of_decide_eq_false HT.out)]
          go_wp2_with fail
          go_ret3
          exact ⟨by rw [HE.out]; rfl, hbel⟩
      · have hlow' : ¬ (b.toNat : Int) < 128 := by omega
        go_wp2_with fail
        go_roundw
        case rel =>
          refine ⟨k + 1, _, Y, by omega, by go_num, rfl, rfl, HY, ?_, rfl⟩
          intro j c hj hc
          by_cases hjk : j = k
          · subst hjk; rw [hb] at hc; injection hc with hc; subst hc; omega
          · exact hhi.out j c (by omega) hc
        case measure => simp [intOf]; omega
    · have hkm : k = 10 := by omega
      have hdn : dec bs = none := dec_none_long hhi.out (by omega)
      have HD := Lib.hid hdn; clear hdn hkm
      go_wp2_with fail
      go_quiet (fail)
      go_wp2_with fail
      go_ret3
      exact ⟨by rw [HD.out]; rfl, below_drewN (below_drewN (Below.refl _ w) _) _⟩

set_option maxRecDepth 100000 in
set_option maxHeartbeats 1000000 in
theorem peek_lt (g : Nat) (bs : List UInt8) (w : World) (h : Rdr w g bs false) (hlen : (bs.length : Int) ≤ 10) :
    Calls Try.prog 34 #[.pointer (some ⟨g, 0, none⟩)] w fun e w' => Peeked bs w e w' := by
  have hh := h
  obtain ⟨A, c, h1, h2, h3, h4⟩ := h
  have hc0 : w.cell? ⟨g, 0, none⟩ = some (.slice A bs.length c) := by simp [World.cell?, h1]
  have hc1 : w.cell? ⟨g, 1, none⟩ = some (.bool false) := by simp [World.cell?, h1]
  clear h1
  have emax : max (10 : Int) 0 = 10 := by decide
  go_enter Try.func34, Try.ntmps34
  go_wp2_with fail
  go_quiet (fail)
  go_wp2_with fail
  go_loopw [2, 3, 30] (fun x n i wr => ∃ (k q X : Nat), k ≤ bs.length ∧ i = .int .i64 k ∧ n = .int .i64 0 ∧ x = .int .u64 (X : Int) ∧ Hid (X = val (bs.take k) % 18446744073709551616) ∧ Hid (∀ j b, j < k → bs[j]? = some b → 128 ≤ b.toNat) ∧ wr = w.drewN q)
    (fun _ _ i _ => bs.length - (intOf i).toNat)
  case atStart => exact ⟨0, _, 0, Nat.zero_le _, rfl, rfl, rfl, by show 0 = _; simp [val], fun j b h => by omega, rfl⟩
  case round =>
    obtain ⟨k, q, X, hk, rfl, rfl, rfl, hX, hhi, rfl⟩ := hrel
    by_cases hlt : k < bs.length
    · obtain ⟨ad, u, rfl, hB, hu, hcu⟩ := h4.at (k := k) (by omega)
      obtain ⟨b, hb, rfl⟩ := bvs_get hu
      have hcb : w.cell? (ad.add k) = some (.int .u8 b.toNat) := hcu
      clear hcu hu
      have hb2 : b.toNat < 256 := b.toNat_lt
      have hk7 : (k : Int) ≤ 9 := by omega
      obtain ⟨Y, hY⟩ : ∃ Y, Y = val (bs.take (k + 1)) % 18446744073709551616 := ⟨_, rfl⟩
      have hor := or_step (by omega) hb hX.out
      rw [← hY] at hor
      have HY := Lib.hid hY; clear hY
      have hYu : U64 Y := U64.mk (by rw [HY.out]; omega)
      by_cases hlow : b.toNat < 128
      · have hlow' : (b.toNat : Int) < 128 := by omega
        have hdec := dec_peek hhi.out hb hlow
        rw [← HY.out] at hdec
        have HD := Lib.hid hdec; clear hdec
        have hkn : ((k : Int) + 1 == 0) = false := by rw [beq_eq_false_iff_ne]; omega
        go_wp2_with fail
        have hkl : (k : Int) + 1 ≤ (bs.length : Int) := by omega
        have hYl := hYu.len
        obtain ⟨t, ht⟩ : ∃ t, decide (leb Y = bs.take (k + 1)) = t := ⟨_, rfl⟩
        have HT := Lib.hid ht; clear ht
        have hkl0 : (0 : Int) ≤ (k : Int) + 1 := by omega
        have hklc : (k : Int) + 1 ≤ (c : Int) := by omega
        have hgl := hh.lt
        have htk : bvs (bs.take (k + 1)) = (bvs bs).take (k + 1) := by simp [bvs, List.map_take]
        have hrk := (h4.take (k := k + 1) (by omega)).more (B' := w.heap.size) (by omega)
        rw [← htk] at hrk
        clear htk
        go_region_held3 (fun w' => w'.cell? ⟨g, 0, none⟩ = some (.slice (some ad) bs.length c))
          (first | go_keep | (rw [hb1.cell (by simpa using hgl)]; assumption))
          (first | (go_at_call 10; refine (bin_uint _ _ hYu).mono ?_; rintro e w1 ⟨v, rfl, hown, hb1⟩; obtain ⟨A1, c1, rfl, hr1⟩ := own_rd hown) | (go_at_call 9; refine (equal_t hr1 ((hrk.drewN _).below hb1) (by omega) (by omega) HT).mono ?_; rintro e w2 ⟨rfl, q2, rfl⟩))
        have hbel : Below w.heap.size w (w1.drewN q2) := below_drewN ((below_drewN (Below.refl _ w) (q + 1)).trans hb1) q2
        clear hown hr1 hb1 hor
        cases t with
        | true =>
          have HE : Hid (dec bs = some (Y, k + 1)) := by show _ = _; rw [HD.out, if_pos (of_decide_eq_true HT.out)]
          go_wp2_with fail
          go_ret3
          have ek : ((k + 1 : Nat) : Int) = (k : Int) + 1 := by omega
          exact ⟨by rw [HE.out]; show _ = Ending.returned (.tuple #[.int .u64 (Y : Int), .int .i64 ((k + 1 : Nat) : Int), .bool true]); rw [ek]; rfl, hbel⟩
        | false =>
          have HE : Hid (dec bs = none) := by show _ = _; rw [HD.out, if_neg (of_decide_eq_false HT.out)]
          go_wp2_with fail
          go_ret3
          exact ⟨by rw [HE.out]; rfl, hbel⟩
      · have hlow' : ¬ (b.toNat : Int) < 128 := by omega
        go_wp2_with fail
        go_roundw
        case rel =>
          refine ⟨k + 1, _, Y, by omega, by go_num, rfl, rfl, HY, ?_, rfl⟩
          intro j c hj hc
          by_cases hjk : j = k
          · subst hjk; rw [hb] at hc; injection hc with hc; subst hc; omega
          · exact hhi.out j c (by omega) hc
        case measure => simp [intOf]; omega
    · have hkm : k = bs.length := by omega
      have hdn : dec bs = none := dec_none_long hhi.out (by omega)
      have HD := Lib.hid hdn; clear hdn hkm
      go_wp2_with fail
      go_quiet (fail)
      go_wp2_with fail
      go_ret3
      exact ⟨by rw [HD.out]; rfl, below_drewN (below_drewN (Below.refl _ w) _) _⟩

end Go.Proofs.Ytmhjkghmpdnhaaa
