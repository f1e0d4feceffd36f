/- The reference's reads. -/
import Derived.Test.YtmhjkghmpdnhaaaRef
namespace Go.Proofs.Ytmhjkghmpdnhaaa
open Go.RowKit

theorem number_some {A : Option Addr} {c : Nat} {bs : List UInt8} {w : World} {B x n : Nat} (hr : Rd w B A bs.length (bvs bs)) (hn : bs.length ≤ 1000000) (hd : Hid (dec bs = some (x, n))) :
    Calls Try.prog 37 #[.slice A bs.length c] w fun e w' => e = .returned (.tuple #[.int .u64 x, .int .i64 n]) ∧ w = w' :=
  (number_any A c bs w B hr hn).mono fun _ _ ⟨h, k⟩ => ⟨by rw [h, hd.out]; rfl, k⟩
theorem number_none {A : Option Addr} {c : Nat} {bs : List UInt8} {w : World} {B : Nat} (hr : Rd w B A bs.length (bvs bs)) (hn : bs.length ≤ 1000000) (hd : Hid (dec bs = none)) :
    Calls Try.prog 37 #[.slice A bs.length c] w fun e w' => e = .returned (.tuple #[.int .u64 0, .int .i64 0]) ∧ w = w' :=
  (number_any A c bs w B hr hn).mono fun _ _ ⟨h, k⟩ => ⟨by rw [h, hd.out]; rfl, k⟩

/-- A reader that is a value. -/
structure RV (w : World) (B : Nat) (v : Value) (bs : List UInt8) (bad : Bool) : Prop where
  hB : B ≤ w.heap.size
  hl : bs.length ≤ 1000000
  ex : ∃ A c, v = .agg #[.slice A bs.length c, .bool bad] ∧ bs.length ≤ c ∧ Rd w B A bs.length (bvs bs)
theorem RV.below {w w' : World} {B B' : Nat} {v : Value} {bs : List UInt8} {bad : Bool} (h : RV w B v bs bad) (hb : Below B' w w') (hB : B ≤ B') : RV w' B v bs bad := by
  obtain ⟨A, c, h1, h2, h3⟩ := h.ex
  exact ⟨Nat.le_trans h.hB hb.size, h.hl, A, c, h1, h2, h3.below (hb.mono hB)⟩

theorem RV.mk' {w : World} {B : Nat} {A : Option Addr} {m c : Nat} {bs : List UInt8} {bad : Bool} (hB : B ≤ w.heap.size) (hm : bs.length = m) (hl : m ≤ 1000000) (hc : m ≤ c) (hr : Rd w B A m (bvs bs)) : RV w B (.agg #[.slice A m c, .bool bad]) bs bad := by
  subst hm; exact ⟨hB, hl, A, c, rfl, hc, hr⟩

theorem two_below {w : World} (o1 o2 : Obj) : Below w.heap.size w ((w.alloc o1).alloc o2) := ((Below.refl _ _).alloc (Nat.le_refl _) _).alloc (by simp) _

set_option maxRecDepth 100000 in
set_option maxHeartbeats 2000000 in
theorem rtake_yes {v : Value} {bs : List UInt8} {w : World} {B K : Nat} (h : RV w B v bs false) (hK : K ≤ bs.length) :
    Calls Try.prog 27 #[v, .int .i64 K] w fun e w' => ∃ v' A c, e = .returned (.tuple #[v', .slice A K c]) ∧ RV w' B v' (bs.drop K) false ∧ Rd w' B A K (bvs (bs.take K)) ∧ Below w.heap.size w w' := by
  obtain ⟨hB, hl, A, c, rfl, hc, hr⟩ := h
  have hkl : ¬ (bs.length : Int) < (K : Int) := by omega
  have hkl2 : (K : Int) ≤ (bs.length : Int) := by omega
  have hk0 : ¬ (K : Int) < 0 := by omega
  have hkc : (K : Int) ≤ (c : Int) := by omega
  have hk1 : (0 : Int) ≤ (K : Int) := by omega
  go_enter Try.func27, Try.ntmps27
  go_wp2_with fail
  by_cases hcK : c = K
  all_goals
    go_region_held3 (fun w' => w'.cell? ⟨w.heap.size, 0, none⟩ = some (.slice A bs.length c)) (go_keep) (first | (fail))
    go_wp2_with fail
    have ht : bvs (bs.take K) = (bvs bs).take K := by simp [bvs, List.map_take]
    have hdp : bvs (bs.drop K) = (bvs bs).drop K := by simp [bvs, List.map_drop]
    have hr2 := hr.drop (cap := c) hK hc
    refine bodyPost_ret (v := .tuple #[.agg #[.slice (if c = K then A else A.map (·.add K)) (bs.length - K) (c - K), .bool false], .slice A K c]) (by simp [results, Try.results27, go_sem, hcK]) rfl ⟨_, A, c, rfl, RV.mk' (by simp; omega) (by simp) (by omega) (by omega) ?_, ?_, ?_⟩
    · rw [hdp]; exact hr2.below ((below_drewN (two_below _ _) 1).mono hB)
    · rw [ht]; exact (hr.take hK).below ((below_drewN (two_below _ _) 1).mono hB)
    · exact below_drewN (two_below _ _) 1

set_option maxRecDepth 100000 in
set_option maxHeartbeats 2000000 in
theorem rtake_no {v : Value} {bs : List UInt8} {bad : Bool} {w : World} {B : Nat} {k : Int} (h : RV w B v bs bad) (hk : bad = true ∨ k < 0 ∨ (bs.length : Int) < k) :
    Calls Try.prog 27 #[v, .int .i64 k] w fun e w' => ∃ v', e = .returned (.tuple #[v', .slice none 0 0]) ∧ RV w' B v' bs true ∧ Below w.heap.size w w' := by
  obtain ⟨hB, hl, A, c, rfl, hc, hr⟩ := h
  cases bad with
  | true =>
    clear hk
    go_enter Try.func27, Try.ntmps27
    go_wp2_with fail
    refine bodyPost_ret (v := .tuple #[.agg #[.slice A bs.length c, .bool true], .slice none 0 0]) (by simp [results, Try.results27, go_sem]) rfl ⟨_, rfl, RV.mk' (by simp; omega) rfl hl hc (hr.below ((two_below _ _).mono hB)), two_below _ _⟩
  | false =>
    by_cases h0 : k < 0
    · clear hk
      go_enter Try.func27, Try.ntmps27
      go_wp2_with fail
      refine bodyPost_ret (v := .tuple #[.agg #[.slice A bs.length c, .bool true], .slice none 0 0]) (by simp [results, Try.results27, go_sem]) rfl ⟨_, rfl, RV.mk' (by simp; omega) rfl hl hc (hr.below ((two_below _ _).mono hB)), two_below _ _⟩
    · have hkl : (bs.length : Int) < k := by simp at hk; omega
      clear hk
      go_enter Try.func27, Try.ntmps27
      go_wp2_with fail
      refine bodyPost_ret (v := .tuple #[.agg #[.slice A bs.length c, .bool true], .slice none 0 0]) (by simp [results, Try.results27, go_sem]) rfl ⟨_, rfl, RV.mk' (by simp; omega) rfl hl hc (hr.below ((two_below _ _).mono hB)), two_below _ _⟩

set_option maxRecDepth 100000 in
set_option maxHeartbeats 2000000 in
theorem ruint_some {v : Value} {bs : List UInt8} {w : World} {B x n : Nat} (h : RV w B v bs false) (hd : Hid (dec bs = some (x, n))) :
    Calls Try.prog 20 #[v] w fun e w' => ∃ v', e = .returned (.tuple #[v', .int .u64 x]) ∧ RV w' B v' (bs.drop n) false ∧ Below w.heap.size w w' := by
  obtain ⟨hB, hl, A, c, rfl, hc, hr⟩ := h
  have hds := dec_some hd.out
  have hn : n ≤ bs.length := hds.2.2.2.2
  have hn0 : ((n : Int) == 0) = false := by rw [beq_eq_false_iff_ne]; omega
  clear hds
  have hnl : (n : Int) ≤ (bs.length : Int) := by omega
  go_enter Try.func20, Try.ntmps20
  go_wp2_with fail
  refine (number_some (hr.below ((two_below _ _).mono hB)) hl hd).mono ?_
  rintro e _ ⟨rfl, rfl⟩
  by_cases hcK : c = n
  all_goals
    go_wp2_with fail
    have hdp : bvs (bs.drop n) = (bvs bs).drop n := by simp [bvs, List.map_drop]
    have hr2 := hr.drop (cap := c) hn hc
    refine bodyPost_ret (v := .tuple #[.agg #[.slice (if c = n then A else A.map (·.add n)) (bs.length - n) (c - n), .bool false], .int .u64 x]) (by simp [results, Try.results20, go_sem, hcK]) rfl ⟨_, rfl, RV.mk' (by simp; omega) (by simp) (by omega) (by omega) ?_, two_below _ _⟩
    rw [hdp]; exact hr2.below ((two_below _ _).mono hB)

set_option maxRecDepth 100000 in
set_option maxHeartbeats 2000000 in
theorem ruint_no {v : Value} {bs : List UInt8} {bad : Bool} {w : World} {B : Nat} (h : RV w B v bs bad) (hd : Hid (bad = true ∨ dec bs = none)) :
    Calls Try.prog 20 #[v] w fun e w' => ∃ v', e = .returned (.tuple #[v', .int .u64 0]) ∧ RV w' B v' bs true ∧ Below w.heap.size w w' := by
  obtain ⟨hB, hl, A, c, rfl, hc, hr⟩ := h
  cases bad with
  | true =>
    cases hdd : dec bs with
    | none =>
      have HD := Lib.hid hdd; clear hdd hd
      go_enter Try.func20, Try.ntmps20
      go_wp2_with fail
      refine (number_none (hr.below ((two_below _ _).mono hB)) hl HD).mono ?_
      rintro e _ ⟨rfl, rfl⟩
      go_wp2_with fail
      refine bodyPost_ret (v := .tuple #[.agg #[.slice A bs.length c, .bool true], .int .u64 0]) (by simp [results, Try.results20, go_sem]) rfl ⟨_, rfl, RV.mk' (by simp; omega) rfl hl hc (hr.below ((two_below _ _).mono hB)), two_below _ _⟩
    | some p =>
      obtain ⟨x, n⟩ := p
      have HD := Lib.hid hdd; clear hdd hd
      go_enter Try.func20, Try.ntmps20
      go_wp2_with fail
      refine (number_some (hr.below ((two_below _ _).mono hB)) hl HD).mono ?_
      rintro e _ ⟨rfl, rfl⟩
      go_wp2_with fail
      refine bodyPost_ret (v := .tuple #[.agg #[.slice A bs.length c, .bool true], .int .u64 0]) (by simp [results, Try.results20, go_sem]) rfl ⟨_, rfl, RV.mk' (by simp; omega) rfl hl hc (hr.below ((two_below _ _).mono hB)), two_below _ _⟩
  | false =>
    have HD : Hid (dec bs = none) := by rcases hd.out with h | h; cases h; exact h
    clear hd
    go_enter Try.func20, Try.ntmps20
    go_wp2_with fail
    refine (number_none (hr.below ((two_below _ _).mono hB)) hl HD).mono ?_
    rintro e _ ⟨rfl, rfl⟩
    go_wp2_with fail
    refine bodyPost_ret (v := .tuple #[.agg #[.slice A bs.length c, .bool true], .int .u64 0]) (by simp [results, Try.results20, go_sem]) rfl ⟨_, rfl, RV.mk' (by simp; omega) rfl hl hc (hr.below ((two_below _ _).mono hB)), two_below _ _⟩

theorem unzz_even (x : Nat) : (x % 2 = 0 → unzz x = (x : Int) / 2) ∧ (¬ x % 2 = 0 → unzz x = -((x : Int) / 2) - 1) := by
  unfold unzz
  constructor <;> intro h
  · rw [if_pos h]; omega
  · rw [if_neg h]; omega

set_option maxRecDepth 100000 in
set_option maxHeartbeats 2000000 in
theorem rint_any {v : Value} {bs bs' : List UInt8} {bad bad' : Bool} {w : World} {B x : Nat} (hx : U64 x) (h : RV w B v bs bad)
    (hc : ∀ w, RV w B v bs bad → Calls Try.prog 20 #[v] w fun e w' => ∃ v', e = .returned (.tuple #[v', .int .u64 x]) ∧ RV w' B v' bs' bad' ∧ Below w.heap.size w w') :
    Calls Try.prog 22 #[v] w fun e w' => ∃ v', e = .returned (.tuple #[v', .int .i64 (unzz x)]) ∧ RV w' B v' bs' bad' ∧ Below w.heap.size w w' := by
  have HC := Lib.hid hc; clear hc
  have hh := h
  obtain ⟨hB, hl, A, c, rfl, hcc, hr⟩ := h
  have hxl := hx.lt
  have h1 := HC.out _ (hh.below (two_below (w := w) (.cells #[.slice A bs.length c, .bool bad] 37) (.cells #[.slice none 0 0, .bool false] 37)) hB)
  have H1 := Lib.hid h1; clear h1
  go_enter Try.func22, Try.ntmps22
  go_wp2_with fail
  refine H1.out.mono ?_
  rintro e w1 ⟨v', rfl, hv, hb⟩
  obtain ⟨hB', hl', A', c', rfl, hc', hr'⟩ := hv
  obtain ⟨b0, b1⟩ := two_boxes hb
  have c0 := blk_cell b0 0 _ rfl
  have c1 := blk_cell b0 1 _ rfl
  have f0 := blk_frozen b0 0
  have f1 := blk_frozen b0 1
  have d0 := blk_cell b1 0 _ rfl
  have d1 := blk_cell b1 1 _ rfl
  have e0 := blk_frozen b1 0
  have e1 := blk_frozen b1 1
  have hbel : Below w.heap.size w w1 := (two_below _ _).trans (hb.mono (by simp; omega))
  clear b0 b1
  have huz := unzz_even x
  have HUZ := Lib.hid huz; clear huz
  by_cases hev : x % 2 = 0
  · have hev' : (((x : Int) % 2) == 0) = true := by rw [beq_iff_eq]; omega
    have HE := Lib.hid (HUZ.out.1 hev)
    clear hev
    go_wp2_with fail
    have hbf := ((((hbel.setCell (p := ⟨w.heap.size, 0, none⟩) (Nat.le_refl _) (.slice A' bs'.length c')).setCell (p := ⟨w.heap.size, 1, none⟩) (Nat.le_refl _) (.bool bad')).setCell (p := ⟨w.heap.size + 1, 0, none⟩) (by simp) (.slice A' bs'.length c')).setCell (p := ⟨w.heap.size + 1, 1, none⟩) (by simp) (.bool bad'))
    have hrf := ((((hr'.setCell (p := ⟨w.heap.size, 0, none⟩) hB (.slice A' bs'.length c')).setCell (p := ⟨w.heap.size, 1, none⟩) hB (.bool bad')).setCell (p := ⟨w.heap.size + 1, 0, none⟩) (by simp; omega) (.slice A' bs'.length c')).setCell (p := ⟨w.heap.size + 1, 1, none⟩) (by simp; omega) (.bool bad'))
    have hd0 := World.cell?_setCell_same (w := ((w1.setCell ⟨w.heap.size, 0, none⟩ (.slice A' bs'.length c')).setCell ⟨w.heap.size, 1, none⟩ (.bool bad'))) (a := ⟨w.heap.size + 1, 0, none⟩) (.slice A' bs'.length c') (u := .slice none 0 0) (by rw [World.cell?_setCell_other _ _ _ _ (by simp), World.cell?_setCell_other _ _ _ _ (by simp)]; exact d0)
    refine bodyPost_ret (v := .tuple #[.agg #[.slice A' bs'.length c', .bool bad'], .int .i64 (unzz x)]) (by rw [HE.out]; simp [results, Try.results22, go_sem, d1, hd0]) rfl ⟨_, rfl, ⟨?_, hl', A', c', rfl, hc', hrf⟩, hbf⟩
    exact Nat.le_trans hB hbf.size
  · have hev' : (((x : Int) % 2) == 0) = false := by rw [beq_eq_false_iff_ne]; omega
    have HE := Lib.hid (HUZ.out.2 hev)
    clear hev
    go_wp2_with fail
    have hbf := ((((hbel.setCell (p := ⟨w.heap.size, 0, none⟩) (Nat.le_refl _) (.slice A' bs'.length c')).setCell (p := ⟨w.heap.size, 1, none⟩) (Nat.le_refl _) (.bool bad')).setCell (p := ⟨w.heap.size + 1, 0, none⟩) (by simp) (.slice A' bs'.length c')).setCell (p := ⟨w.heap.size + 1, 1, none⟩) (by simp) (.bool bad'))
    have hrf := ((((hr'.setCell (p := ⟨w.heap.size, 0, none⟩) hB (.slice A' bs'.length c')).setCell (p := ⟨w.heap.size, 1, none⟩) hB (.bool bad')).setCell (p := ⟨w.heap.size + 1, 0, none⟩) (by simp; omega) (.slice A' bs'.length c')).setCell (p := ⟨w.heap.size + 1, 1, none⟩) (by simp; omega) (.bool bad'))
    have hd0 := World.cell?_setCell_same (w := ((w1.setCell ⟨w.heap.size, 0, none⟩ (.slice A' bs'.length c')).setCell ⟨w.heap.size, 1, none⟩ (.bool bad'))) (a := ⟨w.heap.size + 1, 0, none⟩) (.slice A' bs'.length c') (u := .slice none 0 0) (by rw [World.cell?_setCell_other _ _ _ _ (by simp), World.cell?_setCell_other _ _ _ _ (by simp)]; exact d0)
    refine bodyPost_ret (v := .tuple #[.agg #[.slice A' bs'.length c', .bool bad'], .int .i64 (unzz x)]) (by rw [HE.out]; simp [results, Try.results22, go_sem, d1, hd0]) rfl ⟨_, rfl, ⟨?_, hl', A', c', rfl, hc', hrf⟩, hbf⟩
    exact Nat.le_trans hB hbf.size

set_option maxRecDepth 100000 in
set_option maxHeartbeats 2000000 in
theorem rdone_any {v : Value} {bs : List UInt8} {bad : Bool} {w : World} {B : Nat} (h : RV w B v bs bad) :
    Calls Try.prog 30 #[v] w fun e w' => e = .returned (.bool (doneB bs bad)) ∧ Below w.heap.size w w' := by
  obtain ⟨hB, hl, A, c, rfl, hc, hr⟩ := h
  have hbb : Below w.heap.size w (w.alloc (.cells #[.slice A bs.length c, .bool bad] 37)) := (Below.refl _ _).alloc (Nat.le_refl _) _
  cases bad with
  | true =>
    go_enter Try.func30, Try.ntmps30
    go_wp2_with fail
    go_ret
    exact ⟨rfl, hbb⟩
  | false =>
    by_cases hb : bs = []
    · have e : doneB bs false = true := by subst hb; rfl
      have E := Lib.hid e
      have hz : (((bs.length : Nat) : Int) == 0) = true := by subst hb; rfl
      clear hb e
      go_enter Try.func30, Try.ntmps30
      go_wp2_with fail
      go_ret
      exact ⟨by rw [E.out]; rfl, hbb⟩
    · have e : doneB bs false = false := by cases bs; exact absurd rfl hb; rfl
      have E := Lib.hid e
      have hz : (((bs.length : Nat) : Int) == 0) = false := by cases bs; exact absurd rfl hb; rw [beq_eq_false_iff_ne]; simp; omega
      clear hb e
      go_enter Try.func30, Try.ntmps30
      go_wp2_with fail
      go_ret
      exact ⟨by rw [E.out]; rfl, hbb⟩

set_option maxRecDepth 100000 in
set_option maxHeartbeats 2000000 in
theorem rbytes_no {v : Value} {bs : List UInt8} {bad : Bool} {w : World} {B : Nat} (h : RV w B v bs bad) (hd : Hid (bad = true ∨ dec bs = none)) :
    Calls Try.prog 24 #[v] w fun e w' => ∃ v', e = .returned (.tuple #[v', .slice none 0 0]) ∧ RV w' B v' bs true ∧ Below w.heap.size w w' := by
  obtain ⟨hB, hl, A, c, rfl, hc, hr⟩ := h
  cases bad with
  | true =>
    cases hdd : dec bs with
    | none =>
      have HD := Lib.hid hdd; clear hdd hd
      go_enter Try.func24, Try.ntmps24
      go_wp2_with fail
      refine (number_none (hr.below ((two_below _ _).mono hB)) hl HD).mono ?_
      rintro e _ ⟨rfl, rfl⟩
      go_wp2_with fail
      refine bodyPost_ret (v := .tuple #[.agg #[.slice A bs.length c, .bool true], .slice none 0 0]) (by simp [results, Try.results24, go_sem]) rfl ⟨_, rfl, RV.mk' (by simp; omega) rfl hl hc (hr.below ((two_below _ _).mono hB)), two_below _ _⟩
    | some p =>
      obtain ⟨x, n⟩ := p
      have HD := Lib.hid hdd; clear hdd hd
      go_enter Try.func24, Try.ntmps24
      go_wp2_with fail
      refine (number_some (hr.below ((two_below _ _).mono hB)) hl HD).mono ?_
      rintro e _ ⟨rfl, rfl⟩
      go_wp2_with fail
      refine bodyPost_ret (v := .tuple #[.agg #[.slice A bs.length c, .bool true], .slice none 0 0]) (by simp [results, Try.results24, go_sem]) rfl ⟨_, rfl, RV.mk' (by simp; omega) rfl hl hc (hr.below ((two_below _ _).mono hB)), two_below _ _⟩
  | false =>
    have HD : Hid (dec bs = none) := by rcases hd.out with h | h; cases h; exact h
    clear hd
    go_enter Try.func24, Try.ntmps24
    go_wp2_with fail
    refine (number_none (hr.below ((two_below _ _).mono hB)) hl HD).mono ?_
    rintro e _ ⟨rfl, rfl⟩
    go_wp2_with fail
    refine bodyPost_ret (v := .tuple #[.agg #[.slice A bs.length c, .bool true], .slice none 0 0]) (by simp [results, Try.results24, go_sem]) rfl ⟨_, rfl, RV.mk' (by simp; omega) rfl hl hc (hr.below ((two_below _ _).mono hB)), two_below _ _⟩

set_option maxRecDepth 100000 in
set_option maxHeartbeats 2000000 in
theorem rbytes_few {v : Value} {bs : List UInt8} {w : World} {B x n : Nat} (h : RV w B v bs false) (hd : Hid (dec bs = some (x, n))) (hx : bs.length - n < x) :
    Calls Try.prog 24 #[v] w fun e w' => ∃ v', e = .returned (.tuple #[v', .slice none 0 0]) ∧ RV w' B v' bs true ∧ Below w.heap.size w w' := by
  obtain ⟨hB, hl, A, c, rfl, hc, hr⟩ := h
  have hds := dec_some hd.out
  have hn : n ≤ bs.length := hds.2.2.2.2
  have hn0 : ((n : Int) == 0) = false := by rw [beq_eq_false_iff_ne]; omega
  have hxu : x < 18446744073709551616 := hds.2.1
  clear hds
  have hx' : (bs.length : Int) - (n : Int) < (x : Int) := by omega
  go_enter Try.func24, Try.ntmps24
  go_wp2_with fail
  refine (number_some (hr.below ((two_below _ _).mono hB)) hl hd).mono ?_
  rintro e _ ⟨rfl, rfl⟩
  go_wp2_with fail
  refine bodyPost_ret (v := .tuple #[.agg #[.slice A bs.length c, .bool true], .slice none 0 0]) (by simp [results, Try.results24, go_sem]) rfl ⟨_, rfl, RV.mk' (by simp; omega) rfl hl hc (hr.below ((two_below _ _).mono hB)), two_below _ _⟩

set_option maxRecDepth 100000 in
set_option maxHeartbeats 2000000 in
theorem rbytes_yes {v : Value} {bs : List UInt8} {w : World} {B x n : Nat} (h : RV w B v bs false) (hd : Hid (dec bs = some (x, n))) (hx : x ≤ bs.length - n) :
    Calls Try.prog 24 #[v] w fun e w' => ∃ v' A c, e = .returned (.tuple #[v', .slice A x c]) ∧ RV w' B v' ((bs.drop n).drop x) false ∧ Rd w' B A x (bvs ((bs.drop n).take x)) ∧ Below w.heap.size w w' := by
  obtain ⟨hB, hl, A, c, rfl, hc, hr⟩ := h
  have hds := dec_some hd.out
  have hn : n ≤ bs.length := hds.2.2.2.2
  have hn0 : ((n : Int) == 0) = false := by rw [beq_eq_false_iff_ne]; omega
  clear hds
  have hx' : ¬ (bs.length : Int) - (n : Int) < (x : Int) := by omega
  have hxi : (x : Int) ≤ 1000000 := by omega
  have hnl : (n : Int) ≤ (bs.length : Int) := by omega
  have hdp : bvs (bs.drop n) = (bvs bs).drop n := by simp [bvs, List.map_drop]
  have hr2 := hr.drop (cap := c) hn hc
  rw [← hdp] at hr2
  clear hdp
  go_enter Try.func24, Try.ntmps24
  go_wp2_with fail
  refine (number_some (hr.below ((two_below _ _).mono hB)) hl hd).mono ?_
  rintro e _ ⟨rfl, rfl⟩
  by_cases hcK : c = n
  · rw [if_pos hcK] at hr2
    have hrv := fun W (hb : Below w.heap.size w W) => RV.mk' (w := W) (B := B) (c := 0) (bad := false) (Nat.le_trans hB hb.size) (by simp) (by omega) (by omega) (hr2.below (hb.mono hB))
    have HRV := Lib.hid hrv; clear hrv
    go_wp2_with fail
    refine (rtake_yes (K := x) (HRV.out _ (two_below _ _)) (by rw [List.length_drop]; exact hx)).mono ?_
    rintro e w1 ⟨v', A2, c2, rfl, hv, hr3, hb⟩
    obtain ⟨hB', hl', A', c', rfl, hc', hr'⟩ := hv
    obtain ⟨L, hL⟩ : ∃ L, ((bs.drop n).drop x).length = L := ⟨_, rfl⟩
    rw [hL] at hr' hl' hc' ⊢
    have HL := Lib.hid hL; clear hL
    obtain ⟨b0, b1⟩ := two_boxes hb
    have d0 := blk_cell b1 0 _ rfl
    have d1 := blk_cell b1 1 _ rfl
    have e0 := blk_frozen b1 0
    have e1 := blk_frozen b1 1
    have hbel : Below w.heap.size w w1 := (two_below _ _).trans (hb.mono (by simp; omega))
    clear b0 b1
    go_wp2_with fail
    have hbf := (hbel.setCell (p := ⟨w.heap.size + 1, 0, none⟩) (by simp) (.slice A' L c')).setCell (p := ⟨w.heap.size + 1, 1, none⟩) (by simp) (.bool false)
    have hrf := (hr'.setCell (p := ⟨w.heap.size + 1, 0, none⟩) (by simp; omega) (.slice A' L c')).setCell (p := ⟨w.heap.size + 1, 1, none⟩) (by simp; omega) (.bool false)
    have hrg := (hr3.setCell (p := ⟨w.heap.size + 1, 0, none⟩) (by simp; omega) (.slice A' L c')).setCell (p := ⟨w.heap.size + 1, 1, none⟩) (by simp; omega) (.bool false)
    have hd0 := World.cell?_setCell_same (w := w1) (a := ⟨w.heap.size + 1, 0, none⟩) (.slice A' L c') (u := .slice none 0 0) d0
    refine bodyPost_ret (v := .tuple #[.agg #[.slice A' L c', .bool false], .slice A2 x c2]) (by simp [results, Try.results24, go_sem, d1, hd0]) rfl ⟨_, _, _, rfl, RV.mk' (Nat.le_trans hB hbf.size) HL.out hl' hc' hrf, hrg, hbf⟩
  · rw [if_neg hcK] at hr2
    have hrv := fun W (hb : Below w.heap.size w W) => RV.mk' (w := W) (B := B) (c := c - n) (bad := false) (Nat.le_trans hB hb.size) (by simp) (by omega) (by omega) (hr2.below (hb.mono hB))
    have HRV := Lib.hid hrv; clear hrv
    go_wp2_with fail
    refine (rtake_yes (K := x) (HRV.out _ (two_below _ _)) (by rw [List.length_drop]; exact hx)).mono ?_
    rintro e w1 ⟨v', A2, c2, rfl, hv, hr3, hb⟩
    obtain ⟨hB', hl', A', c', rfl, hc', hr'⟩ := hv
    obtain ⟨L, hL⟩ : ∃ L, ((bs.drop n).drop x).length = L := ⟨_, rfl⟩
    rw [hL] at hr' hl' hc' ⊢
    have HL := Lib.hid hL; clear hL
    obtain ⟨b0, b1⟩ := two_boxes hb
    have d0 := blk_cell b1 0 _ rfl
    have d1 := blk_cell b1 1 _ rfl
    have e0 := blk_frozen b1 0
    have e1 := blk_frozen b1 1
    have hbel : Below w.heap.size w w1 := (two_below _ _).trans (hb.mono (by simp; omega))
    clear b0 b1
    go_wp2_with fail
    have hbf := (hbel.setCell (p := ⟨w.heap.size + 1, 0, none⟩) (by simp) (.slice A' L c')).setCell (p := ⟨w.heap.size + 1, 1, none⟩) (by simp) (.bool false)
    have hrf := (hr'.setCell (p := ⟨w.heap.size + 1, 0, none⟩) (by simp; omega) (.slice A' L c')).setCell (p := ⟨w.heap.size + 1, 1, none⟩) (by simp; omega) (.bool false)
    have hrg := (hr3.setCell (p := ⟨w.heap.size + 1, 0, none⟩) (by simp; omega) (.slice A' L c')).setCell (p := ⟨w.heap.size + 1, 1, none⟩) (by simp; omega) (.bool false)
    have hd0 := World.cell?_setCell_same (w := w1) (a := ⟨w.heap.size + 1, 0, none⟩) (.slice A' L c') (u := .slice none 0 0) d0
    refine bodyPost_ret (v := .tuple #[.agg #[.slice A' L c', .bool false], .slice A2 x c2]) (by simp [results, Try.results24, go_sem, d1, hd0]) rfl ⟨_, _, _, rfl, RV.mk' (Nat.le_trans hB hbf.size) HL.out hl' hc' hrf, hrg, hbf⟩
end Go.Proofs.Ytmhjkghmpdnhaaa
