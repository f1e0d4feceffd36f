/- The law QueueMatches, walked. -/
import Derived.Test.YtolnmdanlggmhaaOrd
import Derived.Test.YtolnmdanlggmhaaRem2
import Derived.Deep.RegionHeld3
import Derived.Deep.DeepCutAuto
import Derived.Deep.LoopGhost
import Derived.Deep.Light
import Derived.Deep.CutBlock
namespace Go.Proofs.Ytolnmdanlggmhaa
open Go.RowKit Go.Maps

/-- What a walk is told of a slice of operations that came in. -/
structure OpsAt (w : World) (B : Nat) (A : Option Addr) (n : Nat) (ops : List (Int × Int)) : Prop where
  len : ops.length = n
  atk : ∀ (j : Nat) p, ops[j]? = some p → ∃ ad, A = some ad ∧ ad.block < B ∧ w.cell? (ad.add (j * 2)) = some (.int .i64 p.1) ∧ w.cell? (ad.add (j * 2 + 1)) = some (.int .i64 p.2) ∧ (Lit.int .i64 p.1).wf = true ∧ (Lit.int .i64 p.2).wf = true
theorem OpsAt.below {w w' : World} {B n : Nat} {A : Option Addr} {ops : List (Int × Int)} (h : OpsAt w B A n ops) (hb : Below B w w') : OpsAt w' B A n ops :=
  ⟨h.len, fun j p hj => by
    obtain ⟨ad, e, h1, h2, h3, h4⟩ := h.atk j p hj
    exact ⟨ad, e, h1, (hb.cell (by rw [add_block]; exact h1)).trans h2, (hb.cell (by rw [add_block]; exact h1)).trans h3, h4⟩⟩

/-- The queue beside the reference's slice: both hold the same numbers. -/
structure Mat (B : Nat) (w : World) (fp : Nat → Prop) (b f : Nat) (v : Value) (xs : List Int) : Prop where
  q : Qui w fp b f xs
  r : ISl w v xs
  low : ∀ i, fp i → B ≤ i ∧ i < w.heap.size
  ng : ∀ g, v.ownBlock = some g → ¬ fp g ∧ g < w.heap.size
  wf : ∀ x ∈ xs, (Lit.int .i64 x).wf = true

/-- The queue has turned: the reference's slice has not. -/
theorem Mat.turn {B : Nat} {w w' : World} {fp fp' : Nat → Prop} {b f : Nat} {v : Value} {xs : List Int} (h : Mat B w fp b f v xs) (hs : QStep fp fp' w w') :
    ISl w' v xs ∧ (∀ g, v.ownBlock = some g → ¬ fp' g ∧ g < w'.heap.size) := by
  refine ⟨?_, fun g hg => ⟨hs.off (h.ng g hg).2 (h.ng g hg).1, Nat.lt_of_lt_of_le (h.ng g hg).2 hs.size⟩⟩
  obtain ⟨A, c, rfl, h1, h2, hr⟩ := h.r
  refine ⟨A, c, rfl, h1, h2, hr.len, fun j u hu => ?_⟩
  obtain ⟨ad, rfl, hb, hc⟩ := hr.at' j u hu
  obtain ⟨n1, n2⟩ := h.ng ad.block rfl
  exact ⟨ad, rfl, Nat.lt_of_lt_of_le hb hs.size, (World.cell?_of_block (w' := w') (by rw [add_block]; exact hs.block _ n2 n1)).trans hc⟩

theorem Mat.next {B : Nat} {w w1 w2 : World} {fp fp' : Nat → Prop} {b f f' : Nat} {v v' : Value} {xs xs' : List Int} (h : Mat B w fp b f v xs) (hBw : B ≤ w.heap.size) (hs : QStep fp fp' w w1) (hq : Qui w1 fp' b f' xs') (hr : ISl w2 v' xs') (hb : Below w1.heap.size w1 w2) (hn : NewOr w1.heap.size w2 v v')
    (hwf : ∀ x ∈ xs', (Lit.int .i64 x).wf = true) : Mat B w2 (fun i => fp' i ∧ i < w1.heap.size) b f' v' xs' := by
  refine ⟨hq.tight.keep fun i hi hlt => hb.block i hlt, hr, fun i hi => ⟨?_, Nat.lt_of_lt_of_le hi.2 hb.size⟩, fun g hg => ?_, hwf⟩
  · rcases hs.foot i hi.1 with h1 | h1
    · exact (h.low i h1).1
    · omega
  · rcases hn with e | e
    · have := (h.turn hs).2 g (e ▸ hg)
      exact ⟨fun hf => this.1 hf.1, Nat.lt_of_lt_of_le this.2 hb.size⟩
    · exact ⟨fun hf => by have := (e g hg).1; have := hf.2; omega, (e g hg).2⟩
theorem Mat.alloc {B : Nat} {w : World} {fp : Nat → Prop} {b f : Nat} {v : Value} {xs : List Int} (h : Mat B w fp b f v xs) (o : Obj) : Mat B (w.alloc o) fp b f v xs :=
  ⟨h.q.keep fun i _ hlt => Below.heap_alloc w o i hlt, h.r.below (Below.refl _ _ |>.alloc (Nat.le_refl _) o), fun i hi => ⟨(h.low i hi).1, by have := (h.low i hi).2; simp; omega⟩, fun g hg => ⟨(h.ng g hg).1, by have := (h.ng g hg).2; simp; omega⟩, h.wf⟩
theorem Mat.drewN {B : Nat} {w : World} {fp : Nat → Prop} {b f : Nat} {v : Value} {xs : List Int} (h : Mat B w fp b f v xs) (k : Nat) : Mat B (w.drewN k) fp b f v xs :=
  ⟨h.q.keep fun _ _ _ => rfl, h.r.below (bel_drewN (Below.refl _ _) k), h.low, h.ng, h.wf⟩

theorem Mat.below {B : Nat} {w w' : World} {fp : Nat → Prop} {b f : Nat} {v : Value} {xs : List Int} (h : Mat B w fp b f v xs) (hb : Below w.heap.size w w') : Mat B w' fp b f v xs :=
  ⟨h.q.keep fun i _ hlt => hb.block i hlt, h.r.below hb, fun i hi => ⟨(h.low i hi).1, Nat.lt_of_lt_of_le (h.low i hi).2 hb.size⟩, fun g hg => ⟨(h.ng g hg).1, Nat.lt_of_lt_of_le (h.ng g hg).2 hb.size⟩, h.wf⟩

/-- What a round's operation has left in the law's variables. -/
def CutM (B b o k : Nat) (X : Int) (w : World) (s6 s9 s10 s11 s12 : Value) (wx : World) : Prop :=
  ∃ (x : Int) (r : Bool) (f : Nat) (fp : Nat → Prop) (xs : List Int), s9 = .int .i64 x ∧ s10 = .int .i64 x ∧ s11 = .bool r ∧ s12 = .bool r ∧ Mat B wx fp b f s6 xs ∧ f ≤ k + 1 ∧ xs.length ≤ 101 + k ∧
    wx.cell? ⟨o, 1, none⟩ = some (.int .i64 X) ∧ o < wx.heap.size ∧ Below B w wx

theorem addX_len {xs : List Int} {x : Int} : (addX xs x).length ≤ xs.length + 1 := by
  by_cases h : x ∈ xs
  · rw [addX_in h]; omega
  · rw [addX_out h]; simp
theorem addX_wf {xs : List Int} {x : Int} (h : ∀ y ∈ xs, (Lit.int .i64 y).wf = true) (hx : (Lit.int .i64 x).wf = true) : ∀ y ∈ addX xs x, (Lit.int .i64 y).wf = true := by
  intro y hy
  by_cases hm : x ∈ xs
  · rw [addX_in hm] at hy; exact h y hy
  · rw [addX_out hm] at hy
    rcases List.mem_append.1 hy with hy | hy
    · exact h y hy
    · simp at hy; subst hy; exact hx
theorem remX_sub {xs : List Int} {x : Int} : ∀ y ∈ remX xs x, y ∈ xs := by
  intro y hy
  by_cases hm : x ∈ xs
  · obtain ⟨i, _, _, _, e⟩ := remX_in hm
    rw [e] at hy
    unfold cutAt at hy
    rcases List.mem_append.1 hy with hy | hy
    · exact List.mem_of_mem_take hy
    · exact List.mem_of_mem_drop hy
  · rw [remX_out hm] at hy; exact hy
theorem remX_len {xs : List Int} {x : Int} : (remX xs x).length ≤ xs.length := by
  by_cases hm : x ∈ xs
  · obtain ⟨i, _, hi, _, e⟩ := remX_in hm
    rw [e, cutAt_len xs hi]; omega
  · rw [remX_out hm]; omega

set_option maxRecDepth 1000000 in
set_option maxHeartbeats 4000000 in
theorem law_matches (A : Option Addr) (n c : Nat) (z : List Int) (A2 : Option Addr) (n2 c2 : Nat) (ops : List (Int × Int)) (w : World) (w0 : IsRow .i64 w A n c z) (hsz : n * 8 ≤ 140737488351232) (w1 : OpsAt w w.heap.size A2 n2 ops) (hn2 : n2 ≤ maxLen) :
    Calls Try.prog 6 #[.slice A n c, .slice A2 n2 c2] w fun e w' => e = .returned (.bool true) ∧ Below w.heap.size w w' := by
  obtain ⟨l, hl, hr, hwf, hnc, hcm⟩ := w0.ints
  have hnew := new_i A n c l w _ hr (Nat.le_refl _) hwf (by omega)
  have HL := Lib.hid hl; have HW := Lib.hid hwf; clear hl w0 hwf
  unfold maxLen at hcm hn2
  have hn63 : n ≤ 9223372036854775807 := by omega
  clear hnc hcm
  obtain ⟨B, hB⟩ : ∃ B, w.heap.size = B := ⟨_, rfl⟩
  rw [hB] at hnew hr w1 ⊢
  go_enter Try.func6, Try.ntmps6
  go_wp2_with fail
  refine hnew.mono ?_
  rintro e x1 ⟨rfl, hq, hb⟩
  clear hnew
  by_cases hbig : n ≤ 100 ∧ n2 ≤ 100
  · obtain ⟨hbig, hbig2⟩ := hbig
    have hbi : decide ((100 : Int) < (n : Int)) = false := by rw [decide_eq_false]; omega
    have hbi2 : decide ((100 : Int) < (n2 : Int)) = false := by rw [decide_eq_false]; omega
    have hrn := refnewN A n c l x1 _ (hr.below hb) (hB ▸ hb.size) (by omega)
    obtain ⟨L, hL⟩ : ∃ L, newL l = L := ⟨_, rfl⟩
    have hlen := newL_len l
    have HWL : Hid (∀ x ∈ L, (Lit.int .i64 x).wf = true) := fun x hx => HW.out x (newL_sub l x (hL ▸ hx))
    rw [hL] at hq hlen hrn
    rw [HL.out] at hlen
    clear hL hr
    have hBx : B ≤ x1.heap.size := hB ▸ hb.size
    go_wp2_with fail
    refine hrn.mono ?_
    rintro e x2 ⟨v, rfl, hs2, hb2, hbk⟩
    have hmat : Mat B x2 (fun i => B ≤ i ∧ i < x1.heap.size) (B + 1) 0 v L :=
      ⟨(hq.tight).keep fun i hi hlt => hb2.block i hlt, hs2, fun i hi => ⟨hi.1, Nat.lt_of_lt_of_le hi.2 hb2.size⟩, fun g hg => ⟨fun hf => by have := (hbk g hg).1; have := hf.2; omega, (hbk g hg).2⟩, HWL.out⟩
    have hbw := hb.trans (hb2.mono hBx)
    obtain ⟨A3, c3, rfl, _⟩ := hs2
    clear hrn hq hb hb2 hbk
    go_wp2_with fail
    go_loopg [6, 36] n2 (fun gk v i wr => ∃ (k f : Nat) (fp : Nat → Prop) (xs : List Int), k ≤ n2 ∧ gk = n2 - k ∧ i = .int .i64 k ∧ Mat B wr fp (B + 1) f v xs ∧ f ≤ k ∧ xs.length ≤ 100 + k ∧ Below B w wr)
    case atStart => exact ⟨0, 0, _, L, by omega, by omega, rfl, hmat, by omega, by omega, hbw⟩
    case round =>
      clear hmat hbw
      obtain ⟨k, f, fp, xs, hk, hgk, rfl, hmat, hfk, hxl, hbw⟩ := hrel
      have HGK := Lib.hid hgk; clear hgk
      by_cases hlt : k < n2
      · have hki : (k : Int) < (n2 : Int) := by omega
        obtain ⟨p, hp⟩ : ∃ p, ops[k]? = some p := ⟨_, List.getElem?_eq_getElem (by rw [w1.len]; exact hlt)⟩
        obtain ⟨ad, rfl, hab, hc0, hc1, hw0, hw1⟩ := (w1.below hbw).atk k p hp
        obtain ⟨K, X⟩ := p
        simp only at hc0 hc1 hw0 hw1
        have hc2 : wr.cell? ⟨(ad.add (k * 2)).block, (ad.add (k * 2)).off + 1, none⟩ = some (.int .i64 X) := by
          have e : (ad.add (k * 2)).add 1 = ⟨(ad.add (k * 2)).block, (ad.add (k * 2)).off + 1, none⟩ := by unfold Addr.add; simp
          rw [← e, add_add']; exact hc1
        clear hp
        have hBr : B ≤ wr.heap.size := hB ▸ hbw.size
        go_upto_block 2 with fail
        go_cut [6, 9, 10, 11, 12] (fun s6 s9 s10 s11 s12 wx => CutM B (B + 1) wr.heap.size k X w s6 s9 s10 s11 s12 wx)
        case first =>
          have hm1 := hmat.alloc (.cells #[.int .i64 K, .int .i64 X] 49)
          have hcell := blk_cell (heap_alloc_new wr (.cells #[.int .i64 K, .int .i64 X] 49)) 1 _ rfl
          have hno : ¬ fp wr.heap.size := fun hf => by have := (hmat.low _ hf).2; omega
          have hbw1 := hbw.alloc hBr (.cells #[.int .i64 K, .int .i64 X] 49)
          have hox : wr.heap.size < (wr.alloc (.cells #[.int .i64 K, .int .i64 X] 49)).heap.size := by simp
          have hBx0 : B ≤ (wr.alloc (.cells #[.int .i64 K, .int .i64 X] 49)).heap.size := by simp; omega
          clear hmat hbw hc0 hc1 hc2 hBr
          generalize (wr.alloc (.cells #[.int .i64 K, .int .i64 X] 49)) = x0 at *
          generalize wr.heap.size = o at *
          by_cases e0 : K = 0
          · subst e0
            have hp := push_i _ _ _ _ _ hm1.q hw1 (by omega) (by omega)
            go_wp2_with fail
            refine hp.mono ?_
            rintro e x1 ⟨rfl, fp', hq1, hst⟩
            have hs1 := (hm1.turn hst).1
            have hcell1 := (World.cell?_of_block (a := ⟨o, 1, none⟩) (hst.block o hox hno)).trans hcell
            have hrp := refpushN _ _ X _ hs1 (by omega)
            have hbw2 := hbw1.trans (hst.below (fun i hi => (hm1.low i hi).1) hBx0)
            clear hp hs1 hcell
            go_wp2_with fail
            refine hrp.mono ?_
            rintro e x2 ⟨v', rfl, hs2, hb2, hno2⟩
            have hm2 := hm1.next hBx0 hst hq1 hs2 hb2 hno2 (addX_wf hm1.wf hw1)
            have hcell2 := (hb2.cell (p := ⟨o, 1, none⟩) (Nat.lt_of_lt_of_le hox hst.size)).trans hcell1
            have hbw3 := hbw2.trans (hb2.mono (Nat.le_trans hBx0 hst.size))
            have hal := addX_len (xs := xs) (x := X)
            have hox2 := Nat.lt_of_lt_of_le hox (Nat.le_trans hst.size hb2.size)
            clear hrp hq1 hst hs2 hb2 hno2 hm1 hbw1 hbw2 hcell1
            go_wp2_with fail
            go_meet
            exact ⟨0, _, f, _, _, rfl, rfl, rfl, rfl, hm2, by omega, by omega, hcell2, hox2, hbw3⟩
          · by_cases e1 : K = 1
            · subst e1
              cases xs with
              | nil =>
                have hp := pop_nil_i _ _ _ hm1.q
                have hrp := refpop_nil _ _ hm1.r
                go_wp2_with fail
                refine hp.mono ?_
                rintro e x1 ⟨rfl, rfl⟩
                go_wp2_with fail
                refine hrp.mono ?_
                rintro e x2 ⟨rfl, rfl⟩
                go_wp2_with fail
                go_meet
                exact ⟨0, false, f, _, _, rfl, rfl, rfl, rfl, hm1, by omega, by simp, hcell, hox, hbw1⟩
              | cons y ys =>
                simp only [List.length_cons] at hxl
                have hp := pop_i _ _ _ _ _ hm1.q (hm1.wf y (by simp)) (by omega)
                go_wp2_with fail
                refine hp.mono ?_
                rintro e x1 ⟨rfl, hq1, hst⟩
                have hs1 := (hm1.turn hst).1
                have hcell1 := (World.cell?_of_block (a := ⟨o, 1, none⟩) (hst.block o hox hno)).trans hcell
                have hrp := refpop _ y ys _ hs1 (by omega)
                have hbw2 := hbw1.trans (hst.below (fun i hi => (hm1.low i hi).1) hBx0)
                clear hp hs1 hcell
                go_wp2_with fail
                refine hrp.mono ?_
                rintro e _ ⟨v', rfl, hs2, hob, q, rfl⟩
                have hm2 := hm1.next hBx0 hst hq1 hs2 (bel_drewN (Below.refl _ _) q) (.inl hob) (fun z hz => hm1.wf z (by simp [hz]))
                have hox2 := Nat.lt_of_lt_of_le hox hst.size
                have hbw3 := bel_drewN hbw2 q
                clear hrp hq1 hst hs2 hob hm1 hbw1 hbw2
                go_wp2_with fail
                go_meet
                exact ⟨y, true, f + 1, _, _, rfl, rfl, rfl, rfl, hm2, by omega, by omega, hcell1, hox2, hbw3⟩
            · by_cases e2 : K = 2
              · subst e2
                have hp := remove_i _ _ _ _ _ hm1.q hw1 hm1.wf (by omega) (by omega)
                go_wp2_with fail
                refine hp.mono ?_
                rintro e x1 ⟨rfl, fp', hq1, hst⟩
                have hs1 := (hm1.turn hst).1
                have hcell1 := (World.cell?_of_block (a := ⟨o, 1, none⟩) (hst.block o hox hno)).trans hcell
                have hrp := refremove _ _ X _ hs1 (by omega)
                have hbw2 := hbw1.trans (hst.below (fun i hi => (hm1.low i hi).1) hBx0)
                clear hp hs1 hcell
                go_wp2_with fail
                refine hrp.mono ?_
                rintro e x2 ⟨v', rfl, hs2, hb2, hno2⟩
                have hm2 := hm1.next hBx0 hst hq1 hs2 hb2 hno2 (fun z hz => hm1.wf z (remX_sub z hz))
                have hcell2 := (hb2.cell (p := ⟨o, 1, none⟩) (Nat.lt_of_lt_of_le hox hst.size)).trans hcell1
                have hbw3 := hbw2.trans (hb2.mono (Nat.le_trans hBx0 hst.size))
                have hal := remX_len (xs := xs) (x := X)
                have hox2 := Nat.lt_of_lt_of_le hox (Nat.le_trans hst.size hb2.size)
                clear hrp hq1 hst hs2 hb2 hno2 hm1 hbw1 hbw2 hcell1
                go_wp2_with fail
                go_meet
                exact ⟨0, _, f, _, _, rfl, rfl, rfl, rfl, hm2, by omega, by omega, hcell2, hox2, hbw3⟩
              · have d0 : (K == 0) = false := by simpa using e0
                have d1 : (K == 1) = false := by simpa using e1
                have d2 : (K == 2) = false := by simpa using e2
                cases xs with
                | nil =>
                  have hp := peek_nil_i _ _ _ hm1.q
                  have hrp := refpop_nil _ _ hm1.r
                  go_wp2_with fail
                  refine hp.mono ?_
                  rintro e x1 ⟨rfl, rfl⟩
                  go_wp2_with fail
                  refine hrp.mono ?_
                  rintro e x2 ⟨rfl, rfl⟩
                  go_wp2_with fail
                  go_meet
                  exact ⟨0, false, f, _, _, rfl, rfl, rfl, rfl, hm1, by omega, by simp, hcell, hox, hbw1⟩
                | cons y ys =>
                  have hp := peek_i _ _ _ _ _ hm1.q
                  simp only [List.length_cons] at hxl
                  have hrp := refpop _ y ys _ hm1.r (by omega)
                  go_wp2_with fail
                  refine hp.mono ?_
                  rintro e x1 ⟨rfl, rfl⟩
                  go_wp2_with fail
                  refine hrp.mono ?_
                  rintro e _ ⟨v', rfl, hs2, hob, q, rfl⟩
                  go_wp2_with fail
                  go_meet
                  exact ⟨y, true, f, _, _, rfl, rfl, rfl, rfl, hm1.drewN q, by omega, by simp only [List.length_cons]; omega, hcell, hox, bel_drewN hbw1 q⟩
        case rest =>
          obtain ⟨x, r, f', fp', xs', rfl, rfl, rfl, rfl, hm, hf', hxl', hcx, hox, hbwc⟩ := hcut
          clear hmat hbw hc0 hc1 hc2 hfk hxl
          generalize wr.heap.size = o at *
          have hml : Hid (xs'.length ≤ 101 + k) := hxl'
          have HM := Lib.hid hm; clear hm
          obtain ⟨A6, c6, rfl, h61, h62, hr6⟩ := HM.out.r
          obtain ⟨m, hmm⟩ : ∃ m, xs'.length = m := ⟨_, rfl⟩
          have HQ : ∀ w', (∀ i, i < wc.heap.size → w'.heap[i]? = wc.heap[i]?) → Qui w' fp' (B + 1) f' xs' := fun w' h => HM.out.q.keep fun i _ hlt => h i hlt
          rw [hmm] at hr6 HM hxl' ⊢
          obtain ⟨p, hpp⟩ : ∃ p, placeOf xs' X = p := ⟨_, rfl⟩
          obtain ⟨t, htt⟩ : ∃ t, memB X xs' = t := ⟨_, rfl⟩
          have hge := placeOf_ge xs' X
          rw [hpp, htt] at hge
          have hpl : ∀ w', (∀ i, i < wc.heap.size → w'.heap[i]? = wc.heap[i]?) → Calls Try.prog 31 #[.pointer (some ⟨B + 1, 0, none⟩), .int .i64 X] w' fun e w'' => e = .returned (.int .i64 p) ∧ w'' = w' := fun w' h => by
            have := place_i _ _ _ X _ (HQ w' h) hw1 (by omega)
            rwa [hpp] at this
          have hhs : ∀ w', (∀ i, i < wc.heap.size → w'.heap[i]? = wc.heap[i]?) → Calls Try.prog 33 #[.pointer (some ⟨B + 1, 0, none⟩), .int .i64 X] w' fun e w'' => e = .returned (.bool t) ∧ w'' = w' := fun w' h => by
            have := has_i _ _ _ X _ (HQ w' h) hw1 (by omega)
            rwa [htt] at this
          have hln : ∀ w', (∀ i, i < wc.heap.size → w'.heap[i]? = wc.heap[i]?) → Calls Try.prog 19 #[.pointer (some ⟨B + 1, 0, none⟩)] w' fun e w'' => e = .returned (.int .i64 m) ∧ w'' = w' := fun w' h => by
            have := len_i _ _ _ _ (HQ w' h)
            rwa [hmm] at this
          have hrp : ∀ w', (∀ i, i < wc.heap.size → w'.heap[i]? = wc.heap[i]?) → Calls Try.prog 32 #[.slice A6 m c6, .int .i64 X] w' fun e w'' => e = .returned (.int .i64 p) ∧ w'' = w' := fun w' h => by
            have := refplace A6 m c6 xs' X w' wc.heap.size (hr6.keep fun p hp => World.cell?_of_block (h p.block hp)) (by omega)
            rwa [hpp] at this
          have hls : ∀ w', (∀ i, i < wc.heap.size → w'.heap[i]? = wc.heap[i]?) → Calls Try.prog 27 #[.pointer (some ⟨B + 1, 0, none⟩)] w' fun e w'' => ∃ v, e = .returned v ∧ w''.ownsRow w'.heap.size 3 1 v m (ivs xs') ∧ Below w'.heap.size w' w'' := fun w' h =>
            list_i _ _ _ _ _ (HQ w' h) hmm (by omega)
          have hs6 : ∀ w', Below wc.heap.size wc w' → ISl w' (.slice A6 m c6) xs' := fun w' h => by
            have := HM.out.r.below h; exact this
          clear HQ h61 h62 hr6 hpp htt hmm
          go_wp2_with fail
          go_region_held3 (fun w' => w'.cell? ⟨o, 1, none⟩ = some (.int .i64 X)) (first | exact dx | exact hcx) (first | (go_at_call 27; refine (hls wc.drew (fun _ _ => rfl)).mono ?_; rintro e y1 ⟨vl, rfl, hown, hb1⟩; have dx := (hb1.cell (p := ⟨o, 1, none⟩) hox).trans hcx) | (go_at_call 17; refine (equal_same (ISl.of_own hown) (hs6 _ ⟨hb1.os, hb1.tape, hb1.output, hb1.size, hb1.block⟩) rfl).mono ?_; rintro e _ ⟨rfl, q1, rfl⟩) | (go_at_call 19; refine (hln (y1.drewN q1) (fun i hi => hb1.block i hi)).mono ?_; rintro e _ ⟨rfl, rfl⟩) | (go_at_call 31; refine (hpl (y1.drewN q1) (fun i hi => hb1.block i hi)).mono ?_; rintro e _ ⟨rfl, rfl⟩) | (go_at_call 33; refine (hhs (y1.drewN q1) (fun i hi => hb1.block i hi)).mono ?_; rintro e _ ⟨rfl, rfl⟩) | (go_at_call 32; refine (hrp (y1.drewN q1) (fun i hi => hb1.block i hi)).mono ?_; rintro e _ ⟨rfl, rfl⟩))
          have hb2 : Below wc.heap.size wc y1 := ⟨hb1.os, hb1.tape, hb1.output, hb1.size, hb1.block⟩
          have hm2 := (HM.out.below hb2).drewN q1
          have hbw2 := bel_drewN (hbwc.trans (hb2.mono (hB ▸ hbwc.size))) q1
          clear hls hs6 hrp hln hhs hpl HM hb1 hb2 hown dx hcx hge
          go_wp2_with fail
          go_roundg (n2 - (k + 1))
          case measure => have := HGK.out; omega
          case rel => exact ⟨k + 1, f', _, _, by omega, rfl, by go_num, hm2, hf', by have := hml.out; omega, hbw2⟩
      · have hki : ¬ (k : Int) < (n2 : Int) := by omega
        go_wp2_with fail
        refine (alive17 _).mono ?_
        rintro e x3 ⟨rfl, hb3⟩
        have hb4 := hbw.trans (hb3.mono (hB ▸ hbw.size))
        go_wp2_with fail
        go_ret
        exact ⟨rfl, hb4⟩
  · by_cases hn1 : n ≤ 100
    · have hbi : ¬ (100 : Int) < (n : Int) := by omega
      have hbi2 : (100 : Int) < (n2 : Int) := by omega
      clear hbig
      go_wp2_with fail
      refine (alive17 _).mono ?_
      rintro e x2 ⟨rfl, hb2⟩
      have hb3 := hb.trans (hb2.mono (hB ▸ hb.size))
      go_wp2_with fail
      go_ret
      exact ⟨rfl, hb3⟩
    · have hbi : (100 : Int) < (n : Int) := by omega
      clear hbig
      go_wp2_with fail
      refine (alive17 _).mono ?_
      rintro e x2 ⟨rfl, hb2⟩
      have hb3 := hb.trans (hb2.mono (hB ▸ hb.size))
      go_wp2_with fail
      go_ret
      exact ⟨rfl, hb3⟩
end Go.Proofs.Ytolnmdanlggmhaa
