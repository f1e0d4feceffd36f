/- The law QueueDrains, walked. -/
import Derived.Test.YtolnmdanlggmhaaDrain
import Derived.Shelf.RegionOpen
namespace Go.Proofs.Ytolnmdanlggmhaa
open Go.RowKit Go.Shelf Go.Maps
attribute [local go_sem] Oper.semAt_some

section
variable {F : Fence} {n : Nat} {P : Program} {c : Code} {a : Act} {w : World} {Q' : Exit → Act → World → Prop}
/-- A stretch of code, cut off: it ends in one frame. -/
theorem wpIn_step (af : Act) (S : World → Prop) (h1 : c.wpIn F n P (fun e a' W' => e = .normal ∧ a' = af ∧ S W') a w) (h2 : ∀ W', S W' → Q' .normal af W') : c.wpIn F n P Q' a w :=
  wpIn_mono h1 (by rintro e a' W' ⟨rfl, rfl, h⟩; exact h2 W' h)
theorem wpIn_step2 (af : Option Addr → Nat → Act) (S : Option Addr → Nat → World → Prop) (h1 : c.wpIn F n P (fun e a' W' => e = .normal ∧ ∃ A m, a' = af A m ∧ S A m W') a w) (h2 : ∀ A m W', S A m W' → Q' .normal (af A m) W') : c.wpIn F n P Q' a w :=
  wpIn_mono h1 (by rintro e a' W' ⟨rfl, A, m, rfl, h⟩; exact h2 A m W' h)
theorem wpIn_step3 (t : Tmp) (p : Value) (ds : List Deferred) (S : World → Prop) (h1 : c.wpIn F n P (fun e a' W' => match e with | .normal => a'.tmps.getD t undef = p ∧ a'.defers = ds ∧ S W' | _ => False) a w) (h2 : ∀ tmps W', tmps.getD t undef = p → S W' → Q' .normal { tmps := tmps, defers := ds } W') : c.wpIn F n P Q' a w :=
  wpIn_mono h1 (by
    rintro e ⟨tmps, ds'⟩ W' h
    cases e with
    | normal => obtain ⟨h, rfl, hs⟩ := h; exact h2 tmps W' h hs
    | _ => exact h.elim)
end

theorem wrap_small {s : Nat} (h : s < 256) : IntKind.i64.wrap (s : Int) = (s : Int) := by
  rw [IntKind.wrap_i64]
  omega

/-- Between two rounds; the round's element has come; the loop has been left. -/
def QInv (K : DK) (rec : LoopState → Option Code → Loop) (xs : List Int) (k : Nat) (W : World) : Prop := ∃ fp f v8, LoopAt W K.D (rec .ready none) ∧ DS K W fp k f xs xs v8 ∧ k ≤ K.s ∧ f ≤ k ∧ xs.length ≤ 100 + k
def QMid (K : DK) (rec : LoopState → Option Code → Loop) (x : Int) (k : Nat) (W : World) : Prop := ∃ fp f xs v8, LoopAt W K.D (rec .ready none) ∧ DS K W fp k f xs (x :: xs) v8 ∧ k ≤ K.s ∧ f ≤ k + 1 ∧ xs.length + 1 ≤ 100 + k
def QBrk (K : DK) (rec : LoopState → Option Code → Loop) (W : World) : Prop := ∃ fp k f xs v8, LoopAt W K.D (rec .done (some (.exit 0))) ∧ DS K W fp k f xs xs v8 ∧ K.s < k ∧ k ≤ 300 ∧ xs.length ≤ 400

set_option maxRecDepth 100000 in
set_option maxHeartbeats 4000000 in
theorem law_drains (A : Option Addr) (n c : Nat) (z : List Int) (A2 : Option Addr) (n2 c2 : Nat) (z2 : List Int) (a2 : Int) (w : World) (w0 : IsRow .i64 w A n c z) (hsz : n * 8 ≤ 140737488351232) (w1 : IsRow .i64 w A2 n2 c2 z2) (hst : (Lit.int .u8 a2).wf = true) :
    Calls Try.prog 5 #[.slice A n c, .slice A2 n2 c2, .int .u8 a2] w fun e w' => e = .returned (.bool true) ∧ Below w.heap.size w w' := by
  obtain ⟨l, hl, hr, hwf, hnc, hcm⟩ := w0.ints
  obtain ⟨mo, hl2, hr2, hwf2, hnc2, hcm2⟩ := w1.ints
  obtain ⟨s, rfl, hs256⟩ : ∃ s : Nat, a2 = s ∧ s < 256 := by
    simp [Lit.wf, IntKind.min, IntKind.max, IntKind.signed, IntKind.bits] at hst
    exact ⟨a2.toNat, by omega, by omega⟩
  unfold maxLen at hcm hcm2
  have hn63 : n ≤ 9223372036854775807 := by omega
  have hn263 : n2 ≤ 9223372036854775807 := by omega
  have HL := Lib.hid hl; have HW := Lib.hid hwf; have HL2 := Lib.hid hl2; have HW2 := Lib.hid hwf2
  clear hl hwf hl2 hwf2 w0 w1 hst hnc hcm hnc2 hcm2
  obtain ⟨wa, hwa⟩ : ∃ wa, ((w.alloc (.cells #[.slice A2 n2 c2] 22)).alloc (.cells #[.int .u8 s] 5)).alloc (.cells #[.bool false] 4) = wa := ⟨_, rfl⟩
  have hba : Below w.heap.size w wa := by rw [← hwa]; exact (((Below.refl _ _).alloc (Nat.le_refl _) _).alloc (by simp) _).alloc (by simp; omega) _
  obtain ⟨B, hB⟩ : ∃ B, w.heap.size = B := ⟨_, rfl⟩
  have hsa : wa.heap.size = B + 3 := by rw [← hwa, ← hB]; simp
  have bM : Boxed wa B 22 (.slice A2 n2 c2) := by rw [← hwa, ← hB]; exact ((Boxed.new w _ _).alloc _).alloc _
  have bS : Boxed wa (B + 1) 5 (.int .u8 s) := by rw [← hwa, ← hB]; have h := Boxed.new (w.alloc (.cells #[.slice A2 n2 c2] 22)) 5 (.int .u8 s); rw [World.size_alloc] at h; exact h.alloc _
  have bR : Boxed wa (B + 2) 4 (.bool false) := by rw [← hwa, ← hB]; have h := Boxed.new ((w.alloc (.cells #[.slice A2 n2 c2] 22)).alloc (.cells #[.int .u8 s] 5)) 4 (.bool false); rw [World.size_alloc, World.size_alloc] at h; exact h
  have hnew := new_i A n c l wa _ (hr.below hba) hba.size HW.out (by omega)
  rw [hsa] at hnew
  simp only [Nat.add_assoc, Nat.reduceAdd] at hnew
  rw [hB] at hr hr2 hba ⊢
  refine (callsIn_wide (n := 5)).1 ?_
  refine callsIn_of_wp_marks Try.func5 rfl trivial ?_ rfl
  simp only [Try.ntmps5, List.size_toArray, List.length_cons, List.length_nil, Nat.reduceAdd, Nat.reduceSub, Array.replicate_succ, Array.replicate_zero, List.push_toArray, List.append_toArray, List.nil_append, List.cons_append]
  by_cases hbig : n ≤ 100 ∧ n2 ≤ 100
  · obtain ⟨hbig, hbig2⟩ := hbig
    have hbi : decide ((100 : Int) < (n : Int)) = false := by rw [decide_eq_false]; omega
    have hbi2 : decide ((100 : Int) < (n2 : Int)) = false := by rw [decide_eq_false]; omega
    obtain ⟨L, hL⟩ : ∃ L, newL l = L := ⟨_, rfl⟩
    have hlen := newL_len l
    have HWL : Hid (∀ x ∈ L, (Lit.int .i64 x).wf = true) := fun x hx => HW.out x (newL_sub l x (hL ▸ hx))
    rw [hL] at hnew hlen
    rw [HL.out] at hlen
    have HE := Lib.hid hL; clear hL
    have hrn : ∀ w', Below B w w' → Calls Try.prog 18 #[.slice A n c] w' fun e w'' => ∃ v', e = .returned v' ∧ ISl w'' v' L ∧ Below w'.heap.size w' w'' ∧ ∀ g, v'.ownBlock = some g → w'.heap.size ≤ g ∧ g < w''.heap.size := fun w' h => by
      have := refnewN A n c l w' _ (hr.below h) (hB ▸ h.size) (by omega)
      rwa [HE.out] at this
    gi_wp2_with (first
      | (refine ⟨trivial, ?_⟩; gi_at_call 14; refine (callsIn_wide.2 hnew).mono ?_; rintro e x1 ⟨rfl, hq, hb1⟩; have hB1 : B + 3 ≤ x1.heap.size := Nat.le_trans (Nat.le_of_eq hsa.symm) hb1.size; have hbx1 := (hba.trans (hb1.mono (by omega))).alloc (o := .cells #[.pointer (some ⟨B + 4, 0, none⟩)] 23) (by omega); have bM1 := (box_below bM hb1 (by omega)).alloc (.cells #[.pointer (some ⟨B + 4, 0, none⟩)] 23); have bS1 := (box_below bS hb1 (by omega)).alloc (.cells #[.pointer (some ⟨B + 4, 0, none⟩)] 23); have bR1 := (box_below bR hb1 (by omega)).alloc (.cells #[.pointer (some ⟨B + 4, 0, none⟩)] 23); have bQ1 := Boxed.new x1 23 (.pointer (some ⟨B + 4, 0, none⟩)); have kM := bM1.cell)
      | (refine ⟨trivial, ?_⟩; gi_at_call 18; refine (callsIn_wide.2 (hrn _ hbx1)).mono ?_; rintro e x2 ⟨v8, rfl, hs2, hb2, hbk⟩; obtain ⟨A8, c8, e8, _, _⟩ := id hs2; subst e8; have b73 := ((box_below bQ1 hb2 bQ1.lt).alloc (.cells #[.slice A8 L.length c8] 22)).alloc (.cells #[.int .i64 0] 3); have k7 := b73.cell))
    obtain ⟨p7, hp7⟩ : ∃ p7, x1.heap.size = p7 := ⟨_, rfl⟩
    obtain ⟨p8, hp8⟩ : ∃ p8, x2.heap.size = p8 := ⟨_, rfl⟩
    have hz2 := hb2.size
    simp only [World.size_alloc] at hz2 hbk
    have bM2 := box_below bM1 hb2 bM1.lt
    have bS2 := box_below bS1 hb2 bS1.lt
    have bR2 := box_below bR1 hb2 bR1.lt
    have bQ2 := box_below bQ1 hb2 bQ1.lt
    have b83 := (Boxed.new x2 22 (.slice A8 L.length c8)).alloc (.cells #[.int .i64 0] 3)
    have b93 := Boxed.new (x2.alloc (.cells #[.slice A8 L.length c8] 22)) 3 (.int .i64 0)
    rw [World.size_alloc] at b93
    have hx3 : Below x2.heap.size x2 ((x2.alloc (.cells #[.slice A8 L.length c8] 22)).alloc (.cells #[.int .i64 0] 3)) := ((Below.refl _ _).alloc (Nat.le_refl _) _).alloc (by simp) _
    have hs3 : ((x2.alloc (.cells #[.slice A8 L.length c8] 22)).alloc (.cells #[.int .i64 0] 3)).heap.size = x2.heap.size + 2 := by simp
    generalize ((x2.alloc (.cells #[.slice A8 L.length c8] 22)).alloc (.cells #[.int .i64 0] 3)) = W0 at *
    rw [hp8] at b83 b93 hs3
    rw [hp7, hp8]
    refine rangeFunc_bound (n := 5) rfl (by omega) (gf := 23) (rb := #[.pointer (some ⟨B + 4, 0, none⟩)]) (lb := #[]) rfl trivial (enters_of Try.func23 (by kernel_rfl) rfl) ?_
    intro fn hfn rec hrec W1 hW1 hLA
    have hbW : Below W0.heap.size W0 W1 := by rw [hW1]; exact ((Below.refl _ _).alloc (Nat.le_refl _) _).alloc (by simp) _
    have hsW : W1.heap.size = W0.heap.size + 2 := by rw [hW1]; simp
    clear hW1
    obtain ⟨D, hD⟩ : ∃ D, W0.heap.size = D := ⟨_, rfl⟩
    rw [hD] at hLA hsW hrec hs3 ⊢
    have hx2W : Below x2.heap.size x2 W1 := hx3.trans (hbW.mono (by omega))
    have hx1W : Below x1.heap.size x1 W1 := (((Below.refl _ _).alloc (Nat.le_refl _) _).trans (hb2.mono (by simp))).trans (hx2W.mono (by omega))
    have hds : DS ⟨B, p7, p8, p8 + 1, D, n2, c2, s, A2, mo, w⟩ W1 (fun i => B + 3 ≤ i ∧ i < x1.heap.size) 0 0 L L (.slice A8 L.length c8) := by
      refine ⟨box_below bM2 hx2W bM2.lt, box_below bS2 hx2W bS2.lt, box_below bR2 hx2W bR2.lt, hp7 ▸ box_below bQ2 hx2W bQ2.lt, box_below b83 hbW b83.lt, box_below b93 hbW b93.lt, hq.tight.keep fun i _ hlt => hx1W.block i hlt, hs2.below hx2W, fun i hi => ⟨fun hp => ?_, ?_, ?_⟩, fun g hg => ⟨fun hf => ?_, fun hp => ?_, ?_⟩, HWL.out, fun i hp => ?_, hbx1.trans ((hb2.mono (by simp; omega)).trans (hx2W.mono (by omega)))⟩
      · simp only [DK.Pr] at hp; have := hi.1; have := hi.2; omega
      · have := hi.1; show B ≤ i; omega
      · have := hi.2; omega
      · have := (hbk g hg).1; have := hf.2; omega
      · simp only [DK.Pr] at hp; have := hbk g hg; omega
      · have := (hbk g hg).2; omega
      · simp only [DK.Pr] at hp; omega
    have h8 : (p8 ≠ p7 ∧ p8 ≠ p8 + 1 ∧ B + 3 ≤ p8) ∧ (p8 + 1 ≠ p7 ∧ p8 + 1 ≠ p8 ∧ B + 3 ≤ p8 + 1) ∧ (p7 < D ∧ p8 < D ∧ p8 + 1 < D ∧ B + 3 ≤ D) := by omega
    obtain ⟨h8, h9, hDD⟩ := h8
    have hlL : L.length ≤ 100 := by omega
    clear bM bS bR bM1 bS1 bR1 bQ1 bM2 bS2 bR2 bQ2 b83 b93 b73 k7 kM hq hb1 hb2 hbk hs2 hx3 hbW hx1W hx2W hba hbx1 hnew hsW hs3 hz2 hwa hsa hp7 hp8 hB1 hD
    have hdr := drain_in (D + 1) (B + 4) (p8 + 1)
      (QInv ⟨B, p7, p8, p8 + 1, D, n2, c2, s, A2, mo, w⟩ rec) (QMid ⟨B, p7, p8, p8 + 1, D, n2, c2, s, A2, mo, w⟩ rec) (QBrk ⟨B, p7, p8, p8 + 1, D, n2, c2, s, A2, mo, w⟩ rec)
      ?hcI ?hcM ?hnil ?hpop ?hY W1 L 0 ⟨_, 0, _, hLA, hds, Nat.zero_le _, by omega, by omega⟩
    refine hdr.mono ?_
    case hcI =>
      rintro xs k W ⟨fp, f, v8, _, hd, hk, _⟩
      have hk' : k ≤ s := hk
      exact ⟨hd.b9.cell, by omega⟩
    case hcM =>
      rintro x k W ⟨fp, f, xs, v8, _, hd, hk, _⟩
      have hk' : k ≤ s := hk
      exact ⟨hd.b9.cell, by omega⟩
    case hnil =>
      rintro k W ⟨fp, f, v8, _, hd, hk, _⟩
      exact pop_nil_i _ _ _ hd.q
    case hpop =>
      rintro x xs k W ⟨fp, f, v8, hla, hd, hk, hf, hl⟩
      simp only [List.length_cons] at hl
      have hk' : k ≤ s := hk
      refine (pop_i _ _ _ _ _ hd.q (hd.wf x (by simp)) (by omega)).mono ?_
      rintro e W' ⟨rfl, hq', hst⟩
      refine ⟨rfl, _, _, _, _, hla.same (hst.block _ hla.lt (fun hf => (hd.low _ hf).1 (.inr (.inr (.inr (.inr (.inr rfl))))))) (hst.block _ (by have := hla.lt; omega) (fun hf => (hd.low _ hf).1 (.inr (.inr (.inr (.inr (.inl rfl))))))), hd.turn hst hq' (hB ▸ hd.bel.size), hk, by omega, by omega⟩
    case hY =>
      rintro x k W ⟨fp, f, xs, v8, hla, hd, hk0, hf, hl⟩
      have hk : k ≤ s := hk0
      clear hk0
      refine yield_round (a₁ := ?a1) hrec hfn hla rfl ?hassign ?hbody
      case hassign =>
        intro K hK
        gi_wp2
        exact hK
      case hbody =>
        intro W2 hW2 hla2
        have hd2 : DS ⟨B, p7, p8, p8 + 1, D, n2, c2, s, A2, mo, w⟩ W2 fp k f xs (x :: xs) v8 := by rw [hW2]; exact hd.turnRec hDD _
        clear hW2 hla hd hrec
        obtain ⟨A9, c9, rfl, _, _, _⟩ := id hd2.r
        have k8 := hd2.b8.cell
        have hrp := refpop _ x xs W2 hd2.r (by omega)
        have hB2 : B ≤ W2.heap.size := hB ▸ hd2.bel.size
        by_cases hkn : k < n2
        · have hkni : (k : Int) < (n2 : Int) := by omega
          gi_wp2_with (first
            | (refine ⟨trivial, ?_⟩; gi_at_call 24; refine (CallsIn.inRound _ (callsIn_wide.2 hrp)).mono ?_; rintro e _ ⟨v4, rfl, hs4, hob, q4, rfl⟩; have hd4 := (hd2.more (bel_drewN (Below.refl _ _) q4) hB2).set8 h8 hs4 (fun g hg => (hd2.more (bel_drewN (Below.refl _ _) q4) hB2).ng g (hob ▸ hg)) (fun z hz => hd2.wf z (by simp [hz])); obtain ⟨A4, c4, rfl, _, _, _⟩ := id hs4; have m8 := (hd2.more (bel_drewN (Below.refl _ _) q4) hB2).b8.cell; have l8 := (hd2.more (bel_drewN (Below.refl _ _) q4) hB2).b8.frozen; have m9 := hd4.b9.cell; have mM := hd4.bM.cell))
          have hla4 := (hla2.drewN q4).setCell ⟨p8, 0, none⟩ (.slice A4 xs.length c4)
          generalize ((W2.drewN q4).setCell ⟨p8, 0, none⟩ (.slice A4 xs.length c4)) = W4 at *
          obtain ⟨y, hy⟩ : ∃ y, mo[k]? = some y := ⟨_, List.getElem?_eq_getElem (by rw [HL2.out]; exact hkn)⟩
          have hwy := HW2.out y (List.mem_of_getElem? hy)
          obtain ⟨ad, u, rfl, _, hu, hcu⟩ := (hr2.below hd4.bel).at hkn
          rw [List.getElem?_map, hy] at hu
          simp only [Option.map_some, Option.some.injEq] at hu
          subst hu
          have m7 := hd4.b7.cell
          have m9 := hd4.b9.cell
          have mM := hd4.bM.cell
          have hmix : Try.prog.follows .mixedOrders = true := by kernel_rfl
          have hB4 : B ≤ W4.heap.size := hB ▸ hd4.bel.size
          have hpu := push_i _ _ _ y W4.drew (hd4.q.keep fun _ _ _ => rfl) hwy (by omega) (by omega)
          apply wpIn_step (S := fun W' => ∃ fp', Qui W' fp' (B + 4) f (addX xs y) ∧ QStep fp fp' W4.drew W')
          case h1 =>
            gi_region_with_o (refine ⟨trivial, ?_⟩; gi_at_call 25; refine (CallsIn.inRound _ (callsIn_wide.2 hpu)).mono ?_; rintro e W5 ⟨rfl, fp5, hq5, hst5⟩)
            all_goals exact ⟨rfl, rfl, fp5, hq5, hst5⟩
          case h2 =>
            rintro W5 ⟨fp5, hq5, hst5⟩
            have hst6 : QStep fp fp5 W4 W5 := ⟨hst5.os, hst5.tape, hst5.output, hst5.size, hst5.block, hst5.foot⟩
            have hd5 := hd4.turn hst6 hq5 hB4
            have hB5 : B ≤ W5.heap.size := hB ▸ hd5.bel.size
            have hla5 := hla4.same (hst6.block _ hla4.lt (fun hf => (hd4.low _ hf).1 (.inr (.inr (.inr (.inr (.inr rfl))))))) (hst6.block _ (by have := hla4.lt; omega) (fun hf => (hd4.low _ hf).1 (.inr (.inr (.inr (.inr (.inl rfl)))))))
            have hcu5 : W5.cell? (ad.add k) = some (.int .i64 y) := by
              obtain ⟨ad', u', e', _, hu', hc'⟩ := (hr2.below hd5.bel).at hkn
              rw [List.getElem?_map, hy] at hu'
              simp only [Option.map_some, Option.some.injEq] at hu'
              subst hu'
              injection e' with e'; subst e'; exact hc'
            clear hpu hst5 hst6 hq5 hd4 m7 m8 m9 mM l8 hcu k8 hd2 hla2 hla4 hrp hs4 hB2 hB4
            have m8 := hd5.b8.cell
            have m9 := hd5.b9.cell
            have mM := hd5.bM.cell
            have hru := refpushN _ _ y W5.drew (hd5.r.below (bel_drewN (Below.refl _ _) 1)) (by omega)
            have hd5d := hd5.more (bel_drewN (Below.refl _ _) 1) hB5
            have hfin : ∀ W6 v6, ISl W6 v6 (addX xs y) → Below W5.drew.heap.size W5.drew W6 → NewOr W5.drew.heap.size W6 (.slice A4 xs.length c4) v6 →
                DS ⟨B, p7, p8, p8 + 1, D, n2, c2, s, some ad, mo, w⟩ (W6.setCell ⟨p8, 0, none⟩ v6) (fun i => fp5 i ∧ i < W5.heap.size) k f (addX xs y) (addX xs y) v6 ∧ LoopAt (W6.setCell ⟨p8, 0, none⟩ v6) D (rec .busy none) := by
              intro W6 v6 hs6 hb6 hno6
              have hd6 := hd5d.more hb6 hB5
              refine ⟨hd6.set8 h8 hs6 (fun g hg => ?_) (addX_wf hd5.wf hwy), (hla5.drewN 1 |>.below hb6 hla5.lt).setCell _ _⟩
              rcases hno6 with e6 | e6
              · exact hd6.ng g (e6 ▸ hg)
              · have h6 := e6 g hg
                refine ⟨fun hf => ?_, fun hp => ?_, h6.2⟩
                · have h7 : g < W5.heap.size := hf.2
                  have h8 : W5.heap.size ≤ g := h6.1
                  omega
                · have h7 := hd5.pr g hp
                  have h8 : W5.heap.size ≤ g := h6.1
                  omega
            have hx8 : ∀ W6, Below W5.drew.heap.size W5.drew W6 → W6.cell? ⟨p8, 0, none⟩ = some (.slice A4 xs.length c4) ∧ W6.frozen? ⟨p8, 0, none⟩ = false := fun W6 hb6 => ⟨(hd5d.more hb6 hB5).b8.cell, (hd5d.more hb6 hB5).b8.frozen⟩
            gi_wp2
            apply wpIn_step2 (S := fun A6 c6 W' => DS ⟨B, p7, p8, p8 + 1, D, n2, c2, s, some ad, mo, w⟩ W' (fun i => fp5 i ∧ i < W5.heap.size) k f (addX xs y) (addX xs y) (.slice A6 (addX xs y).length c6) ∧ LoopAt W' D (rec .busy none))
            case h1 =>
              gi_region_with_o (refine ⟨trivial, ?_⟩; gi_at_call 26; refine (CallsIn.inRound _ (callsIn_wide.2 hru)).mono ?_; rintro e W6 ⟨v6, rfl, hs6, hb6, hno6⟩; have hf6 := hfin W6 v6 hs6 hb6 hno6; have n8 := (hx8 W6 hb6).1; have f8 := (hx8 W6 hb6).2; obtain ⟨A6, c6, rfl, _, _, _⟩ := id hs6)
              all_goals exact ⟨rfl, A6, c6, rfl, hf6⟩
            case h2 =>
              rintro A6 c6 W7 ⟨hd7, hla7⟩
              have hal := addX_len (xs := xs) (x := y)
              have hla8 := hla7.setCell ⟨p8 + 1, 0, none⟩ (.int .i64 ((k + 1 : Nat) : Int))
              have hd8 := hd7.set9 h9 (k + 1)
              have n9 := hd7.b9.cell
              have f9 := hd7.b9.frozen
              have nS : (W7.setCell ⟨p8 + 1, 0, none⟩ (.int .i64 ((k : Int) + 1))).cell? ⟨B + 1, 0, none⟩ = some (.int .u8 s) := hd8.bS.cell
              have hk63 : (k : Int) < 1000 := by omega
              have hs63 : (s : Int) < 256 := by omega
              by_cases hbrk : s < k + 1
              · have hbi3 : (s : Int) < (k : Int) + 1 := by omega
                gi_wp2
                exact ⟨hla8, .inr ⟨rfl, _, k + 1, f, _, _, hla8.put, hd8.turnRec hDD _, hbrk, by omega, by omega⟩⟩
              · have hbi3 : ¬ (s : Int) < (k : Int) + 1 := by omega
                gi_wp2
                exact ⟨hla8, .inl ⟨rfl, _, _, f, _, hla8.put, hd8.turnRec hDD _, Nat.le_of_not_lt hbrk, by omega, by omega⟩⟩
        · have hkni : ¬ (k : Int) < (n2 : Int) := by omega
          have hk63 : (k : Int) < 1000 := by omega
          have hs63 : (s : Int) < 256 := by omega
          by_cases hbrk : s < k + 1
          · have hbi3 : (s : Int) < (k : Int) + 1 := by omega
            gi_wp2_with (first
              | (refine ⟨trivial, ?_⟩; gi_at_call 24; refine (CallsIn.inRound _ (callsIn_wide.2 hrp)).mono ?_; rintro e _ ⟨v4, rfl, hs4, hob, q4, rfl⟩; have hd7 := (hd2.more (bel_drewN (Below.refl _ _) q4) hB2).set8 h8 hs4 (fun g hg => (hd2.more (bel_drewN (Below.refl _ _) q4) hB2).ng g (hob ▸ hg)) (fun z hz => hd2.wf z (by simp [hz])); obtain ⟨A4, c4, rfl, _, _, _⟩ := id hs4; have m8 := (hd2.more (bel_drewN (Below.refl _ _) q4) hB2).b8.cell; have l8 := (hd2.more (bel_drewN (Below.refl _ _) q4) hB2).b8.frozen; have m9 := hd7.b9.cell; have mM := hd7.bM.cell; have hla7 := (hla2.drewN q4).setCell ⟨p8, 0, none⟩ (.slice A4 xs.length c4); have f9 := hd7.b9.frozen; have nS : (((W2.drewN q4).setCell ⟨p8, 0, none⟩ (.slice A4 xs.length c4)).setCell ⟨p8 + 1, 0, none⟩ (.int .i64 ((k : Int) + 1))).cell? ⟨B + 1, 0, none⟩ = some (.int .u8 s) := (hd7.set9 h9 (k + 1)).bS.cell))
            have hla8 := hla7.setCell ⟨p8 + 1, 0, none⟩ (.int .i64 ((k + 1 : Nat) : Int))
            have hd8 := hd7.set9 h9 (k + 1)
            exact ⟨hla8, .inr ⟨rfl, _, k + 1, f, _, _, hla8.put, hd8.turnRec hDD _, hbrk, by omega, by omega⟩⟩
          · have hbi3 : ¬ (s : Int) < (k : Int) + 1 := by omega
            gi_wp2_with (first
              | (refine ⟨trivial, ?_⟩; gi_at_call 24; refine (CallsIn.inRound _ (callsIn_wide.2 hrp)).mono ?_; rintro e _ ⟨v4, rfl, hs4, hob, q4, rfl⟩; have hd7 := (hd2.more (bel_drewN (Below.refl _ _) q4) hB2).set8 h8 hs4 (fun g hg => (hd2.more (bel_drewN (Below.refl _ _) q4) hB2).ng g (hob ▸ hg)) (fun z hz => hd2.wf z (by simp [hz])); obtain ⟨A4, c4, rfl, _, _, _⟩ := id hs4; have m8 := (hd2.more (bel_drewN (Below.refl _ _) q4) hB2).b8.cell; have l8 := (hd2.more (bel_drewN (Below.refl _ _) q4) hB2).b8.frozen; have m9 := hd7.b9.cell; have mM := hd7.bM.cell; have hla7 := (hla2.drewN q4).setCell ⟨p8, 0, none⟩ (.slice A4 xs.length c4); have f9 := hd7.b9.frozen; have nS : (((W2.drewN q4).setCell ⟨p8, 0, none⟩ (.slice A4 xs.length c4)).setCell ⟨p8 + 1, 0, none⟩ (.int .i64 ((k : Int) + 1))).cell? ⟨B + 1, 0, none⟩ = some (.int .u8 s) := (hd7.set9 h9 (k + 1)).bS.cell))
            have hla8 := hla7.setCell ⟨p8 + 1, 0, none⟩ (.int .i64 ((k + 1 : Nat) : Int))
            have hd8 := hd7.set9 h9 (k + 1)
            exact ⟨hla8, .inl ⟨rfl, _, _, f, _, hla8.put, hd8.turnRec hDD _, Nat.le_of_not_lt hbrk, by omega, by omega⟩⟩
    rintro e W ⟨hv, h⟩
    have hmix : Try.prog.follows .mixedOrders = true := by kernel_rfl
    rcases h with ⟨k, fp, f, v8, hla, hd, hk0, _, _⟩ | ⟨fp, k, f, xs, v8, hla, hd, hsk0, hk3, hxl⟩
    · have hk : k ≤ s := hk0
      refine ⟨hv, .inl ⟨hla, fun r => ?_⟩⟩
      have hdz := hd.turnRec hDD (.loop r)
      have hDz : (W.putObj (D + 1) (.loop r)).heap[D]? = some (.deferred (some [])) := (hla.put (r' := r)).dfr
      clear hd hla hds hLA hrec hdr hrn
      generalize W.putObj (D + 1) (.loop r) = Wz at *
      have hBz : B ≤ Wz.heap.size := hB ▸ hdz.bel.size
      have hd0 := hdz.more (bel_drewN (Below.refl _ _) 1) hBz
      obtain ⟨A9, c9, rfl, _, _, _⟩ := id hdz.r
      have hks : decide ((s : Int) < (k : Int)) = false := by rw [decide_eq_false]; omega
      have hks2 : ¬ s < k := by omega
      have hks3 : decide (s < k) = false := by rw [decide_eq_false]; omega
      have hwr := wrap_small hs256
      have hs63 : (s : Int) < 256 := by omega
      gi_wp2
      apply wpIn_step3 6 (.pointer (some ⟨B + 2, 0, none⟩)) [{ target := .collected D, args := #[] }] (S := fun W' => Boxed W' (B + 2) 4 (.bool true) ∧ W'.heap[D]? = some (.deferred (some [])) ∧ Below B w W')
      case h1 =>
        gi_region_with_o (first
          | (refine ⟨trivial, ?_⟩; gi_at_call 15; refine (callsIn_wide.2 (alive17 _)).mono ?_; rintro e y1 ⟨rfl, hb1⟩; have hd1 := hd0.more hb1 hBz; have k7a := hd1.b7.cell; have k8a := hd1.b8.cell; have hls := list_i _ _ _ _ _ hd1.q rfl (by omega))
          | (refine ⟨trivial, ?_⟩; gi_at_call 27; refine (callsIn_wide.2 hls).mono ?_; rintro e y2 ⟨v2, rfl, hown2, hb2⟩; have hd2 := hd1.more hb2 (Nat.le_trans hBz hb1.size); have k8b := hd2.b8.cell)
          | (refine ⟨trivial, ?_⟩; gi_at_call 17; refine (callsIn_wide.2 (equal_same (ISl.of_own hown2) hd2.r rfl)).mono ?_; rintro e _ ⟨rfl, q1, rfl⟩; have hd3 := hd2.more (bel_drewN (Below.refl _ _) q1) (Nat.le_trans hBz (Nat.le_trans hb1.size hb2.size)); have k8c := hd3.b8.cell; have k9c := hd3.b9.cell; have kSc := hd3.bS.cell; have kRc := hd3.bR.cell; have fRc := hd3.bR.frozen))
        all_goals (
          refine ⟨rfl, rfl, hd3.bR.set (.bool true), (heap_setCell_other _ _ _ _ (by show D ≠ B + 2; omega)).trans ((hb2.block _ (by have := hd1.pr D (.inr (.inr (.inr (.inr (.inl rfl))))); omega)).trans ((hb1.block _ (by have := hd0.pr D (.inr (.inr (.inr (.inr (.inl rfl))))); exact this)).trans hDz)), hd3.bel.setCell (p := ⟨B + 2, 0, none⟩) (by show B ≤ B + 2; omega) (.bool true)⟩)
      case h2 =>
        rintro tmps W' htm ⟨hbx, hdf, hbl⟩
        gi_wp2
        refine ⟨by simp, .inl ⟨_, _, rfl, run_takeDeferred hdf, ?_⟩⟩
        exact ⟨_, results_box (p := 6) rfl _ _ (B + 2) _ _ htm (hbx.kept (putObj_grown _ _ _) (by intro e; injection e; omega)) Try.underlying4, rfl,
          hbl.grown (putObj_grown _ _ _) (Nat.le_trans (Nat.le_of_eq hB.symm) hbl.size) (fun k e => by injection e; omega)⟩
    · have hsk : s < k := hsk0
      refine ⟨hv, .inr ⟨_, hla, fun r => ?_⟩⟩
      have hdz := hd.turnRec hDD (.loop r)
      have hDz : (W.putObj (D + 1) (.loop r)).heap[D]? = some (.deferred (some [])) := (hla.put (r' := r)).dfr
      clear hd hla hds hLA hrec hdr hrn
      generalize W.putObj (D + 1) (.loop r) = Wz at *
      have hBz : B ≤ Wz.heap.size := hB ▸ hdz.bel.size
      have hd0 := hdz.more (bel_drewN (Below.refl _ _) 1) hBz
      obtain ⟨A9, c9, rfl, _, _, _⟩ := id hdz.r
      have hks : decide ((s : Int) < (k : Int)) = true := by rw [decide_eq_true_eq]; omega
      have hks3 : decide (s < k) = true := by rw [decide_eq_true_eq]; omega
      have hs63 : (s : Int) < 256 := by omega
      have hwr := wrap_small hs256
      gi_wp2
      apply wpIn_step3 6 (.pointer (some ⟨B + 2, 0, none⟩)) [{ target := .collected D, args := #[] }] (S := fun W' => Boxed W' (B + 2) 4 (.bool true) ∧ W'.heap[D]? = some (.deferred (some [])) ∧ Below B w W')
      case h1 =>
        gi_region_with_o (first
          | (refine ⟨trivial, ?_⟩; gi_at_call 15; refine (callsIn_wide.2 (alive17 _)).mono ?_; rintro e y1 ⟨rfl, hb1⟩; have hd1 := hd0.more hb1 hBz; have k7a := hd1.b7.cell; have k8a := hd1.b8.cell; have hls := list_i _ _ _ _ _ hd1.q rfl (by omega))
          | (refine ⟨trivial, ?_⟩; gi_at_call 27; refine (callsIn_wide.2 hls).mono ?_; rintro e y2 ⟨v2, rfl, hown2, hb2⟩; have hd2 := hd1.more hb2 (Nat.le_trans hBz hb1.size); have k8b := hd2.b8.cell)
          | (refine ⟨trivial, ?_⟩; gi_at_call 17; refine (callsIn_wide.2 (equal_same (ISl.of_own hown2) hd2.r rfl)).mono ?_; rintro e _ ⟨rfl, q1, rfl⟩; have hd3 := hd2.more (bel_drewN (Below.refl _ _) q1) (Nat.le_trans hBz (Nat.le_trans hb1.size hb2.size)); have k8c := hd3.b8.cell; have k9c := hd3.b9.cell; have kSc := hd3.bS.cell; have kRc := hd3.bR.cell; have fRc := hd3.bR.frozen))
        all_goals (
          refine ⟨rfl, rfl, hd3.bR.set (.bool true), (heap_setCell_other _ _ _ _ (by show D ≠ B + 2; omega)).trans ((hb2.block _ (by have := hd1.pr D (.inr (.inr (.inr (.inr (.inl rfl))))); omega)).trans ((hb1.block _ (by have := hd0.pr D (.inr (.inr (.inr (.inr (.inl rfl))))); exact this)).trans hDz)), hd3.bel.setCell (p := ⟨B + 2, 0, none⟩) (by show B ≤ B + 2; omega) (.bool true)⟩)
      case h2 =>
        rintro tmps W' htm ⟨hbx, hdf, hbl⟩
        gi_wp2
        refine ⟨by simp, .inl ⟨_, _, rfl, run_takeDeferred hdf, ?_⟩⟩
        exact ⟨_, results_box (p := 6) rfl _ _ (B + 2) _ _ htm (hbx.kept (putObj_grown _ _ _) (by intro e; injection e; omega)) Try.underlying4, rfl,
          hbl.grown (putObj_grown _ _ _) (Nat.le_trans (Nat.le_of_eq hB.symm) hbl.size) (fun k e => by injection e; omega)⟩
  · have hba3 := hba
    by_cases hn1 : n ≤ 100
    · have hbi : decide ((100 : Int) < (n : Int)) = false := by rw [decide_eq_false]; omega
      have hbi2 : (100 : Int) < (n2 : Int) := by omega
      clear hbig
      gi_wp2_with (first
        | (refine ⟨trivial, ?_⟩; gi_at_call 14; refine (callsIn_wide.2 hnew).mono ?_; rintro e x1 ⟨rfl, hq, hb1⟩; have hB1 : B + 3 ≤ x1.heap.size := Nat.le_trans (Nat.le_of_eq hsa.symm) hb1.size; have hbx1 := (hba.trans (hb1.mono (by omega))).alloc (o := .cells #[.pointer (some ⟨B + 4, 0, none⟩)] 23) (by omega); have bM1 := (box_below bM hb1 (by omega)).alloc (.cells #[.pointer (some ⟨B + 4, 0, none⟩)] 23); have bR1 := (box_below bR hb1 (by omega)).alloc (.cells #[.pointer (some ⟨B + 4, 0, none⟩)] 23); have bQ1 := Boxed.new x1 23 (.pointer (some ⟨B + 4, 0, none⟩)); have kM := bM1.cell)
        | (refine ⟨trivial, ?_⟩; gi_at_call 15; refine (callsIn_wide.2 (alive17 _)).mono ?_; rintro e x2 ⟨rfl, hb2⟩; have bR2 := box_below bR1 hb2 bR1.lt; have bQ2 := box_below bQ1 hb2 bQ1.lt; have k7 := bQ2.cell; have k6 := bR2.cell; have f6 := bR2.frozen; have hb3 := hbx1.trans (hb2.mono (by simp; omega))))
      exact ⟨_, results_box (p := 6) rfl _ _ (B + 2) _ _ rfl (bR2.set _) Try.underlying4, rfl, hb3.setCell (p := ⟨B + 2, 0, none⟩) (by show B ≤ B + 2; omega) _⟩
    · have hbi : (100 : Int) < (n : Int) := by omega
      clear hbig
      gi_wp2_with (first
        | (refine ⟨trivial, ?_⟩; gi_at_call 14; refine (callsIn_wide.2 hnew).mono ?_; rintro e x1 ⟨rfl, hq, hb1⟩; have hB1 : B + 3 ≤ x1.heap.size := Nat.le_trans (Nat.le_of_eq hsa.symm) hb1.size; have hbx1 := (hba.trans (hb1.mono (by omega))).alloc (o := .cells #[.pointer (some ⟨B + 4, 0, none⟩)] 23) (by omega); have bM1 := (box_below bM hb1 (by omega)).alloc (.cells #[.pointer (some ⟨B + 4, 0, none⟩)] 23); have bR1 := (box_below bR hb1 (by omega)).alloc (.cells #[.pointer (some ⟨B + 4, 0, none⟩)] 23); have bQ1 := Boxed.new x1 23 (.pointer (some ⟨B + 4, 0, none⟩)); have kM := bM1.cell)
        | (refine ⟨trivial, ?_⟩; gi_at_call 15; refine (callsIn_wide.2 (alive17 _)).mono ?_; rintro e x2 ⟨rfl, hb2⟩; have bR2 := box_below bR1 hb2 bR1.lt; have bQ2 := box_below bQ1 hb2 bQ1.lt; have k7 := bQ2.cell; have k6 := bR2.cell; have f6 := bR2.frozen; have hb3 := hbx1.trans (hb2.mono (by simp; omega))))
      exact ⟨_, results_box (p := 6) rfl _ _ (B + 2) _ _ rfl (bR2.set _) Try.underlying4, rfl, hb3.setCell (p := ⟨B + 2, 0, none⟩) (by show B ≤ B + 2; omega) _⟩
end Go.Proofs.Ytolnmdanlggmhaa
