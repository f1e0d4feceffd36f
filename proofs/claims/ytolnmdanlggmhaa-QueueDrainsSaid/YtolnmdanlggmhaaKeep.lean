/- The law QueueKeeps, walked: it ranges over a nil queue's Drain. -/
import Derived.Test.YtolnmdanlggmhaaOrd
import Derived.Test.YtolnmdanlggmhaaNil
import Derived.Test.YtolnmdanlggmhaaIter2
namespace Go.Proofs.Ytolnmdanlggmhaa
open Go.RowKit Go.Shelf Go.Maps
attribute [local go_sem] Oper.semAt_some

theorem results_box {P : Program} {fn : Func} {p : Tmp} {ty : TypeId} (h : fn.results = #[.cell p ty]) (tmps : Array Value) (w : World) (B : Nat) (t : TypeId) (v : Value)
    (hp : tmps.getD p undef = .pointer (some ⟨B, 0, none⟩)) (hb : Boxed w B t v) (hu : P.underlying ty = some .bool) : (results fn tmps).run P w = .ok v w := by
  have hp' : tmps[p]?.getD undef = .pointer (some ⟨B, 0, none⟩) := by simpa using hp
  have hc := hb.cell
  simp [go_sem, results, h, hp', asAddr, loadVar, isAgg, run_underlying hu, hc]
theorem grown_trans17 {a b c : World} {r : Option Nat} (h : a.grownBy b r) (k : b.grownBy c r) : a.grownBy c r :=
  ⟨k.os.trans h.os, k.tape.trans h.tape, k.output.trans h.output, Nat.le_trans h.size k.size, fun i hi hne => (k.block i (Nat.lt_of_lt_of_le hi h.size) hne).trans (h.block i hi hne)⟩
theorem box_below {w w' : World} {B0 B t : Nat} {v : Value} (h : Boxed w B t v) (hb : Below B0 w w') (hB : B < B0) : Boxed w' B t v := (hb.block B hB).trans h

set_option maxRecDepth 100000 in
set_option maxHeartbeats 4000000 in
theorem law_keeps17 (A : Option Addr) (n c : Nat) (z : List Int) (w : World) (w0 : IsRow .i64 w A n c z) (hsz : n * 8 ≤ 140737488351232) :
    Calls Try.prog 7 #[.slice A n c] w fun e w' => e = .returned (.bool true) ∧ Below w.heap.size w w' := by
  obtain ⟨l, hl, hr, hwf, hnc, hcm⟩ := w0.ints
  have hb0 : Below w.heap.size w (w.alloc (.cells #[.bool false] 4)) := (Below.refl _ _).alloc (Nat.le_refl _) _
  have bR := Boxed.new w 4 (.bool false)
  have hnew := new_i A n c l _ _ (hr.below hb0) (by simp) hwf (by omega)
  have HL := Lib.hid hl; have HW := Lib.hid hwf; clear hl w0 hwf
  unfold maxLen at hcm
  have hn63 : n ≤ 9223372036854775807 := by omega
  clear hnc hcm
  rw [World.size_alloc] at hnew
  obtain ⟨B, hB⟩ : ∃ B, w.heap.size = B := ⟨_, rfl⟩
  rw [hB] at hnew hr hb0 bR ⊢
  refine (callsIn_wide (n := 5)).1 ?_
  refine callsIn_of_wp_marks Try.func7 rfl trivial ?_ rfl
  simp only [Try.ntmps7, List.size_toArray, List.length_cons, List.length_nil, Nat.reduceAdd, Nat.reduceSub, Array.replicate_succ, Array.replicate_zero, List.push_toArray, List.append_toArray, List.nil_append, List.cons_append]
  by_cases hbig : n ≤ 200
  · have hbi : decide ((200 : Int) < (n : Int)) = false := by rw [decide_eq_false]; omega
    obtain ⟨L, hL⟩ : ∃ L, newL l = L := ⟨_, rfl⟩
    have hlen := newL_len l
    rw [hL] at hnew hlen
    rw [HL.out] at hlen
    have HE := Lib.hid hL; clear hL
    obtain ⟨m, hm⟩ : ∃ m, L.length = m := ⟨_, rfl⟩
    rw [hm] at hlen
    have HM := Lib.hid hm; clear hm
    gi_wp2_with (first | (refine ⟨trivial, ?_⟩; gi_at_call 14; refine (callsIn_wide.2 hnew).mono ?_; rintro e x1 ⟨rfl, hq, hb1⟩; have hls := list_i _ _ _ m _ hq HM.out (by omega)) | (refine ⟨trivial, ?_⟩; gi_at_call 27; refine (callsIn_wide.2 hls).mono ?_; rintro e x2 ⟨v, rfl, hown, hb2⟩; obtain ⟨A1, c1, hv, _, _⟩ := own_slice hown; subst hv))
    have hown2 : x2.ownsRow x1.heap.size 3 1 (.slice A1 m c1) m (ivs L) := hown
    have bR1 := box_below bR hb1 (Nat.lt_succ_self _)
    have hB1 : B + 1 ≤ x1.heap.size := by have := hb1.size; simp at this; omega
    have hqt := hq.tight
    clear hown hnew hq
    gi_loopw [29] (fun i wr => ∃ (k : Nat) (ys : List Int), k ≤ m ∧ i = .int .i64 k ∧ wr.ownsRow x1.heap.size 3 1 (.slice A1 m c1) m (ivs ys) ∧ x2.grownBy wr (Value.ownBlock (.slice A1 m c1))) (fun i _ => m - (intOf i).toNat)
    case atStart => exact ⟨0, L, Nat.zero_le _, rfl, hown2, World.grownBy.refl _ _⟩
    case round =>
      obtain ⟨k, ys, hk, rfl, hownr, hgr⟩ := hrel
      by_cases hlt : k < m
      · have hki : (k : Int) < (m : Int) := by omega
        obtain ⟨go, cap, hv, hgo, hgol⟩ := hownr.form (by omega)
        obtain ⟨rfl, rfl⟩ : A1 = some ⟨go, 0, none⟩ ∧ c1 = cap := by injection hv with h1 _ h2; exact ⟨h1, h2⟩
        clear hv
        have hyl : ys.length = m := by simpa using hownr.1
        have hcell := hownr.cellAt k (by omega)
        have hfr := hownr.frozenAt k
        obtain ⟨y, hyk⟩ : ∃ y, ys[k]? = some y := ⟨ys[k], List.getElem?_eq_getElem (by omega)⟩
        have hcell' : wr.cell? ⟨go, k, none⟩ = some (.int .i64 y) := by rw [hcell, ivs, List.getElem?_map, hyk]; rfl
        have HST := Lib.hid (fun u => hownr.stored k u)
        have Hyl := Lib.hid hyl; clear hyl
        clear hcell hyk
        gi_wp2
        go_roundw
        case rel =>
          have h1 := HST.out (.int .i64 (wrap64 (y + 1)))
          refine ⟨k + 1, ys.set k (wrap64 (y + 1)), by omega, by go_num, ?_, ?_⟩
          · have e : ivs (ys.set k (wrap64 (y + 1))) = (ivs ys).set k (.int .i64 (wrap64 (y + 1))) := by
              rw [ivs, List.map_set]; rfl
            rw [e]; exact h1.1
          · exact grown_trans17 hgr h1.2
        case measure => simp [intOf]; omega
      · have hki : ¬ (k : Int) < (m : Int) := by omega
        have hbx : Below x1.heap.size x1 wr := hb2.grown hgr hb2.size fun g hg => (own_blk hown2 g hg).1
        have hqr := hqt.keep fun i hi hlt => hbx.block i hi.2
        have bRr := box_below bR1 hbx (by omega)
        have hbw : Below B w wr := (hb0.trans (hb1.mono (Nat.le_succ B))).trans (hbx.mono (by omega))
        have hsz1 := hbx.size
        have hlow : ∀ i, ((fun i => B + 1 ≤ i) i ∧ i < x1.heap.size) → i < wr.heap.size := fun i hi => by have := hi.2; omega
        clear hownr hgr hqt hown2 bR1 bR hb0 hb1 hb2 hls
        gi_wp2_with (first | (refine ⟨trivial, ?_⟩; gi_at_call 16; refine (callsIn_wide.2 (pop_nilq _)).mono ?_; rintro e x3 ⟨rfl, rfl⟩) | (refine ⟨trivial, ?_⟩; gi_at_call 30; refine (callsIn_wide.2 (peek_nilq _)).mono ?_; rintro e x4 ⟨rfl, rfl⟩))
        refine rangeFunc_bound (n := 5) rfl (by omega) (gf := 23) (rb := #[.pointer none]) (lb := #[]) rfl trivial (enters_of Try.func23 (by kernel_rfl) rfl) ?_
        intro fn hfn rec hrec W1 hW1 hL
        refine (callsIn_wide.2 (drain_nil (.func (.yield (x4.heap.size + 1)) #[] #[]) W1)).mono ?_
        rintro e W2 ⟨rfl, rfl⟩
        refine ⟨⟨_, rfl⟩, .inl ⟨hL, fun r => ?_⟩⟩
        have hbW : Below x4.heap.size x4 (W2.putObj (x4.heap.size + 1) (.loop r)) := by
          have h1 : Below x4.heap.size x4 W2 := by rw [hW1]; exact ((Below.refl _ _).alloc (Nat.le_refl _) _).alloc (by simp) _
          exact h1.grown (putObj_grown _ _ _) h1.size (fun k e => by injection e; omega)
        have hL2 : LoopAt (W2.putObj (x4.heap.size + 1) (.loop r)) x4.heap.size r := hL.put
        clear hrec hW1 hL
        generalize W2.putObj (x4.heap.size + 1) (.loop r) = W3 at *
        have hD := hL2.dfr
        have hq3 := hqr.keep fun i hi hlt => hbW.block i hlt
        have hlow3 := fun i hi => Nat.lt_of_lt_of_le (hlow i hi) hbW.size
        have bR3 := box_below bRr hbW bRr.lt
        have hDlt := blk_lt hD
        have hbw3 := hbw.trans (hbW.mono (hB ▸ hbw.size))
        have hr3 := hr.below hbw3
        have hBD : B < x4.heap.size := bRr.lt
        have hBW : B ≤ W3.heap.size := hB ▸ hbw3.size
        have HQL : ∀ w', Below W3.heap.size W3 w' → Calls Try.prog 27 #[.pointer (some ⟨B + 1 + 1, 0, none⟩)] w' fun e w'' => ∃ v, e = .returned v ∧ w''.ownsRow w'.heap.size 3 1 v m (ivs L) ∧ Below w'.heap.size w' w'' := fun w' h =>
          list_i _ _ _ m _ (hq3.keep fun i hi _ => h.block i (hlow3 i hi)) HM.out (by omega)
        have HNW : ∀ w', Below W3.heap.size W3 w' → Calls Try.prog 18 #[.slice A n c] w' fun e w'' => ∃ v', e = .returned v' ∧ ISl w'' v' (newL l) ∧ Below w'.heap.size w' w'' := fun w' h =>
          refnew A n c l w' B (hr3.below (h.mono hBW)) (Nat.le_trans hBW h.size) (by omega)
        clear hqr hlow bRr hL2 hbW hbw hr hq3 hlow3 hr3
        gi_wp2_with (first
          | (refine ⟨trivial, ?_⟩; gi_at_call 15; refine (callsIn_wide.2 (alive17 _)).mono ?_; rintro e y1 ⟨rfl, hb1⟩)
          | (refine ⟨trivial, ?_⟩; gi_at_call 27; refine (callsIn_wide.2 (HQL y1 hb1)).mono ?_; rintro e y2 ⟨v2, rfl, hown2, hb2⟩; have hb12 := hb1.trans (hb2.mono hb1.size))
          | (refine ⟨trivial, ?_⟩; gi_at_call 18; refine (callsIn_wide.2 (HNW y2 hb12)).mono ?_; rintro e y3 ⟨v3, rfl, hs3, hb3⟩; have hb123 := hb12.trans (hb3.mono hb12.size))
          | (refine ⟨trivial, ?_⟩; gi_at_call 17; refine (callsIn_wide.2 (equal_same ((ISl.of_own hown2).below hb3) hs3 HE.out.symm)).mono ?_; rintro e _ ⟨rfl, q1, rfl⟩; have bR5 : Boxed (y3.drewN q1) B 4 (.bool false) := box_below bR3 (bel_drewN hb123 q1) (Nat.lt_of_lt_of_le hBD (Nat.le_of_lt hDlt)); have k0 := bR5.cell; have f0 := bR5.frozen))
        refine ⟨trivial, ?_⟩
        refine (callsIn_wide.2 (push_nil _ _)).mono ?_
        rintro e _ ⟨rfl, rfl⟩
        clear HQL HNW
        gi_wp2_with (first
          | (refine ⟨trivial, ?_⟩; gi_at_call 28; refine (callsIn_wide.2 (remove_nil _ _)).mono ?_; rintro e _ ⟨rfl, rfl⟩)
          | (refine ⟨trivial, ?_⟩; gi_at_call 33; refine (callsIn_wide.2 (has_nil _ _)).mono ?_; rintro e _ ⟨rfl, rfl⟩)
          | (refine ⟨trivial, ?_⟩; gi_at_call 31; refine (callsIn_wide.2 (place_nil _ _)).mono ?_; rintro e _ ⟨rfl, rfl⟩)
          | (refine ⟨trivial, ?_⟩; gi_at_call 27; refine (callsIn_wide.2 (list_nil _)).mono ?_; rintro e _ ⟨rfl, rfl⟩)
          | (refine ⟨trivial, ?_⟩; gi_at_call 19; refine (callsIn_wide.2 (len_nil _)).mono ?_; rintro e _ ⟨rfl, rfl⟩))
        have bR6 := bR5.set (.bool true)
        have hD6 : ((y3.drewN q1).setCell ⟨B, 0, none⟩ (.bool true)).heap[x4.heap.size]? = some (.deferred (some [])) :=
          (heap_setCell_other _ _ _ _ (by show x4.heap.size ≠ B; omega)).trans ((hb123.block _ hDlt).trans hD)
        have hbw6 := (bel_drewN (hbw3.trans (hb123.mono hBW)) q1).setCell (p := ⟨B, 0, none⟩) (Nat.le_refl _) (.bool true)
        refine ⟨by simp, .inl ⟨_, _, rfl, run_takeDeferred hD6, ?_⟩⟩
        exact ⟨_, results_box (p := 2) rfl _ _ B _ _ rfl (bR6.kept (putObj_grown _ _ _) (by intro e; injection e; omega)) Try.underlying4, rfl,
          hbw6.grown (putObj_grown _ _ _) (Nat.le_trans (Nat.le_of_eq hB.symm) hbw6.size) (fun k e => by injection e; omega)⟩
  · have hbi : (200 : Int) < (n : Int) := by omega
    gi_wp2_with (first | (refine ⟨trivial, ?_⟩; gi_at_call 14; refine (callsIn_wide.2 hnew).mono ?_; rintro e x1 ⟨rfl, hq, hb1⟩) | (refine ⟨trivial, ?_⟩; gi_at_call 15; refine (callsIn_wide.2 (alive17 _)).mono ?_; rintro e x2 ⟨rfl, hb2⟩; have bR1 := box_below bR hb1 (Nat.lt_succ_self _); have bR2 := box_below bR1 hb2 bR1.lt; have k0 := bR2.cell; have f0 := bR2.frozen))
    have hB1 : B + 1 ≤ x1.heap.size := by have := hb1.size; simp at this; omega
    have hb3 := hb0.trans ((hb1.mono (Nat.le_succ B)).trans (hb2.mono (by omega)))
    exact ⟨_, results_box (p := 2) rfl _ _ B _ _ rfl (bR2.set _) Try.underlying4, rfl, hb3.setCell (p := ⟨B, 0, none⟩) (Nat.le_refl _) _⟩
end Go.Proofs.Ytolnmdanlggmhaa
