/- frame.Split, walked. -/
import Derived.Test.YthddhcodlmlaiaaFAll
import Derived.Test.YthddhcodlmlaiaaFRSplit
import Derived.Shelf.RegionOpen
namespace Go.Proofs.Ythddhcodlmlaiaa
open Go.RowKit Go.Shelf
attribute [local go_sem] Oper.semAt_some

/-- A stretch of code, cut off: it ends in one frame. -/
theorem wpIn_step {F : Fence} {n : Nat} {P : Program} {c : Code} {a : Act} {w : World} {Q' : Exit → Act → World → Prop} (af : Act) (S : World → Prop) (h1 : c.wpIn F n P (fun e a' W' => match e with | .normal => a' = af ∧ S W' | _ => False) a w) (h2 : ∀ W', S W' → Q' .normal af W') : c.wpIn F n P Q' a w :=
  wpIn_mono h1 (by
    rintro e a' W' h
    cases e with
    | normal => obtain ⟨rfl, h⟩ := h; exact h2 W' h
    | _ => exact h.elim)

theorem bel_drew {B : Nat} {a w : World} (h : Below B a w) : Below B a w.drew := ⟨h.os, h.tape, h.output, h.size, h.block⟩
theorem own_low {w : World} {b b' n : Nat} {e : TypeId} {v : Value} {xs : List Value} (h : w.ownsRow b e 1 v n xs) (hb : b' ≤ b) : w.ownsRow b' e 1 v n xs := by
  refine ⟨h.1, ?_⟩
  rcases h.2 with hn | ⟨g, cap, cur, rfl, hbg, rest⟩
  · exact .inl hn
  · exact .inr ⟨g, cap, cur, rfl, Nat.le_trans hb hbg, rest⟩
theorem GridOwn.low {w : World} {b b' n : Nat} {v : Value} {L : List (List UInt8)} (h : GridOwn w b v n L) (hb : b' ≤ b) : GridOwn w b' v n L := by
  obtain ⟨h1, vs, h2, h3⟩ := h
  exact ⟨h1, vs, own_low h2 hb, h3⟩

/-- The places of Split: its variables' boxes, the loop's record. -/
structure SP where
  (B n c : Nat)
  A : Option Addr
  bs : List UInt8
  w : World

/-- Between two rounds. -/
def SPInv (K : SP) (rec : LoopState → Option Code → Loop) (k : Nat) (L : List (List UInt8)) (W : World) : Prop :=
  ∃ v, LoopAt W (K.B + 3) (rec .ready none) ∧ Boxed W K.B 22 v ∧ Boxed W (K.B + 1) 3 (.int .i64 k) ∧ Boxed W (K.B + 2) 28 (.slice K.A K.n K.c) ∧ GridHi W (K.B + 5) v L.length L ∧ Hid (Ran K.bs L k) ∧
    Below K.B K.w W ∧ K.B + 5 ≤ W.heap.size

theorem SPInv.more {K : SP} {rec : LoopState → Option Code → Loop} {k : Nat} {L : List (List UInt8)} {W W' : World} (h : SPInv K rec k L W) (hb : Below W.heap.size W W') : SPInv K rec k L W' := by
  obtain ⟨v, h1, h2, h3, h4, h5, h6, h7, h8⟩ := h
  exact ⟨v, h1.below hb h1.lt, box_below h2 hb h2.lt, box_below h3 hb h3.lt, box_below h4 hb h4.lt, h5.below hb, h6, h7.trans (hb.mono (by omega)), Nat.le_trans h8 hb.size⟩

set_option maxRecDepth 100000 in
set_option maxHeartbeats 4000000 in
theorem split_any (A : Option Addr) (n c : Nat) (bs : List UInt8) (w : World) (hr : Rd w w.heap.size A n (bvs bs)) (hnc : n ≤ c) (hn : n ≤ 2000000) :
    Calls Try.prog 31 #[.slice A n c] w fun e w' => Splitted w bs e w' := by
  obtain ⟨i0, hi, hz0, hz1, hz2⟩ := info_parts infoG
  have hl : bs.length = n := by simpa using hr.len
  have HL := Lib.hid hl; clear hl
  obtain ⟨B, hB⟩ : ∃ B, w.heap.size = B := ⟨_, rfl⟩
  refine (callsIn_wide (n := 5)).1 ?_
  refine callsIn_of_wp_marks Try.func31 rfl trivial ?_ rfl
  simp only [Try.ntmps31, List.size_toArray, List.length_cons, List.length_nil, Nat.reduceAdd, Nat.reduceSub, Array.replicate_succ, Array.replicate_zero, List.push_toArray, List.append_toArray, List.nil_append, List.cons_append]
  gi_wp2_with (refine ⟨trivial, ?_⟩; gi_at_call 47; refine (callsIn_wide.2 (all_any _ _ _ _)).mono ?_; rintro e x1 ⟨rfl, hx1⟩)
  rw [← hx1]
  have bO := ((Boxed.new w 22 (.slice none 0 0)).alloc (.cells #[.int .i64 0] 3)).alloc (.cells #[.slice A n c] 28)
  have bN := (Boxed.new (w.alloc (.cells #[.slice none 0 0] 22)) 3 (.int .i64 0)).alloc (.cells #[.slice A n c] 28)
  have bB := Boxed.new ((w.alloc (.cells #[.slice none 0 0] 22)).alloc (.cells #[.int .i64 0] 3)) 28 (.slice A n c)
  have hbw : Below B w x1 := by rw [hx1, ← hB]; exact (((Below.refl _ _).alloc (Nat.le_refl _) _).alloc (by simp) _).alloc (by simp; omega) _
  have hsx : x1.heap.size = B + 3 := by rw [hx1]; simp [hB]
  simp only [World.size_alloc, hB] at bO bN bB
  rw [← hx1] at bO bN bB
  simp only [Nat.add_assoc, Nat.reduceAdd] at bB ⊢
  refine rangeFunc_start (n := 5) rfl (by omega) (gf := 53) (lb := #[.pointer (some ⟨B + 2, 0, none⟩)]) rfl trivial (enters_of Try.func53 (by kernel_rfl) rfl) ?_
  intro fn hfn rec hrec W1 hW1 hLA
  have hbW : Below x1.heap.size x1 W1 := by rw [hW1]; exact ((Below.refl _ _).alloc (Nat.le_refl _) _).alloc (by simp) _
  have hsW : W1.heap.size = B + 5 := by rw [hW1]; simp [hsx]
  rw [hsx] at hLA hrec hbW ⊢
  clear hW1
  have hrw : Rd w B A n (bvs bs) := by rw [← hB]; exact hr
  have bO' := box_below bO hbW (by omega)
  have bN' := box_below bN hbW (by omega)
  have bB' := box_below bB hbW (by omega)
  have h0 : SPInv ⟨B, n, c, A, bs, w⟩ rec 0 [] W1 := ⟨_, hLA, bO', bN', bB', GridHi.nil _ _, Ran.start bs, hbw.trans (hbW.mono (by omega)), by show B + 5 ≤ _; omega⟩
  clear bO bN bB bO' bN' bB' hx1 hbw hbW hsW hLA
  have hal := all_in (B + 3 + 1) (B + 2) A n c bs hnc hn (SPInv ⟨B, n, c, A, bs, w⟩ rec) HL.out ?hcI ?hmore ?hY W1 h0
  case hcI =>
    rintro k L W ⟨v, h1, h2, h3, h4, h5, h6, h7, h8⟩
    exact ⟨h4.cell, (hrw.below h7).more (by have h9 : B + 5 ≤ W.heap.size := h8; omega), h6⟩
  case hmore =>
    intro k L W W' h hb
    exact h.more hb
  case hY =>
    rintro k L W0 W A' m c' x j hI hb hnx hj hrx hxm hA
    obtain ⟨v, a1, a2, a3, a4, a5, h6, a7, hW0⟩ := hI
    dsimp only at a1 a2 a3 a4 a5 a7 hW0 h6
    have hvlt : ∀ g, v.ownBlock = some g → g < W0.heap.size := by
      obtain ⟨_, vs0, hvs0, _⟩ := a5
      exact fun g hg => (hvs0.lt g hg).2
    have h1 := a1.below hb a1.lt
    have h2 := box_below a2 hb a2.lt
    have h3 := box_below a3 hb a3.lt
    have h4 := box_below a4 hb a4.lt
    have h5 := a5.below hb
    have h7 := a7.trans (hb.mono (by omega))
    have h8 : B + 5 ≤ W.heap.size := Nat.le_trans hW0 hb.size
    clear a1 a2 a3 a4 a5 a7
    refine yield_round (a₁ := ?a1) hrec hfn h1 rfl ?hassign ?hbody
    case hassign =>
      intro K hK
      gi_wp2
      exact hK
    case hbody =>
      intro W2 hW2 hla2
      have gW2 : W.grownBy W2 (some (B + 3 + 1)) := by rw [hW2]; exact putObj_grown _ _ _
      have b2 := h2.kept gW2 (by intro e; injection e; omega)
      have b3 := h3.kept gW2 (by intro e; injection e; omega)
      have b4 := h4.kept gW2 (by intro e; injection e; omega)
      have g5 := h5.grown gW2 (by intro g e; injection e; omega)
      have bel2 : Below B w W2 := h7.grown gW2 (by omega) (by intro g e; injection e; omega)
      have s2 : B + 5 ≤ W2.heap.size := Nat.le_trans h8 gW2.size
      have hx2 : x = [] ∨ ∃ ad : Addr, A' = some ad ∧ Rd W2 W2.heap.size A' m (bvs x) ∧ W0.heap.size ≤ ad.block := by
        rcases hA with h | ⟨ad, rfl, h⟩
        · left; exact List.eq_nil_of_length_eq_zero (by omega)
        · right
          refine ⟨ad, rfl, ⟨hrx.len, fun i u hu => ?_⟩, h⟩
          obtain ⟨ad', e, hlt, hc⟩ := hrx.at' i u hu
          injection e with e; subst e
          refine ⟨ad, rfl, Nat.lt_of_lt_of_le hlt gW2.size, ?_⟩
          rw [← hc]
          unfold World.cell?
          rw [add_block, gW2.block ad.block hlt (fun e => by injection e with e; omega)]
      have hlk : L.length ≤ 2000000 := by have := h6.out.1; have := h6.out.2.1; have := HL.out; omega
      have hkn : k ≤ 2000000 := by have := h6.out.1; have := HL.out; omega
      have HR := Lib.hid (h6.out.step hnx hj)
      have HX := Lib.hid hxm
      clear hW2 h1 h2 h3 h4 h5 h6 h7 h8 gW2 hb hnx hrx hA h0 hrec hxm
      obtain ⟨hgl, vs, hvs, hgs⟩ := g5.grown (World.grownBy_alloc W2 (.cells #[.slice A' m c'] 28) none) (fun g e => by cases e)
      have HG := Lib.hid hgs
      clear hgs hgl
      obtain ⟨Av, cv, ev, _, _⟩ := own_slice hvs
      subst ev
      have k2 := b2.cell
      have hrb : Rd (W2.alloc (.cells #[.slice A' m c'] 28)) (W2.heap.size + 1) (some ⟨W2.heap.size, 0, none⟩) 1 [.slice A' m c'] := by
        refine ⟨rfl, fun i u hu => ⟨_, rfl, by simp, ?_⟩⟩
        have hi0 : i = 0 := by
          have := (List.getElem?_eq_some_iff.1 hu).1
          simp at this; exact this
        subst hi0
        exact blk_cell (heap_alloc_new W2 _) 0 _ hu
      have hlv : vs.length = L.length := by simpa using hvs.1
      have nB : ∀ g, g < B + 5 → some g ≠ (Value.slice Av L.length cv).ownBlock := fun g hg e => by have := (hvs.lt g e.symm).1; omega
      gi_wp2_with (refine wpListIn_app _ rfl (.tmp 12) (.tmp 14) 22 rfl (B + 5) 28 i0 _ 24 Try.underlying22 hi hz0 hz1 hz2 rfl (.slice Av L.length cv) _ _ rfl hvs _ _ _ _ _ rfl hrb (fun u hu => by rw [List.mem_singleton.1 hu]; rfl) (by unfold maxLen; omega) (by omega) (by simp; omega) ?_; intro v' w4 hown4 hg4 hat4; obtain ⟨A4, c4, e4, _, _⟩ := own_slice hown4; subst e4; have d2 := (b2.alloc (.cells #[.slice A' m c'] 28)).kept hg4 (nB _ (by omega)); have d3 := (b3.alloc (.cells #[.slice A' m c'] 28)).kept hg4 (nB _ (by omega)); have k4 := d2.cell; have f4 := d2.frozen; have d3' := d3.kept (grownBy_setCell' w4 B (.slice A4 (L.length + 1) c4)) (by intro e; injection e; omega); have k5 := d3'.cell; have f5 := d3'.frozen)
      have hla5 := ((hla2.alloc (.cells #[.slice A' m c'] 28)).grown hg4 ⟨fun e => nB (B + 3) (by omega) e.symm, fun e => nB (B + 3 + 1) (by omega) e.symm⟩).setCell ⟨B, 0, none⟩ (.slice A4 (L.length + 1) c4)
      have hla6 := hla5.setCell ⟨B + 1, 0, none⟩ (.int .i64 ((k : Int) + (j : Int)))
      have g0 := World.grownBy_alloc W2 (.cells #[.slice A' m c'] 28) none
      have g1 := grownBy_setCell' w4 B (.slice A4 (L.length + 1) c4)
      have g2 := grownBy_setCell' (w4.setCell ⟨B, 0, none⟩ (.slice A4 (L.length + 1) c4)) (B + 1) (.int .i64 ((k : Int) + (j : Int)))
      have g3 := putObj_grown ((w4.setCell ⟨B, 0, none⟩ (.slice A4 (L.length + 1) c4)).setCell ⟨B + 1, 0, none⟩ (.int .i64 ((k : Int) + (j : Int)))) (B + 3 + 1) (.loop (rec .ready none))
      have z4 := hg4.size
      have z5 := g1.size
      have z6 := g2.size
      have z7 := g3.size
      simp only [World.size_alloc] at z4
      have hp : GridHi w4 (B + 5) (.slice A4 (L.length + 1) c4) (L.length + 1) (L ++ [x]) := by
        refine GridHi.push rfl HG.out hlv hown4 hg4 hat4 HX.out ?_
        rcases hx2 with h | ⟨ad, h1, h2, h3⟩
        · exact .inl h
        · right
          refine ⟨ad, h1, (h2.below ((Below.refl _ _).alloc (Nat.le_refl _) _)).more (by simp), by omega, fun e => ?_⟩
          have := hvlt _ e
          omega
      refine ⟨hla6, rfl, .slice A4 (L.length + 1) c4, hla6.put, ?_, ?_, ?_, ?_, ?_, ?_, ?_⟩
      · exact ((d2.set _).kept g2 (by intro e; injection e; omega)).kept g3 (by intro e; injection e; omega)
      · exact (d3'.set _).kept g3 (by intro e; injection e; omega)
      · exact ((((b4.alloc (.cells #[.slice A' m c'] 28)).kept hg4 (nB _ (by show B + 2 < B + 5; omega))).kept g1 (by intro e; injection e; omega)).kept g2 (by intro e; injection e; omega)).kept g3 (by intro e; injection e; omega)
      · rw [List.length_append]
        exact ((hp.grown g1 (by intro g e; injection e; omega)).grown g2 (by intro g e; injection e; omega)).grown g3 (by intro g e; injection e; omega)
      · exact HR
      · exact ((((bel2.grown g0 (by omega) (fun g e => by cases e)).grown hg4 (by simp; omega) (fun g e => by have := (hvs.lt g e).1; omega)).grown g1 (by omega) (by intro g e; injection e; omega)).grown g2 (by omega) (by intro g e; injection e; omega)).grown g3 (by omega) (by intro g e; injection e; omega)
      · show B + 5 ≤ _
        omega
  refine hal.mono ?_
  rintro e W ⟨hv, k, L, hsp, v, h1, h2, h3, _, h5, h6, h7, h8⟩
  dsimp only at h1 h2 h3 h5 h6 h7 h8
  refine ⟨hv, .inl ⟨h1, fun r => ?_⟩⟩
  have g1 := putObj_grown W (B + 3 + 1) (.loop r)
  have b2 := h2.kept g1 (by intro e; injection e; omega)
  have b3 := h3.kept g1 (by intro e; injection e; omega)
  have g5 := h5.grown g1 (by intro g e; injection e; omega)
  have h9 := h7.grown g1 (by omega) (by intro g e; injection e; omega)
  have hd := (h1.put (r' := r)).dfr
  have z2 := Nat.le_trans h8 g1.size
  have HS := Lib.hid hsp
  clear h1 h2 h3 h5 h6 h7 hsp hal h0
  generalize W.putObj (B + 3 + 1) (.loop r) = W2 at *
  have k2 := b2.cell
  have k3 := b3.cell
  have hmix : Try.prog.follows .mixedOrders = true := by kernel_rfl
  gi_wp2
  apply wpIn_step (S := fun W' => W' = W2.drew)
  case h1 =>
    gi_region_with_o (fail)
    all_goals exact ⟨rfl, rfl⟩
  case h2 =>
    rintro W' rfl
    gi_wp2
    refine ⟨by simp, .inl ⟨_, _, rfl, run_takeDeferred hd, ?_⟩⟩
    refine ⟨.tuple #[v, .int .i64 k], ?_, ?_⟩
    · exact results_tmp2 (fn := Try.f31) rfl _ _ _
    · refine Splitted.mk' HS.out rfl ?_ ?_
      · have g9 := (below_grown (bel_drew (Below.refl W2.heap.size W2)))
        have g10 := putObj_grown W2.drew (B + 3) (.deferred none)
        exact (((g5.grown g9 (fun g e => by cases e)).grown g10 (by intro g e; injection e; omega)).own).low (by omega)
      · rw [hB]
        exact (h9.trans ((bel_drew (Below.refl W2.heap.size W2)).mono (by omega))).grown (putObj_grown _ _ _) (by show B ≤ W2.heap.size; omega) (by intro g e; injection e; omega)
end Go.Proofs.Ythddhcodlmlaiaa
