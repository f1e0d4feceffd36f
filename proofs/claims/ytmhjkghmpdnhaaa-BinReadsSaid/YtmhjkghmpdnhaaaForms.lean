/- The program's forms of unsigned numbers: an iterator that keeps its number in a captured variable, and its caller. -/
import Derived.Test.YtmhjkghmpdnhaaaIter
import Derived.Test.YtmhjkghmpdnhaaaUint
import Derived.Outline
namespace Go.Proofs.Ytmhjkghmpdnhaaa
open Go.RowKit Go.Shelf
attribute [local go_sem] Oper.semAt_some

theorem or_high256 : ∀ m : Fin 256, bits BinOp.or IntKind.u8 ((m.val : Nat) : Int) 128 = ((m.val % 128 + 128 : Nat) : Int) := by decide +kernel
theorem or_high (z : Nat) : bits BinOp.or IntKind.u8 ((z : Int) % 256) 128 = ((z % 128 + 128 : Nat) : Int) := by
  have h := or_high256 ⟨z % 256, Nat.mod_lt _ (by omega)⟩
  have e : (z % 256) % 128 = z % 128 := by omega
  simp only [e] at h
  rw [← h]; rfl

set_option maxRecDepth 100000 in
set_option maxHeartbeats 1000000 in
theorem digits_in (F : Fence) (n : Nat) (hf : F.fn 32) (hro : F.round = none) (x : Nat) (w : World) :
    CallsIn F n Try.prog 32 #[.int .u64 x] w fun e w' => e = .returned (.func (.func 39) #[] #[.pointer (some ⟨w.heap.size, 0, none⟩)]) ∧ w.alloc (.cells #[.int .u64 x] 22) = w' := by
  refine callsIn_of_wp Try.func32 rfl hf ?_ hro
  simp only [Try.ntmps32, List.size_toArray, List.length_cons, List.length_nil, Nat.reduceAdd, Nat.reduceSub, Array.replicate_succ, Array.replicate_zero, List.push_toArray, List.append_toArray, List.nil_append, List.cons_append]
  gi_wp2
  go_ret
  exact ⟨rfl, rfl⟩

set_option maxRecDepth 100000 in
set_option maxHeartbeats 1000000 in
theorem digits1_in (F : Fence) (n : Nat) (hf : F.fn 39) (hro : F.round = none) (hn : 1 ≤ n) (l bx : Nat) (x : Nat) (hx : U64 x) (In : List UInt8 → Nat → World → Prop)
    (hbox : ∀ pre z W, In pre z W → W.cell? ⟨bx, 0, none⟩ = some (.int .u64 z) ∧ W.frozen? ⟨bx, 0, none⟩ = false)
    (hset : ∀ pre z z' W, In pre z W → In pre z' (W.setCell ⟨bx, 0, none⟩ (.int .u64 (z' : Int))))
    (hY : ∀ pre b z W, pre.length < 10 → In pre z W → YieldAt F (n - 1) Try.prog l #[bv b] W fun e W' => e = .returned (.bool true) ∧ In (pre ++ [b]) z W')
    (W : World) (h0 : In [] x W) :
    CallsIn F n Try.prog 39 #[.func (.yield l) #[] #[], .pointer (some ⟨bx, 0, none⟩)] W fun e W' => (∃ v, e = .returned v) ∧ ∃ z, In (leb x) z W' := by
  have hlen := hx.len
  refine callsIn_of_wp Try.func39 rfl hf ?_ hro
  simp only [Try.ntmps39, List.size_toArray, List.length_cons, List.length_nil, Nat.reduceAdd, Nat.reduceSub, Array.replicate_succ, Array.replicate_zero, List.push_toArray, List.append_toArray, List.nil_append, List.cons_append]
  gi_wp2
  gi_loopw [] (fun wr => ∃ (z : Nat) (pre : List UInt8), U64 z ∧ Hid (leb x = pre ++ leb z) ∧ In pre z wr)
    (fun wr => (match wr.cell? ⟨bx, 0, none⟩ with | some u => (intOf u).toNat | none => 0))
  case atStart => exact ⟨x, [], hx, rfl, h0⟩
  case round =>
    obtain ⟨z, pre, hz, hl, hin⟩ := hrel
    obtain ⟨hc, hfz⟩ := hbox _ _ _ hin
    have hdl : pre.length + (leb z).length ≤ 10 := by have := congrArg List.length hl.out; simp at this; omega
    have hzp := leb_pos z
    by_cases h128 : z < 128
    · obtain ⟨fn, tmps, assign, body, hy, hR⟩ := hY pre (UInt8.ofNat z) z wr (by omega) hin
      rw [bv_small (by omega)] at hy
      gi_wp2
      refine hR.mono ?_
      rintro e W3 ⟨rfl, hin3⟩
      gi_wp2
      go_end0
      exact ⟨⟨_, rfl⟩, z, by rw [hl.out, leb_lt h128]; exact hin3⟩
    · have hd : (128 : Int) ≤ (z : Int) := by omega
      have hzl := hz.lt
      obtain ⟨fn, tmps, assign, body, hy, hR⟩ := hY pre (UInt8.ofNat (z % 128 + 128)) z wr (by omega) hin
      rw [bv_small (by omega), ← or_high] at hy
      gi_wp2
      refine hR.mono ?_
      rintro e W3 ⟨rfl, hin3⟩
      obtain ⟨hc3, hf3⟩ := hbox _ _ _ hin3
      gi_wp2
      go_roundw
      case rel =>
        refine ⟨z / 128, pre ++ [UInt8.ofNat (z % 128 + 128)], hz.div _, ?_, ?_⟩
        · show _ = _
          rw [hl.out, leb_ge h128]; simp
        · have e : ((z : Int) / 128) = ((z / 128 : Nat) : Int) := by omega
          rw [e]; exact hset _ _ _ _ hin3
      case measure =>
        rw [World.cell?_setCell_same _ _ _ hc3, hc]
        simp [intOf]; omega

theorem boxed_putObj {W : World} {D b : Nat} {t : TypeId} {v : Value} {r r' : Loop} (h : Boxed W b t v) (hl : LoopAt W D r) : Boxed (W.putObj (D + 1) (.loop r')) b t v :=
  h.kept (putObj_grown _ _ _) (by
    intro e; injection e with e; subst e
    have h1 := hl.rec_; unfold Boxed at h; rw [h] at h1; cases h1)
theorem own_putObj {W : World} {D base : Nat} {e : TypeId} {v : Value} {n : Nat} {xs : List Value} {r r' : Loop} (h : W.ownsRow base e 1 v n xs) (hl : LoopAt W D r) : (W.putObj (D + 1) (.loop r')).ownsRow base e 1 v n xs :=
  ownsRow_putObj h _ hl.rec_ rfl

set_option maxRecDepth 100000 in
set_option maxHeartbeats 2000000 in
theorem bin_uint (x : Nat) (w : World) (hx : U64 x) :
    Calls Try.prog 10 #[.int .u64 (x : Int)] w fun e w' => ∃ v, e = .returned v ∧ w'.ownsRow w.heap.size 5 1 v (leb x).length (bvs (leb x)) ∧ Below w.heap.size w w' := by
  obtain ⟨i0, hi, hz0, hz1, hz2⟩ := info_parts info5
  have hlen := hx.len
  refine (callsIn_wide (n := 5)).1 ?_
  refine callsIn_of_wp_marks Try.func10 rfl trivial ?_ rfl
  simp only [Try.ntmps10, List.size_toArray, List.length_cons, List.length_nil, Nat.reduceAdd, Nat.reduceSub, Array.replicate_succ, Array.replicate_zero, List.push_toArray, List.append_toArray, List.nil_append, List.cons_append]
  gi_wp2_with (refine ⟨trivial, ?_⟩; gi_at_call 32; refine (digits_in _ _ trivial rfl _ _).mono ?_; rintro e w' ⟨rfl, rfl⟩)
  have bO := Boxed.new w 23 (.slice none 0 0)
  have bN := Boxed.new (w.alloc (.cells #[.slice none 0 0] 23)) 22 (.int .u64 x)
  rw [World.size_alloc] at bN
  have hB0 : Below w.heap.size w ((w.alloc (.cells #[.slice none 0 0] 23)).alloc (.cells #[.int .u64 x] 22)) := ((Below.refl _ w).alloc (Nat.le_refl _) _).alloc (by simp) _
  obtain ⟨w2, hw2⟩ : ∃ w2, ((w.alloc (.cells #[.slice none 0 0] 23)).alloc (.cells #[.int .u64 x] 22)) = w2 := ⟨_, rfl⟩
  have hs2 : w.heap.size + 1 < w2.heap.size := by rw [← hw2]; simp
  replace bO := bO.alloc (.cells #[.int .u64 x] 22)
  rw [hw2] at bO bN hB0 ⊢
  clear hw2
  refine rangeFunc_start (n := 5) rfl (by omega) (gf := 39) (lb := #[.pointer (some ⟨w.heap.size + 1, 0, none⟩)]) rfl trivial (enters_of Try.func39 (by kernel_rfl) rfl) ?_
  intro fn hfn rec hrec W1 hW1 hL
  have hB1 : Below w2.heap.size w2 W1 := by rw [hW1]; exact ((Below.refl _ _).alloc (Nat.le_refl _) _).alloc (by simp) _
  have bO1 : Boxed W1 w.heap.size 23 (.slice none 0 0) := by rw [hW1]; exact (bO.alloc _).alloc _
  have bN1 : Boxed W1 (w.heap.size + 1) 22 (.int .u64 x) := by rw [hW1]; exact (bN.alloc _).alloc _
  clear hW1
  refine (digits1_in Fence.wide 4 trivial rfl (by omega) (w2.heap.size + 1) (w.heap.size + 1) x hx
    (fun pre z W => LoopAt W w2.heap.size (rec .ready none) ∧ Boxed W (w.heap.size + 1) 22 (.int .u64 (z : Int)) ∧ Below w.heap.size w W ∧ ∃ v, Boxed W w.heap.size 23 v ∧ W.ownsRow w.heap.size 5 1 v pre.length (bvs pre))
    ?hbox ?hset ?hY W1 ?h0).mono ?fin
  case hbox =>
    rintro pre z W ⟨_, hb, _⟩
    exact ⟨hb.cell, hb.frozen⟩
  case hset =>
    rintro pre z z' W ⟨hL, hb, hB, v, hv, hown⟩
    refine ⟨hL.setCell _ _, hb.set _, hB.setCell (p := ⟨w.heap.size + 1, 0, none⟩) (by simp) _, v, hv.kept (grownBy_setCell' _ _ _) (by simp), hown.kept (grownBy_setCell' _ _ _) (.inr (hb.not_row (by decide) hown).symm)⟩
  case h0 => exact ⟨hL, bN1, hB0.trans (hB1.mono (by omega)), _, bO1, World.ownsRow_nil _ _ _ _⟩
  case hY =>
    rintro pre b z W hpre ⟨hL, hb, hB, v, hv, hown⟩
    refine yield_round (a₁ := { tmps := #[Value.int IntKind.u64 ↑x, undef, Value.slice none 0 0, Value.pointer (some { block := w.heap.size, off := 0 }), .int .u8 b.toNat, Value.int IntKind.u64 ↑x,
                      Value.func (Fn.func 39) #[] #[Value.pointer (some { block := w.heap.size + 1, off := 0 })], .int .u8 b.toNat, undef, undef, undef, undef, undef], defers := [] }) hrec hfn hL rfl ?_ ?_
    · intro K hK
      gi_wp2
      exact hK
    · clear hrec
      intro W2 hW2 hL2
      have hv2 : Boxed W2 w.heap.size 23 v := by rw [hW2]; exact boxed_putObj hv hL
      have hb2 : Boxed W2 (w.heap.size + 1) 22 (.int .u64 (z : Int)) := by rw [hW2]; exact boxed_putObj hb hL
      have hown2 : W2.ownsRow w.heap.size 5 1 v pre.length (bvs pre) := by rw [hW2]; exact own_putObj hown hL
      have hB2 : Below w.heap.size w W2 := by rw [hW2]; exact hB.grown (putObj_grown _ _ _) hB.size (fun k e => by injection e; omega)
      clear hW2 hv hb hown hB hL
      have hc := hv2.cell
      have hsz := hB2.size
      gi_wp2_with (gi_at_builtin; refine wpListIn_append_own _ rfl _ _ 23 rfl w.heap.size 5 i0 _ 1 1 Try.underlying23 hi hz0 hz1 hz2 rfl (by decide) _ _ _ rfl (hown2.alloc _) ⟨W2.heap.size, 0, none⟩ 1 1 [.int .u8 b.toNat] rfl rfl (cell_one_new _ _ _) (by simp [Value.oneCell']) (by unfold maxLen; omega) (by omega) (by simp; omega) ?_; intro v' w1 hown' hgrow _; obtain ⟨g', cap', rfl⟩ := ownsRow_succ hown'; obtain ⟨hv1, hv3, hr3, hk3, hb3⟩ := hv2.appended (by decide) hown2 hsz (Nat.le_refl _) hown' hgrow; have hc1 := hv1.cell; have hf1 := hv1.frozen)
      have hb4 : Boxed w1 (w.heap.size + 1) 22 (.int .u64 (z : Int)) := (hb2.alloc _).kept hgrow (hb2.not_row (by decide) hown2)
      have hb5 := hb4.kept (grownBy_setCell' w1 w.heap.size (.slice (some ⟨g', 0, none⟩) (pre.length + 1) cap')) (by simp)
      have hL3 := hL2.keeps hk3
      refine ⟨hL3, rfl, hL3.put, boxed_putObj hb5 hL3, ?_, _, boxed_putObj hv3 hL3, ?_⟩
      · exact (hB2.trans hb3).grown (putObj_grown _ _ _) (hB2.trans hb3).size (fun k e => by injection e; omega)
      · have := own_putObj (r' := rec .ready none) hr3 hL3
        rw [bvs_append]
        first | exact this | (rw [List.length_append]; exact this)
  case fin =>
    rintro e W' ⟨hv, z, hL, hb, hB, v, hv', hown⟩
    refine ⟨hv, .inl ⟨hL, fun r => ?_⟩⟩
    have hv2 : Boxed (W'.putObj (w2.heap.size + 1) (.loop r)) w.heap.size 23 v := boxed_putObj hv' hL
    have hown2 : (W'.putObj (w2.heap.size + 1) (.loop r)).ownsRow w.heap.size 5 1 v (leb x).length (bvs (leb x)) := own_putObj hown hL
    have hB2 : Below w.heap.size w (W'.putObj (w2.heap.size + 1) (.loop r)) := hB.grown (putObj_grown _ _ _) hB.size (fun k e => by injection e; omega)
    have hL2 : LoopAt (W'.putObj (w2.heap.size + 1) (.loop r)) w2.heap.size r := hL.put
    generalize W'.putObj (w2.heap.size + 1) (.loop r) = W3 at *
    have hc := hv2.cell
    gi_wp2
    refine ⟨by simp, .inl ⟨_, _, rfl, run_takeDeferred hL2.dfr, ?_⟩⟩
    refine ⟨_, results_tmp rfl _ _ _, v, rfl, ownsRow_putObj hown2 _ hL2.dfr rfl, ?_⟩
    exact hB2.grown (putObj_grown _ _ _) hB2.size (fun k e => by injection e; omega)
end Go.Proofs.Ytmhjkghmpdnhaaa
