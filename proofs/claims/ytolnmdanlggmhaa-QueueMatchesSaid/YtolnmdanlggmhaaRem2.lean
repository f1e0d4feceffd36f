/- The queue's Remove. -/
import Derived.Test.YtolnmdanlggmhaaRem
namespace Go.Proofs.Ytolnmdanlggmhaa
open Go.RowKit Go.Maps

section
variable {P : Program} (w : World)
/-- Elements, or none, appended to a full row, at a step of a region that draws its order. -/
theorem step_append_full {ops : Array Oper} {o : Oper} {a : Act} {K : Act → World → Prop} {Q : Exit → Act → World → Prop} {E : Prop} (hgd : o.guard = none) (s x : Operand) (t : TypeId)
    (ho : o.op = .call { callee := .builtin .append, args := #[s, x], argTypes := #[t, t] })
    (e : TypeId) (i : TypeInfo) (z : Value) (bytes : Nat) (ht : P.underlying t = some (.slice e)) (hi : P.info? e = some i) (hz : i.zero = some z)
    (hsize : i.size = 1) (hby : i.bytes = bytes) (hzs : z.cells.size = 1)
    (g off n : Nat) (xs : List Value) (hn : xs.length = n) (hs : a.eval s = .slice (some ⟨g, off, none⟩) n n) (hq : QRow w (.slice (some ⟨g, off, none⟩) n n) xs)
    (ad : Addr) (m c : Nat) (news : List Value) (hx : a.eval x = .slice (some ad) m c) (hl : news.length = m) (hnews : ∀ j u', news[j]? = some u' → w.cell? (ad.add j) = some u') (h1 : ∀ u' ∈ news, u'.oneCell' = true)
    (h63 : n + m ≤ maxLen) (hbytes : (n + m) * bytes ≤ 140737488355328)
    (h : ∀ v' w', QRow w' v' (xs ++ news) → w.grownBy w' (some g) → (v'.ownBlock = some g ∨ ∀ g', v'.ownBlock = some g' → w.heap.size ≤ g') → K (a.put o.dst v') w') :
    if Region.wanted o (yielded ops a.tmps) = true then Oper.wp P o a w K Q else E := by
  subst hn
  cases news with
  | nil =>
    have hw : Region.wanted o (yielded ops a.tmps) = true := by simp [Region.wanted, hgd]
    rw [if_pos hw]
    obtain rfl : m = 0 := by simpa using hl.symm
    have hrun := run_append_room_cells (P := P) w t o.type e i ht hi g off xs.length xs.length ad 0 c [] (by simp) hnews h1 (Nat.le_refl _) (fun j hj => by simp at hj) (fun j hj => by simp at hj)
    simp only [World.setCells, Nat.add_zero] at hrun
    unfold Oper.wp execOp
    simp only [ho, resolve, invoke, builtin, Sem.run_bind, Sem.run_pure, Result.andThen_ok, List.map_toArray, List.map_cons, List.map_nil, hs, hx, hrun]
    exact h _ _ (by simpa using hq) ⟨rfl, rfl, rfl, Nat.le_refl _, fun _ _ _ => rfl⟩ (.inl rfl)
  | cons u news => exact step_append_q w hgd s x t ho e i z bytes ht hi hz hsize hby hzs _ xs hs hq ⟨_, rfl⟩ ad m c u news hx hl hnews h1 h63 hbytes h
end

theorem QOf.rem {P : Program} {k E : TypeId} {w w2 w3 w4 : World} {fp : Nat → Prop} {b f : Nat} {xs ys : List Int} {v v' : Value} {bm n r : Nat} {D D' : DataW Unit} {t : TypeId} (h : QOf intV intL P k E w fp b f xs v bm D t)
    (g2 : w.grownBy w2 (some bm)) (g3 : w2.grownBy w3 v.ownBlock) (row : QRow w3 v' (ys.map intV)) (n3 : v'.ownBlock = v.ownBlock ∨ ∀ g, v'.ownBlock = some g → w2.heap.size ≤ g)
    (g4 : w3.grownBy w4 (some bm)) (own4 : w4.ownsMap P k (plainElem P E) bm n D') (hr : RemAt D' f r ys) (hrl : ys.length ≤ r) (hnd : ys.Nodup) :
    QOf intV intL P k E (w4.setCell ⟨b, 0, none⟩ v') (fun i => fp i ∨ w.heap.size ≤ i) b f ys v' bm D' t ∧ QStep fp (fun i => fp i ∨ w.heap.size ≤ i) w (w4.setCell ⟨b, 0, none⟩ v') := by
  have hblt := h.blt
  have hbm := h.own.lt
  have s2 := g2.size
  have s3 := g3.size
  have s4 := g4.size
  have e3 : ∀ i, i < w.heap.size → i ≠ bm → some i ≠ v.ownBlock → w4.heap[i]? = w.heap[i]? := fun i hi h1 h2 =>
    (g4.block i (by omega) (fun e => h1 (by injection e))).trans ((g3.block i (by omega) h2).trans (g2.block i hi (fun e => h1 (by injection e))))
  have hb4 := (e3 b hblt (fun e => h.mne e.symm) (fun e => h.ng b e.symm rfl)).trans h.box
  have hng' : ∀ g, v'.ownBlock = some g → g ≠ b ∧ g ≠ bm := fun g hg => by
    rcases n3 with n3 | n3
    · exact ⟨h.ng g (n3 ▸ hg), h.mng g (n3 ▸ hg)⟩
    · have := n3 g hg; omega
  have hbs := heap_setCell_same w4 b 0 _ t v' hb4
  refine ⟨⟨hbs, row.keep fun g hg => (heap_setCell_other w4 _ g v' (hng' g hg).1).trans (g4.block g (row.lt g hg) (fun e => (hng' g hg).2 (by injection e))), own_tight (own4.setCell (fun e => h.mne e) v'), hr.size, hr.has, fun i y hi => ?_, hnd, .inl h.fb, .inl h.fm, fun g hg => ?_, fun g hg => (hng' g hg).1⟩, ?_⟩
  · have hlt := (List.getElem?_eq_some_iff.1 hi).1
    rw [hr.atk i y hi, if_neg (by omega)]; rfl
  · rcases n3 with n3 | n3
    · exact .inl (h.fg g (n3 ▸ hg))
    · have := n3 g hg; exact .inr (by omega)
  · refine ⟨g4.os.trans (g3.os.trans g2.os), g4.tape.trans (g3.tape.trans g2.tape), g4.output.trans (g3.output.trans g2.output), by show w.heap.size ≤ (w4.setCell _ _).heap.size; simp only [World.setCell, Array.size_modify]; omega, fun i hi hn => ?_, fun i hi => hi⟩
    rw [heap_setCell_other w4 _ i v' (fun e => hn (by rw [e]; exact h.fb))]
    exact e3 i hi (fun e => hn (by rw [e]; exact h.fm)) (fun e => hn (h.fg i e.symm))

set_option maxRecDepth 1000000 in
set_option maxHeartbeats 4000000 in
theorem remove_i {fp : Nat → Prop} (b f : Nat) (xs : List Int) (x : Int) (w : World) (h : Qui w fp b f xs) (hx : (Lit.int .i64 x).wf = true) (hwf : ∀ y ∈ xs, (Lit.int .i64 y).wf = true) (hf : f + xs.length ≤ 1152921504606846975) (hb : xs.length * 8 ≤ 140737488355328) :
    Calls Try.prog 28 #[.pointer (some ⟨b, 0, none⟩), .int .i64 x] w fun e w' => e = .returned (.bool (memB x xs)) ∧
      ∃ fp', Qui w' fp' b f (remX xs x) ∧ QStep fp fp' w w' := by
  have hp := place_i b f xs x w h hx (by omega)
  obtain ⟨i0, hi, hz0, hz1, hz2⟩ := info_parts infoQi
  by_cases hm : x ∈ xs
  · obtain ⟨i, hpi, hlt, hget, hrem⟩ := remX_in hm
    rw [memB_in hm, hrem]
    rw [hpi] at hp
    obtain ⟨v, bm, D, h⟩ := h
    obtain ⟨A, c, rfl, h1, h2⟩ := h.row.slice
    obtain ⟨n, hn⟩ : ∃ n, xs.length = n := ⟨_, rfl⟩
    have hlm : (xs.map intV).length = n := by rw [List.length_map]; exact hn
    rw [hlm] at h h1
    rw [hn] at hlt hf hb
    obtain ⟨g, off, rfl⟩ : ∃ g off, A = some ⟨g, off, none⟩ := by
      cases xs with
      | nil => simp at hn; omega
      | cons y ys => exact h.row.addr
    have c2 := h.cell2
    have hkey := keyOf_int_mk Try.underlying3 hx
    have hown := h.own
    unfold maxLen at h2
    obtain ⟨A2, hA2, hr2, hA2g⟩ : ∃ ad : Addr, (if c = i + 1 then some (⟨g, off, none⟩ : Addr) else some ⟨g, off + (i + 1), none⟩) = some ad ∧ (∀ j u, ((xs.map intV).drop (i + 1))[j]? = some u → w.cell? (ad.add j) = some u) ∧ ad.block = g := by
      have h := h.row.rd.drop (k := i + 1) (by omega) h1
      by_cases hc : c = i + 1
      · refine ⟨_, if_pos hc, fun j u hu => ?_, rfl⟩
        rw [if_pos hc] at h
        obtain ⟨ad, e, _, hcu⟩ := h.at' j u hu
        injection e with e; subst e; exact hcu
      · refine ⟨_, if_neg hc, fun j u hu => ?_, rfl⟩
        rw [if_neg hc] at h
        obtain ⟨ad, e, _, hcu⟩ := h.at' j u hu
        simp only [Option.map_some, addN] at e
        injection e with e; subst e; exact hcu
    have hrow := h.row.front (i := i) (by omega)
    have hkeep : ∀ w1, w.mapTurned w1 bm → w1.heap[b]? = some (.cells #[.slice (some ⟨g, off, none⟩) n c, .int .i64 f, .map (some bm)] 83 (0, 0)) ∧ w1.heap[g]? = w.heap[g]? := fun w1 ht =>
      ⟨(ht.grown.block b h.blt (fun e => h.mne (by injection e with e; exact e.symm))).trans h.box, ht.grown.block g (h.row.lt g rfl) (fun e => h.mng g rfl (by injection e))⟩
    have hst := RemAt.start h keyedi hget
    have hnd := cutAt_nodup h.nodup i
    have H := Lib.hid h; clear h
    have HN := Lib.hid hn; clear hn
    have e1 : ((i : Int) + 1).toNat = i + 1 := by omega
    have i1 : (i : Int) ≤ (n : Int) := by omega
    have i2 : (0 : Int) ≤ (i : Int) + 1 := by omega
    have i3 : (i : Int) + 1 ≤ (n : Int) := by omega
    have i4 : (n : Int) ≤ (c : Int) := by omega
    have i5 : i ≤ c := by omega
    have i6 : (i : Int) ≤ (c : Int) := by omega
    have hwr : IntKind.i64.wrap ((i : Int) + 1) = (i : Int) + 1 := by rw [IntKind.wrap_i64]; omega
    have HG := Lib.hid hget
    clear hget hrem hpi
    go_enter Try.func28, Try.ntmps28
    go_wp2_with fail
    refine hp.mono ?_
    rintro e w1 ⟨rfl, rfl⟩
    clear hp
    have o2 : ∀ u ∈ (xs.map intV).drop (i + 1), u.oneCell' = true := fun u hu => ivs_one xs u (List.mem_of_mem_drop hu)
    go_wp2_with (first | (at_delete; refine wpList_delete_own _ rfl _ _ 81 3 rfl 3 keyedi Try.underlying81 _ bm _ D rfl hown _ _ rfl hkey ?_; intro w2 hown2 hturn2; have hb2 := (hkeep w2 hturn2).1; have hg2 := (hkeep w2 hturn2).2; have k0 := blk_cell hb2 0 _ rfl) | fail)
    have hrow2 : QRow w2.drew (.slice (some ⟨g, off, none⟩) i i) ((xs.map intV).take i) := hrow.keep fun g' hg' => by injection hg' with hg'; subst hg'; exact hg2
    have hcl : ∀ j u, ((xs.map intV).drop (i + 1))[j]? = some u → w2.drew.cell? (A2.add j) = some u := fun j u hu => (World.cell?_of_block (w' := w2) (by rw [add_block, hA2g]; exact hg2)).trans (hr2 j u hu)
    have hl1 : ((xs.map intV).take i).length = i := by rw [List.length_take, List.length_map, HN.out]; omega
    have hl2 : ((xs.map intV).drop (i + 1)).length = n - (i + 1) := by rw [List.length_drop, List.length_map, HN.out]
    obtain ⟨m, HNM⟩ : ∃ m, Hid (n = m + 1) := ⟨n - 1, by show n = _; omega⟩
    go_region_law (refine step_append_full _ rfl (.tmp 24) (.tmp 31) 22 rfl 3 i0 _ 8 Try.underlying22 hi hz0 hz1 hz2 rfl g off i _ hl1 (by simp [Act.eval, Act.put]) hrow2 A2 (n - (i + 1)) _ _ (by simp [Act.eval, Act.put]; rfl) hl2 hcl o2 (by unfold maxLen; omega) (by omega) ?_; intro v3 w3 hrow3 hg3 hat3)
    all_goals
      have hsz3 := hg3.size
      obtain ⟨A3, c3, hv3, hc31, hc32⟩ := hrow3.slice
      have hl3 : ((xs.map intV).take i ++ (xs.map intV).drop (i + 1)).length = m := by rw [List.length_append, hl1, hl2]; have := HNM.out; omega
      rw [hl3] at hv3 hc31
      subst hv3
      have hrow4 : QRow w3 (.slice A3 m c3) ((cutAt xs i).map intV) := by rw [cutAt_map]; exact hrow3
      have hb3 : w3.heap[b]? = some (.cells #[.slice (some ⟨g, off, none⟩) n c, .int .i64 f, .map (some bm)] 83 (0, 0)) :=
        (hg3.block b (blk_lt hb2) (fun e => H.out.ng g rfl (by injection e with e; exact e.symm))).trans hb2
      have hown3 : w3.ownsMap Try.prog 3 (plainElem Try.prog 3) bm (Maps.size (D.del (intL x))) (D.del (intL x)) :=
        own_tight (hown2.kept (w' := w3) (row := some g) ⟨hg3.os, hg3.tape, hg3.output, hg3.size, hg3.block⟩ (fun e => H.out.mng g rfl (by injection e with e; exact e.symm)))
      have hmw : bm < w2.heap.size := hown2.lt
      have hng3 : ∀ g', (Value.slice A3 m c3).ownBlock = some g' → g' ≠ bm := fun g' hg' => by
        rcases hat3 with e | e
        · rw [e] at hg'; injection hg' with hg'; subst hg'; exact H.out.mng g rfl
        · have h1 : w2.heap.size ≤ g' := e g' hg'
          omega
      have him : i ≤ m := by have := HNM.out; omega
      have hfm : (f : Int) + m ≤ 1152921504606846975 := by have := HNM.out; omega
      have hm8 : m * 8 ≤ 140737488355328 := by have := HNM.out; omega
      clear hrow2 hcl hrow hr2 hkeep hown hown2 hrow3 hA2 o2 hl1 hl2 hl3 hwr e1 i2 i3 i4 i5 i6 hc31 k0 c2 h1 h2 hlm
      go_wp2_with fail
      go_loopw [7] (fun i' wr => ∃ (k : Nat) (D' : DataW Unit), i ≤ k ∧ k ≤ m ∧ i' = .int .i64 k ∧ RemAt D' f k (cutAt xs i) ∧ wr.ownsMap Try.prog 3 (plainElem Try.prog 3) bm (Maps.size D') D' ∧ w3.grownBy wr (some bm)) (fun i' _ => m - (intOf i').toNat)
      case atStart => exact ⟨i, _, Nat.le_refl _, him, rfl, hst, hown3, ⟨rfl, rfl, rfl, Nat.le_refl _, fun _ _ _ => rfl⟩⟩
      case round =>
        obtain ⟨k, D', hik, hkm, rfl, hra, hownr, hgr⟩ := hrel
        have hbr : wr.heap[b]? = some (.cells #[.slice (some ⟨g, off, none⟩) n c, .int .i64 f, .map (some bm)] 83 (0, 0)) :=
          (hgr.block b (blk_lt hb3) (fun e => H.out.mne (by injection e with e; exact e.symm))).trans hb3
        by_cases hlt2 : k < m
        · have hki : (k : Int) < (m : Int) := by omega
          have hk63 : (k : Int) < 1152921504606846975 := by omega
          have hrow5 := hrow4.keep (w' := wr) fun g' hg' => hgr.block g' (hrow4.lt g' hg') (fun e => hng3 g' hg' (by injection e))
          obtain ⟨ad, u, rfl, _, hu, hcu⟩ := hrow5.rd.at hlt2
          rw [List.getElem?_map, Option.map_eq_some_iff] at hu
          obtain ⟨y, hy, rfl⟩ := hu
          have hcy : wr.cell? (ad.add k) = some (.int .i64 y) := hcu
          have hyx : y ∈ xs := ((cutAt_mem H.out.nodup HG.out y).1 (List.mem_of_getElem? hy)).1
          have hkey2 := keyOf_int_mk Try.underlying3 (hwf y hyx)
          obtain ⟨c0, hrun1, hat, _⟩ := (hownr.drew).lookup_int keyedi Try.underlying81 Try.underlying3 (zeroIi _) hkey2
          have hc0 : c0 = (f : Int) + k + 1 := by
            have h1 := hra.atk k y hy
            rw [if_pos (Nat.le_refl k)] at h1
            have h2 := hat.symm.trans h1
            injection h2 with h2
            injection h2 with _ h2
          subst hc0
          have hsz : Maps.size D' < maxLen := by
            have h1 := hra.size
            have h2 : (cutAt xs i).length = m := by rw [cutAt_len xs (by rw [HN.out]; exact hlt), HN.out, HNM.out]; omega
            unfold maxLen; omega
          obtain ⟨w5, hrun2, hown5, hg5⟩ := (hownr.drew).update keyedi Try.underlying81 hsz hkey2 (plainElem_int Try.underlying3 (int_wf (x := (f : Int) + k) (by omega) (by omega)))
          have hwr2 : IntKind.i64.wrap ((f : Int) + k + 1 - 1) = (f : Int) + k := by rw [IntKind.wrap_i64]; omega
          have c2 := blk_cell hbr 2 _ rfl
          have hown6 : w5.ownsMap Try.prog 3 (plainElem Try.prog 3) bm _ (D'.put (intL y) (.lit (.int .i64 ((f + k : Nat) : Int)))) := own_tight (by rw [Int.natCast_add]; exact hown5)
          have hra6 := hra.next hownr keyedi hy hnd
          have hgr6 : w3.grownBy w5 (some bm) := ⟨hg5.os.trans hgr.os, hg5.tape.trans hgr.tape, hg5.output.trans hgr.output, Nat.le_trans hgr.size hg5.size, fun i hi hne => (hg5.block i (Nat.lt_of_lt_of_le hi hgr.size) hne).trans (hgr.block i hi hne)⟩
          clear hcu hsz hat
          go_wp2_with fail
          go_region
          all_goals go_wp2_with fail
          all_goals go_roundw
          case rel => exact ⟨k + 1, _, by omega, by omega, by go_num, hra6, hown6, hgr6⟩
          case measure => simp [intOf]; omega
        · have hki : ¬ (k : Int) < (m : Int) := by omega
          have d0 := blk_cell hbr 0 _ rfl
          have f0 := blk_frozen hbr 0
          go_wp2_with fail
          go_ret
          have r := H.out.rem (w2 := w2) (w3 := w3) (w4 := wr) (v' := .slice A3 m c3) (ys := cutAt xs i) (D' := D') (r := k) hturn2.grown ⟨hg3.os, hg3.tape, hg3.output, hg3.size, hg3.block⟩ hrow4 hat3 hgr hownr hra (by rw [cutAt_len xs (by rw [HN.out]; exact hlt), HN.out, HNM.out]; omega) hnd
          exact ⟨rfl, _, ⟨_, _, _, r.1⟩, r.2⟩
  · rw [memB_out hm, remX_out hm]
    rw [placeOf_out hm] at hp
    have H := Lib.hid h; clear h
    go_enter Try.func28, Try.ntmps28
    go_wp2_with fail
    refine hp.mono ?_
    rintro e w1 ⟨rfl, rfl⟩
    go_wp2_with fail
    go_ret
    exact ⟨rfl, fp, H.out, QStep.refl _ _⟩
end Go.Proofs.Ytolnmdanlggmhaa
