/- CoroDefers: for every list of bytes the law returns true (its run, on whatever schedule). -/
import Derived.Test.YtolnmdanlggmhaaKdf
namespace Go.Proofs.Ytolnmdanlggmhaa
open Go.RowKit Go.Maps Go.Conc
open Go.ConcN (upd upd_ne upd_same)

set_option maxRecDepth 100000
set_option maxHeartbeats 2000000

/-- What is there besides main, whoever waits. -/
theorem CI.ground {E : Env} {own : Nat → Nat} {S : Sch} {ks : List Kid} {FC : List Row} {n : Nat} {Inb : Nat → Option Seat} {w : World} (C : CI E 0 own S ks FC n Inb w) : Ground FC n (upd Inb 0 none) w := by
  refine ⟨C.fi.wf, C.rows, fun x s hx => ?_, fun x s r hx hr => ?_, C.hn, upd_same _ _ _⟩
  · by_cases e : x = 0
    · subst e; exact C.hn
    · rw [upd_ne _ _ e] at hx; exact C.top x s hx
  · by_cases e : x = 0
    · subst e; rw [upd_same] at hx; cases hx
    · rw [upd_ne _ _ e] at hx
      rcases C.only x s hx with h | h | h | ⟨i, k, h1, h2, h3⟩
      · exact absurd h e
      · exact absurd h e
      · exact Nat.lt_of_lt_of_le (C.chs x s r h hr) C.base.size
      · obtain ⟨c, hc, hk⟩ := C.coAt h1
        obtain ⟨_, _, _, _, h5⟩ := hk.2.2.1 h2
        rw [h3, hx] at h5
        obtain rfl := Option.some.inj h5
        rw [Seat.one_has] at hr
        subst hr
        exact C.lt _ (by rw [C.si.och c (List.mem_of_getElem? hc)]; omega)

/-- Each coroutine's kind. -/
def dMd (zs : List Int) (i : Nat) : Int := zs.getD i 0 % 3
theorem dMd_at {zs : List Int} {i : Nat} {z : Int} (h : zs[i]? = some z) : dMd zs i = z % 3 := by
  unfold dMd
  rw [List.getD_eq_getElem?_getD, h]
  rfl
theorem dFirst_snoc (md : Nat → Int) (L : List Nat) (i : Nat) : dFirst md (L ++ [i]) = dFirst md L ++ if md i ≠ 1 then [i] else [] := by
  unfold dFirst
  rw [List.filter_append]
  by_cases h : md i = 1 <;> simp [h]
theorem dLast_snoc (md : Nat → Int) (L : List Nat) (i : Nat) : dLast md (L ++ [i]) = dLast md L ++ if md i = 1 then [i] else [] := by
  unfold dLast
  rw [List.filter_append]
  by_cases h : md i = 1 <;> simp [h]

section
variable {Post : Value → World → Prop} {E : Env} {A : Option Addr} {n cap ob nn : Nat} {zs : List Int}
/-- THE LOOP THAT SPAWNS. -/
theorem defer_spawns (hF : E.FC0 = []) (hn : n ≤ 20) (hzl : zs.length = n) (hA : ArgAt E.W0 A zs) (hz : ∀ z ∈ zs, 0 ≤ z ∧ z < 256) : ∀ (N idx : Nat) {own : Nat → Nat} {S : Sch} {ks : List Kid} {FC : List Row} {Inb : Nat → Option Seat} {w : World} {g : Goroutine}, N + idx = n →
    CI E 0 own S ks FC nn Inb w → S.fr = 0 → S.closed = false → S.cos.length = idx → (∀ k ∈ ks, k.tag = 0) → OrdAt own ob [] w → DJ own S ks ob (dMd zs) FC (List.range idx) w → AtDx g A n cap S.sb ob idx →
    (∀ own' S' ks' FC' w' g', CI E 0 own' S' ks' FC' nn Inb w' → S'.fr = 0 → S'.closed = false → S'.cos.length = n → (∀ k ∈ ks', k.tag = 0) → OrdAt own' ob [] w' → DJ own' S' ks' ob (dMd zs) FC' (List.range n) w' → AtDx g' A n cap S'.sb ob n → Won Try.prog Post FC' nn Inb 0 g' w') → Won Try.prog Post FC nn Inb 0 g w
  | 0, idx, own, S, ks, FC, Inb, w, g, hN, C, hfr, hcl, hl, hk, ho, J, hg, next => by
    obtain rfl : idx = n := by omega
    exact next own S ks FC w g C hfr hcl hl hk ho J hg
  | N + 1, idx, own, S, ks, FC, Inb, w, g, hN, C, hfr, hcl, hl, hk, ho, J, hg, next => by
    have hidx : idx < n := by omega
    obtain ⟨z, hzi⟩ : ∃ z, zs[idx]? = some z := ⟨_, List.getElem?_eq_getElem (by omega)⟩
    obtain ⟨ad, hA1, hA2⟩ := hA idx z hzi
    have hzb := hz z (List.mem_of_getElem? hzi)
    have hgs : (guardW FC w).heap.size = w.heap.size := by simp [guardW]
    refine win_own C.fi.wf (hg fun gs => defers_spawn hA1 hidx (C.old hF hA2) fun kb hkb => ownU_stop fun w1 hs hkp => ?_)
    have hkbn := kb_new (guardW FC w) z
    rw [hkb] at hkbn
    have hsz : (((guardW FC w).alloc (.cells #[.int .u8 0] 5)).setCell ⟨kb, 0, none⟩ (.int .u8 z)).heap.size = w.heap.size + 1 := by rw [setCell_size, World.size_alloc, hgs]
    have st1 : Stp (fun _ => False) own (retagC own 8 (· = kb)) (guardW FC w) (((guardW FC w).alloc (.cells #[.int .u8 0] 5)).setCell ⟨kb, 0, none⟩ (.int .u8 z)) :=
      stp_new C.ltG rfl rfl (by omega) (fun b hb => by rw [setCell_get, if_neg (by simp only; omega)]; exact Below.heap_alloc _ _ _ hb) (by omega) (by omega)
    have fi1 : FI (retagC own 8 (· = kb)) S FC := C.fi.stp st1 fun r hr => by rw [hgs]; exact C.rows r hr
    obtain ⟨a1, C1⟩ := C.step hs hkp st1 (fun h => h) (C.siG.stp st1 fun t h => h.elim) fi1 rfl rfl (fun i c h => ⟨c, h, rfl, rfl⟩)
    have h8 : retagC own 8 (· = kb) kb = 8 := tag_eq rfl
    have s1 : Same6 own w w1 := same6_step a1 fi1 st1 (fun _ h => h.elim) C.lw C.fi
    have hkb1 : KbAt (retagC own 8 (· = kb)) kb z w1 := ⟨h8, (a1.eq kb (by omega) (fi1.ne (by omega) (by omega) (by omega))).trans hkbn⟩
    have ho1 := ho.same6 st1.le s1
    have J1 := J.keep st1.le s1.s8 (fun _ h => h)
    generalize retagC own 8 (· = kb) = own1 at *
    clear hs hkp a1 st1 s1
    have hlt : ∀ p ∈ List.range idx, p < idx := fun p hp => by simpa using hp
    refine spawn_won (fn := .func 58) (fi := #[]) (ca := #[ptr ob, ptr kb]) C1 hcl (by omega) (fun hm => ?_) ?_ fun own2 v2 c1 FC2 w2 hf1 hb1 hs1 hx1 C2 le2 s2 hsub2 => ?_
    · rw [J.qs] at hm
      obtain ⟨p, hp, e⟩ := List.mem_map.1 hm
      have := hlt p hp
      omega
    · have : S.qs.length = idx := by rw [J.qs, List.length_map, List.length_range]
      omega
    rw [hl] at C2 ⊢
    have J2 := J1.spawn (S' := { S with v := v2, cos := S.cos ++ [c1], qs := S.qs ++ [(idx : Int) + 1] }) (c := c1) (k := ⟨0, 0, default⟩) hl (by rw [C.len, hl]) hlt le2 s2.s8 hsub2 rfl rfl rfl rfl ⟨rfl, hs1, kb, z, hf1, hkb1.keep le2 s2.s8, hzb, (dMd_at hzi).symm⟩
    rw [← List.range_succ] at J2
    have ho2 := ho1.same6 le2 s2
    refine defer_spawns hF hn hzl hA hz N (idx + 1) (by omega) C2 hfr hcl (by simp [hl]) (fun k hk' => ?_) ho2 J2 (defers_spawned (wrap_id (by omega) (by omega))) next
    rcases List.mem_append.1 hk' with h | h
    · exact hk k h
    · simp at h; rw [h]
end

section
variable {main : Bool} {Z : Addr → Prop} {Stop : Goroutine → World → Prop} {w₀ u0 : World} {A : Option Addr} {n cap sb ob : Nat} {zs : List Int}
theorem idv_next (i : Nat) : Value.int .i64 ((i + 1 : Nat) : Int) = idv i := by unfold idv; rw [show ((i + 1 : Nat) : Int) = (i : Int) + 1 by omega]
/-- Two rows of one's own, new and apart. -/
structure TwoRows (u0 u : World) (vf vl : Value) (F L : List Nat) : Prop where
  new : New u0 u
  f : QRow u vf (F.map idv)
  l : QRow u vl (L.map idv)
  nf : ∀ g, vf.ownBlock = some g → u0.heap.size ≤ g
  nl : ∀ g, vl.ownBlock = some g → u0.heap.size ≤ g
  ap : ∀ g, vf.ownBlock = some g → vl.ownBlock ≠ some g
theorem TwoRows.addL {u u2 : World} {vf vl v' : Value} {F L : List Nat} {i : Nat} (h : TwoRows u0 u vf vl F L) (q1 : QRow u2 v' (L.map idv ++ [idv i])) (q2 : u2.os = u.os) (q3 : u2.output = u.output) (q4 : u.heap.size ≤ u2.heap.size) (q5 : ∀ g, g < u.heap.size → vl.ownBlock ≠ some g → u2.heap[g]? = u.heap[g]?) (q6 : v'.ownBlock = vl.ownBlock ∨ ∀ g, v'.ownBlock = some g → u.heap.size ≤ g) : TwoRows u0 u2 vf v' F (L ++ [i]) := by
  have hs := h.new.size
  refine ⟨⟨q2.trans h.new.os, q3.trans h.new.output, Nat.le_trans hs q4, fun b hb => (q5 b (Nat.lt_of_lt_of_le hb hs) fun e => by have := h.nl b e; omega).trans (h.new.block b hb)⟩, h.f.keep fun g hg => q5 g (h.f.lt g hg) (h.ap g hg), by rw [List.map_append]; exact q1, h.nf, fun g hg => ?_, fun g hg e => ?_⟩
  · rcases q6 with e | e
    · exact h.nl g (by rw [← e]; exact hg)
    · have := e g hg; omega
  · rcases q6 with e2 | e2
    · exact h.ap g hg (by rw [← e2]; exact e)
    · have := e2 g e; have := h.f.lt g hg; omega
theorem TwoRows.addF {u u2 : World} {vf vl v' : Value} {F L : List Nat} {i : Nat} (h : TwoRows u0 u vf vl F L) (q1 : QRow u2 v' (F.map idv ++ [idv i])) (q2 : u2.os = u.os) (q3 : u2.output = u.output) (q4 : u.heap.size ≤ u2.heap.size) (q5 : ∀ g, g < u.heap.size → vf.ownBlock ≠ some g → u2.heap[g]? = u.heap[g]?) (q6 : v'.ownBlock = vf.ownBlock ∨ ∀ g, v'.ownBlock = some g → u.heap.size ≤ g) : TwoRows u0 u2 v' vl (F ++ [i]) L := by
  have hs := h.new.size
  refine ⟨⟨q2.trans h.new.os, q3.trans h.new.output, Nat.le_trans hs q4, fun b hb => (q5 b (Nat.lt_of_lt_of_le hb hs) fun e => by have := h.nf b e; omega).trans (h.new.block b hb)⟩, by rw [List.map_append]; exact q1, h.l.keep fun g hg => q5 g (h.l.lt g hg) fun e => h.ap g e hg, fun g hg => ?_, h.nl, fun g hg e => ?_⟩
  · rcases q6 with e | e
    · exact h.nf g (by rw [← e]; exact hg)
    · have := e g hg; omega
  · rcases q6 with e2 | e2
    · exact h.ap g (by rw [← e2]; exact hg) e
    · have := e2 g hg; have := h.l.lt g e; omega
/-- THE LOOP THAT SAYS WHO APPENDS WHEN. -/
theorem defer_wants (hn : n ≤ 20) (hzl : zs.length = n) (hA : ArgAt u0 A zs) (hz : ∀ z ∈ zs, 0 ≤ z ∧ z < 256) : ∀ (N idx : Nat) {u : World} {vf vl : Value} {gs : List Value}, N + idx = n → TwoRows u0 u vf vl (dFirst (dMd zs) (List.range idx)) (dLast (dMd zs) (List.range idx)) →
    (∀ u' vf' vl' gs', TwoRows u0 u' vf' vl' (dFirst (dMd zs) (List.range n)) (dLast (dMd zs) (List.range n)) → OwnU Try.prog main Z Stop w₀ (dwHead A n cap sb ob n vf' vl' gs') u') → OwnU Try.prog main Z Stop w₀ (dwHead A n cap sb ob idx vf vl gs) u
  | 0, idx, u, vf, vl, gs, hN, T, next => by
    obtain rfl : idx = n := by omega
    exact next u vf vl gs T
  | N + 1, idx, u, vf, vl, gs, hN, T, next => by
    have hidx : idx < n := by omega
    obtain ⟨z, hzi⟩ : ∃ z, zs[idx]? = some z := ⟨_, List.getElem?_eq_getElem (by omega)⟩
    obtain ⟨ad, hA1, hA2⟩ := hA idx z hzi
    have hzb := hz z (List.mem_of_getElem? hzi)
    have hmd := dMd_at hzi
    have hfl : (dFirst (dMd zs) (List.range idx)).length ≤ idx := by unfold dFirst; exact Nat.le_trans (List.length_filter_le _ _) (by simp)
    have hll : (dLast (dMd zs) (List.range idx)).length ≤ idx := by unfold dLast; exact Nat.le_trans (List.length_filter_le _ _) (by simp)
    by_cases hm : z % 3 = 1
    · refine defers_last hA1 hidx (T.new.cell hA2) hzb rfl (wrap_id (by omega) (by omega)) hm T.l (by rw [List.length_map]; omega) fun v' u2 gs' q1 q2 q3 q4 q5 q6 => ?_
      rw [idv_next] at q1
      refine defer_wants hn hzl hA hz N (idx + 1) (by omega) ?_ next
      rw [List.range_succ, dFirst_snoc, dLast_snoc, if_neg (by simp [hmd, hm]), if_pos (by rw [hmd, hm]), List.append_nil]
      exact T.addL q1 q2 q3 q4 q5 q6
    · refine defers_first hA1 hidx (T.new.cell hA2) hzb rfl (wrap_id (by omega) (by omega)) hm T.f (by rw [List.length_map]; omega) fun v' u2 gs' q1 q2 q3 q4 q5 q6 => ?_
      rw [idv_next] at q1
      refine defer_wants hn hzl hA hz N (idx + 1) (by omega) ?_ next
      rw [List.range_succ, dFirst_snoc, dLast_snoc, if_pos (by rw [hmd]; exact hm), if_neg (by rw [hmd]; exact hm), List.append_nil]
      exact T.addF q1 q2 q3 q4 q5 q6
end

/-- slices.Concat of two rows, and that it reads as both. -/
theorem cat_u {u : World} {vf vl vo : Value} {F L : List Nat} (hf : QRow u vf (F.map idv)) (hl : QRow u vl (L.map idv)) (ho : QRow u vo ((F ++ L).map idv)) (hFL : F.length + L.length ≤ 1000) (A : Nat → Question → Nat) (d : Nat) :
    Calls Try.prog 61 #[.slice (some ⟨u.heap.size, 0, none⟩) 2 2] (tp (u.alloc (.cells #[vf, vl] 22)) A d) fun e w' => ∃ vc, e = .returned vc ∧ New u w' ∧ ∀ B d, Calls Try.prog 17 #[vo, vc] (tp w' B d) fun e w2 => e = .returned (.bool true) ∧ ∃ A d, w2 = tp w' A d := by
  have hnew := New.alloc u (.cells #[vf, vl] 22)
  have hblk : (u.alloc (.cells #[vf, vl] 22)).heap[u.heap.size]? = some (.cells #[vf, vl] 22 (0, 0)) := alloc_new' u _ rfl
  have hsz : (u.alloc (.cells #[vf, vl] 22)).heap.size = u.heap.size + 1 := World.size_alloc _ _
  have hf1 := hf.keep (w' := tp (u.alloc (.cells #[vf, vl] 22)) A d) fun g hg => hnew.block g (hf.lt g hg)
  have hl1 := hl.keep (w' := tp (u.alloc (.cells #[vf, vl] 22)) A d) fun g hg => hnew.block g (hl.lt g hg)
  have ho1 := ho.keep (w' := tp (u.alloc (.cells #[vf, vl] 22)) A d) fun g hg => hnew.block g (ho.lt g hg)
  have hnew1 : New u (tp (u.alloc (.cells #[vf, vl] 22)) A d) := hnew.tp A d
  have hsz1 : (tp (u.alloc (.cells #[vf, vl] 22)) A d).heap.size = u.heap.size + 1 := hsz
  have hblk1 : (tp (u.alloc (.cells #[vf, vl] 22)) A d).heap[u.heap.size]? = some (.cells #[vf, vl] 22 (0, 0)) := hblk
  generalize tp (u.alloc (.cells #[vf, vl] 22)) A d = w1 at *
  obtain ⟨Af, cf, hvf, _, _⟩ := hf1.slice
  obtain ⟨Al, cl, hvl, _, _⟩ := hl1.slice
  have hso : ∀ {v : Value} {xs : List Value}, QRow w1 v xs → SliceOf w1 w1.heap.size v xs := fun {v xs} h => by
    obtain ⟨A0, c0, hv, _, _⟩ := h.slice
    rw [hv] at h ⊢
    exact SliceOf.mk' h.rd
  have hr : Rds w1 w1.heap.size (some ⟨u.heap.size, 0, none⟩) [F.map idv, L.map idv] := rds_blk hblk1 (by omega) rfl fun i l hi => by
    rcases i with _ | _ | i
    · simp at hi; subst hi; exact ⟨vf, rfl, hso hf1⟩
    · simp at hi; subst hi; exact ⟨vl, rfl, hso hl1⟩
    · simp at hi
  have hfl : ([F.map idv, L.map idv] : List (List Value)).flatten = (F ++ L).map idv := by simp
  refine (concat61 (some ⟨u.heap.size, 0, none⟩) 2 [F.map idv, L.map idv] w1 _ hr (Nat.le_refl _) (by simp) (by rw [hfl]; simp; omega) (by
    rw [hfl]
    intro x hx
    obtain ⟨i, _, rfl⟩ := List.mem_map.1 hx
    rfl)).mono fun e w2 ⟨vc, h1, h2, h3⟩ => ⟨vc, h1, ⟨h3.os.trans hnew1.os, h3.output.trans hnew1.output, Nat.le_trans hnew1.size h3.size, fun b hb => (h3.block b (by omega)).trans (hnew1.block b hb)⟩, fun B d' => ?_⟩
  rw [hfl] at h2
  have hoq : QRow w2 vo ((F ++ L).map idv) := ho1.keep fun g hg => h3.block g (ho1.lt g hg)
  have hcq := QRow.of_own h2
  have eiv : ∀ L : List Nat, L.map idv = ivs (L.map fun i : Nat => (i : Int) + 1) := fun L => by unfold ivs; rw [List.map_map]; rfl
  rw [eiv] at hoq hcq
  obtain ⟨A1, c1, hv1, _, _⟩ := hoq.slice
  obtain ⟨A2, c2, hv2, _, _⟩ := hcq.slice
  rw [hv1] at hoq
  rw [hv2] at hcq
  rw [hv1, hv2]
  exact (equal_u hoq hcq.rd (by simp; omega) (by simp; omega) B d').mono fun e w' h => by simpa using h

/-- THE LAW. -/
theorem law_defers (A : Option Addr) (n cap : Nat) (zs : List Int) (W : World) (hW : IsRow .u8 W A n cap zs) : ∃ M last o w' t', runNT Try.prog (M + 1) (solo (G (Frame.enter Try.prog 13 #[.slice A n cap] .normal) []) W) #[] = (.ended o w', t') ∧
    runN Try.prog M (solo (G (Frame.enter Try.prog 13 #[.slice A n cap] .normal) []) W) = .next last ∧ step Try.prog last = .ended o w' ∧ Conc.Good Try.prog (LawPost W) last o w' t' := by
  have e : G (Frame.enter Try.prog 13 #[.slice A n cap] .normal) [] = defersIn A n cap := by kernel_rfl
  rw [e]
  clear e
  refine wins_start ?_
  have H := ground_zero W
  by_cases hn : 20 < n
  · refine win_own H.wf (defers_long hn (ownU_stop fun w1 hs hkp => ?_))
    obtain ⟨H1, ex1⟩ := ground_own H hs hkp (New.refl _)
    clear hs hkp
    refine alive_won H1 fun FC4 n4 w4 H4 hsub4 hsup4 ex4 hn4 => ?_
    refine win_own H4.wf (defers_long2 fun ts k h2 => ownU_stop fun w5 hs hkp => ?_)
    obtain ⟨H5, ex5⟩ := ground_own H4 hs hkp (New.refl _)
    refine won_end Try.func13 (t := 2) rfl (by kernel_rfl) (fun i hi => rfl) h2 ?_
    have hsz1 := ex1.size
    have hsz4 := ex4.size
    refine Ext.below (B := W.heap.size) (((ext_none ex1 fun b _ h => h).then (O := fun b => W.heap.size ≤ b) ex4 (fun b hb h => ?_) (fun r hr => hr) (fun r hr => .inl hr)).then (O := fun b => W.heap.size ≤ b) ex5 (fun b hb h => ?_) (fun r hr => hsub4 r hr) (fun r hr => ?_)) (Nat.le_refl _)
    · have h' : w1.heap.size ≤ b := h; omega
    · have h' : w4.heap.size ≤ b := h; omega
    · rcases hsup4 r hr with h | h
      · exact .inl h
      · exact .inr (by omega)
  have hn' : n ≤ 20 := by omega
  -- the argument
  obtain ⟨zs', hzl, hA, hz⟩ : ∃ zs' : List Int, zs'.length = n ∧ ArgAt W A zs' ∧ ∀ z ∈ zs', 0 ≤ z ∧ z < 256 := by
    rcases hW with ⟨_, rfl, _, _⟩ | ⟨x, rfl, h1, h2, h3, h4, h5⟩
    · exact ⟨[], rfl, fun i z h => by simp at h, fun z h => by cases h⟩
    · refine ⟨zs.take n, by rw [List.length_take]; omega, fun i z hi => ⟨x, rfl, ?_⟩, fun z hz => ?_⟩
      · rw [List.getElem?_take] at hi
        split at hi
        · have hil := (List.getElem?_eq_some_iff.1 hi).1
          rw [h4 i hil, List.getD_eq_getElem?_getD, hi]
          rfl
        · cases hi
      · have := h5 z (List.mem_of_mem_take hz)
        simp [Lit.wf, IntKind.min, IntKind.max, IntKind.signed, IntKind.bits] at this
        omega
  clear hW
  refine win_own H.wf (defers_a hn' (ownU_stop fun w1 hs hkp => ?_))
  obtain ⟨H1, ex1⟩ := ground_own H hs hkp (New.refl _)
  clear hs hkp
  have hA1 : ArgAt w1 A zs' := fun i z hi => by
    obtain ⟨ad, h1, h2⟩ := hA i z hi
    have hl := cell_lt h2
    exact ⟨ad, h1, (cell_same (ex1.eq _ hl (fun h => by have h' : W.heap.size ≤ (ad.add i).block := h; omega) (fun r hr => by cases hr))).trans h2⟩
  refine new_won H1 fun own sb qb sc FC1 w2 C2 hall hsub1 => ?_
  have hgs : (guardW FC1 w2).heap.size = w2.heap.size := by simp [guardW]
  refine win_own C2.fi.wf (defers_b (sb := sb) fun ob gs hob => ownU_stop fun w3 hs hkp => ?_)
  rw [hgs] at hob
  have st3 : Stp (fun _ => False) own (retagC own 6 (· = ob)) (guardW FC1 w2) ((guardW FC1 w2).alloc (.cells #[.slice none 0 0] 22)) :=
    stp_new C2.ltG rfl rfl (by rw [World.size_alloc]; omega) (fun b hb => Below.heap_alloc _ _ _ hb) (by omega) (by rw [World.size_alloc]; omega)
  have fi3 : FI (retagC own 6 (· = ob)) (emptyS sb qb sc) FC1 := C2.fi.stp st3 fun r hr => by rw [hgs]; exact C2.rows r hr
  have hblk : ((guardW FC1 w2).alloc (.cells #[.slice none 0 0] 22)).heap[ob]? = some (.cells #[.slice none 0 0] 22 (0, 0)) := alloc_new' _ _ (by rw [hgs, hob])
  obtain ⟨a3, C3⟩ := C2.step hs hkp st3 (fun h => h) (C2.siG.stp st3 fun t h => h.elim) fi3 rfl rfl (fun i c h => ⟨c, h, rfl, rfl⟩)
  have h6 : retagC own 6 (· = ob) ob = 6 := tag_eq rfl
  have ho3 : OrdAt (retagC own 6 (· = ob)) ob [] w3 := by
    refine ⟨⟨.slice none 0 0, ?_, QRow.nil _, fun g hg => (by cases hg)⟩, h6⟩
    rw [a3.eq ob (by rw [h6]; omega) (fi3.ne (by rw [h6]; omega) (by rw [h6]; omega) (by rw [h6]; omega))]
    exact hblk
  generalize retagC own 6 (· = ob) = own3 at *
  clear hs hkp a3 st3
  -- the coroutines
  refine defer_spawns (zs := zs') rfl hn' hzl hA1 hz n 0 (by omega) C3 rfl rfl rfl (fun k hk => by cases hk) ho3 ⟨rfl, by simp, fun p hp => (by simp at hp), fun i c k hc => (by simp [emptyS] at hc)⟩ (fun hk => hk gs) fun own4 S4 ks4 FC4 w4 g4 C4 hfr4 hcl4 hl4 hk4 ho4 J4 hg4 => ?_
  have hA4 : ArgAt (guardW FC4 w4) A zs' := fun i z hi => by
    obtain ⟨ad, h1, h2⟩ := hA1 i z hi
    exact ⟨ad, h1, C4.old rfl h2⟩
  -- the wants, Run
  have hgs4 : (guardW FC4 w4).heap.size = w4.heap.size := by simp [guardW]
  refine win_own C4.fi.wf (hg4 fun gs => defers_wants (Nat.le_refl _) fun gs => defer_wants hn' hzl hA4 hz n 0 (by omega) ⟨New.refl _, by simpa [dFirst] using QRow.nil _, by simpa [dLast] using QRow.nil _, fun g hg => (by cases hg), fun g hg => (by cases hg), fun g hg => (by cases hg)⟩ fun u5 vf vl gs5 T5 => defers_run (Nat.le_refl _) (ownU_stop fun w5 hs hkp => ?_))
  have st5 : Stp (fun _ => False) own4 (retagC own4 9 (fun b => vf.ownBlock = some b ∨ vl.ownBlock = some b)) (guardW FC4 w4) u5 := stp_fresh C4.ltG T5.new (fun b hb => retagC_out fun e => by
      rcases e with e | e
      · have := T5.nf b e; omega
      · have := T5.nl b e; omega) fun b hb => by
    by_cases e : vf.ownBlock = some b ∨ vl.ownBlock = some b
    · rcases e with e | e
      · exact T5.f.lt b e
      · exact T5.l.lt b e
    · rw [retagC_out (fp := fun b => vf.ownBlock = some b ∨ vl.ownBlock = some b) e] at hb
      exact Nat.lt_of_lt_of_le (C4.ltG b hb) T5.new.size
  have fi5 : FI (retagC own4 9 (fun b => vf.ownBlock = some b ∨ vl.ownBlock = some b)) S4 FC4 := C4.fi.stp st5 fun r hr => by rw [hgs4]; exact C4.rows r hr
  obtain ⟨a5, C5⟩ := C4.step hs hkp st5 (fun h => h) (C4.siG.stp st5 fun t h => h.elim) fi5 rfl rfl (fun i c h => ⟨c, h, rfl, rfl⟩)
  have s5 : Same6 own4 w4 w5 := same6_step a5 fi5 st5 (fun _ h => h.elim) C4.lw C4.fi
  have hvf9 : ∀ g, vf.ownBlock = some g → retagC own4 9 (fun b => vf.ownBlock = some b ∨ vl.ownBlock = some b) g = 9 := fun g hg => retagC_in (fp := fun b => vf.ownBlock = some b ∨ vl.ownBlock = some b) (.inl hg)
  have hvl9 : ∀ g, vl.ownBlock = some g → retagC own4 9 (fun b => vf.ownBlock = some b ∨ vl.ownBlock = some b) g = 9 := fun g hg => retagC_in (fp := fun b => vf.ownBlock = some b ∨ vl.ownBlock = some b) (.inr hg)
  have ho5 := ho4.same6 st5.le s5
  have J5 := J4.keep st5.le s5.s8 (fun _ h => h)
  generalize retagC own4 9 (fun b => vf.ownBlock = some b ∨ vl.ownBlock = some b) = own5 at *
  have e5 : ∀ b, 6 ≤ own5 b → w5.heap[b]? = u5.heap[b]? := fun b hb => a5.eq b (by omega) (fi5.ne (by omega) (by omega) (by omega))
  have hf5 : QRow w5 vf ((dFirst (dMd zs') (List.range n)).map idv) := T5.f.keep fun g hg => e5 g (by rw [hvf9 g hg]; omega)
  have hl5 : QRow w5 vl ((dLast (dMd zs') (List.range n)).map idv) := T5.l.keep fun g hg => e5 g (by rw [hvl9 g hg]; omega)
  clear hs hkp a5 st5 s5 e5 T5
  generalize hFn : dFirst (dMd zs') (List.range n) = Fs at *
  generalize hLn : dLast (dMd zs') (List.range n) = Ls at *
  have hFl : Fs.length ≤ n := by rw [← hFn]; unfold dFirst; exact Nat.le_trans (List.length_filter_le _ _) (by simp)
  have hLl : Ls.length ≤ n := by rw [← hLn]; unfold dLast; exact Nat.le_trans (List.length_filter_le _ _) (by simp)
  refine defer_laps (List.range n) C5 J5 hcl4 (by simp; omega) ho5 (by simp; omega) (by omega) (by simp; omega) atHead_in fun own8 S8 ks8 FC8 n8 Inb8 w8 C8 hsb8 hcl8 hl8 J8 hn8 hsub8 ho8 le8 s8 => ?_
  rw [show (0 : Int) + ((List.range n).length : Int) = (n : Int) by simp]
  rw [List.nil_append, hFn] at ho8
  have hvf8 : ∀ g, vf.ownBlock = some g → own8 g = 9 := fun g hg => le8.tag (hvf9 g hg) (by omega)
  have hvl8 : ∀ g, vl.ownBlock = some g → own8 g = 9 := fun g hg => le8.tag (hvl9 g hg) (by omega)
  have hf8 := hf5.keep (w' := w8) fun g hg => s8 g (by rw [hvf9 g hg]; omega)
  have hl8' := hl5.keep (w' := w8) fun g hg => s8 g (by rw [hvl9 g hg]; omega)
  have eiv : ∀ L : List Nat, L.map idv = ivs (L.map fun i : Nat => (i : Int) + 1) := fun L => by unfold ivs; rw [List.map_map]; rfl
  -- the order so far
  have hoG := ho8.keep (w' := guardW FC8 w8) (OLe.refl _) fun b hb => C8.agr.eq b (by omega) (C8.fi.ne (by omega) (by omega) (by omega))
  have hfG : QRow (guardW FC8 w8) vf (Fs.map idv) := hf8.keep fun g hg => C8.agr.eq g (by rw [hvf8 g hg]; omega) (C8.fi.ne (by rw [hvf8 g hg]; omega) (by rw [hvf8 g hg]; omega) (by rw [hvf8 g hg]; omega))
  obtain ⟨⟨vo, hbox, hrowo, _⟩, _⟩ := hoG
  have heq : ∀ B d, Calls Try.prog 17 #[vo, vf] (tp (guardW FC8 w8) B d) fun e w' => e = .returned (.bool true) ∧ ∃ A d, w' = tp (guardW FC8 w8) A d := fun B d => by
    rw [eiv] at hrowo hfG
    obtain ⟨A1, c1, hv1, _, _⟩ := hrowo.slice
    obtain ⟨A2, c2, hv2, _, _⟩ := hfG.slice
    rw [hv1] at hrowo
    rw [hv2] at hfG
    rw [hv1, hv2]
    exact (equal_u hrowo hfG.rd (by simp; omega) (by simp; omega) B d).mono fun e w' h => by simpa using h
  refine win_own C8.fi.wf (defers_alive (blk_cell hbox 0 _ rfl) heq fun t => ownU_stop fun w9 hs hkp => ?_)
  obtain ⟨C9, s9⟩ := C8.rest0 hs hkp
  clear hs hkp
  -- alive, while those that block wait
  refine win_unseat ?_
  refine alive_won C9.ground fun FC10 n10 w10 H10 hsub10 hsup10 ex10 hn10 => ?_
  refine won_kf fun hK10 => ?_
  obtain ⟨C10, s10⟩ := C9.unseat.over H10 hsub10 hsup10 ex10 hK10 hn10
  have s810 : Same6 own8 w8 w10 := s9.trans s10 (OLe.refl _)
  have ho10 := ho8.same6 (OLe.refl _) s810
  have J10 := J8.keep (OLe.refl _) s810.s8 (fun r hr => hsub10 r hr)
  have hf10 := hf8.keep (w' := w10) fun g hg => s810 g (by rw [hvf8 g hg]; omega)
  have hl10 := hl8'.keep (w' := w10) fun g hg => s810 g (by rw [hvl8 g hg]; omega)
  obtain ⟨Al, cl, hvl, _, _⟩ := hl10.slice
  rw [List.length_map] at hvl
  obtain ⟨Af, cf, hvf, _, _⟩ := hf10.slice
  rw [List.length_map] at hvf
  -- Close
  refine win_own C10.fi.wf (defers_close (nb := 0) (nf := Fs.length) (nl := Ls.length) hvf hvl fun c t => ownU_stop fun w11 hs hkp => ?_)
  obtain ⟨C11, s11⟩ := C10.rest0 hs hkp
  clear hs hkp
  rw [← hsb8]
  refine close_enter_won (by decide) C11 hcl8 fun g12 w12 hg12 C12 s12 => ?_
  have s1012 : Same6 own8 w10 w12 := s11.trans s12 (OLe.refl _)
  refine defer_close (S := { S8 with closed := true }) (md := dMd zs') (ob := ob) (xs := Fs.map idv) (by decide) S8.cos.length 0 (by simp) C12 (fun j c k h1 h2 => ⟨fun h => by omega, fun _ => ?_⟩) rfl (ho10.same6 (OLe.refl _) s1012) (by rw [List.length_map, hl8, hl4]; omega) (by omega) (by rw [hl8, hl4]; omega) hg12 fun own13 S13 ks13 Inb13 w13 g13 hg13 C13 hsb13 hcl13 hst13 hk13 ho13 le13 s13 => ?_
  · exact (J10.rest j c k h1 h2 (by simp)).keep (OLe.refl _) s1012.s8 fun _ h => h
  rw [hl8, hl4, ← List.range_eq_range', hLn] at ho13 hg13
  rw [← List.map_append] at ho13
  rw [show (0 : Int) + ((Ls.length : Nat) : Int) = (Ls.length : Int) by simp] at hg13
  have hf13 := hf10.keep (w' := w13) fun g hg => (s13 g (by rw [hvf8 g hg]; omega)).trans (s1012 g (by rw [hvf8 g hg]; omega))
  have hl13 := hl10.keep (w' := w13) fun g hg => (s13 g (by rw [hvl8 g hg]; omega)).trans (s1012 g (by rw [hvl8 g hg]; omega))
  have hvf13 : ∀ g, vf.ownBlock = some g → own13 g = 9 := fun g hg => le13.tag (hvf8 g hg) (by omega)
  have hvl13 : ∀ g, vl.ownBlock = some g → own13 g = 9 := fun g hg => le13.tag (hvl8 g hg) (by omega)
  have hoG := ho13.keep (w' := guardW FC10 w13) (OLe.refl _) fun b hb => C13.agr.eq b (by omega) (C13.fi.ne (by omega) (by omega) (by omega))
  have hfG : QRow (guardW FC10 w13) vf (Fs.map idv) := hf13.keep fun g hg => C13.agr.eq g (by rw [hvf13 g hg]; omega) (C13.fi.ne (by rw [hvf13 g hg]; omega) (by rw [hvf13 g hg]; omega) (by rw [hvf13 g hg]; omega))
  have hlG : QRow (guardW FC10 w13) vl (Ls.map idv) := hl13.keep fun g hg => C13.agr.eq g (by rw [hvl13 g hg]; omega) (C13.fi.ne (by rw [hvl13 g hg]; omega) (by rw [hvl13 g hg]; omega) (by rw [hvl13 g hg]; omega))
  obtain ⟨⟨vo2, hbox2, hrowo2, _⟩, _⟩ := hoG
  have hcat := fun B d => cat_u hfG hlG hrowo2 (by omega) B d
  rw [hvl, hvf] at hcat
  -- behind Close
  unfold dgFr at hg13
  refine win_own C13.fi.wf (clOut_normal hg13 (defers_end (vn := vo2) (blk_cell hbox2 0 _ rfl) hcat fun ts u14 hnew h2 => ownU_stop fun w14 hs hkp => ?_))
  have st14 : Stp (fun _ => False) own13 own13 (guardW FC10 w13) u14 := hnew.stp C13.ltG
  obtain ⟨_, C14⟩ := C13.step hs hkp st14 (fun h => h) (C13.siG.stp st14 fun t h => h.elim) C13.fi rfl rfl (fun i c h => ⟨c, h, rfl, rfl⟩)
  clear hs hkp
  have hsb : S13.sb = S8.sb := hsb13
  rw [← hsb]
  refine close_again_won (by decide) C14 hcl13 fun g15 w15 hg15 C15 _ => ?_
  refine win_own C15.fi.wf (clOut_deferred hg15 rfl (ownU_stop fun w16 hs hkp => ?_))
  obtain ⟨C16, _⟩ := C15.rest0 hs hkp
  obtain ⟨_, hf16⟩ := C16.ends (fun k hk => by rw [hk13 k hk]; omega) rfl
  refine won_end Try.func13 (t := 2) rfl (by kernel_rfl) (fun i hi => ?_) h2 ?_
  · have := congrFun hf16 i
    rw [upd_ne _ _ hi] at this
    exact this
  have hb := C16.base
  refine Ext.below (B := W.heap.size) ((ext_none ex1 fun b _ h => h).then hb (fun b hb h => ?_) (fun r hr => hr) (fun r hr => .inl hr)) (Nat.le_refl _)
  have := ex1.size
  have h' : w1.heap.size ≤ b := h
  omega
end Go.Proofs.Ytolnmdanlggmhaa
