/- CoroTexts: for every string and number the law returns true (its run, on whatever schedule). -/
import Derived.Test.YtolnmdanlggmhaaKtx
import Derived.Test.YtolnmdanlggmhaaKfair
namespace Go.Proofs.Ytolnmdanlggmhaa
open Go.RowKit Go.Maps Go.Conc
open Go.ConcN (upd upd_ne upd_same)

set_option maxRecDepth 100000
set_option maxHeartbeats 2000000

/-- New blocks get tags. -/
theorem stp_fresh {own own' : Nat → Nat} {u u' : World} (hlt : ∀ b, own b ≠ 0 → b < u.heap.size) (h : New u u') (h1 : ∀ b, b < u.heap.size → own' b = own b) (h2 : ∀ b, own' b ≠ 0 → b < u'.heap.size) : Stp (fun _ => False) own own' u u' :=
  ⟨h.os, h.output, h.size, fun b hb _ => h.block b hb, fun b hb => h1 b (hlt b hb), fun b hz hn => Classical.byContradiction fun hc => hn ((h1 b (by omega)).trans hz), h2⟩
theorem add_va (va idx : Nat) : (⟨va, 0, none⟩ : Addr).add idx = ⟨va, idx, none⟩ := by
  unfold Addr.add
  split
  · next h => subst h; rfl
  · simp

/-- The values, the texts that come of them, the state and text of each coroutine in the end. -/
def txVals (s : ByteArray) (n : Int) : Array Value := #[.iface 9 (.string s), .iface 55 (.string s), .iface 3 (.int .i64 n), .nilIface, .iface 55 (.string ByteArray.empty)]
def txWants (s : ByteArray) : Array Value := #[.string s, .string (want1 s), .string strPanic, .string ByteArray.empty, .string strPanic]
def txOut (s : ByteArray) : Nat → ByteArray
  | 0 => s
  | 1 => want1 s
  | _ => strPanic
def txSp (idx : Nat) : Nat := if idx ≤ 3 then 2 * idx else 2 * (idx - 1)
def txRes (s : ByteArray) (j : Nat) : Int × ByteArray := if j % 2 = 0 then (4, txOut s (if j < 6 then j / 2 else j / 2 + 1)) else (3, ByteArray.empty)
def txQ (idx : Nat) : List (Nat × Nat) := (List.range (txSp idx)).map fun j => (j, j % 2)
theorem txQ_next {idx : Nat} (h : idx < 5) (h3 : idx ≠ 3) : txQ (idx + 1) = txQ idx ++ [(txSp idx, 0)] ++ [(txSp idx + 1, 1)] := by
  have : idx = 0 ∨ idx = 1 ∨ idx = 2 ∨ idx = 4 := by omega
  rcases this with rfl | rfl | rfl | rfl <;> decide
theorem txQ_lt {idx : Nat} : ∀ p ∈ txQ idx, p.1 < txSp idx := fun p hp => by
  unfold txQ at hp
  obtain ⟨j, hj, rfl⟩ := List.mem_map.1 hp
  simpa using hj
theorem txRes_at {s : ByteArray} {idx : Nat} (h : idx < 5) (h3 : idx ≠ 3) : txRes s (txSp idx) = (4, txOut s idx) ∧ txRes s (txSp idx + 1) = (3, ByteArray.empty) ∧ txSp (idx + 1) = txSp idx + 2 := by
  have : idx = 0 ∨ idx = 1 ∨ idx = 2 ∨ idx = 4 := by omega
  rcases this with rfl | rfl | rfl | rfl <;> exact ⟨rfl, rfl, rfl⟩
theorem txVals_at {s : ByteArray} {n : Int} {idx : Nat} (h : idx < 5) (h3 : idx ≠ 3) : ∃ ty y, (txVals s n)[idx]? = some (.iface ty y) ∧ NotEnd (.iface ty y) ∧ TextOf (.iface ty y) (txOut s idx) := by
  have : idx = 0 ∨ idx = 1 ∨ idx = 2 ∨ idx = 4 := by omega
  rcases this with rfl | rfl | rfl | rfl
  · exact ⟨_, _, rfl, .inr ⟨_, _, rfl, by decide⟩, text_str s⟩
  · refine ⟨_, _, rfl, .inr ⟨_, _, rfl, by decide⟩, ?_⟩
    show TextOf _ (want1 s)
    unfold want1
    split
    · next h => subst h; exact text_empty
    · next h =>
      refine text_trouble s fun h0 => h ?_
      obtain ⟨⟨x⟩⟩ := s
      have : x.length = 0 := h0
      have e : x = [] := List.eq_nil_of_length_eq_zero this
      subst e
      rfl
  · exact ⟨_, _, rfl, .inr ⟨_, _, rfl, by decide⟩, text_int n⟩
  · exact ⟨_, _, rfl, .inr ⟨_, _, rfl, by decide⟩, text_empty⟩

theorem TxAt.keep {own : Nat → Nat} {s : ByteArray} {n : Int} {va wa : Nat} {w w' : World} (h : TxAt s n va wa w) (hv : own va = 9) (hw : own wa = 9) (hs : Same8 own w w') : TxAt s n va wa w' :=
  ⟨(hs va (by omega)).trans h.vals, (hs wa (by omega)).trans h.wants⟩

section
variable {Post : Value → World → Prop} {E : Env} {s : ByteArray} {n : Int} {va wa cb nn : Nat}
/-- THE LOOP THAT SPAWNS. -/
theorem text_spawns : ∀ (N idx : Nat) {own : Nat → Nat} {S : Sch} {ks : List Kid} {FC : List Row} {Inb : Nat → Option Seat} {w : World} {g : Goroutine}, N + idx = 5 →
    CI E 0 own S ks FC nn Inb w → S.fr = 0 → S.closed = false → S.cos.length = txSp idx → (∀ k ∈ ks, k.tag = 0) → CbAt own cb 0 w → own va = 9 → own wa = 9 → TxAt s n va wa w → TJ own S ks cb (txRes s) FC (txQ idx) w → AtTx g s S.sb va wa cb idx →
    (∀ own' S' ks' FC' w' g', CI E 0 own' S' ks' FC' nn Inb w' → S'.fr = 0 → S'.closed = false → S'.cos.length = 8 → (∀ k ∈ ks', k.tag = 0) → CbAt own' cb 0 w' → own' va = 9 → own' wa = 9 → TxAt s n va wa w' → TJ own' S' ks' cb (txRes s) FC' (txQ 5) w' → AtTx g' s S'.sb va wa cb 5 → Won Try.prog Post FC' nn Inb 0 g' w') → Won Try.prog Post FC nn Inb 0 g w
  | 0, idx, own, S, ks, FC, Inb, w, g, hN, C, hfr, hcl, hl, hk, hc, hva, hwa, hx, J, hg, next => by
    obtain rfl : idx = 5 := by omega
    exact next own S ks FC w g C hfr hcl hl hk hc hva hwa hx J hg
  | N + 1, idx, own, S, ks, FC, Inb, w, g, hN, C, hfr, hcl, hl, hk, hc, hva, hwa, hx, J, hg, next => by
    have hidx : idx < 5 := by omega
    have hgs : (guardW FC w).heap.size = w.heap.size := by simp [guardW]
    have hxG : (guardW FC w).heap[va]? = some (.cells (txVals s n) 20 (0, 0)) := (C.agr.eq va (by omega) (C.fi.ne (by omega) (by omega) (by omega))).trans hx.vals
    have had := add_va va idx
    have hsp : txSp idx ≤ 6 := by unfold txSp; split <;> omega
    by_cases h3 : idx = 3
    · have hcell : (guardW FC w).cell? ⟨va, idx, none⟩ = some .nilIface := blk_cell hxG idx _ (by subst h3; rfl)
      refine win_own C.fi.wf (hg fun gs => texts_skip had hidx hcell stores_nil h3 (wrap_id (by omega) (by omega)) fun vb gs2 hvb => ownU_stop fun w1 hs hkp => ?_)
      have hnew : New (guardW FC w) (((guardW FC w).alloc (.cells #[.nilIface] 20)).setCell ⟨vb, 0, none⟩ .nilIface) :=
        ⟨rfl, rfl, by rw [setCell_size, World.size_alloc]; omega, fun b hb => by rw [setCell_get, if_neg (by simp only; omega)]; exact Below.heap_alloc _ _ _ hb⟩
      have st1 : Stp (fun _ => False) own own (guardW FC w) _ := hnew.stp C.ltG
      obtain ⟨a1, C1⟩ := C.step hs hkp st1 (fun h => h) (C.siG.stp st1 fun t h => h.elim) C.fi rfl rfl (fun i c h => ⟨c, h, rfl, rfl⟩)
      have s1 : Same6 own w w1 := same6_step a1 C.fi st1 (fun _ h => h.elim) C.lw C.fi
      have hq : txQ (idx + 1) = txQ idx := by subst h3; decide
      refine text_spawns N (idx + 1) (by omega) C1 hfr hcl (by rw [hl]; subst h3; rfl) hk (hc.same6 (OLe.refl _) s1) hva hwa (hx.keep hva hwa s1.s8) (by rw [hq]; exact J.keep (OLe.refl _) s1.s8 (fun _ h => h)) (fun hk => hk gs2) next
    · obtain ⟨ty, y, hv, hne, hT⟩ := txVals_at (s := s) (n := n) hidx h3
      obtain ⟨hr1, hr2, hsp2⟩ := txRes_at (s := s) hidx h3
      have hcell : (guardW FC w).cell? ⟨va, idx, none⟩ = some (.iface ty y) := blk_cell hxG idx _ hv
      have hlt : ∀ p ∈ txQ idx, p.1 < txSp idx := txQ_lt
      refine win_own C.fi.wf (hg fun gs => texts_spawn1 had hidx hcell (stores_any ty y) h3 fun vb hvb => ownU_stop fun w1 hs hkp => ?_)
      have hsz : (((guardW FC w).alloc (.cells #[.nilIface] 20)).setCell ⟨vb, 0, none⟩ (.iface ty y)).heap.size = w.heap.size + 1 := by rw [setCell_size, World.size_alloc, hgs]
      have hvbn : (((guardW FC w).alloc (.cells #[.nilIface] 20)).setCell ⟨vb, 0, none⟩ (.iface ty y)).heap[vb]? = some (.cells #[.iface ty y] 20 (0, 0)) := by
        rw [setCell_get, if_pos rfl, alloc_new' _ _ hvb.symm]
        rfl
      have st1 : Stp (fun _ => False) own (retagC own 8 (· = vb)) (guardW FC w) (((guardW FC w).alloc (.cells #[.nilIface] 20)).setCell ⟨vb, 0, none⟩ (.iface ty y)) :=
        stp_new C.ltG rfl rfl (by omega) (fun b hb => by rw [setCell_get, if_neg (by simp only; omega)]; exact Below.heap_alloc _ _ _ hb) (by omega) (by omega)
      have fi1 : FI (retagC own 8 (· = vb)) S FC := C.fi.stp st1 fun r hr => by rw [hgs]; exact C.rows r hr
      obtain ⟨a1, C1⟩ := C.step hs hkp st1 (fun h => h) (C.siG.stp st1 fun t h => h.elim) fi1 rfl rfl (fun i c h => ⟨c, h, rfl, rfl⟩)
      have h8 : retagC own 8 (· = vb) vb = 8 := tag_eq rfl
      have s1 : Same6 own w w1 := same6_step a1 fi1 st1 (fun _ h => h.elim) C.lw C.fi
      have hvb1 : VbAt (retagC own 8 (· = vb)) vb (.iface ty y) w1 := ⟨h8, (a1.eq vb (by omega) (fi1.ne (by omega) (by omega) (by omega))).trans hvbn⟩
      have hc1 := hc.same6 st1.le s1
      have hx1 := hx.keep hva hwa s1.s8
      have hva1 := st1.le.tag hva (by omega)
      have hwa1 := st1.le.tag hwa (by omega)
      have J1 := J.keep st1.le s1.s8 (fun _ h => h)
      generalize retagC own 8 (· = vb) = own1 at *
      clear hs hkp a1 st1 s1
      have hql : S.qs.length = txSp idx := by rw [J.qs]; simp [txQ]
      have hnq : ∀ j : Int, (txSp idx : Int) < j → j ∉ S.qs := fun j hj hm => by
        rw [J.qs] at hm
        obtain ⟨p, hp, e⟩ := List.mem_map.1 hm
        have := hlt p hp
        omega
      refine spawn_won (fn := .func 38) (fi := #[]) (ca := #[ptr vb]) C1 hcl (by omega) (hnq _ (by omega)) (by omega) fun own2 v2 c1 FC2 w2 hf1 hb1 hs1 hx1' C2 le2 s2 hsub2 => ?_
      rw [hl] at C2 ⊢
      have J2 := J1.spawn (i := txSp idx) (S' := { S with v := v2, cos := S.cos ++ [c1], qs := S.qs ++ [(txSp idx : Int) + 1] }) (c := c1) (k := ⟨0, 0, default⟩) (y := 0) hl (by rw [C.len, hl]) hlt le2 s2.s8 hsub2 rfl rfl rfl rfl (.inl ⟨rfl, rfl, by rw [hs1]; omega, by rw [hr1], vb, ty, y, hf1, hvb1.keep le2 s2.s8, hne, by rw [hr1]; exact hT⟩)
      refine win_own C2.fi.wf (texts_spawn2 (ownU_stop fun w3 hs hkp => ?_))
      obtain ⟨C3, s3⟩ := C2.rest0 hs hkp
      clear hs hkp
      have J3 := J2.keep (OLe.refl _) s3.s8 (fun _ h => h)
      have hc3 := (hc1.same6 le2 s2).same6 (OLe.refl _) s3
      have hx3 := (hx1.keep hva1 hwa1 s2.s8).keep (le2.tag hva1 (by omega)) (le2.tag hwa1 (by omega)) s3.s8
      have hl3 : (S.cos ++ [c1]).length = txSp idx + 1 := by simp [hl]
      refine spawn_won (S := { S with v := v2, cos := S.cos ++ [c1], qs := S.qs ++ [(txSp idx : Int) + 1] }) (fn := .func 40) (fi := #[]) (ca := #[ptr cb]) C3 hcl (by simp only [hl3]; omega) (fun hm => ?_) (by simp; omega) fun own4 v4 c2 FC4 w4 hf2 hb2 hs2 hx2' C4 le4 s4 hsub4 => ?_
      · simp only [hl3] at hm
        rcases List.mem_append.1 hm with hm | hm
        · exact hnq _ (by omega) hm
        · simp at hm; omega
      simp only [hl3] at C4 ⊢
      have J4 := J3.spawn (i := txSp idx + 1) (S' := { S with v := v4, cos := S.cos ++ [c1] ++ [c2], qs := S.qs ++ [(txSp idx : Int) + 1] ++ [((txSp idx + 1 : Nat) : Int) + 1] }) (c := c2) (k := ⟨0, 0, default⟩) (y := 1) hl3 (by simp [C.len, hl]) (fun p hp => by
        rcases List.mem_append.1 hp with hp | hp
        · have := hlt p hp; omega
        · simp at hp; subst hp; simp only; omega) le4 s4.s8 hsub4 rfl rfl rfl rfl (.inr (.inl ⟨rfl, rfl, by rw [hx2', hr2], by rw [hr2], hf2⟩))
      rw [← txQ_next hidx h3] at J4
      refine text_spawns N (idx + 1) (by omega) C4 hfr hcl (by simp [hl, hsp2]) (fun k hk' => ?_) (hc3.same6 le4 s4) (le4.tag (le2.tag hva1 (by omega)) (by omega)) (le4.tag (le2.tag hwa1 (by omega)) (by omega)) (hx3.keep (le2.tag hva1 (by omega)) (le2.tag hwa1 (by omega)) s4.s8) J4 (texts_spawned (wrap_id (by omega) (by omega))) next
      rcases List.mem_append.1 hk' with h | h
      · rcases List.mem_append.1 h with h | h
        · exact hk k h
        · simp at h; rw [h]
      · simp at h; rw [h]
end

section
variable {main : Bool} {Z : Addr → Prop} {Stop : Goroutine → World → Prop} {w₀ u : World} {s : ByteArray} {n : Int} {va wa cb : Nat} {own : Nat → Nat} {S : Sch}
/-- THE LOOP THAT CHECKS. -/
theorem text_checks (si : SI own S u) (hres : ∀ i c, S.cos[i]? = some c → (c.st, c.txt) = txRes s i) (hl : S.cos.length = 8) (hx : TxAt s n va wa u) {gs : List Value} (hk : ∀ gs, OwnU Try.prog main Z Stop w₀ (tcHead s S.sb va wa cb 5 9 gs) u) : OwnU Try.prog main Z Stop w₀ (tcHead s S.sb va wa cb 0 1 gs) u := by
  have hst : ∀ (i : Nat) (id : Int) (r : Int × ByteArray), i < 8 → (i : Int) + 1 = id → txRes s i = r → (∀ A d, Calls Try.prog 43 #[ptr S.sb, .int .i64 id] (tp u A d) fun e w' => e = .returned (.int .i64 r.1) ∧ ∃ A d, w' = tp u A d) ∧ ∀ A d, Calls Try.prog 44 #[ptr S.sb, .int .i64 id] (tp u A d) fun e w' => e = .returned (.string r.2) ∧ ∃ A d, w' = tp u A d := fun i id r hi hid hr => by
    have hc : S.cos[i]? = some S.cos[i] := List.getElem?_eq_getElem (by omega)
    have h := hres i _ hc
    rw [hr] at h
    have e1 : (S.cos[i]).st = r.1 := by rw [← h]
    have e2 : (S.cos[i]).txt = r.2 := by rw [← h]
    have a := fun A d => state_u si hc A d
    have b := fun A d => text_u si hc A d
    rw [hid, e1] at a
    rw [hid, e2] at b
    exact ⟨a, b⟩
  have hw : ∀ (i : Nat) (t : ByteArray), (txWants s)[i]? = some (.string t) → u.cell? ⟨wa, i, none⟩ = some (.string t) := fun i t h => blk_cell hx.wants i _ h
  have h0 := hst 0 1 (4, s) (by omega) (by omega) rfl
  have h1 := hst 1 2 (3, ByteArray.empty) (by omega) (by omega) rfl
  have h2 := hst 2 3 (4, want1 s) (by omega) (by omega) rfl
  have h3 := hst 3 4 (3, ByteArray.empty) (by omega) (by omega) rfl
  have h4 := hst 4 5 (4, strPanic) (by omega) (by omega) rfl
  have h5 := hst 5 6 (3, ByteArray.empty) (by omega) (by omega) rfl
  have h6 := hst 6 7 (4, strPanic) (by omega) (by omega) rfl
  have h7 := hst 7 8 (3, ByteArray.empty) (by omega) (by omega) rfl
  refine texts_check (idx := 0) (k1 := 2) (k2 := 3) (by omega) (by decide) (add_va wa 0) (by omega) (hw 0 s rfl) (by decide) (by decide) h0.1 h0.2 h1.1 h1.2 fun gs => ?_
  refine texts_check (idx := 1) (k1 := 4) (k2 := 5) (by omega) (by decide) (add_va wa 1) (by omega) (hw 1 (want1 s) rfl) (by decide) (by decide) h2.1 h2.2 h3.1 h3.2 fun gs => ?_
  refine texts_check (idx := 2) (k1 := 6) (k2 := 7) (by omega) (by decide) (add_va wa 2) (by omega) (hw 2 strPanic rfl) (by decide) (by decide) h4.1 h4.2 h5.1 h5.2 fun gs => ?_
  refine texts_checkskip (idx := 3) rfl (by decide) fun gs => ?_
  exact texts_check (idx := 4) (k1 := 8) (k2 := 9) (by omega) (by decide) (add_va wa 4) (by omega) (hw 4 strPanic rfl) (by decide) (by decide) h6.1 h6.2 h7.1 h7.2 hk
end

/-- Main gives up its seat. -/
theorem CI.unseat {E : Env} {own : Nat → Nat} {S : Sch} {ks : List Kid} {FC : List Row} {n : Nat} {Inb : Nat → Option Seat} {w : World} (C : CI E 0 own S ks FC n Inb w) : CI E 0 own S ks FC n (upd Inb 0 none) w := by
  refine ⟨C.si, C.fi, C.lw, C.rows, C.base, C.low, C.sub, C.sup, C.len, fun i c k hc hk => ?_, fun x s hx => ?_, fun x s hx => ?_, C.chs, fun x s hx => ?_, fun s hs r hr => ?_, C.hn, C.uniq⟩
  · have := C.kid i c k hc hk
    refine ⟨this.1, this.2.1, fun ht => ?_, this.2.2.2.1, this.2.2.2.2⟩
    obtain ⟨h1, h2, h3, h4, h5⟩ := this.2.2.1 ht
    exact ⟨h1, h2, h3, h4, by rw [upd_ne _ _ h2]; exact h5⟩
  · obtain ⟨h1, h2, h3⟩ := C.keep x s hx
    exact ⟨by rw [upd_ne _ _ h2]; exact h1, h2, h3⟩
  · by_cases e : x = 0
    · exact .inl e
    · rw [upd_ne _ _ e] at hx; exact C.only x s hx
  · by_cases e : x = 0
    · subst e; exact C.hn
    · rw [upd_ne _ _ e] at hx; exact C.top x s hx
  · rw [upd_same] at hs; cases hs
/-- THE LAW. -/
theorem law_texts (s : ByteArray) (n : Int) (W : World) : ∃ M last o w' t', runNT Try.prog (M + 1) (solo (G (Frame.enter Try.prog 8 #[.string s, .int .i64 n] .normal) []) W) #[] = (.ended o w', t') ∧
    runN Try.prog M (solo (G (Frame.enter Try.prog 8 #[.string s, .int .i64 n] .normal) []) W) = .next last ∧ step Try.prog last = .ended o w' ∧ Conc.Good Try.prog (LawPost W) last o w' t' := by
  have e : G (Frame.enter Try.prog 8 #[.string s, .int .i64 n] .normal) [] = textsIn s n := by kernel_rfl
  rw [e]
  clear e
  refine wins_start ?_
  have H := ground_zero W
  by_cases hn : 500 < s.size
  · refine win_own H.wf (texts_long hn (ownU_stop fun w1 hs hkp => ?_))
    obtain ⟨H1, ex1⟩ := ground_own H hs hkp (New.refl _)
    clear hs hkp
    refine alive_won H1 fun FC4 n4 w4 H4 hsub4 hsup4 ex4 hn4 => ?_
    refine win_own H4.wf (texts_long2 (s := s) (n := n) fun ts k h2 => ownU_stop fun w5 hs hkp => ?_)
    obtain ⟨H5, ex5⟩ := ground_own H4 hs hkp (New.refl _)
    refine won_end Try.func8 (t := 4) rfl (by kernel_rfl) (fun i hi => rfl) h2 ?_
    have hsz1 := ex1.size
    have hsz4 := ex4.size
    refine Ext.below (B := W.heap.size) (((ext_none ex1 fun b _ h => h).then (O := fun b => W.heap.size ≤ b) ex4 (fun b hb h => ?_) (fun r hr => hr) (fun r hr => .inl hr)).then (O := fun b => W.heap.size ≤ b) ex5 (fun b hb h => ?_) (fun r hr => hsub4 r hr) (fun r hr => ?_)) (Nat.le_refl _)
    · have h' : w1.heap.size ≤ b := h; omega
    · have h' : w4.heap.size ≤ b := h; omega
    · rcases hsup4 r hr with h | h
      · exact .inl h
      · exact .inr (by omega)
  refine win_own H.wf (texts_a (by omega) (ownU_stop fun w1 hs hkp => ?_))
  obtain ⟨H1, ex1⟩ := ground_own H hs hkp (New.refl _)
  clear hs hkp
  refine new_won H1 fun own sb qb sc FC1 w2 C2 hall hsub1 => ?_
  have hgs : (guardW FC1 w2).heap.size = w2.heap.size := by simp [guardW]
  refine win_own C2.fi.wf (texts_b (n := n) (sb := sb) fun va wa cb u3 gs hnew hva hwa hcb hva2 hwa2 hcb2 hvw hvc hwc hx hcc => ownU_stop fun w3 hs hkp => ?_)
  rw [hgs] at hva hwa hcb
  have st3 : Stp (fun _ => False) own (fun b => if b = va ∨ b = wa then 9 else if b = cb then 6 else own b) (guardW FC1 w2) u3 := stp_fresh C2.ltG hnew (fun b hb => by rw [if_neg (by omega), if_neg (by omega)]) fun b hb => by
    by_cases e : b = va ∨ b = wa
    · rcases e with rfl | rfl <;> assumption
    · rw [if_neg e] at hb
      by_cases e2 : b = cb
      · subst e2; assumption
      · rw [if_neg e2] at hb
        exact Nat.lt_of_lt_of_le (C2.ltG b hb) hnew.size
  have hva9 : (fun b => if b = va ∨ b = wa then 9 else if b = cb then 6 else own b) va = 9 := by simp
  have hwa9 : (fun b => if b = va ∨ b = wa then 9 else if b = cb then 6 else own b) wa = 9 := by simp
  have hcb6 : (fun b => if b = va ∨ b = wa then 9 else if b = cb then 6 else own b) cb = 6 := by simp [Ne.symm hvc, Ne.symm hwc]
  generalize (fun b => if b = va ∨ b = wa then 9 else if b = cb then 6 else own b) = own3 at *
  have fi3 : FI own3 (emptyS sb qb sc) FC1 := C2.fi.stp st3 fun r hr => by rw [hgs]; exact C2.rows r hr
  obtain ⟨a3, C3⟩ := C2.step hs hkp st3 (fun h => h) (C2.siG.stp st3 fun t h => h.elim) fi3 rfl rfl (fun i c h => ⟨c, h, rfl, rfl⟩)
  have e3 : ∀ b, 6 ≤ own3 b → w3.heap[b]? = u3.heap[b]? := fun b hb => a3.eq b (by omega) (fi3.ne (by omega) (by omega) (by omega))
  have hx3 : TxAt s n va wa w3 := ⟨(e3 va (by omega)).trans hx.vals, (e3 wa (by omega)).trans hx.wants⟩
  have hc3 : CbAt own3 cb 0 w3 := ⟨hcb6, (e3 cb (by omega)).trans hcc⟩
  clear hs hkp a3 st3 e3
  refine text_spawns (s := s) (n := n) 5 0 (by omega) C3 rfl rfl rfl (fun k hk => by cases hk) hc3 hva9 hwa9 hx3 ⟨rfl, by simp [txQ, txSp], fun p hp => (by simp [txQ, txSp] at hp), fun i c k hc => (by simp [emptyS] at hc)⟩ (fun hk => hk gs) fun own4 S4 ks4 FC4 w4 g4 C4 hfr4 hcl4 hl4 hk4 hc4 hva4 hwa4 hx4 J4 hg4 => ?_
  -- Run
  refine win_own C4.fi.wf (hg4 fun gs => texts_run (Nat.le_refl _) (ownU_stop fun w7 hs hkp => ?_))
  obtain ⟨C7, s7⟩ := C4.rest0 hs hkp
  have hc7 := hc4.same6 (OLe.refl _) s7
  have J7 := J4.keep (OLe.refl _) s7.s8 (fun _ h => h)
  have hx7 := hx4.keep hva4 hwa4 s7.s8
  clear hs hkp
  have hm12 : fairMeas (txQ 5) = 12 := by decide
  refine text_laps 12 C7 J7 hm12 hcl4 (by omega) hc7 (by omega) (by omega) (by omega) (by omega) atHead_in fun own8 S8 ks8 FC8 n8 Inb8 w8 C8 hsb8 hcl8 hl8 hst8 hk8 hn8 hsub8 hc8 le8 s8 => ?_
  have hx8 := hx7.keep hva4 hwa4 s8
  have hva8 := le8.tag hva4 (by omega)
  have hwa8 := le8.tag hwa4 (by omega)
  have ht4 : tcnt (txRes s) (txQ 5) = 4 := by rfl
  rw [ht4] at hc8
  have hxG : TxAt s n va wa (guardW FC8 w8) := ⟨(C8.agr.eq va (by omega) (C8.fi.ne (by omega) (by omega) (by omega))).trans hx8.vals, (C8.agr.eq wa (by omega) (C8.fi.ne (by omega) (by omega) (by omega))).trans hx8.wants⟩
  -- the checks
  refine win_own C8.fi.wf (texts_checks fun gs => ?_)
  rw [← hsb8]
  refine text_checks C8.siG hst8 (hl8.trans hl4) hxG fun gs => texts_end (Nat.le_refl _) (ownU_stop fun w9 hs hkp => ?_)
  obtain ⟨C9, s9⟩ := C8.rest0 hs hkp
  have hc9 := hc8.same6 (OLe.refl _) s9
  clear hs hkp
  -- alive
  have hI8 : ∀ k ∈ ks8, k.tag ≠ 1 := fun k hk => by rw [hk8 k hk]; omega
  obtain ⟨H9, hf9⟩ := C9.ends hI8 rfl
  refine win_unseat ?_
  refine alive_won H9 fun FC10 n10 w10 H10 hsub10 hsup10 ex10 hn10 => ?_
  refine won_kf fun hK10 => ?_
  obtain ⟨C10, s10⟩ := C9.unseat.over H10 hsub10 hsup10 ex10 hK10 hn10
  have hc10 := hc9.same6 (OLe.refl _) s10
  have hcG : (guardW FC10 w10).cell? ⟨cb, 0, none⟩ = some (.int .i64 4) := by
    have h6 := hc10.1
    have := (C10.agr.eq cb (by omega) (C10.fi.ne (by omega) (by omega) (by omega))).trans hc10.2
    exact blk_cell this 0 _ rfl
  refine win_own C10.fi.wf (texts_out hcG fun ts h2 => ownU_stop fun w11 hs hkp => ?_)
  obtain ⟨C11, _⟩ := C10.rest0 hs hkp
  clear hs hkp
  refine close_enter_won (by decide) C11 hcl8 fun g12 w12 hg12 C12 _ => ?_
  refine close_done_won (by decide) (S := { S8 with closed := true }) (fun c hc => ?_) S8.cos.length 0 (by simp) C12 hg12 fun g13 w13 hg13 C13 _ => ?_
  · obtain ⟨i, hi⟩ := List.mem_iff_getElem?.1 hc
    have h := congrArg Prod.fst (hst8 i c hi)
    simp only at h
    rw [h]
    unfold txRes
    split <;> simp
  refine win_own C13.fi.wf (clOut_deferred hg13 rfl (ownU_stop fun w14 hs hkp => ?_))
  obtain ⟨C14, _⟩ := C13.rest0 hs hkp
  obtain ⟨_, hf14⟩ := C14.ends hI8 rfl
  refine won_end Try.func8 (t := 4) rfl (by kernel_rfl) (fun i hi => ?_) h2 ?_
  · have := congrFun hf14 i
    rw [upd_ne _ _ hi] at this
    exact this
  have hb := C14.base
  refine Ext.below (B := W.heap.size) ((ext_none ex1 fun b _ h => h).then hb (fun b hb h => ?_) (fun r hr => hr) (fun r hr => .inl hr)) (Nat.le_refl _)
  have := ex1.size
  have h' : w1.heap.size ≤ b := h
  omega
end Go.Proofs.Ytolnmdanlggmhaa
