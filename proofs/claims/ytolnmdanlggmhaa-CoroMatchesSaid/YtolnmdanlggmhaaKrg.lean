/- Main's own stretches beside a crew: the reference's box and its rows; a crew told from an earlier world. -/
import Derived.Test.YtolnmdanlggmhaaKrf
import Derived.Test.YtolnmdanlggmhaaKrd
namespace Go.Proofs.Ytolnmdanlggmhaa
open Go.RowKit Go.Maps Go.Conc
open Go.ConcN (upd upd_ne upd_same)

set_option maxRecDepth 100000
set_option maxHeartbeats 2000000

/-- All that is told of but one block. -/
def SameB (mb : Nat) (own : Nat → Nat) (w w' : World) : Prop := ∀ b, 6 ≤ own b → b ≠ mb → w'.heap[b]? = w.heap[b]?
theorem Same6.sameB {own : Nat → Nat} {w w' : World} (h : Same6 own w w') (mb : Nat) : SameB mb own w w' := fun b hb _ => h b hb

section
variable {W0 : World} {own own' : Nat → Nat} {S : Sch} {ks : List Kid} {FC FC' : List Row} {wb nF cF mb : Nat} {fs : List (List RStep)} {af : Addr} {m m' : RS} {hole : Nat → Prop} {w w' : World}
theorem MJ.keepB (J : MJ W0 own S ks FC wb fs af nF cF m hole w) (hmb : own mb = 10) (le : OLe own own') (s : SameB mb own w w') (hF : ∀ r ∈ FC, r ∈ FC') : MJ W0 own' S ks FC' wb fs af nF cF m hole w' := by
  refine ⟨J.mt, J.tr.keep le fun b hb => s b (by omega) (fun e => by subst e; omega), fun i c rc h1 h2 => ?_, fun i c rc k h0 h1 h2 h3 => (J.st i c rc k h0 h1 h2 h3).mono hF, J.fr⟩
  obtain ⟨tb, fb, e1, e2, e3, e4, e5⟩ := J.fix i c rc h1 h2
  exact ⟨tb, fb, e1, le.tag e2 (by omega), (s tb (by omega) (fun e => by subst e; omega)).trans e3, le.tag e4 (by omega), (s fb (by omega) (fun e => by subst e; omega)).trans e5⟩

/-- The reference's scheduler: its box (tag 10), its rows (tag 9). -/
structure RefAt (own : Nat → Nat) (mb : Nat) (F v : Value) (m : RS) (w : World) : Prop where
  box : BoxAt mb v w
  tag : own mb = 10
  sat : SAt w (fun b => own b = 9) F v m
theorem RRow.keepR {R : Nat → Prop} {A : Option Addr} {n : Nat} {xs : List Value} (h : RRow w R A n xs) (hk : ∀ k, R k → w'.heap[k]? = w.heap[k]?) (hl : ∀ k, R k → k < w'.heap.size) : RRow w' R A n xs := by
  refine ⟨⟨h.rd.len, fun j u hu => ?_⟩, fun ad e => ⟨(h.inR ad e).1, hl _ (h.inR ad e).1⟩⟩
  obtain ⟨ad, e, _, h2⟩ := h.rd.at' j u hu
  refine ⟨ad, e, hl _ (h.inR ad e).1, ?_⟩
  rw [← h2]
  have e0 : (ad.add j).block = ad.block := by unfold Addr.add; split <;> rfl
  exact World.cell?_of_block (by rw [e0]; exact hk _ (h.inR ad e).1)
theorem SAt.nine {F v : Value} (h : SAt w (fun b => own b = 9) F v m) (le : OLe own own') (s : ∀ b, own b = 9 → w'.heap[b]? = w.heap[b]?) (lt : ∀ b, own' b ≠ 0 → b < w'.heap.size) : SAt w' (fun b => own' b = 9) F v m := by
  have hl : ∀ k, own k = 9 → k < w'.heap.size := fun k hk => lt k (by rw [le.tag hk (by omega)]; omega)
  obtain ⟨Ac, Aq, At, cc, cq, ct, h0, h1, h2, h3, h4, h5⟩ := h
  have h' : SAt w' (fun b => own b = 9) F v m := ⟨Ac, Aq, At, cc, cq, ct, h0, h1, h2.keepR s hl, h3.keepR s hl, h4, h5.keepR s hl⟩
  exact h'.imp fun _ _ hk => le.tag hk (by omega)
theorem RefAt.same8 {F v : Value} (h : RefAt own mb F v m w) (le : OLe own own') (s : Same8 own w w') (lt : ∀ b, own' b ≠ 0 → b < w'.heap.size) : RefAt own' mb F v m w' :=
  ⟨h.box.keep (s mb (by rw [h.tag]; omega)), le.tag h.tag (by omega), h.sat.nine le (fun b hb => s b (by omega)) lt⟩
variable {E : Env} {n : Nat} {Inb : Nat → Option Seat} {u w1 : World}
theorem CI.nine {F v : Value} (C : CI E 0 own S ks FC n Inb w) (h : SAt w (fun b => own b = 9) F v m) : SAt (guardW FC w) (fun b => own b = 9) F v m :=
  h.keep (fun k _ hk => C.agr.eq k (by omega) (C.fi.ne (by omega) (by omega) (by omega))) (by simp [guardW])
theorem CI.refG {F v : Value} (C : CI E 0 own S ks FC n Inb w) (h : RefAt own mb F v m w) : BoxAt mb v (guardW FC w) ∧ SAt (guardW FC w) (fun b => own b = 9) F v m :=
  ⟨h.box.keep (C.agr.eq mb (by rw [h.tag]; omega) (C.fi.ne (by rw [h.tag]; omega) (by rw [h.tag]; omega) (by rw [h.tag]; omega))), C.nine h.sat⟩

/-- Main's own stretch, that writes one box. -/
theorem CI.vol (C : CI E 0 own S ks FC n Inb w) (hs : Sim False (ZF FC) u w1) (hkp : Kept (ZF FC) w w1) (hmb : own mb = 10) (hv : Vol mb (guardW FC w) u) :
    ∃ own', CI E 0 own' S ks FC n Inb w1 ∧ OLe own own' ∧ SameB mb own w w1 ∧ (∀ b, 6 ≤ own' b → w1.heap[b]? = u.heap[b]?) ∧ (∀ b, (guardW FC w).heap.size ≤ b → b < u.heap.size → own' b = 9) := by
  have hgs : (guardW FC w).heap.size = w.heap.size := by simp [guardW]
  have hin : ∀ b, (guardW FC w).heap.size ≤ b → b < u.heap.size → retagC own 9 (fun b => (guardW FC w).heap.size ≤ b ∧ b < u.heap.size) b = 9 := fun b h1 h2 => retagC_in (fp := fun b => (guardW FC w).heap.size ≤ b ∧ b < u.heap.size) ⟨h1, h2⟩
  have st : Stp (· = 10) own (retagC own 9 (fun b => (guardW FC w).heap.size ≤ b ∧ b < u.heap.size)) (guardW FC w) u := by
    refine ⟨hv.os, hv.output, hv.size, fun b hb hn => hv.block b hb fun e => hn (by rw [e]; exact hmb), fun b hb => retagC_out fun h => ?_, fun b hz hb => ?_, fun b hb => ?_⟩
    · have := C.ltG b hb; omega
    · refine Classical.byContradiction fun hc => hb ?_
      rw [retagC_out (fun h => hc h.1)]
      exact hz
    · by_cases h : (guardW FC w).heap.size ≤ b ∧ b < u.heap.size
      · exact h.2
      · rw [retagC_out (fp := fun b => (guardW FC w).heap.size ≤ b ∧ b < u.heap.size) h] at hb
        exact Nat.lt_of_lt_of_le (C.ltG b hb) hv.size
  have fi : FI (retagC own 9 (fun b => (guardW FC w).heap.size ≤ b ∧ b < u.heap.size)) S FC := C.fi.stp st fun r hr => by rw [hgs]; exact C.rows r hr
  obtain ⟨a, C1⟩ := C.step hs hkp st (by omega) (C.siG.stp st fun t h => by omega) fi rfl rfl (fun i c h => ⟨c, h, rfl, rfl⟩)
  refine ⟨_, C1, st.le, fun b hb hne => ?_, fun b hb => a.eq b (by omega) (fi.ne (by omega) (by omega) (by omega)), hin⟩
  have e := st.le b (by omega)
  rw [a.eq b (by omega) (fi.ne (by omega) (by omega) (by omega)), hv.block b (C.ltG b (by omega)) hne]
  exact C.agr.eq b (by omega) (C.fi.ne (by omega) (by omega) (by omega))
/-- .. and it is the reference's. -/
theorem CI.refstep {F v : Value} (C : CI E 0 own S ks FC n Inb w) (hs : Sim False (ZF FC) u w1) (hkp : Kept (ZF FC) w w1) (hmb : own mb = 10) (hv : Vol mb (guardW FC w) u) (hb : BoxAt mb v u) (ha : SAt u (fun b => own b = 9 ∨ (guardW FC w).heap.size ≤ b) F v m) :
    ∃ own', CI E 0 own' S ks FC n Inb w1 ∧ OLe own own' ∧ SameB mb own w w1 ∧ RefAt own' mb F v m w1 := by
  obtain ⟨own', C1, le, s, e, hin⟩ := C.vol hs hkp hmb hv
  have h10 := le.tag hmb (by omega)
  refine ⟨own', C1, le, s, hb.keep (e mb (by omega)), h10, ?_⟩
  have h9 : SAt u (fun b => own' b = 9) F v m := ha.imp fun k hk hR => hR.elim (fun h => le.tag h (by omega)) fun h => hin k h hk
  exact h9.nine (OLe.refl _) (fun b hb => e b (by omega)) C1.lt
/-- .. it makes blocks alone, of the tag t one. -/
theorem CI.newbox {t b : Nat} (C : CI E 0 own S ks FC n Inb w) (hs : Sim False (ZF FC) u w1) (hkp : Kept (ZF FC) w w1) (ht : 6 ≤ t) (hn : New (guardW FC w) u) (h1 : (guardW FC w).heap.size ≤ b) (h2 : b < u.heap.size) :
    ∃ own', CI E 0 own' S ks FC n Inb w1 ∧ OLe own own' ∧ Same6 own w w1 ∧ own' b = t ∧ w1.heap[b]? = u.heap[b]? := by
  have hgs : (guardW FC w).heap.size = w.heap.size := by simp [guardW]
  have st : Stp (fun _ => False) own (retagC own t (· = b)) (guardW FC w) u := stp_new C.ltG hn.os hn.output hn.size hn.block h1 h2
  have fi : FI (retagC own t (· = b)) S FC := C.fi.stp st fun r hr => by rw [hgs]; exact C.rows r hr
  obtain ⟨a, C1⟩ := C.step hs hkp st (fun h => h) (C.siG.stp st fun _ h => h.elim) fi rfl rfl (fun i c h => ⟨c, h, rfl, rfl⟩)
  have hb : retagC own t (· = b) b = t := tag_eq rfl
  exact ⟨_, C1, st.le, same6_step a fi st (fun _ h => h.elim) C.lw C.fi, hb, a.eq b (by omega) (fi.ne (by omega) (by omega) (by omega))⟩

/-- A crew without coroutines, told from an earlier world: one block between is told of too. -/
theorem CI.rebase {W wa : World} {rb : Nat} (C : CI ⟨wa, [], fun _ => none⟩ 0 own S ks FC n Inb w) (ex : Ext (fun b => W.heap.size ≤ b) [] W wa) (h1 : W.heap.size ≤ rb) (h2 : rb < wa.heap.size) (hodd : ¬ Odd wa.heap[rb]?) :
    CI ⟨W, [], fun _ => none⟩ 0 (retagC own 10 (· = rb)) S ks FC n Inb w ∧ OLe own (retagC own 10 (· = rb)) ∧ w.heap[rb]? = wa.heap[rb]? := by
  have hrow : ∀ r ∈ FC, wa.heap.size ≤ r.b := fun r hr => by
    rcases C.sup r hr with h | h
    · cases h
    · exact h
  have h0 : own rb = 0 := Classical.byContradiction fun h => by have : wa.heap.size ≤ rb := C.low rb h; omega
  have hne : ∀ b, own b ≠ 0 → retagC own 10 (· = rb) b = own b := fun b hb => tag_ne fun e => hb (by rw [e]; exact h0)
  have le : OLe own (retagC own 10 (· = rb)) := fun b hb => hne b hb
  have heq : w.heap[rb]? = wa.heap[rb]? := C.base.eq rb h2 (fun h => by have h' : wa.heap.size ≤ rb := h; omega) fun r hr => by cases hr
  have fi : FI (retagC own 10 (· = rb)) S FC := C.fi.le le fun b hz hn r hr e => by
    by_cases hb : b = rb
    · subst hb; have := hrow r hr; omega
    · rw [tag_ne hb] at hn; exact hn hz
  have hws := ex.size
  refine ⟨⟨C.si.keep le fun _ _ _ => rfl, fi, fun b hb => ?_, C.rows, ex.then C.base (fun b _ h => ?_) (fun r hr => (by cases hr)) (fun r hr => (by cases hr)), fun b hb => ?_, fun r hr => (by cases hr), fun r hr => .inr (Nat.le_trans hws (hrow r hr)), C.len, C.kid, C.keep, C.only, fun x s r h => (by cases h), C.top, C.seat0, C.hn, C.uniq⟩, le, heq⟩
  · by_cases e : b = rb
    · subst e
      exact ⟨Nat.lt_of_lt_of_le h2 C.base.size, by rw [heq]; exact hodd⟩
    · rw [tag_ne e] at hb; exact C.lw b hb
  · have h' : wa.heap.size ≤ b := h
    show W.heap.size ≤ b
    omega
  · by_cases e : b = rb
    · subst e; exact h1
    · rw [tag_ne e] at hb
      have : wa.heap.size ≤ b := C.low b hb
      show W.heap.size ≤ b
      omega
end

theorem RInv.spawn {fs : List (List RStep)} {m : RS} {f : Nat} (h : RInv fs m) (hl : m.cos.length < 20) (hf : f < fs.length) (h60 : ∀ l ∈ fs, l.length ≤ 60) : RInv fs (rSpawn m f) := by
  have hm := rSpawn_meas (f := f) hl h60
  have hlt : ∀ j ∈ m.q, j < m.cos.length := fun j hj => by
    obtain ⟨c, hc, _⟩ := h.rdy j hj
    exact (List.getElem?_eq_some_iff.1 hc).1
  refine ⟨by rw [rSpawn_len]; omega, fun x hx => ?_, ?_, fun j hj => ?_, ?_⟩
  · rcases List.mem_append.1 hx with hx | hx
    · exact h.fin x hx
    · rw [List.mem_singleton.1 hx]
      exact hf
  · show (m.q ++ [m.cos.length]).Nodup
    rw [List.nodup_append]
    exact ⟨h.nd, by simp, fun a ha b hb e => by rw [List.mem_singleton.1 hb] at e; have := hlt a ha; omega⟩
  · show ∃ c, (m.cos ++ [_])[j]? = some c ∧ _
    rcases List.mem_append.1 hj with hj | hj
    · rw [List.getElem?_append_left (hlt j hj)]
      exact h.rdy j hj
    · rw [List.mem_singleton.1 hj]
      exact ⟨⟨f, 0, 1, ByteArray.empty⟩, by simp, rfl⟩
  · have := h.room
    show m.tr.length + _ ≤ _
    omega
end Go.Proofs.Ytolnmdanlggmhaa

/- start: the law's world and the reference's, beside each other. -/
namespace Go.Proofs.Ytolnmdanlggmhaa
open Go.RowKit Go.Maps Go.Conc
open Go.ConcN (upd upd_ne upd_same)

set_option maxRecDepth 100000
set_option maxHeartbeats 2000000

/-- world.spawn is called with the scheduler's own Spawn. -/
theorem ws_main {main : Bool} {Z : Addr → Prop} {Stop : Goroutine → World → Prop} {w₀ u : World} {wb k sb : Nat} {n : Int} {cs : List Frame} (hw2 : u.cell? ⟨wb, 2, none⟩ = some (.int .i64 n)) (hf2 : u.frozen? ⟨wb, 2, none⟩ = false) (hwl : wb < u.heap.size) (hnw : IntKind.i64.wrap (n + 1) = n + 1)
    (hk : ∀ ts, OwnU Try.prog main Z Stop w₀ (spawnIn sb (fvK u.heap.size (u.heap.size + 1)) (wsFr ts :: cs)) (((u.alloc (.cells #[ptr wb] 65)).alloc (.cells #[.int .i64 (k : Int)] 3)).setCell ⟨wb, 2, none⟩ (.int .i64 (n + 1)))) : OwnU Try.prog main Z Stop w₀ (wsIn wb k (.func (.func 37) #[ptr sb] #[]) cs) u :=
  ws_own Try.func37 (by kernel_rfl) rfl hw2 hf2 hwl hnw fun ts => ownU_eq (by kernel_rfl) (hk ts)

section
variable {Post : Value → World → Prop} {E : Env} {n wb nF cF nz cz rb mb : Nat} {fs : List (List RStep)} {af : Addr} {A1 : Option Addr} {zs : List Int} {z0 : Value} {b₀ : Frame} {a₀ : Act} {ops : Array Oper} {j : Nat} {rest : List Nat} {k₀ : List Item} {cs : List Frame}
/-- THE LOOP. -/
theorem start_loop (hW : E.FC0 = []) (hnF : fs.length = nF) (h60 : ∀ l ∈ fs, l.length ≤ 60) (hF0 : 0 < nF) (hA : ArgAt E.W0 A1 zs) (hz : ∀ z ∈ zs, 0 ≤ z ∧ z < 256) (hzl : zs.length = nz) (hnz : nz ≤ 9223372036854775807) (hne : rb ≠ mb) : ∀ (N idx : Nat) {own : Nat → Nat} {S : Sch} {ks : List Kid} {FC : List Row} {Inb : Nat → Option Seat} {w : World} {m : RS} {v : Value} {ts : Array Value}, N + idx = nz →
    CI E 0 own S ks FC n Inb w → S.fr = 0 → S.closed = false → m.cl = false → MJ E.W0 own S ks FC wb fs af nF cF m (fun _ => False) w → RInv fs m → rMeas fs m ≤ 1240 → RefAt own mb (.slice (some af) nF cF) v m w → BoxAt rb z0 w → own rb = 10 → StTs ts (some af) nF cF A1 nz cz rb wb mb idx →
    (∀ own' S' ks' FC' w' m' v', CI E 0 own' S' ks' FC' n Inb w' → S'.fr = 0 → S'.closed = false → m'.cl = false → MJ E.W0 own' S' ks' FC' wb fs af nF cF m' (fun _ => False) w' → RInv fs m' → rMeas fs m' ≤ 1240 → SAt w' (fun b => own' b = 9) (.slice (some af) nF cF) v' m' → S'.sb = S.sb →
      Won Try.prog Post FC' n Inb 0 (G (b₀.at (a₀.put ((ops[j]?).bind (·.dst)) (.tuple #[ptr wb, v'])) (.inRegion ops rest :: k₀)) cs) w') → Won Try.prog Post FC n Inb 0 (stHead ts (b₀.at a₀ (.inRegion ops (j :: rest) :: k₀) :: cs)) w
  | 0, idx, own, S, ks, FC, Inb, w, m, v, ts, hN, C, hfr, hcl, hmc, J, hI, hM, hr, hzb, h10, hts, next => by
    obtain ⟨hb, hsat⟩ := C.refG hr
    have hzg : BoxAt rb z0 (guardW FC w) := hzb.keep (C.agr.eq rb (by omega) (C.fi.ne (by omega) (by omega) (by omega)))
    refine win_own C.fi.wf (st_end hts (by omega) hb hsat hzg fun u' hv => ownU_stop fun w1 hs hkp => ?_)
    obtain ⟨own', C1, le, s, _, _⟩ := C.vol hs hkp h10 hv
    refine next own' S ks FC w1 m v C1 hfr hcl hmc (J.keepB h10 le s fun _ h => h) hI hM (hr.sat.nine le (fun b hb => s b (by omega) fun e => by subst e; omega) C1.lt) rfl
  | N + 1, idx, own, S, ks, FC, Inb, w, m, v, ts, hN, C, hfr, hcl, hmc, J, hI, hM, hr, hzb, h10, hts, next => by
    have hidx : idx < nz := by omega
    obtain ⟨z, hzi⟩ : ∃ z, zs[idx]? = some z := ⟨_, List.getElem?_eq_getElem (by omega)⟩
    obtain ⟨ad, hA1, hA2⟩ := hA idx z hzi
    have hzz := hz z (List.mem_of_getElem? hzi)
    have hc := C.old hW hA2
    have hgs : (guardW FC w).heap.size = w.heap.size := by simp [guardW]
    have sG := C.siG
    have tr0 := J.tr.agree C.fi C.agr
    obtain ⟨vT, hbox6, _, _⟩ := tr0.box
    have hw6 := tr0.wb
    have hw2 : (guardW FC w).cell? ⟨wb, 2, none⟩ = some (.int .i64 (m.cos.length : Int)) := blk_cell hbox6 2 _ rfl
    have hlen := hI.len
    have hwl := obj_lt hbox6
    by_cases h20 : 20 ≤ m.cos.length
    · refine win_own C.fi.wf (st_skip hts hidx hA1 hc hw2 h20 (by omega) fun ts' hts' => ownU_stop fun w1 hs hkp => ?_)
      obtain ⟨C1, s1⟩ := CI.rest' C hs hkp (New.refl _)
      exact start_loop hW hnF h60 hF0 hA hz hzl hnz hne N (idx + 1) (by omega) C1 hfr hcl hmc (J.keep (OLe.refl _) s1 fun _ h => h) hI hM (hr.same8 (OLe.refl _) s1.s8 C1.lt) (hzb.keep (s1 rb (by omega))) h10 hts' next
    have hl20 : m.cos.length < 20 := by omega
    obtain ⟨k, hk0⟩ : ∃ k : Nat, z % (nF : Int) = (k : Int) := ⟨(z % (nF : Int)).toNat, by have := Int.emod_nonneg z (b := (nF : Int)) (by omega); omega⟩
    have hkF : k < fs.length := by have := Int.emod_lt_of_pos z (b := (nF : Int)) (by omega); omega
    refine win_own C.fi.wf (st_spawn hts hidx hA1 hc hw2 hzz (blk_cell hbox6 0 _ rfl) hl20 hF0 hk0 fun ts1 hts1 hk1 => ws_main hw2 (blk_frozen hbox6 2) hwl (wrap_id (by omega) (by omega)) fun ts3 => ?_)
    have st2 := stp_two8 C.ltG (.cells #[ptr wb] 65) (.cells #[.int .i64 (k : Int)] 3)
    have tr2 := tr0.keep st2.le (w' := ((guardW FC w).alloc (.cells #[ptr wb] 65)).alloc (.cells #[.int .i64 (k : Int)] 3)) fun b hb => st2.block b (C.ltG b (by omega)) (fun h => h)
    have tr3 := tr2.count
    have b1 := al2_first (guardW FC w) (.cells #[ptr wb] 65) (.cells #[.int .i64 (k : Int)] 3)
    have b2 := al2_second (guardW FC w) (.cells #[ptr wb] 65) (.cells #[.int .i64 (k : Int)] 3)
    have t1 : retagC own 8 (fun b => b = (guardW FC w).heap.size ∨ b = (guardW FC w).heap.size + 1) (guardW FC w).heap.size = 8 := retagC_in (fp := fun b => b = (guardW FC w).heap.size ∨ b = (guardW FC w).heap.size + 1) (.inl rfl)
    have t2 : retagC own 8 (fun b => b = (guardW FC w).heap.size ∨ b = (guardW FC w).heap.size + 1) ((guardW FC w).heap.size + 1) = 8 := retagC_in (fp := fun b => b = (guardW FC w).heap.size ∨ b = (guardW FC w).heap.size + 1) (.inr rfl)
    generalize retagC own 8 (fun b => b = (guardW FC w).heap.size ∨ b = (guardW FC w).heap.size + 1) = own1 at *
    have hw1 : own1 wb = 6 := tr2.wb
    have st3 : Stp (· = 6) own1 own1 _ ((((guardW FC w).alloc (.cells #[ptr wb] 65)).alloc (.cells #[.int .i64 (k : Int)] 3)).setCell ⟨wb, 2, none⟩ (.int .i64 ((m.cos.length : Int) + 1))) := stp_setCell (a := ⟨wb, 2, none⟩) st2.lt hw1 _
    have b1' : ((((guardW FC w).alloc (.cells #[ptr wb] 65)).alloc (.cells #[.int .i64 (k : Int)] 3)).setCell ⟨wb, 2, none⟩ (.int .i64 ((m.cos.length : Int) + 1))).heap[(guardW FC w).heap.size]? = _ := (by rw [setCell_get, if_neg (by simp only; omega)] : _ = _).trans b1
    have b2' : ((((guardW FC w).alloc (.cells #[ptr wb] 65)).alloc (.cells #[.int .i64 (k : Int)] 3)).setCell ⟨wb, 2, none⟩ (.int .i64 ((m.cos.length : Int) + 1))).heap[(guardW FC w).heap.size + 1]? = _ := (by rw [setCell_get, if_neg (by simp only; omega)] : _ = _).trans b2
    have st : Stp (· = 6) own own1 (guardW FC w) _ := (st2.mono (fun _ h => h.elim)).trans st3 (by omega)
    generalize (((guardW FC w).alloc (.cells #[ptr wb] 65)).alloc (.cells #[.int .i64 (k : Int)] 3)).setCell ⟨wb, 2, none⟩ (.int .i64 ((m.cos.length : Int) + 1)) = u3 at *
    generalize (guardW FC w).heap.size = tb1 at *
    have si3 : SI own1 S u3 := sG.stp st (fun t h => by omega)
    have fi3 : FI own1 S FC := C.fi.stp (u := guardW FC w) st (fun r hr => by have := C.rows r hr; simpa [guardW] using this)
    refine ownU_stop fun w1 hs hkp => ?_
    obtain ⟨a, C1⟩ := C.step hs hkp st (by omega) si3 fi3 rfl rfl (fun i c h => ⟨c, h, rfl, rfl⟩)
    have s1 : Same8 own w w1 := same8_step a fi3 st (fun t h => by omega) C.lw C.fi
    have tr4 := tr3.agree fi3 a
    have g1 : own1 tb1 = 8 ∧ w1.heap[tb1]? = _ := ⟨t1, (a.eq tb1 (by omega) (fi3.ne (by omega) (by omega) (by omega))).trans b1'⟩
    have g2 : own1 (tb1 + 1) = 8 ∧ w1.heap[tb1 + 1]? = _ := ⟨t2, (a.eq (tb1 + 1) (by omega) (fi3.ne (by omega) (by omega) (by omega))).trans b2'⟩
    have hSl := J.mt.len
    have hql := hI.qlen
    have hqs : S.qs.length ≤ 20 := by rw [J.mt.qs, List.length_map]; exact hql
    have hnq2 : ((S.cos.length : Int) + 1) ∉ S.qs := J.mt.notIn (i := S.cos.length) fun hq => by
      obtain ⟨c', e1, _⟩ := hI.rdy _ hq
      have := (List.getElem?_eq_some_iff.1 e1).1
      omega
    have hr1 : RefAt own1 mb (.slice (some af) nF cF) v m w1 := hr.same8 st.le s1 C1.lt
    unfold wsFr stFr1
    refine spawn_won (fn := .func 76) (fi := #[]) (ca := #[ptr tb1, ptr (tb1 + 1)]) C1 hcl (by omega) hnq2 (by omega) fun own2 v2 c2 FC2 w2 hf1 hb1 hs1 hx1 C2 le2 s2 hsub2 => ?_
    have J2 : MJ E.W0 own2 { S with v := v2, cos := S.cos ++ [c2], qs := S.qs ++ [(S.cos.length : Int) + 1] } (ks ++ [⟨0, 0, default⟩]) FC2 wb fs af nF cF (rSpawn m k) (fun _ => False) w2 :=
      J.spawn (c := c2) C.len hl20 h60 (st.le.trans le2) (tr4.same6 le2 s2) (s1.trans s2.s8 st.le) hsub2 hf1 hs1 hx1 ⟨le2.tag g1.1 (by omega), (s2 tb1 (by omega)).trans g1.2⟩ ⟨le2.tag g2.1 (by omega), (s2 (tb1 + 1) (by omega)).trans g2.2⟩
    have hr2 : RefAt own2 mb (.slice (some af) nF cF) v m w2 := hr1.same8 le2 s2.s8 C2.lt
    have hz2 : BoxAt rb z0 w2 := (hzb.keep (s1 rb (by omega))).keep (s2 rb (by rw [st.le.tag h10 (by omega)]; omega))
    have h102 : own2 rb = 10 := le2.tag (st.le.tag h10 (by omega)) (by omega)
    obtain ⟨hb2, hsat2⟩ := C2.refG hr2
    have hm2 : own2 mb = 10 := hr2.tag
    refine win_own C2.fi.wf (ws_back (st_ref hts1 hk1 hb2 hsat2 (by omega) (by omega) (by omega) (by omega) fun ts4 u4 v4 hts4 hb4 hsat4 hv4 => ownU_stop fun w3 hs3 hkp3 => ?_))
    obtain ⟨own3, C3, le3, s3, hr3⟩ := C2.refstep hs3 hkp3 hm2 hv4 hb4 hsat4
    have hms := rSpawn_meas (f := k) hl20 h60
    exact start_loop (m := rSpawn m k) hW hnF h60 hF0 hA hz hzl hnz hne N (idx + 1) (by omega) C3 hfr hcl hmc (J2.keepB hm2 le3 s3 fun _ h => h) (hI.spawn hl20 hkF h60) (by omega) hr3 (hz2.keep (s3 rb (by omega) hne)) (le3.tag h102 (by omega)) hts4 next
end
end Go.Proofs.Ytolnmdanlggmhaa

/- start, whole. -/
namespace Go.Proofs.Ytolnmdanlggmhaa
open Go.RowKit Go.Maps Go.Conc
open Go.ConcN (upd upd_ne upd_same)

set_option maxRecDepth 100000
set_option maxHeartbeats 2000000

def rs0 : RS := ⟨[], [], [], false⟩
theorem rs0_meas (fs : List (List RStep)) : rMeas fs rs0 = 1240 := by simp [rMeas, rs0]
theorem rs0_inv (fs : List (List RStep)) : RInv fs rs0 := by
  refine ⟨by simp [rs0], fun c hc => by simp [rs0] at hc, by simp [rs0], fun j hj => by simp [rs0] at hj, ?_⟩
  rw [rs0_meas]
  simp [rs0]
theorem rs0_at {w : World} {R : Nat → Prop} {F : Value} : SAt w R F (.agg #[F, .slice none 0 0, .slice none 0 0, .slice none 0 0, .bool false]) rs0 :=
  ⟨none, none, none, 0, 0, 0, fun ad h => (by cases h), rfl, ⟨Rd.nil _ _ _, fun ad h => (by cases h)⟩, ⟨Rd.nil _ _ _, fun ad h => (by cases h)⟩, Nat.le_refl _, ⟨Rd.nil _ _ _, fun ad h => (by cases h)⟩⟩

section
variable {Post : Value → World → Prop} {nF cF nz cz : Nat} {fs : List (List RStep)} {af : Addr} {A1 : Option Addr} {zs : List Int} {b₀ : Frame} {a₀ : Act} {ops : Array Oper} {j : Nat} {rest : List Nat} {k₀ : List Item} {cs : List Frame} {W w0 : World}
theorem start_won (ex : Ext (fun b => W.heap.size ≤ b) [] W w0) (H : Ground [] 1 (fun _ => none) w0) (hnF : fs.length = nF) (h60 : ∀ l ∈ fs, l.length ≤ 60) (hF0 : 0 < nF) (hA : ArgAt W A1 zs) (hz : ∀ z ∈ zs, 0 ≤ z ∧ z < 256) (hzl : zs.length = nz) (hnz : nz ≤ 9223372036854775807)
    (next : ∀ own S ks FC w m v wb, CI ⟨W, [], fun _ => none⟩ 0 own S ks FC 1 (fun _ => none) w → S.fr = 0 → S.closed = false → m.cl = false → MJ W own S ks FC wb fs af nF cF m (fun _ => False) w → RInv fs m → rMeas fs m ≤ 1240 → SAt w (fun b => own b = 9) (.slice (some af) nF cF) v m →
      Won Try.prog Post FC 1 (fun _ => none) 0 (G (b₀.at (a₀.put ((ops[j]?).bind (·.dst)) (.tuple #[ptr wb, v])) (.inRegion ops rest :: k₀)) cs) w) : Won Try.prog Post [] 1 (fun _ => none) 0 (stIn (some af) nF cF A1 nz cz (b₀.at a₀ (.inRegion ops (j :: rest) :: k₀) :: cs)) w0 := by
  have hgs : (guardW [] w0).heap.size = w0.heap.size := by simp [guardW]
  refine win_own H.wf (st_new fun ts hts => ownU_stop fun w1 hs hkp => ?_)
  rw [hgs] at hts
  have st : Stp (fun _ => False) (fun _ => 0) (retagC (fun _ => 0) 10 (· = w0.heap.size)) (guardW [] w0) ((guardW [] w0).alloc (.cells #[.slice none 0 0, .slice none 0 0, .slice none 0 0, .slice none 0 0, .bool false] 68)) :=
    stp_new (fun b hb => absurd rfl hb) rfl rfl (by rw [World.size_alloc]; omega) (fun b hb => Below.heap_alloc _ _ _ hb) (by omega) (by rw [World.size_alloc]; omega)
  have hblk : ((guardW [] w0).alloc (.cells #[.slice none 0 0, .slice none 0 0, .slice none 0 0, .slice none 0 0, .bool false] 68)).heap[w0.heap.size]? = some (.cells #[.slice none 0 0, .slice none 0 0, .slice none 0 0, .slice none 0 0, .bool false] 68 (0, 0)) := alloc_new' _ _ hgs.symm
  obtain ⟨a, lw1, ex1⟩ := cross H.wf (fun b hb => absurd rfl hb) hs hkp st (fun h => h)
  obtain ⟨H1, _⟩ := ground_own H hs hkp (New.alloc _ _)
  have h10 : retagC (fun _ => 0) 10 (· = w0.heap.size) w0.heap.size = 10 := tag_eq rfl
  have hl1 := lw1 w0.heap.size (by rw [h10]; omega)
  have hb1 := (a.eq w0.heap.size (by rw [h10]; omega) (fun r hr => by cases hr)).trans hblk
  have hws := ex.size
  have exW : Ext (fun b => W.heap.size ≤ b) [] W w1 := ex.then (ext_none ex1 (O' := fun _ => False) fun b _ h => absurd rfl h) (fun b _ h => h.elim) (fun r hr => hr) (fun r hr => .inl hr)
  clear hs hkp st a ex1
  generalize hrb : w0.heap.size = rb at *
  unfold stFr0
  refine new_won H1 fun own sb qb sc FC1 w2 C2 _ _ => ?_
  obtain ⟨C3, _, e3⟩ := C2.rebase exW hws hl1.1 hl1.2
  have hb2 := e3.trans hb1
  have t10 : retagC own 10 (· = rb) rb = 10 := tag_eq rfl
  have hw12 : w1.heap.size ≤ w2.heap.size := C2.base.size
  generalize retagC own 10 (· = rb) = own3 at *
  clear C2
  have hg2 : (guardW FC1 w2).heap.size = w2.heap.size := by simp [guardW]
  refine win_own C3.fi.wf (st_b (sb := sb) hts fun ts2 hts2 => ownU_stop fun w4 hs hkp => ?_)
  have st1 : Stp (fun _ => False) own3 (retagC own3 6 (· = (guardW FC1 w2).heap.size)) (guardW FC1 w2) ((guardW FC1 w2).alloc (.cells #[ptr sb, .slice (some af) nF cF, .int .i64 0, .slice none 0 0] 72)) :=
    stp_new C3.ltG rfl rfl (by rw [World.size_alloc]; omega) (fun b hb => Below.heap_alloc _ _ _ hb) (Nat.le_refl _) (by rw [World.size_alloc]; omega)
  have st2 : Stp (fun _ => False) (retagC own3 6 (· = (guardW FC1 w2).heap.size)) (retagC (retagC own3 6 (· = (guardW FC1 w2).heap.size)) 10 (· = (guardW FC1 w2).heap.size + 1)) ((guardW FC1 w2).alloc (.cells #[ptr sb, .slice (some af) nF cF, .int .i64 0, .slice none 0 0] 72))
      (((guardW FC1 w2).alloc (.cells #[ptr sb, .slice (some af) nF cF, .int .i64 0, .slice none 0 0] 72)).alloc (.cells #[.slice (some af) nF cF, .slice none 0 0, .slice none 0 0, .slice none 0 0, .bool false] 68)) :=
    stp_new st1.lt rfl rfl (by simp only [World.size_alloc]; omega) (fun b hb => Below.heap_alloc _ _ _ hb) (by simp only [World.size_alloc]; omega) (by simp only [World.size_alloc]; omega)
  have st := st1.trans st2 (fun h => h)
  have h6 : retagC (retagC own3 6 (· = (guardW FC1 w2).heap.size)) 10 (· = (guardW FC1 w2).heap.size + 1) (guardW FC1 w2).heap.size = 6 := (tag_ne (by omega)).trans (tag_eq rfl)
  have h10m : retagC (retagC own3 6 (· = (guardW FC1 w2).heap.size)) 10 (· = (guardW FC1 w2).heap.size + 1) ((guardW FC1 w2).heap.size + 1) = 10 := tag_eq rfl
  have f1 := al2_first (guardW FC1 w2) (.cells #[ptr sb, .slice (some af) nF cF, .int .i64 0, .slice none 0 0] 72) (.cells #[.slice (some af) nF cF, .slice none 0 0, .slice none 0 0, .slice none 0 0, .bool false] 68)
  have f2 := al2_second (guardW FC1 w2) (.cells #[ptr sb, .slice (some af) nF cF, .int .i64 0, .slice none 0 0] 72) (.cells #[.slice (some af) nF cF, .slice none 0 0, .slice none 0 0, .slice none 0 0, .bool false] 68)
  have fi : FI _ (emptyS sb qb sc) FC1 := C3.fi.stp st fun r hr => by rw [hg2]; exact C3.rows r hr
  obtain ⟨a, C4⟩ := C3.step hs hkp st (fun h => h) (C3.siG.stp st fun t h => h.elim) fi rfl rfl (fun i c h => ⟨c, h, rfl, rfl⟩)
  have s4 : Same6 own3 w2 w4 := same6_step a fi st (fun _ h => h.elim) C3.lw C3.fi
  have hbw := (a.eq _ (by rw [h6]; omega) (fi.ne (by rw [h6]; omega) (by rw [h6]; omega) (by rw [h6]; omega))).trans f1
  have hbm := (a.eq _ (by rw [h10m]; omega) (fi.ne (by rw [h10m]; omega) (by rw [h10m]; omega) (by rw [h10m]; omega))).trans f2
  have h10r := st.le.tag t10 (by omega)
  have hbr := (s4 rb (by omega)).trans hb2
  generalize retagC (retagC own3 6 (· = (guardW FC1 w2).heap.size)) 10 (· = (guardW FC1 w2).heap.size + 1) = own4 at *
  clear hs hkp st st1 st2 a f1 f2 fi
  have hne : rb ≠ (guardW FC1 w2).heap.size + 1 := by omega
  generalize (guardW FC1 w2).heap.size = wb at *
  refine start_loop (E := ⟨W, [], fun _ => none⟩) (m := rs0) rfl hnF h60 hF0 hA hz hzl hnz hne nz 0 (by omega) C4 rfl rfl rfl ?_ (rs0_inv fs) (Nat.le_of_eq (rs0_meas fs)) ⟨⟨_, _, _, _, _, rfl, hbm⟩, h10m, rs0_at⟩ ⟨_, _, _, _, _, rfl, hbr⟩ h10r hts2 fun own' S' ks' FC' w' m' v' C' e1 e2 e3 J' hI' hM' hS' _ => next own' S' ks' FC' w' m' v' wb C' e1 e2 e3 J' hI' hM' hS'
  refine ⟨⟨rfl, fun i c rc h => by simp [emptyS] at h, rfl, rfl⟩, ⟨⟨.slice none 0 0, hbw, QRow.nil _, fun g hg => (by cases hg)⟩, h6⟩, fun i c rc h => by simp [emptyS] at h, fun i c rc k _ h => by simp [emptyS] at h, ?_⟩
  rw [rs0_meas]
  show 0 + 1240 ≤ 100000
  omega
end
end Go.Proofs.Ytolnmdanlggmhaa

/- The mains of CoroMatches and CoroCloses: what they have in common. -/
namespace Go.Proofs.Ytolnmdanlggmhaa
open Go.RowKit Go.Maps Go.Conc
open Go.ConcN (upd upd_ne upd_same)

set_option maxRecDepth 100000
set_option maxHeartbeats 2000000

section
variable {main : Bool} {Z : Addr → Prop} {Stop : Goroutine → World → Prop} {w₀ u : World} {b : Frame} {a : Act} {k : List Item} {cs : List Frame} {ops : Array Oper} {i : Nat} {rest : List Nat} {o : Oper}
/-- The reference's scheduler is read from its box. -/
theorem ownU_loadRef {mb : Nat} {v : Value} {x : Operand} (ho : ops[i]? = some o) (hw : Region.wanted o (yielded ops a.tmps) = true) (hb : b.kind ≠ .early) (hop : o.op = .load 68 x) (hx : a.eval x = ptr mb) (D : BoxAt mb v u)
    (hk : OwnU Try.prog main Z Stop w₀ (G (b.at (a.put o.dst v) (.inRegion ops rest :: k)) cs) u) : OwnU Try.prog main Z Stop w₀ (G (b.at a (.inRegion ops (i :: rest) :: k)) cs) u :=
  ownU_op (L := []) ho (by rw [hop]; rfl) hw hb fun A d => by
    have hr : (execOp a.eval o).run Try.prog (tp u A d) = .ok (.value v) (tp u A d) := by
      obtain ⟨x0, x1, x2, x3, x4, rfl, hD⟩ := D
      have hD' : (tp u A d).heap[mb]? = some (.cells #[x0, x1, x2, x3, x4] 68 (0, 0)) := hD
      obtain ⟨c0, c1, c2, c3, c4, _⟩ := five_cells hD'
      have hx' : a.eval x = .pointer (some ⟨mb, 0, none⟩) := hx
      unfold execOp
      simp only [hop, hx']
      simp [go_sem, c0, c1, c2, c3, c4]
    rw [hr]
    exact ownU_tp.2 hk
/-- .. and written. -/
theorem ownU_storeRef {mb : Nat} {F v y : Value} {m : RS} {R : Nat → Prop} {p x : Operand} (ho : ops[i]? = some o) (hw : Region.wanted o (yielded ops a.tmps) = true) (hb : b.kind ≠ .early) (hop : o.op = .store 68 p x) (hp : a.eval p = ptr mb) (hx : a.eval x = v) (D : BoxAt mb y u) (hs : SAt u R F v m) (hF : ∃ A n c, F = .slice A n c) (hR : ¬ R mb)
    (hk : ∀ u', BoxAt mb v u' → SAt u' R F v m → Vol mb u u' → OwnU Try.prog main Z Stop w₀ (G (b.at (a.put o.dst undef) (.inRegion ops rest :: k)) cs) u') : OwnU Try.prog main Z Stop w₀ (G (b.at a (.inRegion ops (i :: rest) :: k)) cs) u :=
  ownU_op (L := []) ho (by rw [hop]; rfl) hw hb fun A d => by
    obtain ⟨AF, nF, cF, rfl⟩ := hF
    obtain ⟨A1, p1, r1, A2, p2, r2, A3, p3, r3, bb, rfl⟩ := hs.five
    obtain ⟨x0, x1, x2, x3, x4, _, hD⟩ := D
    have hD' : (tp u A d).heap[mb]? = some (.cells #[x0, x1, x2, x3, x4] 68 (0, 0)) := hD
    obtain ⟨c0, c1, c2, c3, c4, f⟩ := five_cells hD'
    have hp' : a.eval p = .pointer (some ⟨mb, 0, none⟩) := hp
    obtain ⟨e1, e2, e3, e4⟩ := st5_at hD' (W := (((((tp u A d).setCell ⟨mb, 0, none⟩ (.slice AF nF cF)).setCell ⟨mb, 1, none⟩ (.slice A1 p1 r1)).setCell ⟨mb, 2, none⟩ (.slice A2 p2 r2)).setCell ⟨mb, 3, none⟩ (.slice A3 p3 r3)).setCell ⟨mb, 4, none⟩ (.bool bb)) rfl
    have hr : (execOp a.eval o).run Try.prog (tp u A d) = .ok .skip (((((((tp u A d)).setCell ⟨mb, 0, none⟩ (.slice AF nF cF)).setCell ⟨mb, 1, none⟩ (.slice A1 p1 r1)).setCell ⟨mb, 2, none⟩ (.slice A2 p2 r2)).setCell ⟨mb, 3, none⟩ (.slice A3 p3 r3)).setCell ⟨mb, 4, none⟩ (.bool bb)) := by
      unfold execOp
      simp only [hop, hp', hx]
      simp [go_sem, c0, c1, c2, c3, c4, f]
    rw [hr]
    have e5 := e4 0 (Nat.zero_le _)
    refine hk _ ⟨_, _, _, _, _, rfl, e1⟩ (hs.keep (fun k _ hk => e2 k fun e => hR (e ▸ hk)) (Nat.le_of_eq e3.symm)) ⟨e5.os, e5.output, e5.size, fun b _ hb => e2 b hb⟩
end
/-- Spawn, of a scheduler that is closed. -/
theorem spawn_shut {main : Bool} {Z : Addr → Prop} {Stop : Goroutine → World → Prop} {w₀ u : World} {sb qb sc : Nat} {v fv : Value} {b₀ : Frame} {a₀ : Act} {ops : Array Oper} {j : Nat} {rest : List Nat} {k₀ : List Item} {cs : List Frame} (h : SchAt u sb qb sc v true)
    (hk : OwnU Try.prog main Z Stop w₀ (G (b₀.at (a₀.put ((ops[j]?).bind (·.dst)) (.int .i64 0)) (.inRegion ops rest :: k₀)) cs) u) : OwnU Try.prog main Z Stop w₀ (spawnIn sb fv (b₀.at a₀ (.inRegion ops (j :: rest) :: k₀) :: cs)) u := by
  have hclo := closed_u h
  clear h
  unfold spawnIn
  refine ownU_seq (x := sel [0] bodyS) (y := sel [1] bodyS) ?_
  refine ownU_region (id := 0) (ops := opsOf (sel [0] bodyS)) ?_
  refine ownU_quiet (i := 0) (rest := []) (.int .i64 0) rfl (by rfl) rfl (by decide) (fun _ => by kernel_rfl) ?_
  refine ownU_region_end ?_
  refine ownU_seq (x := sel [1, 0] bodyS) (y := sel [1, 1] bodyS) ?_
  refine ownU_seq (x := sel [1, 0, 0] bodyS) (y := sel [1, 0, 1] bodyS) ?_
  refine ownU_region (id := 1) (ops := opsOf (sel [1, 0, 0] bodyS)) ?_
  refine ownU_quiet (i := 0) (rest := [1]) (ptr sb) rfl (by rfl) rfl (by decide) (fun _ => by kernel_rfl) ?_
  refine ownU_callK (i := 1) (rest := []) (L := lone18) (R := fun e w' => e = .returned (.bool true) ∧ ∃ A d, w' = tp u A d) okL18 (by decide) rfl rfl (by kernel_rfl) (by rfl) (by decide) (fun A d => calls_eq (by kernel_rfl) (hclo A d)) (fun e w h => ⟨_, h.1⟩) fun z u' hR => ?_
  obtain ⟨e, A, d, rfl⟩ := hR
  injection e with e
  subst e
  refine ownU_tp.2 ?_
  refine ownU_region_end ?_
  refine ownU_cond (c := .tmp 7) (x := sel [1, 0, 1, 2] bodyS) (y := .skip) (t := true) (by kernel_rfl) ?_
  refine ownU_seq (x := sel [1, 0, 1, 2, 0] bodyS) (y := sel [1, 0, 1, 2, 1] bodyS) ?_
  refine ownU_region (id := 2) (ops := opsOf (sel [1, 0, 1, 2, 0] bodyS)) ?_
  refine ownU_quiet (i := 0) (rest := []) (.int .i64 0) rfl (by rfl) rfl (by decide) (fun _ => by kernel_rfl) ?_
  refine ownU_region_end ?_
  refine ownU_ret ?_
  refine ownU_leave1 (t := 4) (fn := Try.f37) rfl (by rfl) Try.func37 rfl ?_
  exact ownU_eq (by kernel_rfl) hk
end Go.Proofs.Ytolnmdanlggmhaa

/- The mains of CoroMatches and CoroCloses: what same asks for; the arguments, read beside a crew. -/
namespace Go.Proofs.Ytolnmdanlggmhaa
open Go.RowKit Go.Maps Go.Conc
open Go.ConcN (upd upd_ne upd_same)

set_option maxRecDepth 100000
set_option maxHeartbeats 2000000

/-- The scheduler, its law's world and the reference's say the same. -/
structure SJ (own : Nat → Nat) (S : Sch) (m : RS) (wb : Nat) (F : Value) (w : World) : Prop where
  len : S.cos.length = m.cos.length
  same : ∀ (i : Nat) (c : CoR) (rc : RCo), S.cos[i]? = some c → m.cos[i]? = some rc → c.st = rc.st ∧ c.txt = rc.txt
  cl : S.closed = m.cl
  tr : ∃ n, TrAt own wb S.sb F n m.tr w
  l20 : m.cos.length ≤ 20
  t5 : m.tr.length ≤ 5000

section
variable {E : Env} {own own' : Nat → Nat} {S : Sch} {ks : List Kid} {FC : List Row} {n : Nat} {Inb : Nat → Option Seat} {w w' : World} {m : RS} {wb mb nF cF : Nat} {F v : Value} {fs : List (List RStep)} {af : Addr}
theorem MJ.sj {W0 : World} (J : MJ W0 own S ks FC wb fs af nF cF m (fun _ => False) w) (hI : RInv fs m) : SJ own S m wb (.slice (some af) nF cF) w :=
  ⟨J.mt.len, J.mt.same, J.mt.cl, ⟨_, J.tr⟩, hI.len, by have := hI.room; omega⟩
theorem SJ.same6 (h : SJ own S m wb F w) (le : OLe own own') (s : Same6 own w w') : SJ own' S m wb F w' := by
  obtain ⟨k, ht⟩ := h.tr
  exact ⟨h.len, h.same, h.cl, ⟨k, ht.same6 le s⟩, h.l20, h.t5⟩
theorem SJ.sameB (h : SJ own S m wb F w) (hmb : own mb = 10) (le : OLe own own') (s : SameB mb own w w') : SJ own' S m wb F w' := by
  obtain ⟨k, ht⟩ := h.tr
  exact ⟨h.len, h.same, h.cl, ⟨k, ht.keep le fun b hb => s b (by omega) fun e => by subst e; omega⟩, h.l20, h.t5⟩
theorem SJ.w0 (C : CI E 0 own S ks FC n Inb w) (h : SJ own S m wb F w) : (guardW FC w).cell? ⟨wb, 0, none⟩ = some (ptr S.sb) := by
  obtain ⟨k, ht⟩ := h.tr
  obtain ⟨_, hb, _, _⟩ := (ht.agree C.fi C.agr).box
  exact blk_cell hb 0 _ rfl
theorem new_ofTp {u u' : World} {A : Nat → Question → Nat} {d : Nat} (h : New (tp u A d) u') : New u u' := ⟨h.os, h.output, h.size, h.block⟩
theorem SJ.at (C : CI E 0 own S ks FC n Inb w) (h : SJ own S m wb F w) {u : World} (hn : New (guardW FC w) u) {AF : Option Addr} (hs : SAt u (fun b => own b = 9) (.slice AF nF cF) v m) (A : Nat → Question → Nat) (d : Nat) : Calls Try.prog 54 #[ptr wb, v] (tp u A d) fun e w' => e = .returned (.bool true) ∧ New u w' := by
  obtain ⟨k, ht⟩ := h.tr
  have htg := ht.agree C.fi C.agr
  have ht1 : TrAt own wb S.sb F k m.tr (tp u A d) := htg.keep (OLe.refl _) fun b hb => hn.block b (C.ltG b (by omega))
  have si1 : SI own S (tp u A d) := (C.siG.keep (OLe.refl _) fun b hb _ => hn.block b hb)
  have hs1 : SAt (tp u A d) (fun b => own b = 9) (.slice AF nF cF) v m := hs.keep (fun _ _ _ => rfl) (Nat.le_refl _)
  exact (same_at si1 h.len h.same h.cl ht1 hs1 h.l20 h.t5).mono fun e w' ⟨h1, h2⟩ => ⟨h1, new_ofTp h2⟩
/-- The functions, read elsewhere. -/
theorem FAt.map {u : World} {AF : Option Addr} (h : FAt w AF fs) (hs : w.heap.size ≤ u.heap.size) (hc : ∀ a x, w.cell? a = some x → u.cell? a = some x) : FAt u AF fs := by
  have key : ∀ {A : Option Addr} {n : Nat} {xs : List Value}, Rd w w.heap.size A n xs → Rd u u.heap.size A n xs := fun hr => ⟨hr.len, fun j x hx => by
    obtain ⟨ad, e, h1, h2⟩ := hr.at' j x hx
    exact ⟨ad, e, Nat.lt_of_lt_of_le h1 hs, hc _ _ h2⟩⟩
  obtain ⟨vs, h1, h2⟩ := h
  refine ⟨vs, key h1, fun f l hl => ?_⟩
  obtain ⟨A', c, h3, h4⟩ := h2 f l hl
  exact ⟨A', c, h3, key h4⟩
theorem CI.fns {AF : Option Addr} (C : CI E 0 own S ks FC n Inb w) (hF : E.FC0 = []) (h : FAt E.W0 AF fs) : FAt (guardW FC w) AF fs :=
  h.map (by simpa [guardW] using C.base.size) fun _ _ hx => C.old hF hx
theorem fns_ground {AF : Option Addr} (h : FAt w AF fs) : FAt (guardW [] w) AF fs :=
  h.map (by simp [guardW]) fun a x hx => by rw [cell_same (guard_same (fun r hr => by cases hr) (cell_notOdd hx))]; exact hx
/-- Nobody is left that waits. -/
theorem MJ.over {W0 : World} (C : CI E 0 own S ks FC n Inb w) {b : Bool} (J : MJ W0 own (S.open' b) ks FC wb fs af nF cF (endTo m m.cos.length) (fun _ => False) w) : ∀ k ∈ ks, k.tag ≠ 1 := fun k hk => by
  obtain ⟨i, hi⟩ := List.mem_iff_getElem?.1 hk
  have hl : i < S.cos.length := by rw [← C.len]; exact (List.getElem?_eq_some_iff.1 hi).1
  have hS : (S.open' b).cos[i]? = some S.cos[i] := List.getElem?_eq_getElem hl
  obtain ⟨rc, hrc, _⟩ := J.mt.getS hS
  rcases J.st i _ rc k (fun h => h) hS hrc hi with ⟨h, _⟩ | ⟨_, _, h⟩
  · exfalso
    rw [endTo_all (Nat.le_refl _), List.getElem?_map] at hrc
    cases hc : m.cos[i]? with
    | none => rw [hc] at hrc; cases hrc
    | some c =>
      rw [hc] at hrc
      have e : rEnd c = rc := Option.some.inj hrc
      rw [← e] at h
      unfold rEnd at h
      split at h
      · simp at h
      · next h' => exact h' h
  · exact h
theorem rClose_eq (hcl : m.cl = false) : rClose m = ({ endTo m m.cos.length with q := [], cl := true }, endCnt m m.cos.length) := by
  unfold rClose endCnt
  rw [hcl, List.take_of_length_le (Nat.le_refl _)]
  simp only [Bool.false_eq_true, if_false]
  have := endTo_all (m := m) (Nat.le_refl _)
  unfold endTo at this ⊢
  simp only at this ⊢
  rw [this]
/-- .. and after Close. -/
theorem MJ.closed {W0 : World} {b : Bool} (J : MJ W0 own (S.open' b) ks FC wb fs af nF cF (endTo m m.cos.length) (fun _ => False) w) (hS : S.closed = true) (hcl : m.cl = false) (h20 : m.cos.length ≤ 20) (h5 : m.tr.length ≤ 5000) : SJ own S (rClose m).1 wb (.slice (some af) nF cF) w := by
  rw [rClose_eq hcl]
  exact ⟨J.mt.len, J.mt.same, hS, ⟨_, J.tr⟩, by show (endTo m m.cos.length).cos.length ≤ 20; rw [endTo_len]; exact h20, h5⟩
end
end Go.Proofs.Ytolnmdanlggmhaa
