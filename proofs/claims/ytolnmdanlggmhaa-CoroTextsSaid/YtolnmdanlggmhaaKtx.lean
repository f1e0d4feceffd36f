/- The coroutines of CoroTexts: one panics, one yields and counts. (Printed by gen_texts1.py.) -/
import Derived.Test.YtolnmdanlggmhaaKpan
import Derived.Test.YtolnmdanlggmhaaKfair
namespace Go.Proofs.Ytolnmdanlggmhaa
open Go.RowKit Go.Maps Go.Conc
open Go.ConcN (upd upd_ne upd_same)

set_option maxRecDepth 100000
set_option maxHeartbeats 2000000

noncomputable abbrev bodyPn : Code := Try.f39.body.getD .skip
noncomputable abbrev bodyX1 : Code := Try.f38.body.getD .skip
noncomputable abbrev bodyX2 : Code := Try.f40.body.getD .skip
def fvX1 (vb : Nat) : Value := .func (.func 38) #[] #[ptr vb]
def fvX2 (cb : Nat) : Value := .func (.func 40) #[] #[ptr cb]
/-- The variable v of a coroutine. -/
def VbAt (own : Nat → Nat) (vb : Nat) (v : Value) (w : World) : Prop := own vb = 8 ∧ w.heap[vb]? = some (.cells #[v] 20 (0, 0))
theorem VbAt.keep {own own' : Nat → Nat} {vb : Nat} {v : Value} {w w' : World} (h : VbAt own vb v w) (le : OLe own own') (s : Same8 own w w') : VbAt own' vb v w' := ⟨le.tag h.1 (by omega), (s vb (by rw [h.1]; omega)).trans h.2⟩
/-- The variable count. -/
def CbAt (own : Nat → Nat) (cb : Nat) (m : Int) (w : World) : Prop := own cb = 6 ∧ w.heap[cb]? = some (.cells #[.int .i64 m] 3 (0, 0))
theorem CbAt.same6 {own own' : Nat → Nat} {cb : Nat} {m : Int} {w w' : World} (h : CbAt own cb m w) (le : OLe own own') (s : Same6 own w w') : CbAt own' cb m w' := ⟨le.tag h.1 (by omega), (s cb (by rw [h.1]; omega)).trans h.2⟩

/-- Panic: its caller panics. -/
theorem panic_call {main : Bool} {Z : Addr → Prop} {Stop : Goroutine → World → Prop} {w₀ u : World} {c : Nat} {ty : TypeId} {y : Value} {fr : Frame} {cs : List Frame} (hk : OwnU Try.prog main Z Stop w₀ (G (fr.raise [{ v := .iface ty y, recovered := false }]) cs) u) : OwnU Try.prog main Z Stop w₀ (G ((base 39).at ⟨#[ptr c, .iface ty y, undef, undef, undef], []⟩ [.code bodyPn]) (fr :: cs)) u := by
  refine ownU_region (id := 0) (ops := opsOf bodyPn) ?_
  refine ownU_quiet (i := 0) (rest := [1]) (.iface ty y) rfl (by rfl) rfl (by decide) (fun _ => by kernel_rfl) ?_
  refine ownU_panic (i := 1) (rest := []) (.iface ty y) rfl (by rfl) (by decide) (fun _ => by kernel_rfl) (fun _ => by kernel_rfl) ?_
  exact ownU_unwind rfl rfl Try.func39 hk
theorem x1_own {main : Bool} {Z : Addr → Prop} {Stop : Goroutine → World → Prop} {w₀ u : World} {c vb : Nat} {ty : TypeId} {y : Value} {fr : Frame} {cs : List Frame} (hv : u.cell? ⟨vb, 0, none⟩ = some (.iface ty y)) (hk : OwnU Try.prog main Z Stop w₀ (G (fr.raise [{ v := .iface ty y, recovered := false }]) cs) u) : OwnU Try.prog main Z Stop w₀ (G ((base 38).at ⟨#[ptr c, ptr vb, undef, undef, undef, undef], []⟩ [.code bodyX1]) (fr :: cs)) u := by
  refine ownU_region (id := 0) (ops := opsOf bodyX1) ?_
  refine ownU_quiet (i := 0) (rest := [1, 2]) (ptr c) rfl (by rfl) rfl (by decide) (fun _ => by kernel_rfl) ?_
  refine ownU_load (i := 1) (rest := [2]) ⟨vb, 0, none⟩ (.iface ty y) rfl (by rfl) (by decide) loads_any rfl (by kernel_rfl) hv ?_
  refine ownU_enter (i := 2) (rest := []) (f := 39) rfl (by rfl) (by decide) rfl Try.func39 (by kernel_rfl) rfl ?_
  refine ownU_fr (fr2 := (base 39).at ⟨#[ptr c, .iface ty y, undef, undef, undef], []⟩ [.code bodyPn]) (by kernel_rfl) ?_
  refine panic_call ?_
  rw [raise_raise rfl]
  exact ownU_unwind rfl rfl Try.func38 hk
theorem x2_own1 {main : Bool} {Z : Addr → Prop} {Stop : Goroutine → World → Prop} {w₀ u : World} {c cb : Nat} {cs : List Frame} (hk : OwnU Try.prog main Z Stop w₀ (yieldIn c (((base 40).at ⟨#[ptr c, ptr cb, undef, ptr c, undef, undef, undef], []⟩ (.inRegion (opsOf (sel [0] bodyX2)) (1 :: []) :: [.code (sel [1] bodyX2)])) :: cs)) u) : OwnU Try.prog main Z Stop w₀ (G ((base 40).at ⟨#[ptr c, ptr cb, undef, undef, undef, undef, undef], []⟩ [.code bodyX2]) cs) u := by
  refine ownU_seq (x := sel [0] bodyX2) (y := sel [1] bodyX2) ?_
  refine ownU_region (id := 0) (ops := opsOf (sel [0] bodyX2)) ?_
  refine ownU_quiet (i := 0) (rest := [1]) (ptr c) rfl (by rfl) rfl (by decide) (fun _ => by kernel_rfl) ?_
  refine ownU_lit (#[ptr c, ptr cb, undef, ptr c, undef, undef, undef]) [] (by kernel_rfl) (by kernel_rfl) ?_
  refine ownU_enter (i := 1) (rest := []) (f := 41) rfl (by rfl) (by decide) rfl Try.func41 (by kernel_rfl) rfl ?_
  exact ownU_eq (by kernel_rfl) hk
theorem x2_own2 {main : Bool} {Z : Addr → Prop} {Stop : Goroutine → World → Prop} {w₀ u : World} {c cb nb ch : Nat} {fv : Value} {m m' : Int} (hc : u.cell? ⟨cb, 0, none⟩ = some (.int .i64 m)) (hfz : u.frozen? ⟨cb, 0, none⟩ = false) (hm : IntKind.i64.wrap (m + 1) = m') (hk : OwnU Try.prog main Z Stop w₀ (runBack c nb ch fv) (u.setCell ⟨cb, 0, none⟩ (.int .i64 m'))) :
    OwnU Try.prog main Z Stop w₀ (G ((base 40).at ((⟨#[ptr c, ptr cb, undef, ptr c, undef, undef, undef], []⟩ : Act).put (((opsOf (sel [0] bodyX2))[1]?).bind (·.dst)) (.tuple #[])) (.inRegion (opsOf (sel [0] bodyX2)) [] :: [.code (sel [1] bodyX2)])) [runFrame c nb ch fv, botR]) u := by
  refine ownU_region_end ?_
  refine ownU_lit (#[ptr c, ptr cb, undef, ptr c, .tuple #[], undef, undef]) [] (by kernel_rfl) (by kernel_rfl) ?_
  refine ownU_region (id := 1) (ops := opsOf (sel [1] bodyX2)) ?_
  refine ownU_load (i := 0) (rest := [1, 2]) ⟨cb, 0, none⟩ (.int .i64 m) rfl (by rfl) (by decide) loads_int rfl (by kernel_rfl) hc ?_
  refine ownU_quiet (i := 1) (rest := [2]) (.int .i64 m') rfl (by rfl) rfl (by decide) (fun _ => by subst hm; kernel_rfl) ?_
  refine ownU_store (i := 2) (rest := []) ⟨cb, 0, none⟩ (.int .i64 m') rfl (by rfl) rfl (by decide) (fun w e1 e2 => store_op (stores_int m') rfl (by kernel_rfl) (by kernel_rfl) (e1.trans hc) (e2.trans hfz)) ?_
  refine ownU_region_end ?_
  refine ownU_end ?_
  exact stop_own (fn := Try.f40) rfl (by rfl) Try.func40 rfl hk
/-- What is known of one that waits. -/
def X2Waits (c : CoR) (sb nb cb : Nat) (g : Goroutine) : Prop := Waiter c.b sb (base 40) ⟨#[ptr c.b, ptr cb, undef, ptr c.b, undef, undef, undef], []⟩ (opsOf (sel [0] bodyX2)) 1 [] [.code (sel [1] bodyX2)] [runFrame c.b nb c.ch c.f, botR] g
section
variable {Post : Value → World → Prop} {E : Env} {h : Nat} {own : Nat → Nat} {S : Sch} {ks : List Kid} {FC : List Row} {n : Nat} {Inb : Nat → Option Seat} {w : World} {i nb vb cb : Nat} {c : CoR} {k : Kid} {g0 : Goroutine} {m m' : Int}
theorem x1_won {ty : TypeId} {y : Value} {out : ByteArray} (C : CI E h own S ks FC n Inb w) (hi : S.cos[i]? = some c) (hk : ks[i]? = some k) (ht : k.tag = 2) (hst : c.st ≠ 3) (hbox : (⟨nb, 0, [ptr c.b]⟩ : Row) ∈ FC) (hf : c.f = fvX1 vb) (hvb : VbAt own vb (.iface ty y) w) (hv : NotEnd (.iface ty y)) (hT : TextOf (.iface ty y) out) (hI0 : Inb 0 = some (Seat.one S.sc (.agg #[]) false (· = g0)))
    (next : ∀ Inb' w', CI E 0 own { S with cos := S.cos.set i { c with st := 4, txt := out } } (ks.set i ⟨3, h, default⟩) FC n Inb' w' → Inb' 0 = Inb 0 → Same6 own w w' → Won Try.prog Post FC n Inb' 0 (Conc.served g0 (.agg #[])) w') : Won Try.prog Post FC n Inb h (Conc.served (runSeat c.b c.ch nb) (.agg #[])) w := by
  refine won_kf fun hK => ?_
  have sG := C.siG
  have hn : (guardW FC w).cell? ⟨nb, 0, none⟩ = some (ptr c.b) := by rw [guard_cell C.fi.wf hK]; exact kf_cell hK hbox
  have c2 : (guardW FC w).cell? ⟨c.b, 2, none⟩ = some (fvX1 vb) := by rw [← hf]; exact cellsAt_cell (sG.co i c hi) 2 c.f rfl
  have h8 := hvb.1
  have hvc : (guardW FC w).cell? ⟨vb, 0, none⟩ = some (.iface ty y) := blk_cell ((C.agr.eq vb (by omega) (C.fi.ne (by omega) (by omega) (by omega))).symm ▸ hvb.2) 0 _ rfl
  refine win_own C.fi.wf (start_own (F := 38) (ca := #[ptr vb]) c2 hn Try.func38 (by kernel_rfl) rfl ?_)
  refine ownU_fr (fr2 := (base 38).at ⟨#[ptr c.b, ptr vb, undef, undef, undef, undef], []⟩ [.code bodyX1]) (by kernel_rfl) ?_
  refine x1_own hvc (ownU_stop fun w1 hs hkp => ?_)
  obtain ⟨a, C1⟩ := C.step hs hkp (Stp.refl C.ltG (T := fun _ => False)) (fun h => h) C.siG C.fi rfl rfl (fun i c h => ⟨c, h, rfl, rfl⟩)
  have s1 : Same6 own w w1 := same6_step a C.fi (Stp.refl C.ltG (T := fun _ => False)) (fun _ h => h.elim) C.lw C.fi
  exact panic_won C1 hi hk ht hst hv hT hbox hI0 fun Inb' w' C2 e s2 => next Inb' w' C2 e (s1.trans s2 (OLe.refl _))

theorem x2_first (C : CI E h own S ks FC n Inb w) (hi : S.cos[i]? = some c) (hk : ks[i]? = some k) (ht : k.tag = 2) (hbox : (⟨nb, 0, [ptr c.b]⟩ : Row) ∈ FC) (hf : c.f = fvX2 cb) (hcl : S.closed = false) (hid : ((i : Int) + 1) ∉ S.qs) (hq : S.fr + S.qs.length < 999999) (hI0 : Inb 0 = some (Seat.one S.sc (.agg #[]) false (· = g0)))
    (next : ∀ own' g Inb' w', X2Waits c S.sb nb cb g → CI E 0 own' { S with qs := S.qs ++ [(i : Int) + 1] } (ks.set i ⟨1, h, g⟩) FC n Inb' w' → Inb' 0 = Inb 0 → OLe own own' → Same6 own w w' → Won Try.prog Post FC n Inb' 0 (Conc.served g0 (.agg #[])) w') :
    Won Try.prog Post FC n Inb h (Conc.served (runSeat c.b c.ch nb) (.agg #[])) w := by
  refine won_kf fun hK => ?_
  have sG := C.siG
  have hn : (guardW FC w).cell? ⟨nb, 0, none⟩ = some (ptr c.b) := by rw [guard_cell C.fi.wf hK]; exact kf_cell hK hbox
  have c2 : (guardW FC w).cell? ⟨c.b, 2, none⟩ = some (fvX2 cb) := by rw [← hf]; exact cellsAt_cell (sG.co i c hi) 2 c.f rfl
  refine win_own C.fi.wf (start_own (F := 40) (ca := #[ptr cb]) c2 hn Try.func40 (by kernel_rfl) rfl ?_)
  refine ownU_fr (fr2 := (base 40).at ⟨#[ptr c.b, ptr cb, undef, undef, undef, undef, undef], []⟩ [.code bodyX2]) (by kernel_rfl) ?_
  refine x2_own1 (ownU_stop fun w1 hs hkp => ?_)
  obtain ⟨a, C1⟩ := C.step hs hkp (Stp.refl C.ltG (T := fun _ => False)) (fun h => h) C.siG C.fi rfl rfl (fun i c h => ⟨c, h, rfl, rfl⟩)
  have s1 : Same6 own w w1 := same6_step a C.fi (Stp.refl C.ltG (T := fun _ => False)) (fun _ h => h.elim) C.lw C.fi
  refine yield_won C1 hi hk ht hcl hid hq hI0 fun own' g Inb' w' hw C2 e le s2 => ?_
  exact next own' g Inb' w' (by unfold X2Waits; rw [hf]; exact hw) C2 e le (s1.trans s2 (OLe.refl _))

theorem x2_second (C : CI E h own S ks FC n Inb w) (hi : S.cos[i]? = some c) (hk : ks[i]? = some k) (ht : k.tag = 2) (hw : X2Waits c S.sb nb cb k.g) (hbox : (⟨nb, 0, [ptr c.b]⟩ : Row) ∈ FC) (hcl : S.closed = false) (hc : CbAt own cb m w) (hm : IntKind.i64.wrap (m + 1) = m') (hI0 : Inb 0 = some (Seat.one S.sc (.agg #[]) false (· = g0)))
    (next : ∀ Inb' w', CI E 0 own { S with cos := S.cos.set i { c with st := 3 } } (ks.set i ⟨3, h, default⟩) FC n Inb' w' → Inb' 0 = Inb 0 → CbAt own cb m' w' → Same8 own w w' → Won Try.prog Post FC n Inb' 0 (Conc.served g0 (.agg #[])) w') :
    Won Try.prog Post FC n Inb h (Conc.served k.g (.agg #[])) w := by
  have sG := C.siG
  have c0 := cellsAt_cell (sG.co i c hi) 0 (ptr S.sb) rfl
  have s3 := cellsAt_cell sG.sch 3 (.bool false) (by rw [← hcl]; rfl)
  have h6 := hc.1
  have hblk : (guardW FC w).heap[cb]? = some (.cells #[.int .i64 m] 3 (0, 0)) := (C.agr.eq cb (by omega) (C.fi.ne (by omega) (by omega) (by omega))).trans hc.2
  have hcc : (guardW FC w).cell? ⟨cb, 0, none⟩ = some (.int .i64 m) := blk_cell hblk 0 _ rfl
  have hfz : (guardW FC w).frozen? ⟨cb, 0, none⟩ = false := by unfold World.frozen?; simp [hblk]
  refine win_own C.fi.wf (hw.back c0 s3 ?_)
  refine x2_own2 hcc hfz hm (ownU_stop fun w1 hs hkp => ?_)
  have st1 : Stp (· = 6) own own (guardW FC w) ((guardW FC w).setCell ⟨cb, 0, none⟩ (.int .i64 m')) := stp_setCell C.ltG h6 _
  obtain ⟨a, C1⟩ := C.step hs hkp st1 (by omega) (sG.stp st1 fun t h => by omega) C.fi rfl rfl (fun i c h => ⟨c, h, rfl, rfl⟩)
  have hc1 : CbAt own cb m' w1 := by
    refine ⟨h6, (a.eq cb (by omega) (C.fi.ne (by omega) (by omega) (by omega))).trans ?_⟩
    rw [setCell_get, if_pos rfl, hblk]
    rfl
  have s1 : Same8 own w w1 := same8_step a C.fi st1 (fun t h => by omega) C.lw C.fi
  exact done_won C1 hi hk ht hbox hI0 fun Inb' w' C2 e s2 => next Inb' w' C2 e (hc1.same6 (OLe.refl _) s2) (s1.trans s2.s8 (OLe.refl _))
end
end Go.Proofs.Ytolnmdanlggmhaa

/- Run, over CoroTexts' coroutines: who runs when, and what becomes of each. -/
namespace Go.Proofs.Ytolnmdanlggmhaa
open Go.RowKit Go.Maps Go.Conc
open Go.ConcN (upd upd_ne upd_same)

set_option maxRecDepth 100000
set_option maxHeartbeats 2000000

/-- What is known of a coroutine with y yields yet to do, that is to come to the state and text r. -/
def TK (own : Nat → Nat) (sb cb : Nat) (FC : List Row) (w : World) (c : CoR) (k : Kid) (r : Int × ByteArray) (y : Nat) : Prop :=
  (k.tag = 0 ∧ y = 0 ∧ c.st ≠ 3 ∧ r.1 = 4 ∧ ∃ vb ty v, c.f = fvX1 vb ∧ VbAt own vb (.iface ty v) w ∧ NotEnd (.iface ty v) ∧ TextOf (.iface ty v) r.2) ∨
  (k.tag = 0 ∧ y = 1 ∧ c.txt = r.2 ∧ r.1 = 3 ∧ c.f = fvX2 cb) ∨
  (k.tag = 1 ∧ y = 0 ∧ c.txt = r.2 ∧ r.1 = 3 ∧ ∃ nb, X2Waits c sb nb cb k.g ∧ (⟨nb, 0, [ptr c.b]⟩ : Row) ∈ FC)
theorem TK.keep {own own' : Nat → Nat} {sb cb : Nat} {FC FC' : List Row} {w w' : World} {c : CoR} {k : Kid} {r : Int × ByteArray} {y : Nat} (h : TK own sb cb FC w c k r y) (le : OLe own own') (s : Same8 own w w') (hF : ∀ r ∈ FC, r ∈ FC') : TK own' sb cb FC' w' c k r y := by
  rcases h with ⟨h1, h2, h3, h4, vb, ty, v, h5, h6, h7⟩ | h | ⟨h1, h2, h3, h4, nb, h5, h6⟩
  · exact .inl ⟨h1, h2, h3, h4, vb, ty, v, h5, h6.keep le s, h7⟩
  · exact .inr (.inl h)
  · exact .inr (.inr ⟨h1, h2, h3, h4, nb, h5, hF _ h6⟩)
structure TJ (own : Nat → Nat) (S : Sch) (ks : List Kid) (cb : Nat) (res : Nat → Int × ByteArray) (FC : List Row) (q : List (Nat × Nat)) (w : World) : Prop where
  qs : S.qs = q.map fun p => (p.1 : Int) + 1
  nd : (q.map (·.1)).Nodup
  act : ∀ p ∈ q, ∃ c k, S.cos[p.1]? = some c ∧ ks[p.1]? = some k ∧ TK own S.sb cb FC w c k (res p.1) p.2
  rest : ∀ i c k, S.cos[i]? = some c → ks[i]? = some k → i ∉ q.map (·.1) → (c.st, c.txt) = res i ∧ k.tag = 3

section
variable {own own' : Nat → Nat} {S S' : Sch} {ks ks' : List Kid} {cb : Nat} {res : Nat → Int × ByteArray} {FC FC' : List Row} {q : List (Nat × Nat)} {w w' : World} {i r r' : Nat} {c' : CoR} {k' : Kid}
theorem TJ.keep (J : TJ own S ks cb res FC q w) (le : OLe own own') (s : Same8 own w w') (hF : ∀ r ∈ FC, r ∈ FC') : TJ own' S ks cb res FC' q w' :=
  ⟨J.qs, J.nd, fun p hp => by obtain ⟨c, k, h1, h2, h3⟩ := J.act p hp; exact ⟨c, k, h1, h2, h3.keep le s hF⟩, J.rest⟩
theorem TJ.again (J : TJ own S ks cb res FC ((i, r) :: q) w) (le : OLe own own') (s : Same8 own w w') (hF : ∀ r ∈ FC, r ∈ FC') (hsb : S'.sb = S.sb) (hc : ∀ j, j ≠ i → S'.cos[j]? = S.cos[j]?) (hci : S'.cos[i]? = some c') (hk : ∀ j, j ≠ i → ks'[j]? = ks[j]?) (hki : ks'[i]? = some k') (hq : S'.qs = (q.map fun p => (p.1 : Int) + 1) ++ [(i : Int) + 1])
    (hfk : TK own' S.sb cb FC' w' c' k' (res i) r') : TJ own' S' ks' cb res FC' (q ++ [(i, r')]) w' := by
  have nd := J.nd
  rw [List.map_cons, List.nodup_cons] at nd
  refine ⟨by rw [hq]; simp, ?_, fun p hp => ?_, fun j c k h1 h2 hn => ?_⟩
  · rw [List.map_append, List.nodup_append]
    refine ⟨nd.2, by simp, fun a ha b hb => ?_⟩
    simp at hb
    subst hb
    exact fun e => nd.1 (e ▸ ha)
  · rw [List.mem_append] at hp
    rcases hp with hp | hp
    · have hne : p.1 ≠ i := fun e => nd.1 (List.mem_map.2 ⟨p, hp, e⟩)
      obtain ⟨c, k, h1, h2, h3⟩ := J.act p (List.mem_cons_of_mem _ hp)
      exact ⟨c, k, (hc _ hne).trans h1, (hk _ hne).trans h2, by rw [hsb]; exact h3.keep le s hF⟩
    · simp at hp
      subst hp
      exact ⟨c', k', hci, hki, by rw [hsb]; exact hfk⟩
  · have hn1 : j ∉ q.map (·.1) ∧ j ≠ i := by
      rw [List.map_append, List.mem_append] at hn
      exact ⟨fun h => hn (.inl h), fun e => hn (.inr (by simp [e]))⟩
    refine J.rest j c k ((hc _ hn1.2).symm.trans h1) ((hk _ hn1.2).symm.trans h2) fun h => ?_
    rw [List.map_cons, List.mem_cons] at h
    rcases h with h | h
    · exact hn1.2 h
    · exact hn1.1 h
theorem TJ.over (J : TJ own S ks cb res FC ((i, r) :: q) w) (le : OLe own own') (s : Same8 own w w') (hF : ∀ r ∈ FC, r ∈ FC') (hsb : S'.sb = S.sb) (hc : ∀ j, j ≠ i → S'.cos[j]? = S.cos[j]?) (hci : S'.cos[i]? = some c') (hk : ∀ j, j ≠ i → ks'[j]? = ks[j]?) (hki : ks'[i]? = some k') (hq : S'.qs = q.map fun p => (p.1 : Int) + 1)
    (h3 : (c'.st, c'.txt) = res i) (h4 : k'.tag = 3) : TJ own' S' ks' cb res FC' q w' := by
  have nd := J.nd
  rw [List.map_cons, List.nodup_cons] at nd
  refine ⟨hq, nd.2, fun p hp => ?_, fun j c k h1 h2 hn => ?_⟩
  · have hne : p.1 ≠ i := fun e => nd.1 (List.mem_map.2 ⟨p, hp, e⟩)
    obtain ⟨c, k, h1, h2, h3⟩ := J.act p (List.mem_cons_of_mem _ hp)
    exact ⟨c, k, (hc _ hne).trans h1, (hk _ hne).trans h2, by rw [hsb]; exact h3.keep le s hF⟩
  · by_cases e : j = i
    · subst e
      rw [hci] at h1; rw [hki] at h2
      cases h1; cases h2
      exact ⟨h3, h4⟩
    · refine J.rest j c k ((hc _ e).symm.trans h1) ((hk _ e).symm.trans h2) fun h => ?_
      rw [List.map_cons, List.mem_cons] at h
      rcases h with h | h
      · exact e h
      · exact hn h
theorem TJ.spawn {y : Nat} {c : CoR} {k : Kid} (J : TJ own S ks cb res FC q w) (hl : S.cos.length = i) (hkl : ks.length = i) (hq : ∀ p ∈ q, p.1 < i) (le : OLe own own') (s : Same8 own w w') (hF : ∀ r ∈ FC, r ∈ FC') (hsb : S'.sb = S.sb) (hc : S'.cos = S.cos ++ [c]) (hk : ks' = ks ++ [k]) (hqs : S'.qs = S.qs ++ [(i : Int) + 1]) (hfk : TK own' S.sb cb FC' w' c k (res i) y) : TJ own' S' ks' cb res FC' (q ++ [(i, y)]) w' := by
  refine ⟨by rw [hqs, J.qs]; simp, ?_, fun p hp => ?_, fun j c0 k0 h1 h2 hn => ?_⟩
  · rw [List.map_append, List.nodup_append]
    refine ⟨J.nd, by simp, fun a ha b hb => ?_⟩
    obtain ⟨p, hp, rfl⟩ := List.mem_map.1 ha
    have := hq p hp
    simp at hb
    omega
  · rw [List.mem_append] at hp
    rcases hp with hp | hp
    · obtain ⟨c0, k0, h1, h2, h3⟩ := J.act p hp
      have := hq p hp
      refine ⟨c0, k0, ?_, ?_, by rw [hsb]; exact h3.keep le s hF⟩
      · rw [hc, List.getElem?_append_left (by omega)]; exact h1
      · rw [hk, List.getElem?_append_left (by omega)]; exact h2
    · simp at hp
      subst hp
      refine ⟨c, k, ?_, ?_, by rw [hsb]; exact hfk⟩
      · rw [hc, List.getElem?_append_right (by simp only; omega)]; simp [hl]
      · rw [hk, List.getElem?_append_right (by simp only; omega)]; simp [hkl]
  · have hne : j ∉ q.map (·.1) ∧ j ≠ i := by
      rw [List.map_append, List.mem_append] at hn
      exact ⟨fun h => hn (.inl h), fun e => hn (.inr (by simp [e]))⟩
    have hj : j < i := by
      have := (List.getElem?_eq_some_iff.1 h1).1
      rw [hc, List.length_append] at this
      simp at this
      omega
    rw [hc, List.getElem?_append_left (by omega)] at h1
    rw [hk, List.getElem?_append_left (by omega)] at h2
    exact J.rest j c0 k0 h1 h2 hne.1
end
/-- How many count. -/
def tcnt (res : Nat → Int × ByteArray) (q : List (Nat × Nat)) : Nat := q.countP fun p => (res p.1).1 == 3
theorem tcnt_cons (res : Nat → Int × ByteArray) (p : Nat × Nat) (q : List (Nat × Nat)) : tcnt res (p :: q) = tcnt res q + if (res p.1).1 = 3 then 1 else 0 := by
  unfold tcnt
  rw [List.countP_cons]
  simp
theorem tcnt_snoc (res : Nat → Int × ByteArray) (p : Nat × Nat) (q : List (Nat × Nat)) : tcnt res (q ++ [p]) = tcnt res q + if (res p.1).1 = 3 then 1 else 0 := by
  unfold tcnt
  rw [List.countP_append, List.countP_cons]
  simp

section
variable {Post : Value → World → Prop} {E : Env} {cb : Nat} {res : Nat → Int × ByteArray} {cs : List Frame} {b₀ : Frame} {a₀ : Act} {ops : Array Oper} {j : Nat} {rest : List Nat} {k₀ : List Item}

theorem text_laps : ∀ (N : Nat) {own : Nat → Nat} {S : Sch} {ks : List Kid} {FC : List Row} {n : Nat} {Inb : Nat → Option Seat} {w : World} {g : Goroutine} {m mc : Int} {q : List (Nat × Nat)},
    CI E 0 own S ks FC n Inb w → TJ own S ks cb res FC q w → fairMeas q = N → S.closed = false → S.fr + (N + N) < 900000 → CbAt own cb mc w → 0 ≤ mc → mc + N < 1000000 → 0 ≤ m → m + N < 1000000 → AtHead g S.sb m (b₀.at a₀ (.inRegion ops (j :: rest) :: k₀) :: cs) →
    (∀ own' S' ks' FC' n' Inb' w', CI E 0 own' S' ks' FC' n' Inb' w' → S'.sb = S.sb → S'.closed = false → S'.cos.length = S.cos.length → (∀ i c, S'.cos[i]? = some c → (c.st, c.txt) = res i) → (∀ k ∈ ks', k.tag = 3) → n ≤ n' → (∀ r ∈ FC, r ∈ FC') → CbAt own' cb (mc + (tcnt res q : Nat)) w' → OLe own own' → Same8 own w w' →
      Won Try.prog Post FC' n' Inb' 0 (G (b₀.at (a₀.put ((ops[j]?).bind (·.dst)) (.int .i64 (m + N))) (.inRegion ops rest :: k₀)) cs) w') → Won Try.prog Post FC n Inb 0 g w
  | 0, own, S, ks, FC, n, Inb, w, g, m, mc, q, C, J, hN, hcl, hfr, ho, hc0, hc1, hm0, hm1, hg, next => by
    have hq0 : q = [] := by
      have := fairMeas_len q
      exact List.eq_nil_of_length_eq_zero (by omega)
    subst hq0
    refine loop_end C hg (.inr J.qs) fun w1 C1 s1 => ?_
    have hall : ∀ (i : Nat) (c : CoR), S.cos[i]? = some c → ∃ k, ks[i]? = some k ∧ (c.st, c.txt) = res i ∧ k.tag = 3 := fun i c hi => by
      obtain ⟨k, hk, _⟩ := C.kidAt hi
      exact ⟨k, hk, J.rest i c k hi hk (by simp)⟩
    have e : m + ((0 : Nat) : Int) = m := by simp
    rw [e] at next
    refine next own S ks FC n Inb w1 C1 rfl hcl rfl (fun i c hi => ?_) (fun k hk => ?_) (Nat.le_refl _) (fun _ h => h) (by simpa [tcnt] using ho.same6 (OLe.refl _) s1) (OLe.refl _) s1.s8
    · obtain ⟨k, _, h3, _⟩ := hall i c hi
      exact h3
    · obtain ⟨i, hi⟩ := List.mem_iff_getElem?.1 hk
      obtain ⟨c, hc, _⟩ := C.coAt hi
      obtain ⟨k', hk', _, h4⟩ := hall i c hc
      rw [hi] at hk'; cases hk'
      exact h4
  | N + 1, own, S, ks, FC, n, Inb, w, g, m, mc, [], C, J, hN, hcl, hfr, ho, hc0, hc1, hm0, hm1, hg, next => by simp [fairMeas] at hN
  | N + 1, own, S, ks, FC, n, Inb, w, g, m, mc, (i, r) :: q, C, J, hN, hcl, hfr, ho, hc0, hc1, hm0, hm1, hg, next => by
    obtain ⟨c, k, hci, hki, hTK⟩ := J.act (i, r) (List.mem_cons_self ..)
    simp only at hci hki hTK
    have hil : i < S.cos.length := (List.getElem?_eq_some_iff.1 hci).1
    have hkl : i < ks.length := (List.getElem?_eq_some_iff.1 hki).1
    have hqs : S.qs = ((i : Int) + 1) :: q.map fun p => (p.1 : Int) + 1 := J.qs
    have hid : ((i : Int) + 1) ∉ q.map fun p => (p.1 : Int) + 1 := by
      have nd := J.nd
      rw [List.map_cons, List.nodup_cons] at nd
      intro h
      obtain ⟨p, hp, e⟩ := List.mem_map.1 h
      have : p.1 = i := by omega
      exact nd.1 (List.mem_map.2 ⟨p, hp, this⟩)
    have hml : q.length ≤ N := by have := fairMeas_len q; rw [fairMeas_cons] at hN; simp at hN; omega
    rw [fairMeas_cons] at hN
    simp only at hN
    have hcq : tcnt res ((i, r) :: q) = tcnt res q + if (res i).1 = 3 then 1 else 0 := tcnt_cons res (i, r) q
    rw [hcq] at next
    refine loop_turn (i := i) (c := c) (x := (i : Int) + 1) (xs := q.map fun p => (p.1 : Int) + 1) (m' := m + 1) C hg hcl hqs hci rfl (wrap_id (by omega) (by omega)) fun own1 Inb1 w1 g1 f1 hg1 hs1 C1 le1 s1 hI1 => ?_
    have em : m + 1 + (N : Int) = m + ((N + 1 : Nat) : Int) := by omega
    have ht01 : k.tag ≤ 1 := by rcases hTK with ⟨h, _⟩ | ⟨h, _⟩ | ⟨h, _⟩ <;> omega
    have again : ∀ {own2 : Nat → Nat} {S2 : Sch} {ks2 : List Kid} {FC2 : List Row} {n2 : Nat} {Inb2 : Nat → Option Seat} {w2 : World} {q2 : List (Nat × Nat)} {mc2 : Int}, CI E 0 own2 S2 ks2 FC2 n2 Inb2 w2 → TJ own2 S2 ks2 cb res FC2 q2 w2 → fairMeas q2 = N → S2.closed = false → S2.fr = S.fr + 1 → S2.sb = S.sb → S2.cos.length = S.cos.length → n ≤ n2 → (∀ r ∈ FC, r ∈ FC2) → CbAt own2 cb mc2 w2 → mc ≤ mc2 → mc2 ≤ mc + 1 → mc2 + (tcnt res q2 : Nat) = mc + ((tcnt res q + if (res i).1 = 3 then 1 else 0 : Nat) : Int) → OLe own own2 → Same8 own w w2 →
        Won Try.prog Post FC2 n2 Inb2 0 (Conc.served g1 (.agg #[])) w2 := by
      intro own2 S2 ks2 FC2 n2 Inb2 w2 q2 mc2 C2 J2 hN2 hcl2 hfr2 hsb2 hl2 hn2 hF2 ho2 hmc1 hmc2 hmc3 le2 s2
      refine text_laps N (m := m + 1) (mc := mc2) C2 J2 hN2 hcl2 (by omega) ho2 (by omega) (by omega) (by omega) (by omega) (by rw [hsb2]; exact hg1) fun own' S' ks' FC' n' Inb' w' C' a1 a2 a3 a4 a5 a6 a7 a8 a9 a10 => ?_
      rw [em]
      rw [hmc3] at a8
      exact next own' S' ks' FC' n' Inb' w' C' (a1.trans hsb2) a2 (a3.trans hl2) a4 a5 (by omega) (fun r hr => a7 r (hF2 r hr)) a8 (le2.trans a9) (s2.trans a10 le2)
    refine turn_any (i := i) (c := c) (k := k) C1 hci hki ht01 hs1 hI1 (fun ht0 FC2 Inb2 nb w2 C2 e2 hb2 hsub2 s2 => ?_) (fun ht1 w2 C2 s2 => ?_)
    · have s12 : Same8 own w w2 := (s1.s8).trans s2.s8 le1
      rw [hI1] at e2
      have ho2 := (ho.same6 le1 s1).same6 (OLe.refl _) s2
      rcases hTK with ⟨_, hr0, hst, hr4, vb, ty, v, hf, hvb, hv, hT⟩ | ⟨_, hr1, htx, hr3, hf⟩ | ⟨h, _⟩
      · subst hr0
        refine x1_won (i := i) (c := { c with begun := true }) (k := ⟨2, n, default⟩) (nb := nb) (vb := vb) C2 (by simp [hil]) (by simp [hkl]) rfl hst hb2 hf (hvb.keep le1 s12) hv hT e2 fun Inb' w' C3 e3 s3 => ?_
        exact again (q2 := q) C3 (J.over (c' := { c with begun := true, st := 4, txt := (res i).2 }) (k' := ⟨3, n, default⟩) le1 (s12.trans s3.s8 le1) hsub2 rfl (fun j hj => by simp [List.getElem?_set_ne (Ne.symm hj)]) (by simp [hil]) (fun j hj => by simp [List.getElem?_set_ne (Ne.symm hj)]) (by simp [hkl]) rfl (by simp only; rw [← hr4]) rfl) (by omega) hcl rfl rfl (by simp) (by omega) hsub2 (ho2.same6 (OLe.refl _) s3) (by omega) (by omega) (by rw [if_neg (by rw [hr4]; omega)]; rfl) le1 (s12.trans s3.s8 le1)
      · subst hr1
        refine x2_first (i := i) (c := { c with begun := true }) (k := ⟨2, n, default⟩) (nb := nb) (cb := cb) C2 (by simp [hil]) (by simp [hkl]) rfl hb2 hf hcl hid (by simp; omega) e2 fun own' kg Inb' w' hw C3 e3 le3 s3 => ?_
        have s123 := s12.trans s3.s8 le1
        exact again (q2 := q ++ [(i, 0)]) C3 (J.again (r' := 0) (c' := { c with begun := true }) (k' := ⟨1, n, kg⟩) (le1.trans le3) s123 hsub2 rfl (fun j hj => by simp [List.getElem?_set_ne (Ne.symm hj)]) (by simp [hil]) (fun j hj => by simp [List.getElem?_set_ne (Ne.symm hj)]) (by simp [hkl]) rfl (.inr (.inr ⟨rfl, rfl, htx, hr3, nb, hw, hb2⟩))) (by rw [fairMeas_snoc]; simp; omega) hcl rfl rfl (by simp) (by omega) hsub2 (ho2.same6 le3 s3) (by omega) (by omega) (by rw [tcnt_snoc]) (le1.trans le3) s123
      · omega
    · rcases hTK with ⟨h, _⟩ | ⟨h, _⟩ | ⟨_, hr0, htx, hr3, nb, hw, hb2⟩
      · omega
      · omega
      subst hr0
      have s12 : Same8 own w w2 := (s1.s8).trans s2.s8 le1
      have ho2 := (ho.same6 le1 s1).same6 (OLe.refl _) s2
      refine x2_second (i := i) (c := c) (k := ⟨2, k.j, k.g⟩) (m := mc) (m' := mc + 1) (nb := nb) C2 hci (by simp [hkl]) rfl hw hb2 hcl ho2 (wrap_id (by omega) (by omega)) hI1 fun Inb' w' C3 e3 ho3 s3 => ?_
      exact again (q2 := q) C3 (J.over (c' := { c with st := 3 }) (k' := ⟨3, k.j, default⟩) le1 (s12.trans s3 le1) (fun _ h => h) rfl (fun j hj => by simp [List.getElem?_set_ne (Ne.symm hj)]) (by simp [hil]) (fun j hj => by simp [List.getElem?_set_ne (Ne.symm hj)]) (by simp [hkl]) rfl (by simp only; rw [htx, ← hr3]) rfl) (by omega) hcl rfl rfl (by simp) (by omega) (fun _ h => h) ho3 (by omega) (by omega) (by rw [if_pos hr3]; omega) le1 (s12.trans s3 le1)
end
end Go.Proofs.Ytolnmdanlggmhaa

/- CoroTexts itself, in company: its pieces. (Printed by gen_texts2.py.) -/
namespace Go.Proofs.Ytolnmdanlggmhaa
open Go.RowKit Go.Maps Go.Conc
open Go.ConcN (upd upd_ne upd_same)

set_option maxRecDepth 100000
set_option maxHeartbeats 2000000

noncomputable abbrev bodyTt : Code := Try.f8.body.getD .skip
theorem state_u {u : World} {own : Nat → Nat} {S : Sch} {i : Nat} {c : CoR} (si : SI own S u) (hi : S.cos[i]? = some c) (A : Nat → Question → Nat) (d : Nat) : Calls Try.prog 43 #[ptr S.sb, .int .i64 ((i : Int) + 1)] (tp u A d) fun e w' => e = .returned (.int .i64 c.st) ∧ ∃ A d, w' = tp u A d := by
  obtain ⟨A0, cap, hv, _, _⟩ := si.row.slice
  rw [List.length_map] at hv
  have hs := (si.tp A d).sch
  have hr := (si.tp A d).row
  rw [hv] at hs hr
  have hl := si.lim
  exact (state_at (tp u A d) S.sb S.qb S.sc S.cos.length cap A0 S.closed _ i c hs hr (by rw [List.getElem?_map, hi]; rfl) (by omega) ((si.tp A d).co i c hi)).mono fun _ _ ⟨h1, h2⟩ => ⟨h1, A, d, h2⟩
theorem text_u {u : World} {own : Nat → Nat} {S : Sch} {i : Nat} {c : CoR} (si : SI own S u) (hi : S.cos[i]? = some c) (A : Nat → Question → Nat) (d : Nat) : Calls Try.prog 44 #[ptr S.sb, .int .i64 ((i : Int) + 1)] (tp u A d) fun e w' => e = .returned (.string c.txt) ∧ ∃ A d, w' = tp u A d := by
  obtain ⟨A0, cap, hv, _, _⟩ := si.row.slice
  rw [List.length_map] at hv
  have hs := (si.tp A d).sch
  have hr := (si.tp A d).row
  rw [hv] at hs hr
  have hl := si.lim
  exact (text_at (tp u A d) S.sb S.qb S.sc S.cos.length cap A0 S.closed _ i c hs hr (by rw [List.getElem?_map, hi]; rfl) (by omega) ((si.tp A d).co i c hi)).mono fun _ _ ⟨h1, h2⟩ => ⟨h1, A, d, h2⟩
theorem idx_s {t : TypeId} {e : TypeId} {a : Act} {o : Oper} {x y : Operand} {A ad : Addr} {n cap i : Nat} (ht : Try.prog.underlying t = some (.slice e)) (h1 : ∀ w, (sizeOf e).run Try.prog w = .ok 1 w) (hA : A.add i = ad) (w : World) (ho : o.op = .indexAddr t x y) (hx : a.eval x = .slice (some A) n cap) (hy : a.eval y = .int .i64 (i : Int)) (hi : i < n) : (execOp a.eval o).run Try.prog w = .ok (.value (.pointer (some ad))) w := by
  subst hA
  unfold execOp
  simp only [ho, hx, hy]
  simp [go_sem, ht, h1, hi]
theorem neq_s {a : Act} {o : Oper} {x y : Operand} {p q : ByteArray} {w : World} (ho : o.op = .binOp .neq 9 x y 9) (hx : a.eval x = .string p) (hy : a.eval y = .string q) (hr : p = q) : (execOp a.eval o).run Try.prog w = .ok (.value (.bool false)) w := by
  subst hr
  unfold execOp
  simp only [ho, hx, hy]
  simp [go_sem]
theorem list_ba {p q : ByteArray} (h : p.toList = q.toList) : p = q := by
  rw [ByteArray.toList_eq, ByteArray.toList_eq] at h
  obtain ⟨⟨x⟩⟩ := p
  obtain ⟨⟨y⟩⟩ := q
  simp at h
  rw [h]
theorem eql_s {a : Act} {o : Oper} {x y : Operand} {p q : ByteArray} {r : Bool} {w : World} (ho : o.op = .binOp .eql 9 x y 9) (hx : a.eval x = .string p) (hy : a.eval y = .string q) (hr : decide (p = q) = r) : (execOp a.eval o).run Try.prog w = .ok (.value (.bool r)) w := by
  unfold execOp
  simp only [ho, hx, hy]
  have e : (p.toList == q.toList) = decide (p = q) := by
    by_cases h : p = q
    · subst h; simp
    · have : p.toList ≠ q.toList := fun h' => h (list_ba h')
      simp [h, this]
  simp [go_sem, ← hr, e]
theorem eql_f {a : Act} {o : Oper} {x y : Operand} {p q : Int} {r : Bool} {w : World} (ho : o.op = .binOp .eql 3 x y 3) (hx : a.eval x = .int .i64 p) (hy : a.eval y = .int .i64 q) (hr : decide (p = q) = r) : (execOp a.eval o).run Try.prog w = .ok (.value (.bool r)) w := by
  unfold execOp
  simp only [ho, hx, hy]
  by_cases h : p = q <;> simp [go_sem, ← hr, h]
theorem stores_any (ty : TypeId) (y : Value) : Stores1 Try.prog 20 (.iface ty y) := fun w ad v h1 h2 => by simp [go_sem, h1, h2]
theorem stores_nil : Stores1 Try.prog 20 .nilIface := fun w ad v h1 h2 => by simp [go_sem, h1, h2]
theorem infoAny : (Try.prog.info? 20).map (fun i => (i.zero, i.size, i.bytes)) = some (some .nilIface, 1, 16) := by kernel_rfl
theorem infoStr : (Try.prog.info? 9).map (fun i => (i.zero, i.size, i.bytes)) = some (some (.string ByteArray.empty), 1, 16) := by kernel_rfl

noncomputable def textsIn (s : ByteArray) (n : Int) : Goroutine := (G ((base 8).at ⟨List.toArray (.string s :: .int .i64 n :: undef :: undef :: undef :: undef :: undef :: undef :: undef :: undef :: undef :: undef :: undef :: undef :: undef :: undef :: undef :: undef :: undef :: undef :: undef :: undef :: undef :: undef :: undef :: undef :: undef :: undef :: undef :: undef :: undef :: undef :: undef :: undef :: undef :: undef :: undef :: undef :: undef :: undef :: undef :: undef :: undef :: undef :: undef :: undef :: undef :: undef :: undef :: undef :: undef :: undef :: undef :: undef :: undef :: undef :: undef :: undef :: undef :: undef :: undef :: undef :: undef :: undef :: undef :: undef :: undef :: undef :: undef :: undef :: undef :: undef :: undef :: undef :: undef :: undef :: undef :: undef :: undef :: undef :: undef :: undef :: undef :: undef :: undef :: undef :: undef :: undef :: undef :: undef :: undef :: undef :: undef :: undef :: undef :: []), []⟩ [.code bodyTt]) [])
theorem texts_long {main : Bool} {Z : Addr → Prop} {Stop : Goroutine → World → Prop} {w₀ u : World} {s : ByteArray} {n : Int} (hn : 500 < s.size) (hk : OwnU Try.prog main Z Stop w₀ (aliveIn (((base 8).at ⟨List.toArray (.string s :: .int .i64 n :: undef :: undef :: .bool false :: undef :: undef :: undef :: undef :: undef :: undef :: undef :: undef :: .string s :: .int .i64 (s.size : Int) :: .bool true :: undef :: undef :: undef :: undef :: undef :: undef :: undef :: undef :: undef :: undef :: undef :: undef :: undef :: undef :: undef :: undef :: undef :: undef :: undef :: undef :: undef :: undef :: undef :: undef :: undef :: undef :: undef :: undef :: undef :: undef :: undef :: undef :: undef :: undef :: undef :: undef :: undef :: undef :: undef :: undef :: undef :: undef :: undef :: undef :: undef :: undef :: undef :: undef :: undef :: undef :: undef :: undef :: undef :: undef :: undef :: undef :: undef :: undef :: undef :: undef :: undef :: undef :: undef :: undef :: undef :: undef :: undef :: undef :: undef :: undef :: undef :: undef :: undef :: undef :: undef :: undef :: undef :: undef :: undef :: []), []⟩ (.inRegion (opsOf (sel [1, 0, 1, 2, 0] bodyTt)) (0 :: [1]) :: [.code .ret, .code (sel [1, 1] bodyTt)])) :: [])) u) : OwnU Try.prog main Z Stop w₀ (textsIn s n) u := by
  unfold textsIn
  refine ownU_seq (x := sel [0] bodyTt) (y := sel [1] bodyTt) ?_
  refine ownU_region (id := 0) (ops := opsOf (sel [0] bodyTt)) ?_
  refine ownU_quiet (i := 0) (rest := []) (.bool false) rfl (by rfl) rfl (by decide) (fun _ => by kernel_rfl) ?_
  refine ownU_region_end ?_
  refine ownU_seq (x := sel [1, 0] bodyTt) (y := sel [1, 1] bodyTt) ?_
  refine ownU_seq (x := sel [1, 0, 0] bodyTt) (y := sel [1, 0, 1] bodyTt) ?_
  refine ownU_region (id := 1) (ops := opsOf (sel [1, 0, 0] bodyTt)) ?_
  refine ownU_quiet (i := 0) (rest := [1, 2]) (.string s) rfl (by rfl) rfl (by decide) (fun _ => by kernel_rfl) ?_
  refine ownU_quiet (i := 1) (rest := [2]) (.int .i64 (s.size : Int)) rfl (by rfl) rfl (by decide) (fun _ => by kernel_rfl) ?_
  refine ownU_quiet (i := 2) (rest := []) (.bool true) rfl (by rfl) rfl (by decide) (fun _ => gtr_v (p := (s.size : Int)) (q := 500) rfl (by kernel_rfl) (by kernel_rfl) (by simp; omega)) ?_
  refine ownU_region_end ?_
  refine ownU_cond (c := .tmp 15) (x := sel [1, 0, 1, 2] bodyTt) (y := .skip) (t := true) (by kernel_rfl) ?_
  refine ownU_seq (x := sel [1, 0, 1, 2, 0] bodyTt) (y := .ret) ?_
  refine ownU_region (id := 2) (ops := opsOf (sel [1, 0, 1, 2, 0] bodyTt)) ?_
  refine ownU_lit (List.toArray (.string s :: .int .i64 n :: undef :: undef :: .bool false :: undef :: undef :: undef :: undef :: undef :: undef :: undef :: undef :: .string s :: .int .i64 (s.size : Int) :: .bool true :: undef :: undef :: undef :: undef :: undef :: undef :: undef :: undef :: undef :: undef :: undef :: undef :: undef :: undef :: undef :: undef :: undef :: undef :: undef :: undef :: undef :: undef :: undef :: undef :: undef :: undef :: undef :: undef :: undef :: undef :: undef :: undef :: undef :: undef :: undef :: undef :: undef :: undef :: undef :: undef :: undef :: undef :: undef :: undef :: undef :: undef :: undef :: undef :: undef :: undef :: undef :: undef :: undef :: undef :: undef :: undef :: undef :: undef :: undef :: undef :: undef :: undef :: undef :: undef :: undef :: undef :: undef :: undef :: undef :: undef :: undef :: undef :: undef :: undef :: undef :: undef :: undef :: undef :: undef :: [])) [] (by kernel_rfl) (by kernel_rfl) ?_
  refine ownU_enter (i := 0) (rest := [1]) (f := 34) rfl (by rfl) (by decide) rfl Try.func34 (by kernel_rfl) rfl ?_
  exact ownU_eq (by kernel_rfl) hk
theorem texts_long2 {main : Bool} {Z : Addr → Prop} {Stop : Goroutine → World → Prop} {w₀ u : World} {s : ByteArray} {n : Int} (hk : ∀ ts k, ts.getD 4 undef = .bool true → OwnU Try.prog main Z Stop w₀ (G { (base 8).at ⟨ts, []⟩ (.code .ret :: k) with mode := .returning } []) u) : OwnU Try.prog main Z Stop w₀ (G ((base 8).at ((⟨List.toArray (.string s :: .int .i64 n :: undef :: undef :: .bool false :: undef :: undef :: undef :: undef :: undef :: undef :: undef :: undef :: .string s :: .int .i64 (s.size : Int) :: .bool true :: undef :: undef :: undef :: undef :: undef :: undef :: undef :: undef :: undef :: undef :: undef :: undef :: undef :: undef :: undef :: undef :: undef :: undef :: undef :: undef :: undef :: undef :: undef :: undef :: undef :: undef :: undef :: undef :: undef :: undef :: undef :: undef :: undef :: undef :: undef :: undef :: undef :: undef :: undef :: undef :: undef :: undef :: undef :: undef :: undef :: undef :: undef :: undef :: undef :: undef :: undef :: undef :: undef :: undef :: undef :: undef :: undef :: undef :: undef :: undef :: undef :: undef :: undef :: undef :: undef :: undef :: undef :: undef :: undef :: undef :: undef :: undef :: undef :: undef :: undef :: undef :: undef :: undef :: undef :: []), []⟩ : Act).put (((opsOf (sel [1, 0, 1, 2, 0] bodyTt))[0]?).bind (·.dst)) (.bool true)) (.inRegion (opsOf (sel [1, 0, 1, 2, 0] bodyTt)) [1] :: [.code .ret, .code (sel [1, 1] bodyTt)])) []) u := by
  refine ownU_quiet (i := 1) (rest := []) (.bool true) rfl (by rfl) rfl (by decide) (fun _ => by kernel_rfl) ?_
  refine ownU_region_end ?_
  refine ownU_lit (List.toArray (.string s :: .int .i64 n :: undef :: undef :: .bool true :: undef :: undef :: undef :: undef :: undef :: undef :: undef :: undef :: .string s :: .int .i64 (s.size : Int) :: .bool true :: .bool true :: undef :: undef :: undef :: undef :: undef :: undef :: undef :: undef :: undef :: undef :: undef :: undef :: undef :: undef :: undef :: undef :: undef :: undef :: undef :: undef :: undef :: undef :: undef :: undef :: undef :: undef :: undef :: undef :: undef :: undef :: undef :: undef :: undef :: undef :: undef :: undef :: undef :: undef :: undef :: undef :: undef :: undef :: undef :: undef :: undef :: undef :: undef :: undef :: undef :: undef :: undef :: undef :: undef :: undef :: undef :: undef :: undef :: undef :: undef :: undef :: undef :: undef :: undef :: undef :: undef :: undef :: undef :: undef :: undef :: undef :: undef :: undef :: undef :: undef :: undef :: undef :: undef :: undef :: [])) [] (by kernel_rfl) (by kernel_rfl) ?_
  refine ownU_ret ?_
  exact hk _ _ rfl
theorem texts_a {main : Bool} {Z : Addr → Prop} {Stop : Goroutine → World → Prop} {w₀ u : World} {s : ByteArray} {n : Int} (hn : s.size ≤ 500) (hk : OwnU Try.prog main Z Stop w₀ (newIn (((base 8).at ⟨List.toArray (.string s :: .int .i64 n :: undef :: undef :: .bool false :: undef :: undef :: undef :: undef :: undef :: undef :: undef :: undef :: .string s :: .int .i64 (s.size : Int) :: .bool false :: undef :: undef :: undef :: undef :: undef :: undef :: undef :: undef :: undef :: undef :: undef :: undef :: undef :: undef :: undef :: undef :: undef :: undef :: undef :: undef :: undef :: undef :: undef :: undef :: undef :: undef :: undef :: undef :: undef :: undef :: undef :: undef :: undef :: undef :: undef :: undef :: undef :: undef :: undef :: undef :: undef :: undef :: undef :: undef :: undef :: undef :: undef :: undef :: undef :: undef :: undef :: undef :: undef :: undef :: undef :: undef :: undef :: undef :: undef :: undef :: undef :: undef :: undef :: undef :: undef :: undef :: undef :: undef :: undef :: undef :: undef :: undef :: undef :: undef :: undef :: undef :: undef :: undef :: undef :: []), []⟩ (.inRegion (opsOf (sel [1, 1, 0] bodyTt)) (0 :: [1]) :: [.code (sel [1, 1, 1] bodyTt)])) :: [])) u) : OwnU Try.prog main Z Stop w₀ (textsIn s n) u := by
  unfold textsIn
  refine ownU_seq (x := sel [0] bodyTt) (y := sel [1] bodyTt) ?_
  refine ownU_region (id := 0) (ops := opsOf (sel [0] bodyTt)) ?_
  refine ownU_quiet (i := 0) (rest := []) (.bool false) rfl (by rfl) rfl (by decide) (fun _ => by kernel_rfl) ?_
  refine ownU_region_end ?_
  refine ownU_seq (x := sel [1, 0] bodyTt) (y := sel [1, 1] bodyTt) ?_
  refine ownU_seq (x := sel [1, 0, 0] bodyTt) (y := sel [1, 0, 1] bodyTt) ?_
  refine ownU_region (id := 1) (ops := opsOf (sel [1, 0, 0] bodyTt)) ?_
  refine ownU_quiet (i := 0) (rest := [1, 2]) (.string s) rfl (by rfl) rfl (by decide) (fun _ => by kernel_rfl) ?_
  refine ownU_quiet (i := 1) (rest := [2]) (.int .i64 (s.size : Int)) rfl (by rfl) rfl (by decide) (fun _ => by kernel_rfl) ?_
  refine ownU_quiet (i := 2) (rest := []) (.bool false) rfl (by rfl) rfl (by decide) (fun _ => gtr_v (p := (s.size : Int)) (q := 500) rfl (by kernel_rfl) (by kernel_rfl) (by simp; omega)) ?_
  refine ownU_region_end ?_
  refine ownU_cond (c := .tmp 15) (x := sel [1, 0, 1, 2] bodyTt) (y := .skip) (t := false) (by kernel_rfl) ?_
  refine ownU_skip ?_
  refine ownU_seq (x := sel [1, 1, 0] bodyTt) (y := sel [1, 1, 1] bodyTt) ?_
  refine ownU_region (id := 3) (ops := opsOf (sel [1, 1, 0] bodyTt)) ?_
  refine ownU_lit (List.toArray (.string s :: .int .i64 n :: undef :: undef :: .bool false :: undef :: undef :: undef :: undef :: undef :: undef :: undef :: undef :: .string s :: .int .i64 (s.size : Int) :: .bool false :: undef :: undef :: undef :: undef :: undef :: undef :: undef :: undef :: undef :: undef :: undef :: undef :: undef :: undef :: undef :: undef :: undef :: undef :: undef :: undef :: undef :: undef :: undef :: undef :: undef :: undef :: undef :: undef :: undef :: undef :: undef :: undef :: undef :: undef :: undef :: undef :: undef :: undef :: undef :: undef :: undef :: undef :: undef :: undef :: undef :: undef :: undef :: undef :: undef :: undef :: undef :: undef :: undef :: undef :: undef :: undef :: undef :: undef :: undef :: undef :: undef :: undef :: undef :: undef :: undef :: undef :: undef :: undef :: undef :: undef :: undef :: undef :: undef :: undef :: undef :: undef :: undef :: undef :: undef :: [])) [] (by kernel_rfl) (by kernel_rfl) ?_
  refine ownU_enter (i := 0) (rest := [1]) (f := 35) rfl (by rfl) (by decide) rfl Try.func35 (by kernel_rfl) rfl ?_
  exact ownU_eq (by kernel_rfl) hk
/-- At the head of the loop that spawns. -/
noncomputable def txHead (s : ByteArray) (sb va wa cb idx : Nat) (gs : List Value) : Goroutine := G ((base 8).at ⟨List.toArray (.string s :: (gs.getD 0 undef) :: (gs.getD 1 undef) :: (gs.getD 2 undef) :: .bool false :: ptr sb :: .slice (some ⟨va, 0, none⟩) 5 5 :: .slice (some ⟨wa, 0, none⟩) 5 5 :: ptr cb :: (gs.getD 3 undef) :: (gs.getD 4 undef) :: (gs.getD 5 undef) :: (gs.getD 6 undef) :: (gs.getD 7 undef) :: (gs.getD 8 undef) :: (gs.getD 9 undef) :: (gs.getD 10 undef) :: (gs.getD 11 undef) :: (gs.getD 12 undef) :: (gs.getD 13 undef) :: (gs.getD 14 undef) :: (gs.getD 15 undef) :: (gs.getD 16 undef) :: (gs.getD 17 undef) :: (gs.getD 18 undef) :: (gs.getD 19 undef) :: (gs.getD 20 undef) :: (gs.getD 21 undef) :: (gs.getD 22 undef) :: (gs.getD 23 undef) :: (gs.getD 24 undef) :: (gs.getD 25 undef) :: (gs.getD 26 undef) :: (gs.getD 27 undef) :: .slice (some ⟨va, 0, none⟩) 5 5 :: .int .i64 5 :: .int .i64 (idx : Int) :: (gs.getD 31 undef) :: (gs.getD 32 undef) :: (gs.getD 33 undef) :: (gs.getD 34 undef) :: (gs.getD 35 undef) :: (gs.getD 36 undef) :: (gs.getD 37 undef) :: (gs.getD 38 undef) :: (gs.getD 39 undef) :: (gs.getD 40 undef) :: (gs.getD 41 undef) :: (gs.getD 42 undef) :: (gs.getD 43 undef) :: (gs.getD 44 undef) :: (gs.getD 45 undef) :: (gs.getD 46 undef) :: (gs.getD 47 undef) :: (gs.getD 48 undef) :: (gs.getD 49 undef) :: (gs.getD 50 undef) :: (gs.getD 51 undef) :: (gs.getD 52 undef) :: (gs.getD 53 undef) :: (gs.getD 54 undef) :: (gs.getD 55 undef) :: (gs.getD 56 undef) :: (gs.getD 57 undef) :: (gs.getD 58 undef) :: (gs.getD 59 undef) :: (gs.getD 60 undef) :: (gs.getD 61 undef) :: (gs.getD 62 undef) :: (gs.getD 63 undef) :: (gs.getD 64 undef) :: (gs.getD 65 undef) :: (gs.getD 66 undef) :: (gs.getD 67 undef) :: (gs.getD 68 undef) :: (gs.getD 69 undef) :: (gs.getD 70 undef) :: (gs.getD 71 undef) :: (gs.getD 72 undef) :: (gs.getD 73 undef) :: (gs.getD 74 undef) :: (gs.getD 75 undef) :: (gs.getD 76 undef) :: (gs.getD 77 undef) :: (gs.getD 78 undef) :: (gs.getD 79 undef) :: (gs.getD 80 undef) :: (gs.getD 81 undef) :: (gs.getD 82 undef) :: (gs.getD 83 undef) :: (gs.getD 84 undef) :: (gs.getD 85 undef) :: (gs.getD 86 undef) :: (gs.getD 87 undef) :: (gs.getD 88 undef) :: []), [clDefer sb]⟩ (.code (sel [1, 1, 1, 1, 1, 1, 1, 1, 0, 1, 4, 4] bodyTt) :: [.inLoop (sel [1, 1, 1, 1, 1, 1, 1, 1, 0, 1, 4, 4] bodyTt), .inBlock 0, .code (sel [1, 1, 1, 1, 1, 1, 1, 1, 1] bodyTt)])) []
def AtTx (g : Goroutine) (s : ByteArray) (sb va wa cb idx : Nat) : Prop := ∀ {main : Bool} {Z : Addr → Prop} {Stop : Goroutine → World → Prop} {w₀ u : World}, (∀ gs, OwnU Try.prog main Z Stop w₀ (txHead s sb va wa cb idx gs) u) → OwnU Try.prog main Z Stop w₀ g u
/-- What it wants of the second. -/
def want1 (s : ByteArray) : ByteArray := if s = ByteArray.empty then strPanic else s
structure TxAt (s : ByteArray) (n : Int) (va wa : Nat) (w : World) : Prop where
  vals : w.heap[va]? = some (.cells #[.iface 9 (.string s), .iface 55 (.string s), .iface 3 (.int .i64 n), .nilIface, .iface 55 (.string ByteArray.empty)] 20 (0, 0))
  wants : w.heap[wa]? = some (.cells #[.string s, .string (want1 s), .string strPanic, .string ByteArray.empty, .string strPanic] 9 (0, 0))
theorem texts_b {main : Bool} {Z : Addr → Prop} {Stop : Goroutine → World → Prop} {w₀ u : World} {s : ByteArray} {n : Int} {sb : Nat} (hk : ∀ va wa cb u' gs, New u u' → u.heap.size ≤ va → u.heap.size ≤ wa → u.heap.size ≤ cb → va < u'.heap.size → wa < u'.heap.size → cb < u'.heap.size → va ≠ wa → va ≠ cb → wa ≠ cb → TxAt s n va wa u' → u'.heap[cb]? = some (.cells #[.int .i64 0] 3 (0, 0)) →
      OwnU Try.prog main Z Stop w₀ (txHead s sb va wa cb 0 gs) u') : OwnU Try.prog main Z Stop w₀ (G ((base 8).at ((⟨List.toArray (.string s :: .int .i64 n :: undef :: undef :: .bool false :: undef :: undef :: undef :: undef :: undef :: undef :: undef :: undef :: .string s :: .int .i64 (s.size : Int) :: .bool false :: undef :: undef :: undef :: undef :: undef :: undef :: undef :: undef :: undef :: undef :: undef :: undef :: undef :: undef :: undef :: undef :: undef :: undef :: undef :: undef :: undef :: undef :: undef :: undef :: undef :: undef :: undef :: undef :: undef :: undef :: undef :: undef :: undef :: undef :: undef :: undef :: undef :: undef :: undef :: undef :: undef :: undef :: undef :: undef :: undef :: undef :: undef :: undef :: undef :: undef :: undef :: undef :: undef :: undef :: undef :: undef :: undef :: undef :: undef :: undef :: undef :: undef :: undef :: undef :: undef :: undef :: undef :: undef :: undef :: undef :: undef :: undef :: undef :: undef :: undef :: undef :: undef :: undef :: undef :: []), []⟩ : Act).put (((opsOf (sel [1, 1, 0] bodyTt))[0]?).bind (·.dst)) (ptr sb)) (.inRegion (opsOf (sel [1, 1, 0] bodyTt)) [1] :: [.code (sel [1, 1, 1] bodyTt)])) []) u := by
  generalize ht : decide (s = ByteArray.empty) = t
  refine ownU_quiet (i := 1) (rest := []) (ptr sb) rfl (by rfl) rfl (by decide) (fun _ => by kernel_rfl) ?_
  refine ownU_region_end ?_
  refine ownU_seq (x := sel [1, 1, 1, 0] bodyTt) (y := sel [1, 1, 1, 1] bodyTt) ?_
  refine ownU_region (id := 4) (ops := opsOf (sel [1, 1, 1, 0] bodyTt)) ?_
  refine ownU_quiet (i := 0) (rest := [1]) (ptr sb) rfl (by rfl) rfl (by decide) (fun _ => by kernel_rfl) ?_
  refine ownU_defer (i := 1) (rest := []) (d := clDefer sb) rfl (by rfl) (by decide) (fun _ => by kernel_rfl) (fun _ => by kernel_rfl) ?_
  refine ownU_region_end ?_
  refine ownU_seq (x := sel [1, 1, 1, 1, 0] bodyTt) (y := sel [1, 1, 1, 1, 1] bodyTt) ?_
  refine ownU_region (id := 5) (ops := opsOf (sel [1, 1, 1, 1, 0] bodyTt)) ?_
  refine ownU_quiet (i := 0) (rest := [1, 2, 3, 4, 5, 6, 7, 8]) (.string s) rfl (by rfl) rfl (by decide) (fun _ => by kernel_rfl) ?_
  refine ownU_quiet (i := 1) (rest := [2, 3, 4, 5, 6, 7, 8]) (.iface 9 (.string s)) rfl (by rfl) rfl (by decide) (fun _ => by kernel_rfl) ?_
  refine ownU_quiet (i := 2) (rest := [3, 4, 5, 6, 7, 8]) (.string s) rfl (by rfl) rfl (by decide) (fun _ => by kernel_rfl) ?_
  refine ownU_quiet (i := 3) (rest := [4, 5, 6, 7, 8]) (.iface 55 (.string s)) rfl (by rfl) rfl (by decide) (fun _ => by kernel_rfl) ?_
  refine ownU_quiet (i := 4) (rest := [5, 6, 7, 8]) (.int .i64 n) rfl (by rfl) rfl (by decide) (fun _ => by kernel_rfl) ?_
  refine ownU_quiet (i := 5) (rest := [6, 7, 8]) (.iface 3 (.int .i64 n)) rfl (by rfl) rfl (by decide) (fun _ => by kernel_rfl) ?_
  refine ownU_quiet (i := 6) (rest := [7, 8]) (.iface 55 (.string ByteArray.empty)) rfl (by rfl) rfl (by decide) (fun _ => by kernel_rfl) ?_
  refine ownU_newV (fun n => .slice (some ⟨n, 0, none⟩) 5 5) (.cells #[.iface 9 (.string s), .iface 55 (.string s), .iface 3 (.int .i64 n), .nilIface, .iface 55 (.string ByteArray.empty)] 20) (i := 7) (rest := [8]) rfl (by rfl) rfl (by decide) (fun _ => by kernel_rfl) ?_
  have hn1 := New.alloc u (.cells #[.iface 9 (.string s), .iface 55 (.string s), .iface 3 (.int .i64 n), .nilIface, .iface 55 (.string ByteArray.empty)] 20)
  have hb1 : (u.alloc (.cells #[.iface 9 (.string s), .iface 55 (.string s), .iface 3 (.int .i64 n), .nilIface, .iface 55 (.string ByteArray.empty)] 20)).heap[u.heap.size]? = some (.cells #[.iface 9 (.string s), .iface 55 (.string s), .iface 3 (.int .i64 n), .nilIface, .iface 55 (.string ByteArray.empty)] 20) := alloc_new' u _ rfl
  have hs1 : (u.alloc (.cells #[.iface 9 (.string s), .iface 55 (.string s), .iface 3 (.int .i64 n), .nilIface, .iface 55 (.string ByteArray.empty)] 20)).heap.size = u.heap.size + 1 := World.size_alloc _ _
  generalize u.alloc (.cells #[.iface 9 (.string s), .iface 55 (.string s), .iface 3 (.int .i64 n), .nilIface, .iface 55 (.string ByteArray.empty)] 20) = u1 at *
  generalize hva : u.heap.size = va at *
  refine ownU_quiet (i := 8) (rest := []) (.slice (some ⟨va, 0, none⟩) 5 5) rfl (by rfl) rfl (by decide) (fun _ => by kernel_rfl) ?_
  refine ownU_region_end ?_
  refine ownU_lit (List.toArray (.string s :: .int .i64 n :: undef :: undef :: .bool false :: ptr sb :: .slice (some ⟨va, 0, none⟩) 5 5 :: undef :: undef :: undef :: undef :: undef :: undef :: .string s :: .int .i64 (s.size : Int) :: .bool false :: undef :: ptr sb :: ptr sb :: .string s :: .iface 9 (.string s) :: .string s :: .iface 55 (.string s) :: .int .i64 n :: .iface 3 (.int .i64 n) :: .iface 55 (.string ByteArray.empty) :: .slice (some ⟨va, 0, none⟩) 5 5 :: undef :: undef :: undef :: undef :: undef :: undef :: undef :: undef :: undef :: undef :: undef :: undef :: undef :: undef :: undef :: undef :: undef :: undef :: undef :: undef :: undef :: undef :: undef :: undef :: undef :: undef :: undef :: undef :: undef :: undef :: undef :: undef :: undef :: undef :: undef :: undef :: undef :: undef :: undef :: undef :: undef :: undef :: undef :: undef :: undef :: undef :: undef :: undef :: undef :: undef :: undef :: undef :: undef :: undef :: undef :: undef :: undef :: undef :: undef :: undef :: undef :: undef :: undef :: undef :: undef :: undef :: undef :: undef :: [])) [clDefer sb] (by kernel_rfl) (by kernel_rfl) ?_
  refine ownU_seq (x := sel [1, 1, 1, 1, 1, 0] bodyTt) (y := sel [1, 1, 1, 1, 1, 1] bodyTt) ?_
  refine ownU_region (id := 6) (ops := opsOf (sel [1, 1, 1, 1, 1, 0] bodyTt)) ?_
  refine ownU_quiet (i := 0) (rest := [1, 2, 3]) (.string s) rfl (by rfl) rfl (by decide) (fun _ => by kernel_rfl) ?_
  refine ownU_quiet (i := 1) (rest := [2, 3]) (.string s) rfl (by rfl) rfl (by decide) (fun _ => by kernel_rfl) ?_
  refine ownU_newV (fun n => .slice (some ⟨n, 0, none⟩) 5 5) (.cells #[.string s, .string s, .string strPanic, .string ByteArray.empty, .string strPanic] 9) (i := 2) (rest := [3]) rfl (by rfl) rfl (by decide) (fun _ => by kernel_rfl) ?_
  have hn2 := New.alloc u1 (.cells #[.string s, .string s, .string strPanic, .string ByteArray.empty, .string strPanic] 9)
  have hb2 : (u1.alloc (.cells #[.string s, .string s, .string strPanic, .string ByteArray.empty, .string strPanic] 9)).heap[u1.heap.size]? = some (.cells #[.string s, .string s, .string strPanic, .string ByteArray.empty, .string strPanic] 9) := alloc_new' u1 _ rfl
  have hs2 : (u1.alloc (.cells #[.string s, .string s, .string strPanic, .string ByteArray.empty, .string strPanic] 9)).heap.size = u1.heap.size + 1 := World.size_alloc _ _
  generalize u1.alloc (.cells #[.string s, .string s, .string strPanic, .string ByteArray.empty, .string strPanic] 9) = u2 at *
  generalize hwa : u1.heap.size = wa at *
  refine ownU_quiet (i := 3) (rest := []) (.slice (some ⟨wa, 0, none⟩) 5 5) rfl (by rfl) rfl (by decide) (fun _ => by kernel_rfl) ?_
  refine ownU_region_end ?_
  refine ownU_lit (List.toArray (.string s :: .int .i64 n :: undef :: undef :: .bool false :: ptr sb :: .slice (some ⟨va, 0, none⟩) 5 5 :: .slice (some ⟨wa, 0, none⟩) 5 5 :: undef :: undef :: undef :: undef :: undef :: .string s :: .int .i64 (s.size : Int) :: .bool false :: undef :: ptr sb :: ptr sb :: .string s :: .iface 9 (.string s) :: .string s :: .iface 55 (.string s) :: .int .i64 n :: .iface 3 (.int .i64 n) :: .iface 55 (.string ByteArray.empty) :: .slice (some ⟨va, 0, none⟩) 5 5 :: .string s :: .string s :: .slice (some ⟨wa, 0, none⟩) 5 5 :: undef :: undef :: undef :: undef :: undef :: undef :: undef :: undef :: undef :: undef :: undef :: undef :: undef :: undef :: undef :: undef :: undef :: undef :: undef :: undef :: undef :: undef :: undef :: undef :: undef :: undef :: undef :: undef :: undef :: undef :: undef :: undef :: undef :: undef :: undef :: undef :: undef :: undef :: undef :: undef :: undef :: undef :: undef :: undef :: undef :: undef :: undef :: undef :: undef :: undef :: undef :: undef :: undef :: undef :: undef :: undef :: undef :: undef :: undef :: undef :: undef :: undef :: undef :: undef :: undef :: [])) [clDefer sb] (by kernel_rfl) (by kernel_rfl) ?_
  refine ownU_seq (x := sel [1, 1, 1, 1, 1, 1, 0] bodyTt) (y := sel [1, 1, 1, 1, 1, 1, 1] bodyTt) ?_
  refine ownU_seq (x := sel [1, 1, 1, 1, 1, 1, 0, 0] bodyTt) (y := sel [1, 1, 1, 1, 1, 1, 0, 1] bodyTt) ?_
  refine ownU_region (id := 7) (ops := opsOf (sel [1, 1, 1, 1, 1, 1, 0, 0] bodyTt)) ?_
  refine ownU_quiet (i := 0) (rest := [1]) (.string s) rfl (by rfl) rfl (by decide) (fun _ => by kernel_rfl) ?_
  refine ownU_quiet (i := 1) (rest := []) (.bool t) rfl (by rfl) rfl (by decide) (fun _ => eql_s (p := s) (q := ByteArray.empty) rfl (by kernel_rfl) (by kernel_rfl) ht) ?_
  refine ownU_region_end ?_
  refine ownU_cond (c := .tmp 31) (x := sel [1, 1, 1, 1, 1, 1, 0, 1, 2] bodyTt) (y := .skip) (t := t) (by kernel_rfl) ?_
  refine ownU_lit (List.toArray (.string s :: .int .i64 n :: undef :: undef :: .bool false :: ptr sb :: .slice (some ⟨va, 0, none⟩) 5 5 :: .slice (some ⟨wa, 0, none⟩) 5 5 :: undef :: undef :: undef :: undef :: undef :: .string s :: .int .i64 (s.size : Int) :: .bool false :: undef :: ptr sb :: ptr sb :: .string s :: .iface 9 (.string s) :: .string s :: .iface 55 (.string s) :: .int .i64 n :: .iface 3 (.int .i64 n) :: .iface 55 (.string ByteArray.empty) :: .slice (some ⟨va, 0, none⟩) 5 5 :: .string s :: .string s :: .slice (some ⟨wa, 0, none⟩) 5 5 :: .string s :: .bool t :: undef :: undef :: undef :: undef :: undef :: undef :: undef :: undef :: undef :: undef :: undef :: undef :: undef :: undef :: undef :: undef :: undef :: undef :: undef :: undef :: undef :: undef :: undef :: undef :: undef :: undef :: undef :: undef :: undef :: undef :: undef :: undef :: undef :: undef :: undef :: undef :: undef :: undef :: undef :: undef :: undef :: undef :: undef :: undef :: undef :: undef :: undef :: undef :: undef :: undef :: undef :: undef :: undef :: undef :: undef :: undef :: undef :: undef :: undef :: undef :: undef :: undef :: undef :: [])) [clDefer sb] (by kernel_rfl) (by kernel_rfl) ?_
  have hn12 := hn1.trans hn2
  have hn12s := hn12.size
  have hsz := hn2.size
  have hva2 : u2.heap[va]? = some (.cells #[.iface 9 (.string s), .iface 55 (.string s), .iface 3 (.int .i64 n), .nilIface, .iface 55 (.string ByteArray.empty)] 20) := (hn2.block va (by omega)).trans hb1
  cases t with
  | false =>
    have hs : want1 s = s := if_neg (by simpa using ht)
    refine ownU_skip ?_
    refine ownU_lit (List.toArray (.string s :: .int .i64 n :: undef :: undef :: .bool false :: ptr sb :: .slice (some ⟨va, 0, none⟩) 5 5 :: .slice (some ⟨wa, 0, none⟩) 5 5 :: undef :: undef :: undef :: undef :: undef :: .string s :: .int .i64 (s.size : Int) :: .bool false :: undef :: ptr sb :: ptr sb :: .string s :: .iface 9 (.string s) :: .string s :: .iface 55 (.string s) :: .int .i64 n :: .iface 3 (.int .i64 n) :: .iface 55 (.string ByteArray.empty) :: .slice (some ⟨va, 0, none⟩) 5 5 :: .string s :: .string s :: .slice (some ⟨wa, 0, none⟩) 5 5 :: .string s :: .bool false :: undef :: undef :: undef :: undef :: undef :: undef :: undef :: undef :: undef :: undef :: undef :: undef :: undef :: undef :: undef :: undef :: undef :: undef :: undef :: undef :: undef :: undef :: undef :: undef :: undef :: undef :: undef :: undef :: undef :: undef :: undef :: undef :: undef :: undef :: undef :: undef :: undef :: undef :: undef :: undef :: undef :: undef :: undef :: undef :: undef :: undef :: undef :: undef :: undef :: undef :: undef :: undef :: undef :: undef :: undef :: undef :: undef :: undef :: undef :: undef :: undef :: undef :: undef :: [])) [clDefer sb] (by kernel_rfl) (by kernel_rfl) ?_
    refine ownU_seq (x := sel [1, 1, 1, 1, 1, 1, 1, 0] bodyTt) (y := sel [1, 1, 1, 1, 1, 1, 1, 1] bodyTt) ?_
    refine ownU_region (id := 9) (ops := opsOf (sel [1, 1, 1, 1, 1, 1, 1, 0] bodyTt)) ?_
    refine ownU_new (.cells #[.int .i64 0] 3) (i := 0) (rest := [1]) rfl (by rfl) rfl (by decide) (fun _ => by kernel_rfl) ?_
    have hn3 := New.alloc u2 (.cells #[.int .i64 0] 3)
    have hb3 : (u2.alloc (.cells #[.int .i64 0] 3)).heap[u2.heap.size]? = some (.cells #[.int .i64 0] 3) := alloc_new' _ _ rfl
    have hs3 : (u2.alloc (.cells #[.int .i64 0] 3)).heap.size = u2.heap.size + 1 := World.size_alloc _ _
    generalize u2.alloc (.cells #[.int .i64 0] 3) = u3 at *
    generalize hcb : u2.heap.size = cb at *
    have hc3 : u3.cell? ⟨cb, 0, none⟩ = some (.int .i64 0) := blk_cell hb3 0 _ rfl
    have hf3 : u3.frozen? ⟨cb, 0, none⟩ = false := by unfold World.frozen?; simp [hb3]
    refine ownU_store (i := 1) (rest := []) ⟨cb, 0, none⟩ (.int .i64 0) rfl (by rfl) rfl (by decide) (fun w e1 e2 => store_op (stores_int 0) rfl (by kernel_rfl) (by kernel_rfl) (e1.trans hc3) (e2.trans hf3)) ?_
    refine ownU_region_end ?_
    refine ownU_lit (List.toArray (.string s :: .int .i64 n :: undef :: undef :: .bool false :: ptr sb :: .slice (some ⟨va, 0, none⟩) 5 5 :: .slice (some ⟨wa, 0, none⟩) 5 5 :: ptr cb :: undef :: undef :: undef :: undef :: .string s :: .int .i64 (s.size : Int) :: .bool false :: undef :: ptr sb :: ptr sb :: .string s :: .iface 9 (.string s) :: .string s :: .iface 55 (.string s) :: .int .i64 n :: .iface 3 (.int .i64 n) :: .iface 55 (.string ByteArray.empty) :: .slice (some ⟨va, 0, none⟩) 5 5 :: .string s :: .string s :: .slice (some ⟨wa, 0, none⟩) 5 5 :: .string s :: .bool false :: undef :: undef :: undef :: undef :: undef :: undef :: undef :: undef :: undef :: undef :: undef :: undef :: undef :: undef :: undef :: undef :: undef :: undef :: undef :: undef :: undef :: undef :: undef :: undef :: undef :: undef :: undef :: undef :: undef :: undef :: undef :: undef :: undef :: undef :: undef :: undef :: undef :: undef :: undef :: undef :: undef :: undef :: undef :: undef :: undef :: undef :: undef :: undef :: undef :: undef :: undef :: undef :: undef :: undef :: undef :: undef :: undef :: undef :: undef :: undef :: undef :: undef :: undef :: [])) [clDefer sb] (by kernel_rfl) (by kernel_rfl) ?_
    refine ownU_seq (x := sel [1, 1, 1, 1, 1, 1, 1, 1, 0] bodyTt) (y := sel [1, 1, 1, 1, 1, 1, 1, 1, 1] bodyTt) ?_
    refine ownU_seq (x := sel [1, 1, 1, 1, 1, 1, 1, 1, 0, 0] bodyTt) (y := sel [1, 1, 1, 1, 1, 1, 1, 1, 0, 1] bodyTt) ?_
    refine ownU_region (id := 10) (ops := opsOf (sel [1, 1, 1, 1, 1, 1, 1, 1, 0, 0] bodyTt)) ?_
    refine ownU_quiet (i := 0) (rest := [1, 2]) (.slice (some ⟨va, 0, none⟩) 5 5) rfl (by rfl) rfl (by decide) (fun _ => by kernel_rfl) ?_
    refine ownU_quiet (i := 1) (rest := [2]) (.int .i64 5) rfl (by rfl) rfl (by decide) (fun _ => by kernel_rfl) ?_
    refine ownU_quiet (i := 2) (rest := []) (.int .i64 0) rfl (by rfl) rfl (by decide) (fun _ => by kernel_rfl) ?_
    refine ownU_region_end ?_
    refine ownU_block (id := 0) (c := sel [1, 1, 1, 1, 1, 1, 1, 1, 0, 1, 4] bodyTt) ?_
    refine ownU_loop (c := sel [1, 1, 1, 1, 1, 1, 1, 1, 0, 1, 4, 4] bodyTt) ?_
    have hk0 : ∀ b, b ≠ cb → (u3.setCell ⟨cb, 0, none⟩ (.int .i64 0)).heap[b]? = u3.heap[b]? := fun b hb => by rw [setCell_get, if_neg (fun e => hb e.symm)]
    refine ownU_eq (by kernel_rfl) (hk va wa cb _ [.int .i64 n, undef, undef, undef, undef, undef, undef, .string s, .int .i64 (s.size : Int), .bool false, undef, ptr sb, ptr sb, .string s, .iface 9 (.string s), .string s, .iface 55 (.string s), .int .i64 n, .iface 3 (.int .i64 n), .iface 55 (.string ByteArray.empty), .slice (some ⟨va, 0, none⟩) 5 5, .string s, .string s, .slice (some ⟨wa, 0, none⟩) 5 5, .string s, .bool false, undef, undef, .slice (some ⟨va, 0, none⟩) 5 5, .int .i64 5, .int .i64 0, undef, undef, undef, undef, undef, undef, undef, undef, undef, undef, undef, undef, undef, undef, undef, undef, undef, undef, undef, undef, undef, undef, undef, undef, undef, undef, undef, undef, undef, undef, undef, undef, undef, undef, undef, undef, undef, undef, undef, undef, undef, undef, undef, undef, undef, undef, undef, undef, undef, undef, undef, undef, undef, undef, undef, undef, undef, undef] ⟨(hn12.trans hn3).os, (hn12.trans hn3).output, by rw [setCell_size]; exact (hn12.trans hn3).size, fun b hb => (hk0 b (by omega)).trans ((hn12.trans hn3).block b hb)⟩ (by omega) (by omega) (by omega) (by rw [setCell_size]; omega) (by rw [setCell_size]; omega) (by rw [setCell_size]; omega) (by omega) (by omega) (by omega) ⟨?_, ?_⟩ ?_)
    · rw [hk0 va (by omega), hn3.block va (by omega)]; exact hva2
    · rw [hs, hk0 wa (by omega), hn3.block wa (by omega)]; exact hb2
    · rw [setCell_get, if_pos rfl, hb3]; rfl
  | true =>
    have he : s = ByteArray.empty := by simpa using ht
    have hs : want1 s = strPanic := if_pos he
    have hw1 : u2.cell? ⟨wa, 1, none⟩ = some (.string s) := blk_cell hb2 1 _ rfl
    have hwf : u2.frozen? ⟨wa, 1, none⟩ = false := by unfold World.frozen?; simp [hb2]
    refine ownU_region (id := 8) (ops := opsOf (sel [1, 1, 1, 1, 1, 1, 0, 1, 2] bodyTt)) ?_
    refine ownU_quiet (i := 0) (rest := [1, 2]) (.slice (some ⟨wa, 0, none⟩) 5 5) rfl (by rfl) rfl (by decide) (fun _ => by kernel_rfl) ?_
    refine ownU_quiet (i := 1) (rest := [2]) (.pointer (some ⟨wa, 1, none⟩)) rfl (by rfl) rfl (by decide) (fun w => idx_s Try.underlying36 (fun _ => by kernel_rfl) (A := ⟨wa, 0, none⟩) (n := 5) (cap := 5) (i := 1) rfl w rfl (by kernel_rfl) (by kernel_rfl) (by omega)) ?_
    refine ownU_store (i := 2) (rest := []) ⟨wa, 1, none⟩ (.string strPanic) rfl (by rfl) rfl (by decide) (fun w e1 e2 => store_op (stores_str _) rfl (by kernel_rfl) (by kernel_rfl) (e1.trans hw1) (e2.trans hwf)) ?_
    refine ownU_region_end ?_
    have hsz2 : (u2.setCell ⟨wa, 1, none⟩ (.string strPanic)).heap.size = u2.heap.size := setCell_size _ _ _
    have hkw : ∀ b, b ≠ wa → (u2.setCell ⟨wa, 1, none⟩ (.string strPanic)).heap[b]? = u2.heap[b]? := fun b hb => by rw [setCell_get, if_neg (fun e => hb e.symm)]
    have hbw : (u2.setCell ⟨wa, 1, none⟩ (.string strPanic)).heap[wa]? = some (.cells #[.string s, .string strPanic, .string strPanic, .string ByteArray.empty, .string strPanic] 9) := by rw [setCell_get, if_pos rfl, hb2]; rfl
    have hva3 := (hkw va (by omega)).trans hva2
    have hn12b : New u (u2.setCell ⟨wa, 1, none⟩ (.string strPanic)) := ⟨hn12.os, hn12.output, by rw [setCell_size]; exact hn12.size, fun b hb => (hkw b (by omega)).trans (hn12.block b hb)⟩
    generalize u2.setCell ⟨wa, 1, none⟩ (.string strPanic) = u2b at *
    refine ownU_lit (List.toArray (.string s :: .int .i64 n :: undef :: undef :: .bool false :: ptr sb :: .slice (some ⟨va, 0, none⟩) 5 5 :: .slice (some ⟨wa, 0, none⟩) 5 5 :: undef :: undef :: undef :: undef :: undef :: .string s :: .int .i64 (s.size : Int) :: .bool false :: undef :: ptr sb :: ptr sb :: .string s :: .iface 9 (.string s) :: .string s :: .iface 55 (.string s) :: .int .i64 n :: .iface 3 (.int .i64 n) :: .iface 55 (.string ByteArray.empty) :: .slice (some ⟨va, 0, none⟩) 5 5 :: .string s :: .string s :: .slice (some ⟨wa, 0, none⟩) 5 5 :: .string s :: .bool true :: .slice (some ⟨wa, 0, none⟩) 5 5 :: .pointer (some ⟨wa, 1, none⟩) :: undef :: undef :: undef :: undef :: undef :: undef :: undef :: undef :: undef :: undef :: undef :: undef :: undef :: undef :: undef :: undef :: undef :: undef :: undef :: undef :: undef :: undef :: undef :: undef :: undef :: undef :: undef :: undef :: undef :: undef :: undef :: undef :: undef :: undef :: undef :: undef :: undef :: undef :: undef :: undef :: undef :: undef :: undef :: undef :: undef :: undef :: undef :: undef :: undef :: undef :: undef :: undef :: undef :: undef :: undef :: undef :: undef :: undef :: undef :: undef :: undef :: [])) [clDefer sb] (by kernel_rfl) (by kernel_rfl) ?_
    refine ownU_seq (x := sel [1, 1, 1, 1, 1, 1, 1, 0] bodyTt) (y := sel [1, 1, 1, 1, 1, 1, 1, 1] bodyTt) ?_
    refine ownU_region (id := 9) (ops := opsOf (sel [1, 1, 1, 1, 1, 1, 1, 0] bodyTt)) ?_
    refine ownU_new (.cells #[.int .i64 0] 3) (i := 0) (rest := [1]) rfl (by rfl) rfl (by decide) (fun _ => by kernel_rfl) ?_
    have hn3 := New.alloc u2b (.cells #[.int .i64 0] 3)
    have hb3 : (u2b.alloc (.cells #[.int .i64 0] 3)).heap[u2b.heap.size]? = some (.cells #[.int .i64 0] 3) := alloc_new' _ _ rfl
    have hs3 : (u2b.alloc (.cells #[.int .i64 0] 3)).heap.size = u2b.heap.size + 1 := World.size_alloc _ _
    generalize u2b.alloc (.cells #[.int .i64 0] 3) = u3 at *
    generalize hcb : u2b.heap.size = cb at *
    have hc3 : u3.cell? ⟨cb, 0, none⟩ = some (.int .i64 0) := blk_cell hb3 0 _ rfl
    have hf3 : u3.frozen? ⟨cb, 0, none⟩ = false := by unfold World.frozen?; simp [hb3]
    refine ownU_store (i := 1) (rest := []) ⟨cb, 0, none⟩ (.int .i64 0) rfl (by rfl) rfl (by decide) (fun w e1 e2 => store_op (stores_int 0) rfl (by kernel_rfl) (by kernel_rfl) (e1.trans hc3) (e2.trans hf3)) ?_
    refine ownU_region_end ?_
    refine ownU_lit (List.toArray (.string s :: .int .i64 n :: undef :: undef :: .bool false :: ptr sb :: .slice (some ⟨va, 0, none⟩) 5 5 :: .slice (some ⟨wa, 0, none⟩) 5 5 :: ptr cb :: undef :: undef :: undef :: undef :: .string s :: .int .i64 (s.size : Int) :: .bool false :: undef :: ptr sb :: ptr sb :: .string s :: .iface 9 (.string s) :: .string s :: .iface 55 (.string s) :: .int .i64 n :: .iface 3 (.int .i64 n) :: .iface 55 (.string ByteArray.empty) :: .slice (some ⟨va, 0, none⟩) 5 5 :: .string s :: .string s :: .slice (some ⟨wa, 0, none⟩) 5 5 :: .string s :: .bool true :: .slice (some ⟨wa, 0, none⟩) 5 5 :: .pointer (some ⟨wa, 1, none⟩) :: undef :: undef :: undef :: undef :: undef :: undef :: undef :: undef :: undef :: undef :: undef :: undef :: undef :: undef :: undef :: undef :: undef :: undef :: undef :: undef :: undef :: undef :: undef :: undef :: undef :: undef :: undef :: undef :: undef :: undef :: undef :: undef :: undef :: undef :: undef :: undef :: undef :: undef :: undef :: undef :: undef :: undef :: undef :: undef :: undef :: undef :: undef :: undef :: undef :: undef :: undef :: undef :: undef :: undef :: undef :: undef :: undef :: undef :: undef :: undef :: undef :: [])) [clDefer sb] (by kernel_rfl) (by kernel_rfl) ?_
    refine ownU_seq (x := sel [1, 1, 1, 1, 1, 1, 1, 1, 0] bodyTt) (y := sel [1, 1, 1, 1, 1, 1, 1, 1, 1] bodyTt) ?_
    refine ownU_seq (x := sel [1, 1, 1, 1, 1, 1, 1, 1, 0, 0] bodyTt) (y := sel [1, 1, 1, 1, 1, 1, 1, 1, 0, 1] bodyTt) ?_
    refine ownU_region (id := 10) (ops := opsOf (sel [1, 1, 1, 1, 1, 1, 1, 1, 0, 0] bodyTt)) ?_
    refine ownU_quiet (i := 0) (rest := [1, 2]) (.slice (some ⟨va, 0, none⟩) 5 5) rfl (by rfl) rfl (by decide) (fun _ => by kernel_rfl) ?_
    refine ownU_quiet (i := 1) (rest := [2]) (.int .i64 5) rfl (by rfl) rfl (by decide) (fun _ => by kernel_rfl) ?_
    refine ownU_quiet (i := 2) (rest := []) (.int .i64 0) rfl (by rfl) rfl (by decide) (fun _ => by kernel_rfl) ?_
    refine ownU_region_end ?_
    refine ownU_block (id := 0) (c := sel [1, 1, 1, 1, 1, 1, 1, 1, 0, 1, 4] bodyTt) ?_
    refine ownU_loop (c := sel [1, 1, 1, 1, 1, 1, 1, 1, 0, 1, 4, 4] bodyTt) ?_
    have hk0 : ∀ b, b ≠ cb → (u3.setCell ⟨cb, 0, none⟩ (.int .i64 0)).heap[b]? = u3.heap[b]? := fun b hb => by rw [setCell_get, if_neg (fun e => hb e.symm)]
    refine ownU_eq (by kernel_rfl) (hk va wa cb _ [.int .i64 n, undef, undef, undef, undef, undef, undef, .string s, .int .i64 (s.size : Int), .bool false, undef, ptr sb, ptr sb, .string s, .iface 9 (.string s), .string s, .iface 55 (.string s), .int .i64 n, .iface 3 (.int .i64 n), .iface 55 (.string ByteArray.empty), .slice (some ⟨va, 0, none⟩) 5 5, .string s, .string s, .slice (some ⟨wa, 0, none⟩) 5 5, .string s, .bool true, .slice (some ⟨wa, 0, none⟩) 5 5, .pointer (some ⟨wa, 1, none⟩), .slice (some ⟨va, 0, none⟩) 5 5, .int .i64 5, .int .i64 0, undef, undef, undef, undef, undef, undef, undef, undef, undef, undef, undef, undef, undef, undef, undef, undef, undef, undef, undef, undef, undef, undef, undef, undef, undef, undef, undef, undef, undef, undef, undef, undef, undef, undef, undef, undef, undef, undef, undef, undef, undef, undef, undef, undef, undef, undef, undef, undef, undef, undef, undef, undef, undef, undef, undef, undef, undef, undef] ⟨(hn12b.trans hn3).os, (hn12b.trans hn3).output, by rw [setCell_size]; exact (hn12b.trans hn3).size, fun b hb => (hk0 b (by omega)).trans ((hn12b.trans hn3).block b hb)⟩ (by omega) (by omega) (by omega) (by rw [setCell_size]; omega) (by rw [setCell_size]; omega) (by rw [setCell_size]; omega) (by omega) (by omega) (by omega) ⟨?_, ?_⟩ ?_)
    · rw [hk0 va (by omega), hn3.block va (by omega)]; exact hva3
    · rw [hs, hk0 wa (by omega), hn3.block wa (by omega)]; exact hbw
    · rw [setCell_get, if_pos rfl, hb3]; rfl
noncomputable def tsAct1 (s : ByteArray) (sb va wa cb idx vb : Nat) (ad : Addr) (x : Value) (gs : List Value) : Act := ⟨List.toArray (.string s :: (gs.getD 0 undef) :: (gs.getD 1 undef) :: (gs.getD 2 undef) :: .bool false :: ptr sb :: .slice (some ⟨va, 0, none⟩) 5 5 :: .slice (some ⟨wa, 0, none⟩) 5 5 :: ptr cb :: .int .i64 (idx : Int) :: ptr vb :: (gs.getD 5 undef) :: (gs.getD 6 undef) :: (gs.getD 7 undef) :: (gs.getD 8 undef) :: (gs.getD 9 undef) :: (gs.getD 10 undef) :: (gs.getD 11 undef) :: (gs.getD 12 undef) :: (gs.getD 13 undef) :: (gs.getD 14 undef) :: (gs.getD 15 undef) :: (gs.getD 16 undef) :: (gs.getD 17 undef) :: (gs.getD 18 undef) :: (gs.getD 19 undef) :: (gs.getD 20 undef) :: (gs.getD 21 undef) :: (gs.getD 22 undef) :: (gs.getD 23 undef) :: (gs.getD 24 undef) :: (gs.getD 25 undef) :: (gs.getD 26 undef) :: (gs.getD 27 undef) :: .slice (some ⟨va, 0, none⟩) 5 5 :: .int .i64 5 :: .int .i64 (idx : Int) :: .bool true :: .int .i64 (idx : Int) :: .pointer (some ad) :: x :: .int .i64 (idx : Int) :: .bool false :: ptr sb :: fvX1 vb :: (gs.getD 39 undef) :: (gs.getD 40 undef) :: (gs.getD 41 undef) :: (gs.getD 42 undef) :: (gs.getD 43 undef) :: (gs.getD 44 undef) :: (gs.getD 45 undef) :: (gs.getD 46 undef) :: (gs.getD 47 undef) :: (gs.getD 48 undef) :: (gs.getD 49 undef) :: (gs.getD 50 undef) :: (gs.getD 51 undef) :: (gs.getD 52 undef) :: (gs.getD 53 undef) :: (gs.getD 54 undef) :: (gs.getD 55 undef) :: (gs.getD 56 undef) :: (gs.getD 57 undef) :: (gs.getD 58 undef) :: (gs.getD 59 undef) :: (gs.getD 60 undef) :: (gs.getD 61 undef) :: (gs.getD 62 undef) :: (gs.getD 63 undef) :: (gs.getD 64 undef) :: (gs.getD 65 undef) :: (gs.getD 66 undef) :: (gs.getD 67 undef) :: (gs.getD 68 undef) :: (gs.getD 69 undef) :: (gs.getD 70 undef) :: (gs.getD 71 undef) :: (gs.getD 72 undef) :: (gs.getD 73 undef) :: (gs.getD 74 undef) :: (gs.getD 75 undef) :: (gs.getD 76 undef) :: (gs.getD 77 undef) :: (gs.getD 78 undef) :: (gs.getD 79 undef) :: (gs.getD 80 undef) :: (gs.getD 81 undef) :: (gs.getD 82 undef) :: (gs.getD 83 undef) :: (gs.getD 84 undef) :: (gs.getD 85 undef) :: (gs.getD 86 undef) :: (gs.getD 87 undef) :: (gs.getD 88 undef) :: []), [clDefer sb]⟩
noncomputable def tsFr1 (s : ByteArray) (sb va wa cb idx vb : Nat) (ad : Addr) (x : Value) (gs : List Value) : Frame := (base 8).at (tsAct1 s sb va wa cb idx vb ad x gs) (.inRegion (opsOf (sel [1, 1, 1, 1, 1, 1, 1, 1, 0, 1, 4, 4, 1, 1, 0, 4, 1, 1, 0] bodyTt)) (2 :: []) :: .code (sel [1, 1, 1, 1, 1, 1, 1, 1, 0, 1, 4, 4, 1, 1, 0, 4, 1, 1, 1] bodyTt) :: .inBlock 1 :: .code (sel [1, 1, 1, 1, 1, 1, 1, 1, 0, 1, 4, 4, 1, 1, 1] bodyTt) :: [.inLoop (sel [1, 1, 1, 1, 1, 1, 1, 1, 0, 1, 4, 4] bodyTt), .inBlock 0, .code (sel [1, 1, 1, 1, 1, 1, 1, 1, 1] bodyTt)])
theorem texts_spawn1 {main : Bool} {Z : Addr → Prop} {Stop : Goroutine → World → Prop} {w₀ u : World} {s : ByteArray} {sb va wa cb idx : Nat} {gs : List Value} {ad : Addr} {x : Value} (had : (⟨va, 0, none⟩ : Addr).add idx = ad) (hidx : idx < 5) (hx : u.cell? ad = some x) (hst : Stores1 Try.prog 20 x) (h3 : idx ≠ 3) (hk : ∀ vb, u.heap.size = vb → OwnU Try.prog main Z Stop w₀ (spawnIn sb (fvX1 vb) (((base 8).at (tsAct1 s sb va wa cb idx vb ad x gs) (.inRegion (opsOf (sel [1, 1, 1, 1, 1, 1, 1, 1, 0, 1, 4, 4, 1, 1, 0, 4, 1, 1, 0] bodyTt)) (2 :: []) :: .code (sel [1, 1, 1, 1, 1, 1, 1, 1, 0, 1, 4, 4, 1, 1, 0, 4, 1, 1, 1] bodyTt) :: .inBlock 1 :: .code (sel [1, 1, 1, 1, 1, 1, 1, 1, 0, 1, 4, 4, 1, 1, 1] bodyTt) :: [.inLoop (sel [1, 1, 1, 1, 1, 1, 1, 1, 0, 1, 4, 4] bodyTt), .inBlock 0, .code (sel [1, 1, 1, 1, 1, 1, 1, 1, 1] bodyTt)])) :: [])) ((u.alloc (.cells #[.nilIface] 20)).setCell ⟨vb, 0, none⟩ x)) : OwnU Try.prog main Z Stop w₀ (txHead s sb va wa cb idx gs) u := by
  unfold txHead
  refine ownU_seq (x := sel [1, 1, 1, 1, 1, 1, 1, 1, 0, 1, 4, 4, 0] bodyTt) (y := sel [1, 1, 1, 1, 1, 1, 1, 1, 0, 1, 4, 4, 1] bodyTt) ?_
  refine ownU_region (id := 11) (ops := opsOf (sel [1, 1, 1, 1, 1, 1, 1, 1, 0, 1, 4, 4, 0] bodyTt)) ?_
  refine ownU_quiet (i := 0) (rest := []) (.bool true) rfl (by rfl) rfl (by decide) (fun _ => lss_v (p := (idx : Int)) (q := 5) rfl (by kernel_rfl) (by kernel_rfl) (by simp; omega)) ?_
  refine ownU_region_end ?_
  refine ownU_seq (x := sel [1, 1, 1, 1, 1, 1, 1, 1, 0, 1, 4, 4, 1, 0] bodyTt) (y := sel [1, 1, 1, 1, 1, 1, 1, 1, 0, 1, 4, 4, 1, 1] bodyTt) ?_
  refine ownU_cond (c := .tmp 37) (x := .skip) (y := .exit 0) (t := true) (by kernel_rfl) ?_
  refine ownU_skip ?_
  refine ownU_seq (x := sel [1, 1, 1, 1, 1, 1, 1, 1, 0, 1, 4, 4, 1, 1, 0] bodyTt) (y := sel [1, 1, 1, 1, 1, 1, 1, 1, 0, 1, 4, 4, 1, 1, 1] bodyTt) ?_
  refine ownU_block (id := 1) (c := sel [1, 1, 1, 1, 1, 1, 1, 1, 0, 1, 4, 4, 1, 1, 0, 4] bodyTt) ?_
  refine ownU_seq (x := sel [1, 1, 1, 1, 1, 1, 1, 1, 0, 1, 4, 4, 1, 1, 0, 4, 0] bodyTt) (y := sel [1, 1, 1, 1, 1, 1, 1, 1, 0, 1, 4, 4, 1, 1, 0, 4, 1] bodyTt) ?_
  refine ownU_region (id := 12) (ops := opsOf (sel [1, 1, 1, 1, 1, 1, 1, 1, 0, 1, 4, 4, 1, 1, 0, 4, 0] bodyTt)) ?_
  refine ownU_quiet (i := 0) (rest := [1, 2, 3, 4, 5]) (.int .i64 (idx : Int)) rfl (by rfl) rfl (by decide) (fun _ => by kernel_rfl) ?_
  refine ownU_quiet (i := 1) (rest := [2, 3, 4, 5]) (.pointer (some ad)) rfl (by rfl) rfl (by decide) (fun w => idx_s Try.underlying56 (fun _ => by kernel_rfl) (A := ⟨va, 0, none⟩) (n := 5) (cap := 5) (i := idx) had w rfl (by kernel_rfl) (by kernel_rfl) hidx) ?_
  refine ownU_load (i := 2) (rest := [3, 4, 5]) ad x rfl (by rfl) (by decide) loads_any rfl (by kernel_rfl) hx ?_
  refine ownU_new (.cells #[.nilIface] 20) (i := 3) (rest := [4, 5]) rfl (by rfl) rfl (by decide) (fun _ => by kernel_rfl) ?_
  have hcell : (u.alloc (.cells #[.nilIface] 20)).cell? ⟨u.heap.size, 0, none⟩ = some .nilIface := blk_cell (alloc_new' u _ rfl) 0 _ rfl
  have hfree : (u.alloc (.cells #[.nilIface] 20)).frozen? ⟨u.heap.size, 0, none⟩ = false := frozen_new u _
  generalize hvb : u.heap.size = vb at *
  refine ownU_quiet (i := 4) (rest := [5]) (.int .i64 (idx : Int)) rfl (by rfl) rfl (by decide) (fun _ => by kernel_rfl) ?_
  refine ownU_store (i := 5) (rest := []) ⟨vb, 0, none⟩ x rfl (by rfl) rfl (by decide) (fun w e1 e2 => store_op hst rfl (by kernel_rfl) (by kernel_rfl) (e1.trans hcell) (e2.trans hfree)) ?_
  refine ownU_region_end ?_
  refine ownU_lit (List.toArray (.string s :: (gs.getD 0 undef) :: (gs.getD 1 undef) :: (gs.getD 2 undef) :: .bool false :: ptr sb :: .slice (some ⟨va, 0, none⟩) 5 5 :: .slice (some ⟨wa, 0, none⟩) 5 5 :: ptr cb :: .int .i64 (idx : Int) :: ptr vb :: (gs.getD 5 undef) :: (gs.getD 6 undef) :: (gs.getD 7 undef) :: (gs.getD 8 undef) :: (gs.getD 9 undef) :: (gs.getD 10 undef) :: (gs.getD 11 undef) :: (gs.getD 12 undef) :: (gs.getD 13 undef) :: (gs.getD 14 undef) :: (gs.getD 15 undef) :: (gs.getD 16 undef) :: (gs.getD 17 undef) :: (gs.getD 18 undef) :: (gs.getD 19 undef) :: (gs.getD 20 undef) :: (gs.getD 21 undef) :: (gs.getD 22 undef) :: (gs.getD 23 undef) :: (gs.getD 24 undef) :: (gs.getD 25 undef) :: (gs.getD 26 undef) :: (gs.getD 27 undef) :: .slice (some ⟨va, 0, none⟩) 5 5 :: .int .i64 5 :: .int .i64 (idx : Int) :: .bool true :: .int .i64 (idx : Int) :: .pointer (some ad) :: x :: (gs.getD 35 undef) :: (gs.getD 36 undef) :: (gs.getD 37 undef) :: (gs.getD 38 undef) :: (gs.getD 39 undef) :: (gs.getD 40 undef) :: (gs.getD 41 undef) :: (gs.getD 42 undef) :: (gs.getD 43 undef) :: (gs.getD 44 undef) :: (gs.getD 45 undef) :: (gs.getD 46 undef) :: (gs.getD 47 undef) :: (gs.getD 48 undef) :: (gs.getD 49 undef) :: (gs.getD 50 undef) :: (gs.getD 51 undef) :: (gs.getD 52 undef) :: (gs.getD 53 undef) :: (gs.getD 54 undef) :: (gs.getD 55 undef) :: (gs.getD 56 undef) :: (gs.getD 57 undef) :: (gs.getD 58 undef) :: (gs.getD 59 undef) :: (gs.getD 60 undef) :: (gs.getD 61 undef) :: (gs.getD 62 undef) :: (gs.getD 63 undef) :: (gs.getD 64 undef) :: (gs.getD 65 undef) :: (gs.getD 66 undef) :: (gs.getD 67 undef) :: (gs.getD 68 undef) :: (gs.getD 69 undef) :: (gs.getD 70 undef) :: (gs.getD 71 undef) :: (gs.getD 72 undef) :: (gs.getD 73 undef) :: (gs.getD 74 undef) :: (gs.getD 75 undef) :: (gs.getD 76 undef) :: (gs.getD 77 undef) :: (gs.getD 78 undef) :: (gs.getD 79 undef) :: (gs.getD 80 undef) :: (gs.getD 81 undef) :: (gs.getD 82 undef) :: (gs.getD 83 undef) :: (gs.getD 84 undef) :: (gs.getD 85 undef) :: (gs.getD 86 undef) :: (gs.getD 87 undef) :: (gs.getD 88 undef) :: [])) [clDefer sb] (by kernel_rfl) (by kernel_rfl) ?_
  refine ownU_seq (x := sel [1, 1, 1, 1, 1, 1, 1, 1, 0, 1, 4, 4, 1, 1, 0, 4, 1, 0] bodyTt) (y := sel [1, 1, 1, 1, 1, 1, 1, 1, 0, 1, 4, 4, 1, 1, 0, 4, 1, 1] bodyTt) ?_
  refine ownU_seq (x := sel [1, 1, 1, 1, 1, 1, 1, 1, 0, 1, 4, 4, 1, 1, 0, 4, 1, 0, 0] bodyTt) (y := sel [1, 1, 1, 1, 1, 1, 1, 1, 0, 1, 4, 4, 1, 1, 0, 4, 1, 0, 1] bodyTt) ?_
  refine ownU_region (id := 13) (ops := opsOf (sel [1, 1, 1, 1, 1, 1, 1, 1, 0, 1, 4, 4, 1, 1, 0, 4, 1, 0, 0] bodyTt)) ?_
  refine ownU_quiet (i := 0) (rest := [1]) (.int .i64 (idx : Int)) rfl (by rfl) rfl (by decide) (fun _ => by kernel_rfl) ?_
  refine ownU_quiet (i := 1) (rest := []) (.bool false) rfl (by rfl) rfl (by decide) (fun _ => eql_f (p := (idx : Int)) (q := 3) rfl (by kernel_rfl) (by kernel_rfl) (by simp; omega)) ?_
  refine ownU_region_end ?_
  refine ownU_cond (c := .tmp 42) (x := .exit 1) (y := .skip) (t := false) (by kernel_rfl) ?_
  refine ownU_skip ?_
  refine ownU_seq (x := sel [1, 1, 1, 1, 1, 1, 1, 1, 0, 1, 4, 4, 1, 1, 0, 4, 1, 1, 0] bodyTt) (y := sel [1, 1, 1, 1, 1, 1, 1, 1, 0, 1, 4, 4, 1, 1, 0, 4, 1, 1, 1] bodyTt) ?_
  refine ownU_region (id := 14) (ops := opsOf (sel [1, 1, 1, 1, 1, 1, 1, 1, 0, 1, 4, 4, 1, 1, 0, 4, 1, 1, 0] bodyTt)) ?_
  refine ownU_quiet (i := 0) (rest := [1, 2]) (ptr sb) rfl (by rfl) rfl (by decide) (fun _ => by kernel_rfl) ?_
  refine ownU_quiet (i := 1) (rest := [2]) (fvX1 vb) rfl (by rfl) rfl (by decide) (fun _ => by kernel_rfl) ?_
  refine ownU_lit (List.toArray (.string s :: (gs.getD 0 undef) :: (gs.getD 1 undef) :: (gs.getD 2 undef) :: .bool false :: ptr sb :: .slice (some ⟨va, 0, none⟩) 5 5 :: .slice (some ⟨wa, 0, none⟩) 5 5 :: ptr cb :: .int .i64 (idx : Int) :: ptr vb :: (gs.getD 5 undef) :: (gs.getD 6 undef) :: (gs.getD 7 undef) :: (gs.getD 8 undef) :: (gs.getD 9 undef) :: (gs.getD 10 undef) :: (gs.getD 11 undef) :: (gs.getD 12 undef) :: (gs.getD 13 undef) :: (gs.getD 14 undef) :: (gs.getD 15 undef) :: (gs.getD 16 undef) :: (gs.getD 17 undef) :: (gs.getD 18 undef) :: (gs.getD 19 undef) :: (gs.getD 20 undef) :: (gs.getD 21 undef) :: (gs.getD 22 undef) :: (gs.getD 23 undef) :: (gs.getD 24 undef) :: (gs.getD 25 undef) :: (gs.getD 26 undef) :: (gs.getD 27 undef) :: .slice (some ⟨va, 0, none⟩) 5 5 :: .int .i64 5 :: .int .i64 (idx : Int) :: .bool true :: .int .i64 (idx : Int) :: .pointer (some ad) :: x :: .int .i64 (idx : Int) :: .bool false :: ptr sb :: fvX1 vb :: (gs.getD 39 undef) :: (gs.getD 40 undef) :: (gs.getD 41 undef) :: (gs.getD 42 undef) :: (gs.getD 43 undef) :: (gs.getD 44 undef) :: (gs.getD 45 undef) :: (gs.getD 46 undef) :: (gs.getD 47 undef) :: (gs.getD 48 undef) :: (gs.getD 49 undef) :: (gs.getD 50 undef) :: (gs.getD 51 undef) :: (gs.getD 52 undef) :: (gs.getD 53 undef) :: (gs.getD 54 undef) :: (gs.getD 55 undef) :: (gs.getD 56 undef) :: (gs.getD 57 undef) :: (gs.getD 58 undef) :: (gs.getD 59 undef) :: (gs.getD 60 undef) :: (gs.getD 61 undef) :: (gs.getD 62 undef) :: (gs.getD 63 undef) :: (gs.getD 64 undef) :: (gs.getD 65 undef) :: (gs.getD 66 undef) :: (gs.getD 67 undef) :: (gs.getD 68 undef) :: (gs.getD 69 undef) :: (gs.getD 70 undef) :: (gs.getD 71 undef) :: (gs.getD 72 undef) :: (gs.getD 73 undef) :: (gs.getD 74 undef) :: (gs.getD 75 undef) :: (gs.getD 76 undef) :: (gs.getD 77 undef) :: (gs.getD 78 undef) :: (gs.getD 79 undef) :: (gs.getD 80 undef) :: (gs.getD 81 undef) :: (gs.getD 82 undef) :: (gs.getD 83 undef) :: (gs.getD 84 undef) :: (gs.getD 85 undef) :: (gs.getD 86 undef) :: (gs.getD 87 undef) :: (gs.getD 88 undef) :: [])) [clDefer sb] (by kernel_rfl) (by kernel_rfl) ?_
  refine ownU_enter (i := 2) (rest := []) (f := 37) rfl (by rfl) (by decide) rfl Try.func37 (by kernel_rfl) rfl ?_
  exact ownU_eq (by kernel_rfl) (hk vb rfl)
noncomputable def tsAct2 (s : ByteArray) (sb va wa cb idx vb : Nat) (ad : Addr) (x r : Value) (gs : List Value) : Act := ⟨List.toArray (.string s :: (gs.getD 0 undef) :: (gs.getD 1 undef) :: (gs.getD 2 undef) :: .bool false :: ptr sb :: .slice (some ⟨va, 0, none⟩) 5 5 :: .slice (some ⟨wa, 0, none⟩) 5 5 :: ptr cb :: .int .i64 (idx : Int) :: ptr vb :: (gs.getD 5 undef) :: (gs.getD 6 undef) :: (gs.getD 7 undef) :: (gs.getD 8 undef) :: (gs.getD 9 undef) :: (gs.getD 10 undef) :: (gs.getD 11 undef) :: (gs.getD 12 undef) :: (gs.getD 13 undef) :: (gs.getD 14 undef) :: (gs.getD 15 undef) :: (gs.getD 16 undef) :: (gs.getD 17 undef) :: (gs.getD 18 undef) :: (gs.getD 19 undef) :: (gs.getD 20 undef) :: (gs.getD 21 undef) :: (gs.getD 22 undef) :: (gs.getD 23 undef) :: (gs.getD 24 undef) :: (gs.getD 25 undef) :: (gs.getD 26 undef) :: (gs.getD 27 undef) :: .slice (some ⟨va, 0, none⟩) 5 5 :: .int .i64 5 :: .int .i64 (idx : Int) :: .bool true :: .int .i64 (idx : Int) :: .pointer (some ad) :: x :: .int .i64 (idx : Int) :: .bool false :: ptr sb :: fvX1 vb :: r :: ptr sb :: fvX2 cb :: (gs.getD 42 undef) :: (gs.getD 43 undef) :: (gs.getD 44 undef) :: (gs.getD 45 undef) :: (gs.getD 46 undef) :: (gs.getD 47 undef) :: (gs.getD 48 undef) :: (gs.getD 49 undef) :: (gs.getD 50 undef) :: (gs.getD 51 undef) :: (gs.getD 52 undef) :: (gs.getD 53 undef) :: (gs.getD 54 undef) :: (gs.getD 55 undef) :: (gs.getD 56 undef) :: (gs.getD 57 undef) :: (gs.getD 58 undef) :: (gs.getD 59 undef) :: (gs.getD 60 undef) :: (gs.getD 61 undef) :: (gs.getD 62 undef) :: (gs.getD 63 undef) :: (gs.getD 64 undef) :: (gs.getD 65 undef) :: (gs.getD 66 undef) :: (gs.getD 67 undef) :: (gs.getD 68 undef) :: (gs.getD 69 undef) :: (gs.getD 70 undef) :: (gs.getD 71 undef) :: (gs.getD 72 undef) :: (gs.getD 73 undef) :: (gs.getD 74 undef) :: (gs.getD 75 undef) :: (gs.getD 76 undef) :: (gs.getD 77 undef) :: (gs.getD 78 undef) :: (gs.getD 79 undef) :: (gs.getD 80 undef) :: (gs.getD 81 undef) :: (gs.getD 82 undef) :: (gs.getD 83 undef) :: (gs.getD 84 undef) :: (gs.getD 85 undef) :: (gs.getD 86 undef) :: (gs.getD 87 undef) :: (gs.getD 88 undef) :: []), [clDefer sb]⟩
theorem texts_spawn2 {main : Bool} {Z : Addr → Prop} {Stop : Goroutine → World → Prop} {w₀ u : World} {s : ByteArray} {sb va wa cb idx : Nat} {gs : List Value} {vb : Nat} {ad : Addr} {x r : Value} (hk : OwnU Try.prog main Z Stop w₀ (spawnIn sb (fvX2 cb) (((base 8).at (tsAct2 s sb va wa cb idx vb ad x r gs) (.inRegion (opsOf (sel [1, 1, 1, 1, 1, 1, 1, 1, 0, 1, 4, 4, 1, 1, 0, 4, 1, 1, 1] bodyTt)) (2 :: []) :: .inBlock 1 :: .code (sel [1, 1, 1, 1, 1, 1, 1, 1, 0, 1, 4, 4, 1, 1, 1] bodyTt) :: [.inLoop (sel [1, 1, 1, 1, 1, 1, 1, 1, 0, 1, 4, 4] bodyTt), .inBlock 0, .code (sel [1, 1, 1, 1, 1, 1, 1, 1, 1] bodyTt)])) :: [])) u) : OwnU Try.prog main Z Stop w₀ (G ((base 8).at ((tsAct1 s sb va wa cb idx vb ad x gs).put (((opsOf (sel [1, 1, 1, 1, 1, 1, 1, 1, 0, 1, 4, 4, 1, 1, 0, 4, 1, 1, 0] bodyTt))[2]?).bind (·.dst)) r) (.inRegion (opsOf (sel [1, 1, 1, 1, 1, 1, 1, 1, 0, 1, 4, 4, 1, 1, 0, 4, 1, 1, 0] bodyTt)) [] :: .code (sel [1, 1, 1, 1, 1, 1, 1, 1, 0, 1, 4, 4, 1, 1, 0, 4, 1, 1, 1] bodyTt) :: .inBlock 1 :: .code (sel [1, 1, 1, 1, 1, 1, 1, 1, 0, 1, 4, 4, 1, 1, 1] bodyTt) :: [.inLoop (sel [1, 1, 1, 1, 1, 1, 1, 1, 0, 1, 4, 4] bodyTt), .inBlock 0, .code (sel [1, 1, 1, 1, 1, 1, 1, 1, 1] bodyTt)])) []) u := by
  refine ownU_region_end ?_
  refine ownU_lit (List.toArray (.string s :: (gs.getD 0 undef) :: (gs.getD 1 undef) :: (gs.getD 2 undef) :: .bool false :: ptr sb :: .slice (some ⟨va, 0, none⟩) 5 5 :: .slice (some ⟨wa, 0, none⟩) 5 5 :: ptr cb :: .int .i64 (idx : Int) :: ptr vb :: (gs.getD 5 undef) :: (gs.getD 6 undef) :: (gs.getD 7 undef) :: (gs.getD 8 undef) :: (gs.getD 9 undef) :: (gs.getD 10 undef) :: (gs.getD 11 undef) :: (gs.getD 12 undef) :: (gs.getD 13 undef) :: (gs.getD 14 undef) :: (gs.getD 15 undef) :: (gs.getD 16 undef) :: (gs.getD 17 undef) :: (gs.getD 18 undef) :: (gs.getD 19 undef) :: (gs.getD 20 undef) :: (gs.getD 21 undef) :: (gs.getD 22 undef) :: (gs.getD 23 undef) :: (gs.getD 24 undef) :: (gs.getD 25 undef) :: (gs.getD 26 undef) :: (gs.getD 27 undef) :: .slice (some ⟨va, 0, none⟩) 5 5 :: .int .i64 5 :: .int .i64 (idx : Int) :: .bool true :: .int .i64 (idx : Int) :: .pointer (some ad) :: x :: .int .i64 (idx : Int) :: .bool false :: ptr sb :: fvX1 vb :: r :: (gs.getD 40 undef) :: (gs.getD 41 undef) :: (gs.getD 42 undef) :: (gs.getD 43 undef) :: (gs.getD 44 undef) :: (gs.getD 45 undef) :: (gs.getD 46 undef) :: (gs.getD 47 undef) :: (gs.getD 48 undef) :: (gs.getD 49 undef) :: (gs.getD 50 undef) :: (gs.getD 51 undef) :: (gs.getD 52 undef) :: (gs.getD 53 undef) :: (gs.getD 54 undef) :: (gs.getD 55 undef) :: (gs.getD 56 undef) :: (gs.getD 57 undef) :: (gs.getD 58 undef) :: (gs.getD 59 undef) :: (gs.getD 60 undef) :: (gs.getD 61 undef) :: (gs.getD 62 undef) :: (gs.getD 63 undef) :: (gs.getD 64 undef) :: (gs.getD 65 undef) :: (gs.getD 66 undef) :: (gs.getD 67 undef) :: (gs.getD 68 undef) :: (gs.getD 69 undef) :: (gs.getD 70 undef) :: (gs.getD 71 undef) :: (gs.getD 72 undef) :: (gs.getD 73 undef) :: (gs.getD 74 undef) :: (gs.getD 75 undef) :: (gs.getD 76 undef) :: (gs.getD 77 undef) :: (gs.getD 78 undef) :: (gs.getD 79 undef) :: (gs.getD 80 undef) :: (gs.getD 81 undef) :: (gs.getD 82 undef) :: (gs.getD 83 undef) :: (gs.getD 84 undef) :: (gs.getD 85 undef) :: (gs.getD 86 undef) :: (gs.getD 87 undef) :: (gs.getD 88 undef) :: [])) [clDefer sb] (by kernel_rfl) (by kernel_rfl) ?_
  refine ownU_region (id := 15) (ops := opsOf (sel [1, 1, 1, 1, 1, 1, 1, 1, 0, 1, 4, 4, 1, 1, 0, 4, 1, 1, 1] bodyTt)) ?_
  refine ownU_quiet (i := 0) (rest := [1, 2]) (ptr sb) rfl (by rfl) rfl (by decide) (fun _ => by kernel_rfl) ?_
  refine ownU_quiet (i := 1) (rest := [2]) (fvX2 cb) rfl (by rfl) rfl (by decide) (fun _ => by kernel_rfl) ?_
  refine ownU_lit (List.toArray (.string s :: (gs.getD 0 undef) :: (gs.getD 1 undef) :: (gs.getD 2 undef) :: .bool false :: ptr sb :: .slice (some ⟨va, 0, none⟩) 5 5 :: .slice (some ⟨wa, 0, none⟩) 5 5 :: ptr cb :: .int .i64 (idx : Int) :: ptr vb :: (gs.getD 5 undef) :: (gs.getD 6 undef) :: (gs.getD 7 undef) :: (gs.getD 8 undef) :: (gs.getD 9 undef) :: (gs.getD 10 undef) :: (gs.getD 11 undef) :: (gs.getD 12 undef) :: (gs.getD 13 undef) :: (gs.getD 14 undef) :: (gs.getD 15 undef) :: (gs.getD 16 undef) :: (gs.getD 17 undef) :: (gs.getD 18 undef) :: (gs.getD 19 undef) :: (gs.getD 20 undef) :: (gs.getD 21 undef) :: (gs.getD 22 undef) :: (gs.getD 23 undef) :: (gs.getD 24 undef) :: (gs.getD 25 undef) :: (gs.getD 26 undef) :: (gs.getD 27 undef) :: .slice (some ⟨va, 0, none⟩) 5 5 :: .int .i64 5 :: .int .i64 (idx : Int) :: .bool true :: .int .i64 (idx : Int) :: .pointer (some ad) :: x :: .int .i64 (idx : Int) :: .bool false :: ptr sb :: fvX1 vb :: r :: ptr sb :: fvX2 cb :: (gs.getD 42 undef) :: (gs.getD 43 undef) :: (gs.getD 44 undef) :: (gs.getD 45 undef) :: (gs.getD 46 undef) :: (gs.getD 47 undef) :: (gs.getD 48 undef) :: (gs.getD 49 undef) :: (gs.getD 50 undef) :: (gs.getD 51 undef) :: (gs.getD 52 undef) :: (gs.getD 53 undef) :: (gs.getD 54 undef) :: (gs.getD 55 undef) :: (gs.getD 56 undef) :: (gs.getD 57 undef) :: (gs.getD 58 undef) :: (gs.getD 59 undef) :: (gs.getD 60 undef) :: (gs.getD 61 undef) :: (gs.getD 62 undef) :: (gs.getD 63 undef) :: (gs.getD 64 undef) :: (gs.getD 65 undef) :: (gs.getD 66 undef) :: (gs.getD 67 undef) :: (gs.getD 68 undef) :: (gs.getD 69 undef) :: (gs.getD 70 undef) :: (gs.getD 71 undef) :: (gs.getD 72 undef) :: (gs.getD 73 undef) :: (gs.getD 74 undef) :: (gs.getD 75 undef) :: (gs.getD 76 undef) :: (gs.getD 77 undef) :: (gs.getD 78 undef) :: (gs.getD 79 undef) :: (gs.getD 80 undef) :: (gs.getD 81 undef) :: (gs.getD 82 undef) :: (gs.getD 83 undef) :: (gs.getD 84 undef) :: (gs.getD 85 undef) :: (gs.getD 86 undef) :: (gs.getD 87 undef) :: (gs.getD 88 undef) :: [])) [clDefer sb] (by kernel_rfl) (by kernel_rfl) ?_
  refine ownU_enter (i := 2) (rest := []) (f := 37) rfl (by rfl) (by decide) rfl Try.func37 (by kernel_rfl) rfl ?_
  exact ownU_eq (by kernel_rfl) hk
theorem texts_spawned {s : ByteArray} {sb va wa cb idx vb : Nat} {gs : List Value} {ad : Addr} {x r r2 : Value} (hi : IntKind.i64.wrap ((idx : Int) + 1) = ((idx + 1 : Nat) : Int)) : AtTx (G ((base 8).at ((tsAct2 s sb va wa cb idx vb ad x r gs).put (((opsOf (sel [1, 1, 1, 1, 1, 1, 1, 1, 0, 1, 4, 4, 1, 1, 0, 4, 1, 1, 1] bodyTt))[2]?).bind (·.dst)) r2) (.inRegion (opsOf (sel [1, 1, 1, 1, 1, 1, 1, 1, 0, 1, 4, 4, 1, 1, 0, 4, 1, 1, 1] bodyTt)) [] :: .inBlock 1 :: .code (sel [1, 1, 1, 1, 1, 1, 1, 1, 0, 1, 4, 4, 1, 1, 1] bodyTt) :: [.inLoop (sel [1, 1, 1, 1, 1, 1, 1, 1, 0, 1, 4, 4] bodyTt), .inBlock 0, .code (sel [1, 1, 1, 1, 1, 1, 1, 1, 1] bodyTt)])) []) s sb va wa cb (idx + 1) := by
  intro main Z Stop w₀ u hk
  refine ownU_region_end ?_
  refine ownU_inBlock ?_
  refine ownU_lit (List.toArray (.string s :: (gs.getD 0 undef) :: (gs.getD 1 undef) :: (gs.getD 2 undef) :: .bool false :: ptr sb :: .slice (some ⟨va, 0, none⟩) 5 5 :: .slice (some ⟨wa, 0, none⟩) 5 5 :: ptr cb :: .int .i64 (idx : Int) :: ptr vb :: (gs.getD 5 undef) :: (gs.getD 6 undef) :: (gs.getD 7 undef) :: (gs.getD 8 undef) :: (gs.getD 9 undef) :: (gs.getD 10 undef) :: (gs.getD 11 undef) :: (gs.getD 12 undef) :: (gs.getD 13 undef) :: (gs.getD 14 undef) :: (gs.getD 15 undef) :: (gs.getD 16 undef) :: (gs.getD 17 undef) :: (gs.getD 18 undef) :: (gs.getD 19 undef) :: (gs.getD 20 undef) :: (gs.getD 21 undef) :: (gs.getD 22 undef) :: (gs.getD 23 undef) :: (gs.getD 24 undef) :: (gs.getD 25 undef) :: (gs.getD 26 undef) :: (gs.getD 27 undef) :: .slice (some ⟨va, 0, none⟩) 5 5 :: .int .i64 5 :: .int .i64 (idx : Int) :: .bool true :: .int .i64 (idx : Int) :: .pointer (some ad) :: x :: .int .i64 (idx : Int) :: .bool false :: ptr sb :: fvX1 vb :: r :: ptr sb :: fvX2 cb :: r2 :: (gs.getD 43 undef) :: (gs.getD 44 undef) :: (gs.getD 45 undef) :: (gs.getD 46 undef) :: (gs.getD 47 undef) :: (gs.getD 48 undef) :: (gs.getD 49 undef) :: (gs.getD 50 undef) :: (gs.getD 51 undef) :: (gs.getD 52 undef) :: (gs.getD 53 undef) :: (gs.getD 54 undef) :: (gs.getD 55 undef) :: (gs.getD 56 undef) :: (gs.getD 57 undef) :: (gs.getD 58 undef) :: (gs.getD 59 undef) :: (gs.getD 60 undef) :: (gs.getD 61 undef) :: (gs.getD 62 undef) :: (gs.getD 63 undef) :: (gs.getD 64 undef) :: (gs.getD 65 undef) :: (gs.getD 66 undef) :: (gs.getD 67 undef) :: (gs.getD 68 undef) :: (gs.getD 69 undef) :: (gs.getD 70 undef) :: (gs.getD 71 undef) :: (gs.getD 72 undef) :: (gs.getD 73 undef) :: (gs.getD 74 undef) :: (gs.getD 75 undef) :: (gs.getD 76 undef) :: (gs.getD 77 undef) :: (gs.getD 78 undef) :: (gs.getD 79 undef) :: (gs.getD 80 undef) :: (gs.getD 81 undef) :: (gs.getD 82 undef) :: (gs.getD 83 undef) :: (gs.getD 84 undef) :: (gs.getD 85 undef) :: (gs.getD 86 undef) :: (gs.getD 87 undef) :: (gs.getD 88 undef) :: [])) [clDefer sb] (by kernel_rfl) (by kernel_rfl) ?_
  refine ownU_region (id := 16) (ops := opsOf (sel [1, 1, 1, 1, 1, 1, 1, 1, 0, 1, 4, 4, 1, 1, 1] bodyTt)) ?_
  refine ownU_quiet (i := 0) (rest := [1]) (.int .i64 ((idx + 1 : Nat) : Int)) rfl (by rfl) rfl (by decide) (fun _ => by rw [← hi]; kernel_rfl) ?_
  refine ownU_quiet (i := 1) (rest := []) (.int .i64 ((idx + 1 : Nat) : Int)) rfl (by rfl) rfl (by decide) (fun _ => by kernel_rfl) ?_
  refine ownU_region_end ?_
  refine ownU_inLoop ?_
  exact ownU_eq (by kernel_rfl) (hk [(gs.getD 0 undef), (gs.getD 1 undef), (gs.getD 2 undef), .int .i64 (idx : Int), ptr vb, (gs.getD 5 undef), (gs.getD 6 undef), (gs.getD 7 undef), (gs.getD 8 undef), (gs.getD 9 undef), (gs.getD 10 undef), (gs.getD 11 undef), (gs.getD 12 undef), (gs.getD 13 undef), (gs.getD 14 undef), (gs.getD 15 undef), (gs.getD 16 undef), (gs.getD 17 undef), (gs.getD 18 undef), (gs.getD 19 undef), (gs.getD 20 undef), (gs.getD 21 undef), (gs.getD 22 undef), (gs.getD 23 undef), (gs.getD 24 undef), (gs.getD 25 undef), (gs.getD 26 undef), (gs.getD 27 undef), .slice (some ⟨va, 0, none⟩) 5 5, .int .i64 5, .int .i64 ((idx + 1 : Nat) : Int), .bool true, .int .i64 (idx : Int), .pointer (some ad), x, .int .i64 (idx : Int), .bool false, ptr sb, fvX1 vb, r, ptr sb, fvX2 cb, r2, .int .i64 ((idx + 1 : Nat) : Int), (gs.getD 44 undef), (gs.getD 45 undef), (gs.getD 46 undef), (gs.getD 47 undef), (gs.getD 48 undef), (gs.getD 49 undef), (gs.getD 50 undef), (gs.getD 51 undef), (gs.getD 52 undef), (gs.getD 53 undef), (gs.getD 54 undef), (gs.getD 55 undef), (gs.getD 56 undef), (gs.getD 57 undef), (gs.getD 58 undef), (gs.getD 59 undef), (gs.getD 60 undef), (gs.getD 61 undef), (gs.getD 62 undef), (gs.getD 63 undef), (gs.getD 64 undef), (gs.getD 65 undef), (gs.getD 66 undef), (gs.getD 67 undef), (gs.getD 68 undef), (gs.getD 69 undef), (gs.getD 70 undef), (gs.getD 71 undef), (gs.getD 72 undef), (gs.getD 73 undef), (gs.getD 74 undef), (gs.getD 75 undef), (gs.getD 76 undef), (gs.getD 77 undef), (gs.getD 78 undef), (gs.getD 79 undef), (gs.getD 80 undef), (gs.getD 81 undef), (gs.getD 82 undef), (gs.getD 83 undef), (gs.getD 84 undef), (gs.getD 85 undef), (gs.getD 86 undef), (gs.getD 87 undef), (gs.getD 88 undef)])
theorem texts_skip {main : Bool} {Z : Addr → Prop} {Stop : Goroutine → World → Prop} {w₀ u : World} {s : ByteArray} {sb va wa cb idx : Nat} {gs : List Value} {ad : Addr} {x : Value} (had : (⟨va, 0, none⟩ : Addr).add idx = ad) (hidx : idx < 5) (hx : u.cell? ad = some x) (hst : Stores1 Try.prog 20 x) (h3 : idx = 3) (hi : IntKind.i64.wrap ((idx : Int) + 1) = ((idx + 1 : Nat) : Int)) (hk : ∀ vb gs, u.heap.size = vb → OwnU Try.prog main Z Stop w₀ (txHead s sb va wa cb (idx + 1) gs) ((u.alloc (.cells #[.nilIface] 20)).setCell ⟨vb, 0, none⟩ x)) : OwnU Try.prog main Z Stop w₀ (txHead s sb va wa cb idx gs) u := by
  unfold txHead at *
  refine ownU_seq (x := sel [1, 1, 1, 1, 1, 1, 1, 1, 0, 1, 4, 4, 0] bodyTt) (y := sel [1, 1, 1, 1, 1, 1, 1, 1, 0, 1, 4, 4, 1] bodyTt) ?_
  refine ownU_region (id := 11) (ops := opsOf (sel [1, 1, 1, 1, 1, 1, 1, 1, 0, 1, 4, 4, 0] bodyTt)) ?_
  refine ownU_quiet (i := 0) (rest := []) (.bool true) rfl (by rfl) rfl (by decide) (fun _ => lss_v (p := (idx : Int)) (q := 5) rfl (by kernel_rfl) (by kernel_rfl) (by simp; omega)) ?_
  refine ownU_region_end ?_
  refine ownU_seq (x := sel [1, 1, 1, 1, 1, 1, 1, 1, 0, 1, 4, 4, 1, 0] bodyTt) (y := sel [1, 1, 1, 1, 1, 1, 1, 1, 0, 1, 4, 4, 1, 1] bodyTt) ?_
  refine ownU_cond (c := .tmp 37) (x := .skip) (y := .exit 0) (t := true) (by kernel_rfl) ?_
  refine ownU_skip ?_
  refine ownU_seq (x := sel [1, 1, 1, 1, 1, 1, 1, 1, 0, 1, 4, 4, 1, 1, 0] bodyTt) (y := sel [1, 1, 1, 1, 1, 1, 1, 1, 0, 1, 4, 4, 1, 1, 1] bodyTt) ?_
  refine ownU_block (id := 1) (c := sel [1, 1, 1, 1, 1, 1, 1, 1, 0, 1, 4, 4, 1, 1, 0, 4] bodyTt) ?_
  refine ownU_seq (x := sel [1, 1, 1, 1, 1, 1, 1, 1, 0, 1, 4, 4, 1, 1, 0, 4, 0] bodyTt) (y := sel [1, 1, 1, 1, 1, 1, 1, 1, 0, 1, 4, 4, 1, 1, 0, 4, 1] bodyTt) ?_
  refine ownU_region (id := 12) (ops := opsOf (sel [1, 1, 1, 1, 1, 1, 1, 1, 0, 1, 4, 4, 1, 1, 0, 4, 0] bodyTt)) ?_
  refine ownU_quiet (i := 0) (rest := [1, 2, 3, 4, 5]) (.int .i64 (idx : Int)) rfl (by rfl) rfl (by decide) (fun _ => by kernel_rfl) ?_
  refine ownU_quiet (i := 1) (rest := [2, 3, 4, 5]) (.pointer (some ad)) rfl (by rfl) rfl (by decide) (fun w => idx_s Try.underlying56 (fun _ => by kernel_rfl) (A := ⟨va, 0, none⟩) (n := 5) (cap := 5) (i := idx) had w rfl (by kernel_rfl) (by kernel_rfl) hidx) ?_
  refine ownU_load (i := 2) (rest := [3, 4, 5]) ad x rfl (by rfl) (by decide) loads_any rfl (by kernel_rfl) hx ?_
  refine ownU_new (.cells #[.nilIface] 20) (i := 3) (rest := [4, 5]) rfl (by rfl) rfl (by decide) (fun _ => by kernel_rfl) ?_
  have hcell : (u.alloc (.cells #[.nilIface] 20)).cell? ⟨u.heap.size, 0, none⟩ = some .nilIface := blk_cell (alloc_new' u _ rfl) 0 _ rfl
  have hfree : (u.alloc (.cells #[.nilIface] 20)).frozen? ⟨u.heap.size, 0, none⟩ = false := frozen_new u _
  generalize hvb : u.heap.size = vb at *
  refine ownU_quiet (i := 4) (rest := [5]) (.int .i64 (idx : Int)) rfl (by rfl) rfl (by decide) (fun _ => by kernel_rfl) ?_
  refine ownU_store (i := 5) (rest := []) ⟨vb, 0, none⟩ x rfl (by rfl) rfl (by decide) (fun w e1 e2 => store_op hst rfl (by kernel_rfl) (by kernel_rfl) (e1.trans hcell) (e2.trans hfree)) ?_
  refine ownU_region_end ?_
  refine ownU_lit (List.toArray (.string s :: (gs.getD 0 undef) :: (gs.getD 1 undef) :: (gs.getD 2 undef) :: .bool false :: ptr sb :: .slice (some ⟨va, 0, none⟩) 5 5 :: .slice (some ⟨wa, 0, none⟩) 5 5 :: ptr cb :: .int .i64 (idx : Int) :: ptr vb :: (gs.getD 5 undef) :: (gs.getD 6 undef) :: (gs.getD 7 undef) :: (gs.getD 8 undef) :: (gs.getD 9 undef) :: (gs.getD 10 undef) :: (gs.getD 11 undef) :: (gs.getD 12 undef) :: (gs.getD 13 undef) :: (gs.getD 14 undef) :: (gs.getD 15 undef) :: (gs.getD 16 undef) :: (gs.getD 17 undef) :: (gs.getD 18 undef) :: (gs.getD 19 undef) :: (gs.getD 20 undef) :: (gs.getD 21 undef) :: (gs.getD 22 undef) :: (gs.getD 23 undef) :: (gs.getD 24 undef) :: (gs.getD 25 undef) :: (gs.getD 26 undef) :: (gs.getD 27 undef) :: .slice (some ⟨va, 0, none⟩) 5 5 :: .int .i64 5 :: .int .i64 (idx : Int) :: .bool true :: .int .i64 (idx : Int) :: .pointer (some ad) :: x :: (gs.getD 35 undef) :: (gs.getD 36 undef) :: (gs.getD 37 undef) :: (gs.getD 38 undef) :: (gs.getD 39 undef) :: (gs.getD 40 undef) :: (gs.getD 41 undef) :: (gs.getD 42 undef) :: (gs.getD 43 undef) :: (gs.getD 44 undef) :: (gs.getD 45 undef) :: (gs.getD 46 undef) :: (gs.getD 47 undef) :: (gs.getD 48 undef) :: (gs.getD 49 undef) :: (gs.getD 50 undef) :: (gs.getD 51 undef) :: (gs.getD 52 undef) :: (gs.getD 53 undef) :: (gs.getD 54 undef) :: (gs.getD 55 undef) :: (gs.getD 56 undef) :: (gs.getD 57 undef) :: (gs.getD 58 undef) :: (gs.getD 59 undef) :: (gs.getD 60 undef) :: (gs.getD 61 undef) :: (gs.getD 62 undef) :: (gs.getD 63 undef) :: (gs.getD 64 undef) :: (gs.getD 65 undef) :: (gs.getD 66 undef) :: (gs.getD 67 undef) :: (gs.getD 68 undef) :: (gs.getD 69 undef) :: (gs.getD 70 undef) :: (gs.getD 71 undef) :: (gs.getD 72 undef) :: (gs.getD 73 undef) :: (gs.getD 74 undef) :: (gs.getD 75 undef) :: (gs.getD 76 undef) :: (gs.getD 77 undef) :: (gs.getD 78 undef) :: (gs.getD 79 undef) :: (gs.getD 80 undef) :: (gs.getD 81 undef) :: (gs.getD 82 undef) :: (gs.getD 83 undef) :: (gs.getD 84 undef) :: (gs.getD 85 undef) :: (gs.getD 86 undef) :: (gs.getD 87 undef) :: (gs.getD 88 undef) :: [])) [clDefer sb] (by kernel_rfl) (by kernel_rfl) ?_
  refine ownU_seq (x := sel [1, 1, 1, 1, 1, 1, 1, 1, 0, 1, 4, 4, 1, 1, 0, 4, 1, 0] bodyTt) (y := sel [1, 1, 1, 1, 1, 1, 1, 1, 0, 1, 4, 4, 1, 1, 0, 4, 1, 1] bodyTt) ?_
  refine ownU_seq (x := sel [1, 1, 1, 1, 1, 1, 1, 1, 0, 1, 4, 4, 1, 1, 0, 4, 1, 0, 0] bodyTt) (y := sel [1, 1, 1, 1, 1, 1, 1, 1, 0, 1, 4, 4, 1, 1, 0, 4, 1, 0, 1] bodyTt) ?_
  refine ownU_region (id := 13) (ops := opsOf (sel [1, 1, 1, 1, 1, 1, 1, 1, 0, 1, 4, 4, 1, 1, 0, 4, 1, 0, 0] bodyTt)) ?_
  refine ownU_quiet (i := 0) (rest := [1]) (.int .i64 (idx : Int)) rfl (by rfl) rfl (by decide) (fun _ => by kernel_rfl) ?_
  refine ownU_quiet (i := 1) (rest := []) (.bool true) rfl (by rfl) rfl (by decide) (fun _ => eql_f (p := (idx : Int)) (q := 3) rfl (by kernel_rfl) (by kernel_rfl) (by simp; omega)) ?_
  refine ownU_region_end ?_
  refine ownU_cond (c := .tmp 42) (x := .exit 1) (y := .skip) (t := true) (by kernel_rfl) ?_
  refine ownU_exit (k' := .code (sel [1, 1, 1, 1, 1, 1, 1, 1, 0, 1, 4, 4, 1, 1, 1] bodyTt) :: [.inLoop (sel [1, 1, 1, 1, 1, 1, 1, 1, 0, 1, 4, 4] bodyTt), .inBlock 0, .code (sel [1, 1, 1, 1, 1, 1, 1, 1, 1] bodyTt)]) rfl ?_
  refine ownU_lit (List.toArray (.string s :: (gs.getD 0 undef) :: (gs.getD 1 undef) :: (gs.getD 2 undef) :: .bool false :: ptr sb :: .slice (some ⟨va, 0, none⟩) 5 5 :: .slice (some ⟨wa, 0, none⟩) 5 5 :: ptr cb :: .int .i64 (idx : Int) :: ptr vb :: (gs.getD 5 undef) :: (gs.getD 6 undef) :: (gs.getD 7 undef) :: (gs.getD 8 undef) :: (gs.getD 9 undef) :: (gs.getD 10 undef) :: (gs.getD 11 undef) :: (gs.getD 12 undef) :: (gs.getD 13 undef) :: (gs.getD 14 undef) :: (gs.getD 15 undef) :: (gs.getD 16 undef) :: (gs.getD 17 undef) :: (gs.getD 18 undef) :: (gs.getD 19 undef) :: (gs.getD 20 undef) :: (gs.getD 21 undef) :: (gs.getD 22 undef) :: (gs.getD 23 undef) :: (gs.getD 24 undef) :: (gs.getD 25 undef) :: (gs.getD 26 undef) :: (gs.getD 27 undef) :: .slice (some ⟨va, 0, none⟩) 5 5 :: .int .i64 5 :: .int .i64 (idx : Int) :: .bool true :: .int .i64 (idx : Int) :: .pointer (some ad) :: x :: .int .i64 (idx : Int) :: .bool true :: (gs.getD 37 undef) :: (gs.getD 38 undef) :: (gs.getD 39 undef) :: (gs.getD 40 undef) :: (gs.getD 41 undef) :: (gs.getD 42 undef) :: (gs.getD 43 undef) :: (gs.getD 44 undef) :: (gs.getD 45 undef) :: (gs.getD 46 undef) :: (gs.getD 47 undef) :: (gs.getD 48 undef) :: (gs.getD 49 undef) :: (gs.getD 50 undef) :: (gs.getD 51 undef) :: (gs.getD 52 undef) :: (gs.getD 53 undef) :: (gs.getD 54 undef) :: (gs.getD 55 undef) :: (gs.getD 56 undef) :: (gs.getD 57 undef) :: (gs.getD 58 undef) :: (gs.getD 59 undef) :: (gs.getD 60 undef) :: (gs.getD 61 undef) :: (gs.getD 62 undef) :: (gs.getD 63 undef) :: (gs.getD 64 undef) :: (gs.getD 65 undef) :: (gs.getD 66 undef) :: (gs.getD 67 undef) :: (gs.getD 68 undef) :: (gs.getD 69 undef) :: (gs.getD 70 undef) :: (gs.getD 71 undef) :: (gs.getD 72 undef) :: (gs.getD 73 undef) :: (gs.getD 74 undef) :: (gs.getD 75 undef) :: (gs.getD 76 undef) :: (gs.getD 77 undef) :: (gs.getD 78 undef) :: (gs.getD 79 undef) :: (gs.getD 80 undef) :: (gs.getD 81 undef) :: (gs.getD 82 undef) :: (gs.getD 83 undef) :: (gs.getD 84 undef) :: (gs.getD 85 undef) :: (gs.getD 86 undef) :: (gs.getD 87 undef) :: (gs.getD 88 undef) :: [])) [clDefer sb] (by kernel_rfl) (by kernel_rfl) ?_
  refine ownU_region (id := 16) (ops := opsOf (sel [1, 1, 1, 1, 1, 1, 1, 1, 0, 1, 4, 4, 1, 1, 1] bodyTt)) ?_
  refine ownU_quiet (i := 0) (rest := [1]) (.int .i64 ((idx + 1 : Nat) : Int)) rfl (by rfl) rfl (by decide) (fun _ => by rw [← hi]; kernel_rfl) ?_
  refine ownU_quiet (i := 1) (rest := []) (.int .i64 ((idx + 1 : Nat) : Int)) rfl (by rfl) rfl (by decide) (fun _ => by kernel_rfl) ?_
  refine ownU_region_end ?_
  refine ownU_inLoop ?_
  exact ownU_eq (by kernel_rfl) (hk vb [(gs.getD 0 undef), (gs.getD 1 undef), (gs.getD 2 undef), .int .i64 (idx : Int), ptr vb, (gs.getD 5 undef), (gs.getD 6 undef), (gs.getD 7 undef), (gs.getD 8 undef), (gs.getD 9 undef), (gs.getD 10 undef), (gs.getD 11 undef), (gs.getD 12 undef), (gs.getD 13 undef), (gs.getD 14 undef), (gs.getD 15 undef), (gs.getD 16 undef), (gs.getD 17 undef), (gs.getD 18 undef), (gs.getD 19 undef), (gs.getD 20 undef), (gs.getD 21 undef), (gs.getD 22 undef), (gs.getD 23 undef), (gs.getD 24 undef), (gs.getD 25 undef), (gs.getD 26 undef), (gs.getD 27 undef), .slice (some ⟨va, 0, none⟩) 5 5, .int .i64 5, .int .i64 ((idx + 1 : Nat) : Int), .bool true, .int .i64 (idx : Int), .pointer (some ad), x, .int .i64 (idx : Int), .bool true, (gs.getD 37 undef), (gs.getD 38 undef), (gs.getD 39 undef), (gs.getD 40 undef), (gs.getD 41 undef), (gs.getD 42 undef), .int .i64 ((idx + 1 : Nat) : Int), (gs.getD 44 undef), (gs.getD 45 undef), (gs.getD 46 undef), (gs.getD 47 undef), (gs.getD 48 undef), (gs.getD 49 undef), (gs.getD 50 undef), (gs.getD 51 undef), (gs.getD 52 undef), (gs.getD 53 undef), (gs.getD 54 undef), (gs.getD 55 undef), (gs.getD 56 undef), (gs.getD 57 undef), (gs.getD 58 undef), (gs.getD 59 undef), (gs.getD 60 undef), (gs.getD 61 undef), (gs.getD 62 undef), (gs.getD 63 undef), (gs.getD 64 undef), (gs.getD 65 undef), (gs.getD 66 undef), (gs.getD 67 undef), (gs.getD 68 undef), (gs.getD 69 undef), (gs.getD 70 undef), (gs.getD 71 undef), (gs.getD 72 undef), (gs.getD 73 undef), (gs.getD 74 undef), (gs.getD 75 undef), (gs.getD 76 undef), (gs.getD 77 undef), (gs.getD 78 undef), (gs.getD 79 undef), (gs.getD 80 undef), (gs.getD 81 undef), (gs.getD 82 undef), (gs.getD 83 undef), (gs.getD 84 undef), (gs.getD 85 undef), (gs.getD 86 undef), (gs.getD 87 undef), (gs.getD 88 undef)] rfl)
noncomputable def trAct (s : ByteArray) (sb va wa cb idx : Nat) (gs : List Value) : Act := ⟨List.toArray (.string s :: (gs.getD 0 undef) :: (gs.getD 1 undef) :: (gs.getD 2 undef) :: .bool false :: ptr sb :: .slice (some ⟨va, 0, none⟩) 5 5 :: .slice (some ⟨wa, 0, none⟩) 5 5 :: ptr cb :: (gs.getD 3 undef) :: (gs.getD 4 undef) :: (gs.getD 5 undef) :: (gs.getD 6 undef) :: (gs.getD 7 undef) :: (gs.getD 8 undef) :: (gs.getD 9 undef) :: (gs.getD 10 undef) :: (gs.getD 11 undef) :: (gs.getD 12 undef) :: (gs.getD 13 undef) :: (gs.getD 14 undef) :: (gs.getD 15 undef) :: (gs.getD 16 undef) :: (gs.getD 17 undef) :: (gs.getD 18 undef) :: (gs.getD 19 undef) :: (gs.getD 20 undef) :: (gs.getD 21 undef) :: (gs.getD 22 undef) :: (gs.getD 23 undef) :: (gs.getD 24 undef) :: (gs.getD 25 undef) :: (gs.getD 26 undef) :: (gs.getD 27 undef) :: .slice (some ⟨va, 0, none⟩) 5 5 :: .int .i64 5 :: .int .i64 (idx : Int) :: .bool false :: (gs.getD 32 undef) :: (gs.getD 33 undef) :: (gs.getD 34 undef) :: (gs.getD 35 undef) :: (gs.getD 36 undef) :: (gs.getD 37 undef) :: (gs.getD 38 undef) :: (gs.getD 39 undef) :: (gs.getD 40 undef) :: (gs.getD 41 undef) :: (gs.getD 42 undef) :: (gs.getD 43 undef) :: ptr sb :: (gs.getD 45 undef) :: (gs.getD 46 undef) :: (gs.getD 47 undef) :: (gs.getD 48 undef) :: (gs.getD 49 undef) :: (gs.getD 50 undef) :: (gs.getD 51 undef) :: (gs.getD 52 undef) :: (gs.getD 53 undef) :: (gs.getD 54 undef) :: (gs.getD 55 undef) :: (gs.getD 56 undef) :: (gs.getD 57 undef) :: (gs.getD 58 undef) :: (gs.getD 59 undef) :: (gs.getD 60 undef) :: (gs.getD 61 undef) :: (gs.getD 62 undef) :: (gs.getD 63 undef) :: (gs.getD 64 undef) :: (gs.getD 65 undef) :: (gs.getD 66 undef) :: (gs.getD 67 undef) :: (gs.getD 68 undef) :: (gs.getD 69 undef) :: (gs.getD 70 undef) :: (gs.getD 71 undef) :: (gs.getD 72 undef) :: (gs.getD 73 undef) :: (gs.getD 74 undef) :: (gs.getD 75 undef) :: (gs.getD 76 undef) :: (gs.getD 77 undef) :: (gs.getD 78 undef) :: (gs.getD 79 undef) :: (gs.getD 80 undef) :: (gs.getD 81 undef) :: (gs.getD 82 undef) :: (gs.getD 83 undef) :: (gs.getD 84 undef) :: (gs.getD 85 undef) :: (gs.getD 86 undef) :: (gs.getD 87 undef) :: (gs.getD 88 undef) :: []), [clDefer sb]⟩
theorem texts_run {main : Bool} {Z : Addr → Prop} {Stop : Goroutine → World → Prop} {w₀ u : World} {s : ByteArray} {sb va wa cb idx : Nat} {gs : List Value} (hidx : 5 ≤ idx) (hk : OwnU Try.prog main Z Stop w₀ (runIn sb (((base 8).at (trAct s sb va wa cb idx gs) (.inRegion (opsOf (sel [1, 1, 1, 1, 1, 1, 1, 1, 1, 0] bodyTt)) (1 :: []) :: [.code (sel [1, 1, 1, 1, 1, 1, 1, 1, 1, 1] bodyTt)])) :: [])) u) : OwnU Try.prog main Z Stop w₀ (txHead s sb va wa cb idx gs) u := by
  unfold txHead
  refine ownU_seq (x := sel [1, 1, 1, 1, 1, 1, 1, 1, 0, 1, 4, 4, 0] bodyTt) (y := sel [1, 1, 1, 1, 1, 1, 1, 1, 0, 1, 4, 4, 1] bodyTt) ?_
  refine ownU_region (id := 11) (ops := opsOf (sel [1, 1, 1, 1, 1, 1, 1, 1, 0, 1, 4, 4, 0] bodyTt)) ?_
  refine ownU_quiet (i := 0) (rest := []) (.bool false) rfl (by rfl) rfl (by decide) (fun _ => lss_v (p := (idx : Int)) (q := 5) rfl (by kernel_rfl) (by kernel_rfl) (by simp; omega)) ?_
  refine ownU_region_end ?_
  refine ownU_seq (x := sel [1, 1, 1, 1, 1, 1, 1, 1, 0, 1, 4, 4, 1, 0] bodyTt) (y := sel [1, 1, 1, 1, 1, 1, 1, 1, 0, 1, 4, 4, 1, 1] bodyTt) ?_
  refine ownU_cond (c := .tmp 37) (x := .skip) (y := .exit 0) (t := false) (by kernel_rfl) ?_
  refine ownU_exit (k' := [.code (sel [1, 1, 1, 1, 1, 1, 1, 1, 1] bodyTt)]) rfl ?_
  refine ownU_lit (List.toArray (.string s :: (gs.getD 0 undef) :: (gs.getD 1 undef) :: (gs.getD 2 undef) :: .bool false :: ptr sb :: .slice (some ⟨va, 0, none⟩) 5 5 :: .slice (some ⟨wa, 0, none⟩) 5 5 :: ptr cb :: (gs.getD 3 undef) :: (gs.getD 4 undef) :: (gs.getD 5 undef) :: (gs.getD 6 undef) :: (gs.getD 7 undef) :: (gs.getD 8 undef) :: (gs.getD 9 undef) :: (gs.getD 10 undef) :: (gs.getD 11 undef) :: (gs.getD 12 undef) :: (gs.getD 13 undef) :: (gs.getD 14 undef) :: (gs.getD 15 undef) :: (gs.getD 16 undef) :: (gs.getD 17 undef) :: (gs.getD 18 undef) :: (gs.getD 19 undef) :: (gs.getD 20 undef) :: (gs.getD 21 undef) :: (gs.getD 22 undef) :: (gs.getD 23 undef) :: (gs.getD 24 undef) :: (gs.getD 25 undef) :: (gs.getD 26 undef) :: (gs.getD 27 undef) :: .slice (some ⟨va, 0, none⟩) 5 5 :: .int .i64 5 :: .int .i64 (idx : Int) :: .bool false :: (gs.getD 32 undef) :: (gs.getD 33 undef) :: (gs.getD 34 undef) :: (gs.getD 35 undef) :: (gs.getD 36 undef) :: (gs.getD 37 undef) :: (gs.getD 38 undef) :: (gs.getD 39 undef) :: (gs.getD 40 undef) :: (gs.getD 41 undef) :: (gs.getD 42 undef) :: (gs.getD 43 undef) :: (gs.getD 44 undef) :: (gs.getD 45 undef) :: (gs.getD 46 undef) :: (gs.getD 47 undef) :: (gs.getD 48 undef) :: (gs.getD 49 undef) :: (gs.getD 50 undef) :: (gs.getD 51 undef) :: (gs.getD 52 undef) :: (gs.getD 53 undef) :: (gs.getD 54 undef) :: (gs.getD 55 undef) :: (gs.getD 56 undef) :: (gs.getD 57 undef) :: (gs.getD 58 undef) :: (gs.getD 59 undef) :: (gs.getD 60 undef) :: (gs.getD 61 undef) :: (gs.getD 62 undef) :: (gs.getD 63 undef) :: (gs.getD 64 undef) :: (gs.getD 65 undef) :: (gs.getD 66 undef) :: (gs.getD 67 undef) :: (gs.getD 68 undef) :: (gs.getD 69 undef) :: (gs.getD 70 undef) :: (gs.getD 71 undef) :: (gs.getD 72 undef) :: (gs.getD 73 undef) :: (gs.getD 74 undef) :: (gs.getD 75 undef) :: (gs.getD 76 undef) :: (gs.getD 77 undef) :: (gs.getD 78 undef) :: (gs.getD 79 undef) :: (gs.getD 80 undef) :: (gs.getD 81 undef) :: (gs.getD 82 undef) :: (gs.getD 83 undef) :: (gs.getD 84 undef) :: (gs.getD 85 undef) :: (gs.getD 86 undef) :: (gs.getD 87 undef) :: (gs.getD 88 undef) :: [])) [clDefer sb] (by kernel_rfl) (by kernel_rfl) ?_
  refine ownU_seq (x := sel [1, 1, 1, 1, 1, 1, 1, 1, 1, 0] bodyTt) (y := sel [1, 1, 1, 1, 1, 1, 1, 1, 1, 1] bodyTt) ?_
  refine ownU_region (id := 17) (ops := opsOf (sel [1, 1, 1, 1, 1, 1, 1, 1, 1, 0] bodyTt)) ?_
  refine ownU_quiet (i := 0) (rest := [1]) (ptr sb) rfl (by rfl) rfl (by decide) (fun _ => by kernel_rfl) ?_
  refine ownU_lit (List.toArray (.string s :: (gs.getD 0 undef) :: (gs.getD 1 undef) :: (gs.getD 2 undef) :: .bool false :: ptr sb :: .slice (some ⟨va, 0, none⟩) 5 5 :: .slice (some ⟨wa, 0, none⟩) 5 5 :: ptr cb :: (gs.getD 3 undef) :: (gs.getD 4 undef) :: (gs.getD 5 undef) :: (gs.getD 6 undef) :: (gs.getD 7 undef) :: (gs.getD 8 undef) :: (gs.getD 9 undef) :: (gs.getD 10 undef) :: (gs.getD 11 undef) :: (gs.getD 12 undef) :: (gs.getD 13 undef) :: (gs.getD 14 undef) :: (gs.getD 15 undef) :: (gs.getD 16 undef) :: (gs.getD 17 undef) :: (gs.getD 18 undef) :: (gs.getD 19 undef) :: (gs.getD 20 undef) :: (gs.getD 21 undef) :: (gs.getD 22 undef) :: (gs.getD 23 undef) :: (gs.getD 24 undef) :: (gs.getD 25 undef) :: (gs.getD 26 undef) :: (gs.getD 27 undef) :: .slice (some ⟨va, 0, none⟩) 5 5 :: .int .i64 5 :: .int .i64 (idx : Int) :: .bool false :: (gs.getD 32 undef) :: (gs.getD 33 undef) :: (gs.getD 34 undef) :: (gs.getD 35 undef) :: (gs.getD 36 undef) :: (gs.getD 37 undef) :: (gs.getD 38 undef) :: (gs.getD 39 undef) :: (gs.getD 40 undef) :: (gs.getD 41 undef) :: (gs.getD 42 undef) :: (gs.getD 43 undef) :: ptr sb :: (gs.getD 45 undef) :: (gs.getD 46 undef) :: (gs.getD 47 undef) :: (gs.getD 48 undef) :: (gs.getD 49 undef) :: (gs.getD 50 undef) :: (gs.getD 51 undef) :: (gs.getD 52 undef) :: (gs.getD 53 undef) :: (gs.getD 54 undef) :: (gs.getD 55 undef) :: (gs.getD 56 undef) :: (gs.getD 57 undef) :: (gs.getD 58 undef) :: (gs.getD 59 undef) :: (gs.getD 60 undef) :: (gs.getD 61 undef) :: (gs.getD 62 undef) :: (gs.getD 63 undef) :: (gs.getD 64 undef) :: (gs.getD 65 undef) :: (gs.getD 66 undef) :: (gs.getD 67 undef) :: (gs.getD 68 undef) :: (gs.getD 69 undef) :: (gs.getD 70 undef) :: (gs.getD 71 undef) :: (gs.getD 72 undef) :: (gs.getD 73 undef) :: (gs.getD 74 undef) :: (gs.getD 75 undef) :: (gs.getD 76 undef) :: (gs.getD 77 undef) :: (gs.getD 78 undef) :: (gs.getD 79 undef) :: (gs.getD 80 undef) :: (gs.getD 81 undef) :: (gs.getD 82 undef) :: (gs.getD 83 undef) :: (gs.getD 84 undef) :: (gs.getD 85 undef) :: (gs.getD 86 undef) :: (gs.getD 87 undef) :: (gs.getD 88 undef) :: [])) [clDefer sb] (by kernel_rfl) (by kernel_rfl) ?_
  refine ownU_enter (i := 1) (rest := []) (f := 42) rfl (by rfl) (by decide) rfl Try.func42 (by kernel_rfl) rfl ?_
  exact ownU_eq (by kernel_rfl) hk
/-- At the head of the loop that checks. -/
noncomputable def tcHead (s : ByteArray) (sb va wa cb idx : Nat) (k : Int) (gs : List Value) : Goroutine := G ((base 8).at ⟨List.toArray (.string s :: (gs.getD 0 undef) :: (gs.getD 1 undef) :: (gs.getD 2 undef) :: .bool false :: ptr sb :: .slice (some ⟨va, 0, none⟩) 5 5 :: .slice (some ⟨wa, 0, none⟩) 5 5 :: ptr cb :: (gs.getD 3 undef) :: (gs.getD 4 undef) :: .int .i64 k :: (gs.getD 6 undef) :: (gs.getD 7 undef) :: (gs.getD 8 undef) :: (gs.getD 9 undef) :: (gs.getD 10 undef) :: (gs.getD 11 undef) :: (gs.getD 12 undef) :: (gs.getD 13 undef) :: (gs.getD 14 undef) :: (gs.getD 15 undef) :: (gs.getD 16 undef) :: (gs.getD 17 undef) :: (gs.getD 18 undef) :: (gs.getD 19 undef) :: (gs.getD 20 undef) :: (gs.getD 21 undef) :: (gs.getD 22 undef) :: (gs.getD 23 undef) :: (gs.getD 24 undef) :: (gs.getD 25 undef) :: (gs.getD 26 undef) :: (gs.getD 27 undef) :: (gs.getD 28 undef) :: (gs.getD 29 undef) :: (gs.getD 30 undef) :: (gs.getD 31 undef) :: (gs.getD 32 undef) :: (gs.getD 33 undef) :: (gs.getD 34 undef) :: (gs.getD 35 undef) :: (gs.getD 36 undef) :: (gs.getD 37 undef) :: (gs.getD 38 undef) :: (gs.getD 39 undef) :: (gs.getD 40 undef) :: (gs.getD 41 undef) :: (gs.getD 42 undef) :: (gs.getD 43 undef) :: (gs.getD 44 undef) :: (gs.getD 45 undef) :: .slice (some ⟨va, 0, none⟩) 5 5 :: .int .i64 5 :: .int .i64 (idx : Int) :: (gs.getD 49 undef) :: (gs.getD 50 undef) :: (gs.getD 51 undef) :: (gs.getD 52 undef) :: (gs.getD 53 undef) :: (gs.getD 54 undef) :: (gs.getD 55 undef) :: (gs.getD 56 undef) :: (gs.getD 57 undef) :: (gs.getD 58 undef) :: (gs.getD 59 undef) :: (gs.getD 60 undef) :: (gs.getD 61 undef) :: (gs.getD 62 undef) :: (gs.getD 63 undef) :: (gs.getD 64 undef) :: (gs.getD 65 undef) :: (gs.getD 66 undef) :: (gs.getD 67 undef) :: (gs.getD 68 undef) :: (gs.getD 69 undef) :: (gs.getD 70 undef) :: (gs.getD 71 undef) :: (gs.getD 72 undef) :: (gs.getD 73 undef) :: (gs.getD 74 undef) :: (gs.getD 75 undef) :: (gs.getD 76 undef) :: (gs.getD 77 undef) :: (gs.getD 78 undef) :: (gs.getD 79 undef) :: (gs.getD 80 undef) :: (gs.getD 81 undef) :: (gs.getD 82 undef) :: (gs.getD 83 undef) :: (gs.getD 84 undef) :: (gs.getD 85 undef) :: (gs.getD 86 undef) :: (gs.getD 87 undef) :: (gs.getD 88 undef) :: []), [clDefer sb]⟩ (.code (sel [1, 1, 1, 1, 1, 1, 1, 1, 1, 1, 1, 0, 1, 4, 4] bodyTt) :: [.inLoop (sel [1, 1, 1, 1, 1, 1, 1, 1, 1, 1, 1, 0, 1, 4, 4] bodyTt), .inBlock 2, .code (sel [1, 1, 1, 1, 1, 1, 1, 1, 1, 1, 1, 1] bodyTt)])) []
theorem texts_checks {main : Bool} {Z : Addr → Prop} {Stop : Goroutine → World → Prop} {w₀ u : World} {s : ByteArray} {sb va wa cb idx : Nat} {gs : List Value} {r : Value} (hk : ∀ gs, OwnU Try.prog main Z Stop w₀ (tcHead s sb va wa cb 0 1 gs) u) : OwnU Try.prog main Z Stop w₀ (G ((base 8).at ((trAct s sb va wa cb idx gs).put (((opsOf (sel [1, 1, 1, 1, 1, 1, 1, 1, 1, 0] bodyTt))[1]?).bind (·.dst)) r) (.inRegion (opsOf (sel [1, 1, 1, 1, 1, 1, 1, 1, 1, 0] bodyTt)) [] :: [.code (sel [1, 1, 1, 1, 1, 1, 1, 1, 1, 1] bodyTt)])) []) u := by
  refine ownU_region_end ?_
  refine ownU_lit (List.toArray (.string s :: (gs.getD 0 undef) :: (gs.getD 1 undef) :: (gs.getD 2 undef) :: .bool false :: ptr sb :: .slice (some ⟨va, 0, none⟩) 5 5 :: .slice (some ⟨wa, 0, none⟩) 5 5 :: ptr cb :: (gs.getD 3 undef) :: (gs.getD 4 undef) :: (gs.getD 5 undef) :: (gs.getD 6 undef) :: (gs.getD 7 undef) :: (gs.getD 8 undef) :: (gs.getD 9 undef) :: (gs.getD 10 undef) :: (gs.getD 11 undef) :: (gs.getD 12 undef) :: (gs.getD 13 undef) :: (gs.getD 14 undef) :: (gs.getD 15 undef) :: (gs.getD 16 undef) :: (gs.getD 17 undef) :: (gs.getD 18 undef) :: (gs.getD 19 undef) :: (gs.getD 20 undef) :: (gs.getD 21 undef) :: (gs.getD 22 undef) :: (gs.getD 23 undef) :: (gs.getD 24 undef) :: (gs.getD 25 undef) :: (gs.getD 26 undef) :: (gs.getD 27 undef) :: .slice (some ⟨va, 0, none⟩) 5 5 :: .int .i64 5 :: .int .i64 (idx : Int) :: .bool false :: (gs.getD 32 undef) :: (gs.getD 33 undef) :: (gs.getD 34 undef) :: (gs.getD 35 undef) :: (gs.getD 36 undef) :: (gs.getD 37 undef) :: (gs.getD 38 undef) :: (gs.getD 39 undef) :: (gs.getD 40 undef) :: (gs.getD 41 undef) :: (gs.getD 42 undef) :: (gs.getD 43 undef) :: ptr sb :: r :: (gs.getD 46 undef) :: (gs.getD 47 undef) :: (gs.getD 48 undef) :: (gs.getD 49 undef) :: (gs.getD 50 undef) :: (gs.getD 51 undef) :: (gs.getD 52 undef) :: (gs.getD 53 undef) :: (gs.getD 54 undef) :: (gs.getD 55 undef) :: (gs.getD 56 undef) :: (gs.getD 57 undef) :: (gs.getD 58 undef) :: (gs.getD 59 undef) :: (gs.getD 60 undef) :: (gs.getD 61 undef) :: (gs.getD 62 undef) :: (gs.getD 63 undef) :: (gs.getD 64 undef) :: (gs.getD 65 undef) :: (gs.getD 66 undef) :: (gs.getD 67 undef) :: (gs.getD 68 undef) :: (gs.getD 69 undef) :: (gs.getD 70 undef) :: (gs.getD 71 undef) :: (gs.getD 72 undef) :: (gs.getD 73 undef) :: (gs.getD 74 undef) :: (gs.getD 75 undef) :: (gs.getD 76 undef) :: (gs.getD 77 undef) :: (gs.getD 78 undef) :: (gs.getD 79 undef) :: (gs.getD 80 undef) :: (gs.getD 81 undef) :: (gs.getD 82 undef) :: (gs.getD 83 undef) :: (gs.getD 84 undef) :: (gs.getD 85 undef) :: (gs.getD 86 undef) :: (gs.getD 87 undef) :: (gs.getD 88 undef) :: [])) [clDefer sb] (by kernel_rfl) (by kernel_rfl) ?_
  refine ownU_seq (x := sel [1, 1, 1, 1, 1, 1, 1, 1, 1, 1, 0] bodyTt) (y := sel [1, 1, 1, 1, 1, 1, 1, 1, 1, 1, 1] bodyTt) ?_
  refine ownU_region (id := 18) (ops := opsOf (sel [1, 1, 1, 1, 1, 1, 1, 1, 1, 1, 0] bodyTt)) ?_
  refine ownU_quiet (i := 0) (rest := []) (.int .i64 1) rfl (by rfl) rfl (by decide) (fun _ => by kernel_rfl) ?_
  refine ownU_region_end ?_
  refine ownU_lit (List.toArray (.string s :: (gs.getD 0 undef) :: (gs.getD 1 undef) :: (gs.getD 2 undef) :: .bool false :: ptr sb :: .slice (some ⟨va, 0, none⟩) 5 5 :: .slice (some ⟨wa, 0, none⟩) 5 5 :: ptr cb :: (gs.getD 3 undef) :: (gs.getD 4 undef) :: .int .i64 1 :: (gs.getD 6 undef) :: (gs.getD 7 undef) :: (gs.getD 8 undef) :: (gs.getD 9 undef) :: (gs.getD 10 undef) :: (gs.getD 11 undef) :: (gs.getD 12 undef) :: (gs.getD 13 undef) :: (gs.getD 14 undef) :: (gs.getD 15 undef) :: (gs.getD 16 undef) :: (gs.getD 17 undef) :: (gs.getD 18 undef) :: (gs.getD 19 undef) :: (gs.getD 20 undef) :: (gs.getD 21 undef) :: (gs.getD 22 undef) :: (gs.getD 23 undef) :: (gs.getD 24 undef) :: (gs.getD 25 undef) :: (gs.getD 26 undef) :: (gs.getD 27 undef) :: .slice (some ⟨va, 0, none⟩) 5 5 :: .int .i64 5 :: .int .i64 (idx : Int) :: .bool false :: (gs.getD 32 undef) :: (gs.getD 33 undef) :: (gs.getD 34 undef) :: (gs.getD 35 undef) :: (gs.getD 36 undef) :: (gs.getD 37 undef) :: (gs.getD 38 undef) :: (gs.getD 39 undef) :: (gs.getD 40 undef) :: (gs.getD 41 undef) :: (gs.getD 42 undef) :: (gs.getD 43 undef) :: ptr sb :: r :: (gs.getD 46 undef) :: (gs.getD 47 undef) :: (gs.getD 48 undef) :: (gs.getD 49 undef) :: (gs.getD 50 undef) :: (gs.getD 51 undef) :: (gs.getD 52 undef) :: (gs.getD 53 undef) :: (gs.getD 54 undef) :: (gs.getD 55 undef) :: (gs.getD 56 undef) :: (gs.getD 57 undef) :: (gs.getD 58 undef) :: (gs.getD 59 undef) :: (gs.getD 60 undef) :: (gs.getD 61 undef) :: (gs.getD 62 undef) :: (gs.getD 63 undef) :: (gs.getD 64 undef) :: (gs.getD 65 undef) :: (gs.getD 66 undef) :: (gs.getD 67 undef) :: (gs.getD 68 undef) :: (gs.getD 69 undef) :: (gs.getD 70 undef) :: (gs.getD 71 undef) :: (gs.getD 72 undef) :: (gs.getD 73 undef) :: (gs.getD 74 undef) :: (gs.getD 75 undef) :: (gs.getD 76 undef) :: (gs.getD 77 undef) :: (gs.getD 78 undef) :: (gs.getD 79 undef) :: (gs.getD 80 undef) :: (gs.getD 81 undef) :: (gs.getD 82 undef) :: (gs.getD 83 undef) :: (gs.getD 84 undef) :: (gs.getD 85 undef) :: (gs.getD 86 undef) :: (gs.getD 87 undef) :: (gs.getD 88 undef) :: [])) [clDefer sb] (by kernel_rfl) (by kernel_rfl) ?_
  refine ownU_seq (x := sel [1, 1, 1, 1, 1, 1, 1, 1, 1, 1, 1, 0] bodyTt) (y := sel [1, 1, 1, 1, 1, 1, 1, 1, 1, 1, 1, 1] bodyTt) ?_
  refine ownU_seq (x := sel [1, 1, 1, 1, 1, 1, 1, 1, 1, 1, 1, 0, 0] bodyTt) (y := sel [1, 1, 1, 1, 1, 1, 1, 1, 1, 1, 1, 0, 1] bodyTt) ?_
  refine ownU_region (id := 19) (ops := opsOf (sel [1, 1, 1, 1, 1, 1, 1, 1, 1, 1, 1, 0, 0] bodyTt)) ?_
  refine ownU_quiet (i := 0) (rest := [1, 2]) (.slice (some ⟨va, 0, none⟩) 5 5) rfl (by rfl) rfl (by decide) (fun _ => by kernel_rfl) ?_
  refine ownU_quiet (i := 1) (rest := [2]) (.int .i64 5) rfl (by rfl) rfl (by decide) (fun _ => by kernel_rfl) ?_
  refine ownU_quiet (i := 2) (rest := []) (.int .i64 0) rfl (by rfl) rfl (by decide) (fun _ => by kernel_rfl) ?_
  refine ownU_region_end ?_
  refine ownU_block (id := 2) (c := sel [1, 1, 1, 1, 1, 1, 1, 1, 1, 1, 1, 0, 1, 4] bodyTt) ?_
  refine ownU_loop (c := sel [1, 1, 1, 1, 1, 1, 1, 1, 1, 1, 1, 0, 1, 4, 4] bodyTt) ?_
  exact ownU_eq (by kernel_rfl) (hk [(gs.getD 0 undef), (gs.getD 1 undef), (gs.getD 2 undef), (gs.getD 3 undef), (gs.getD 4 undef), .int .i64 1, (gs.getD 6 undef), (gs.getD 7 undef), (gs.getD 8 undef), (gs.getD 9 undef), (gs.getD 10 undef), (gs.getD 11 undef), (gs.getD 12 undef), (gs.getD 13 undef), (gs.getD 14 undef), (gs.getD 15 undef), (gs.getD 16 undef), (gs.getD 17 undef), (gs.getD 18 undef), (gs.getD 19 undef), (gs.getD 20 undef), (gs.getD 21 undef), (gs.getD 22 undef), (gs.getD 23 undef), (gs.getD 24 undef), (gs.getD 25 undef), (gs.getD 26 undef), (gs.getD 27 undef), .slice (some ⟨va, 0, none⟩) 5 5, .int .i64 5, .int .i64 (idx : Int), .bool false, (gs.getD 32 undef), (gs.getD 33 undef), (gs.getD 34 undef), (gs.getD 35 undef), (gs.getD 36 undef), (gs.getD 37 undef), (gs.getD 38 undef), (gs.getD 39 undef), (gs.getD 40 undef), (gs.getD 41 undef), (gs.getD 42 undef), (gs.getD 43 undef), ptr sb, r, .slice (some ⟨va, 0, none⟩) 5 5, .int .i64 5, .int .i64 0, (gs.getD 49 undef), (gs.getD 50 undef), (gs.getD 51 undef), (gs.getD 52 undef), (gs.getD 53 undef), (gs.getD 54 undef), (gs.getD 55 undef), (gs.getD 56 undef), (gs.getD 57 undef), (gs.getD 58 undef), (gs.getD 59 undef), (gs.getD 60 undef), (gs.getD 61 undef), (gs.getD 62 undef), (gs.getD 63 undef), (gs.getD 64 undef), (gs.getD 65 undef), (gs.getD 66 undef), (gs.getD 67 undef), (gs.getD 68 undef), (gs.getD 69 undef), (gs.getD 70 undef), (gs.getD 71 undef), (gs.getD 72 undef), (gs.getD 73 undef), (gs.getD 74 undef), (gs.getD 75 undef), (gs.getD 76 undef), (gs.getD 77 undef), (gs.getD 78 undef), (gs.getD 79 undef), (gs.getD 80 undef), (gs.getD 81 undef), (gs.getD 82 undef), (gs.getD 83 undef), (gs.getD 84 undef), (gs.getD 85 undef), (gs.getD 86 undef), (gs.getD 87 undef), (gs.getD 88 undef)])
theorem texts_checkskip {main : Bool} {Z : Addr → Prop} {Stop : Goroutine → World → Prop} {w₀ u : World} {s : ByteArray} {sb va wa cb idx : Nat} {gs : List Value} {k : Int} (h3 : idx = 3) (hi : IntKind.i64.wrap ((idx : Int) + 1) = ((idx + 1 : Nat) : Int)) (hk : ∀ gs, OwnU Try.prog main Z Stop w₀ (tcHead s sb va wa cb (idx + 1) k gs) u) : OwnU Try.prog main Z Stop w₀ (tcHead s sb va wa cb idx k gs) u := by
  unfold tcHead at *
  refine ownU_seq (x := sel [1, 1, 1, 1, 1, 1, 1, 1, 1, 1, 1, 0, 1, 4, 4, 0] bodyTt) (y := sel [1, 1, 1, 1, 1, 1, 1, 1, 1, 1, 1, 0, 1, 4, 4, 1] bodyTt) ?_
  refine ownU_region (id := 20) (ops := opsOf (sel [1, 1, 1, 1, 1, 1, 1, 1, 1, 1, 1, 0, 1, 4, 4, 0] bodyTt)) ?_
  refine ownU_quiet (i := 0) (rest := []) (.bool true) rfl (by rfl) rfl (by decide) (fun _ => lss_v (p := (idx : Int)) (q := 5) rfl (by kernel_rfl) (by kernel_rfl) (by simp; omega)) ?_
  refine ownU_region_end ?_
  refine ownU_seq (x := sel [1, 1, 1, 1, 1, 1, 1, 1, 1, 1, 1, 0, 1, 4, 4, 1, 0] bodyTt) (y := sel [1, 1, 1, 1, 1, 1, 1, 1, 1, 1, 1, 0, 1, 4, 4, 1, 1] bodyTt) ?_
  refine ownU_cond (c := .tmp 55) (x := .skip) (y := .exit 2) (t := true) (by kernel_rfl) ?_
  refine ownU_skip ?_
  refine ownU_seq (x := sel [1, 1, 1, 1, 1, 1, 1, 1, 1, 1, 1, 0, 1, 4, 4, 1, 1, 0] bodyTt) (y := sel [1, 1, 1, 1, 1, 1, 1, 1, 1, 1, 1, 0, 1, 4, 4, 1, 1, 1] bodyTt) ?_
  refine ownU_block (id := 3) (c := sel [1, 1, 1, 1, 1, 1, 1, 1, 1, 1, 1, 0, 1, 4, 4, 1, 1, 0, 4] bodyTt) ?_
  refine ownU_seq (x := sel [1, 1, 1, 1, 1, 1, 1, 1, 1, 1, 1, 0, 1, 4, 4, 1, 1, 0, 4, 0] bodyTt) (y := sel [1, 1, 1, 1, 1, 1, 1, 1, 1, 1, 1, 0, 1, 4, 4, 1, 1, 0, 4, 1] bodyTt) ?_
  refine ownU_region (id := 21) (ops := opsOf (sel [1, 1, 1, 1, 1, 1, 1, 1, 1, 1, 1, 0, 1, 4, 4, 1, 1, 0, 4, 0] bodyTt)) ?_
  refine ownU_quiet (i := 0) (rest := [1]) (.int .i64 (idx : Int)) rfl (by rfl) rfl (by decide) (fun _ => by kernel_rfl) ?_
  refine ownU_quiet (i := 1) (rest := []) (.int .i64 (idx : Int)) rfl (by rfl) rfl (by decide) (fun _ => by kernel_rfl) ?_
  refine ownU_region_end ?_
  refine ownU_lit (List.toArray (.string s :: (gs.getD 0 undef) :: (gs.getD 1 undef) :: (gs.getD 2 undef) :: .bool false :: ptr sb :: .slice (some ⟨va, 0, none⟩) 5 5 :: .slice (some ⟨wa, 0, none⟩) 5 5 :: ptr cb :: (gs.getD 3 undef) :: (gs.getD 4 undef) :: .int .i64 k :: .int .i64 (idx : Int) :: (gs.getD 7 undef) :: (gs.getD 8 undef) :: (gs.getD 9 undef) :: (gs.getD 10 undef) :: (gs.getD 11 undef) :: (gs.getD 12 undef) :: (gs.getD 13 undef) :: (gs.getD 14 undef) :: (gs.getD 15 undef) :: (gs.getD 16 undef) :: (gs.getD 17 undef) :: (gs.getD 18 undef) :: (gs.getD 19 undef) :: (gs.getD 20 undef) :: (gs.getD 21 undef) :: (gs.getD 22 undef) :: (gs.getD 23 undef) :: (gs.getD 24 undef) :: (gs.getD 25 undef) :: (gs.getD 26 undef) :: (gs.getD 27 undef) :: (gs.getD 28 undef) :: (gs.getD 29 undef) :: (gs.getD 30 undef) :: (gs.getD 31 undef) :: (gs.getD 32 undef) :: (gs.getD 33 undef) :: (gs.getD 34 undef) :: (gs.getD 35 undef) :: (gs.getD 36 undef) :: (gs.getD 37 undef) :: (gs.getD 38 undef) :: (gs.getD 39 undef) :: (gs.getD 40 undef) :: (gs.getD 41 undef) :: (gs.getD 42 undef) :: (gs.getD 43 undef) :: (gs.getD 44 undef) :: (gs.getD 45 undef) :: .slice (some ⟨va, 0, none⟩) 5 5 :: .int .i64 5 :: .int .i64 (idx : Int) :: .bool true :: .int .i64 (idx : Int) :: (gs.getD 51 undef) :: (gs.getD 52 undef) :: (gs.getD 53 undef) :: (gs.getD 54 undef) :: (gs.getD 55 undef) :: (gs.getD 56 undef) :: (gs.getD 57 undef) :: (gs.getD 58 undef) :: (gs.getD 59 undef) :: (gs.getD 60 undef) :: (gs.getD 61 undef) :: (gs.getD 62 undef) :: (gs.getD 63 undef) :: (gs.getD 64 undef) :: (gs.getD 65 undef) :: (gs.getD 66 undef) :: (gs.getD 67 undef) :: (gs.getD 68 undef) :: (gs.getD 69 undef) :: (gs.getD 70 undef) :: (gs.getD 71 undef) :: (gs.getD 72 undef) :: (gs.getD 73 undef) :: (gs.getD 74 undef) :: (gs.getD 75 undef) :: (gs.getD 76 undef) :: (gs.getD 77 undef) :: (gs.getD 78 undef) :: (gs.getD 79 undef) :: (gs.getD 80 undef) :: (gs.getD 81 undef) :: (gs.getD 82 undef) :: (gs.getD 83 undef) :: (gs.getD 84 undef) :: (gs.getD 85 undef) :: (gs.getD 86 undef) :: (gs.getD 87 undef) :: (gs.getD 88 undef) :: [])) [clDefer sb] (by kernel_rfl) (by kernel_rfl) ?_
  refine ownU_seq (x := sel [1, 1, 1, 1, 1, 1, 1, 1, 1, 1, 1, 0, 1, 4, 4, 1, 1, 0, 4, 1, 0] bodyTt) (y := sel [1, 1, 1, 1, 1, 1, 1, 1, 1, 1, 1, 0, 1, 4, 4, 1, 1, 0, 4, 1, 1] bodyTt) ?_
  refine ownU_seq (x := sel [1, 1, 1, 1, 1, 1, 1, 1, 1, 1, 1, 0, 1, 4, 4, 1, 1, 0, 4, 1, 0, 0] bodyTt) (y := sel [1, 1, 1, 1, 1, 1, 1, 1, 1, 1, 1, 0, 1, 4, 4, 1, 1, 0, 4, 1, 0, 1] bodyTt) ?_
  refine ownU_region (id := 22) (ops := opsOf (sel [1, 1, 1, 1, 1, 1, 1, 1, 1, 1, 1, 0, 1, 4, 4, 1, 1, 0, 4, 1, 0, 0] bodyTt)) ?_
  refine ownU_quiet (i := 0) (rest := [1]) (.int .i64 (idx : Int)) rfl (by rfl) rfl (by decide) (fun _ => by kernel_rfl) ?_
  refine ownU_quiet (i := 1) (rest := []) (.bool true) rfl (by rfl) rfl (by decide) (fun _ => eql_f (p := (idx : Int)) (q := 3) rfl (by kernel_rfl) (by kernel_rfl) (by simp; omega)) ?_
  refine ownU_region_end ?_
  refine ownU_cond (c := .tmp 58) (x := .exit 3) (y := .skip) (t := true) (by kernel_rfl) ?_
  refine ownU_exit (k' := .code (sel [1, 1, 1, 1, 1, 1, 1, 1, 1, 1, 1, 0, 1, 4, 4, 1, 1, 1] bodyTt) :: [.inLoop (sel [1, 1, 1, 1, 1, 1, 1, 1, 1, 1, 1, 0, 1, 4, 4] bodyTt), .inBlock 2, .code (sel [1, 1, 1, 1, 1, 1, 1, 1, 1, 1, 1, 1] bodyTt)]) rfl ?_
  refine ownU_lit (List.toArray (.string s :: (gs.getD 0 undef) :: (gs.getD 1 undef) :: (gs.getD 2 undef) :: .bool false :: ptr sb :: .slice (some ⟨va, 0, none⟩) 5 5 :: .slice (some ⟨wa, 0, none⟩) 5 5 :: ptr cb :: (gs.getD 3 undef) :: (gs.getD 4 undef) :: .int .i64 k :: .int .i64 (idx : Int) :: (gs.getD 7 undef) :: (gs.getD 8 undef) :: (gs.getD 9 undef) :: (gs.getD 10 undef) :: (gs.getD 11 undef) :: (gs.getD 12 undef) :: (gs.getD 13 undef) :: (gs.getD 14 undef) :: (gs.getD 15 undef) :: (gs.getD 16 undef) :: (gs.getD 17 undef) :: (gs.getD 18 undef) :: (gs.getD 19 undef) :: (gs.getD 20 undef) :: (gs.getD 21 undef) :: (gs.getD 22 undef) :: (gs.getD 23 undef) :: (gs.getD 24 undef) :: (gs.getD 25 undef) :: (gs.getD 26 undef) :: (gs.getD 27 undef) :: (gs.getD 28 undef) :: (gs.getD 29 undef) :: (gs.getD 30 undef) :: (gs.getD 31 undef) :: (gs.getD 32 undef) :: (gs.getD 33 undef) :: (gs.getD 34 undef) :: (gs.getD 35 undef) :: (gs.getD 36 undef) :: (gs.getD 37 undef) :: (gs.getD 38 undef) :: (gs.getD 39 undef) :: (gs.getD 40 undef) :: (gs.getD 41 undef) :: (gs.getD 42 undef) :: (gs.getD 43 undef) :: (gs.getD 44 undef) :: (gs.getD 45 undef) :: .slice (some ⟨va, 0, none⟩) 5 5 :: .int .i64 5 :: .int .i64 (idx : Int) :: .bool true :: .int .i64 (idx : Int) :: .int .i64 (idx : Int) :: .bool true :: (gs.getD 53 undef) :: (gs.getD 54 undef) :: (gs.getD 55 undef) :: (gs.getD 56 undef) :: (gs.getD 57 undef) :: (gs.getD 58 undef) :: (gs.getD 59 undef) :: (gs.getD 60 undef) :: (gs.getD 61 undef) :: (gs.getD 62 undef) :: (gs.getD 63 undef) :: (gs.getD 64 undef) :: (gs.getD 65 undef) :: (gs.getD 66 undef) :: (gs.getD 67 undef) :: (gs.getD 68 undef) :: (gs.getD 69 undef) :: (gs.getD 70 undef) :: (gs.getD 71 undef) :: (gs.getD 72 undef) :: (gs.getD 73 undef) :: (gs.getD 74 undef) :: (gs.getD 75 undef) :: (gs.getD 76 undef) :: (gs.getD 77 undef) :: (gs.getD 78 undef) :: (gs.getD 79 undef) :: (gs.getD 80 undef) :: (gs.getD 81 undef) :: (gs.getD 82 undef) :: (gs.getD 83 undef) :: (gs.getD 84 undef) :: (gs.getD 85 undef) :: (gs.getD 86 undef) :: (gs.getD 87 undef) :: (gs.getD 88 undef) :: [])) [clDefer sb] (by kernel_rfl) (by kernel_rfl) ?_
  refine ownU_region (id := 26) (ops := opsOf (sel [1, 1, 1, 1, 1, 1, 1, 1, 1, 1, 1, 0, 1, 4, 4, 1, 1, 1] bodyTt)) ?_
  refine ownU_quiet (i := 0) (rest := [1]) (.int .i64 ((idx + 1 : Nat) : Int)) rfl (by rfl) rfl (by decide) (fun _ => by rw [← hi]; kernel_rfl) ?_
  refine ownU_quiet (i := 1) (rest := []) (.int .i64 ((idx + 1 : Nat) : Int)) rfl (by rfl) rfl (by decide) (fun _ => by kernel_rfl) ?_
  refine ownU_region_end ?_
  refine ownU_inLoop ?_
  exact ownU_eq (by kernel_rfl) (hk [(gs.getD 0 undef), (gs.getD 1 undef), (gs.getD 2 undef), (gs.getD 3 undef), (gs.getD 4 undef), .int .i64 k, .int .i64 (idx : Int), (gs.getD 7 undef), (gs.getD 8 undef), (gs.getD 9 undef), (gs.getD 10 undef), (gs.getD 11 undef), (gs.getD 12 undef), (gs.getD 13 undef), (gs.getD 14 undef), (gs.getD 15 undef), (gs.getD 16 undef), (gs.getD 17 undef), (gs.getD 18 undef), (gs.getD 19 undef), (gs.getD 20 undef), (gs.getD 21 undef), (gs.getD 22 undef), (gs.getD 23 undef), (gs.getD 24 undef), (gs.getD 25 undef), (gs.getD 26 undef), (gs.getD 27 undef), (gs.getD 28 undef), (gs.getD 29 undef), (gs.getD 30 undef), (gs.getD 31 undef), (gs.getD 32 undef), (gs.getD 33 undef), (gs.getD 34 undef), (gs.getD 35 undef), (gs.getD 36 undef), (gs.getD 37 undef), (gs.getD 38 undef), (gs.getD 39 undef), (gs.getD 40 undef), (gs.getD 41 undef), (gs.getD 42 undef), (gs.getD 43 undef), (gs.getD 44 undef), (gs.getD 45 undef), .slice (some ⟨va, 0, none⟩) 5 5, .int .i64 5, .int .i64 ((idx + 1 : Nat) : Int), .bool true, .int .i64 (idx : Int), .int .i64 (idx : Int), .bool true, (gs.getD 53 undef), (gs.getD 54 undef), (gs.getD 55 undef), (gs.getD 56 undef), (gs.getD 57 undef), (gs.getD 58 undef), (gs.getD 59 undef), (gs.getD 60 undef), (gs.getD 61 undef), (gs.getD 62 undef), (gs.getD 63 undef), (gs.getD 64 undef), (gs.getD 65 undef), (gs.getD 66 undef), (gs.getD 67 undef), (gs.getD 68 undef), (gs.getD 69 undef), (gs.getD 70 undef), (gs.getD 71 undef), (gs.getD 72 undef), (gs.getD 73 undef), (gs.getD 74 undef), (gs.getD 75 undef), (gs.getD 76 undef), (gs.getD 77 undef), (gs.getD 78 undef), (gs.getD 79 undef), (gs.getD 80 undef), (gs.getD 81 undef), (gs.getD 82 undef), .int .i64 ((idx + 1 : Nat) : Int), (gs.getD 84 undef), (gs.getD 85 undef), (gs.getD 86 undef), (gs.getD 87 undef), (gs.getD 88 undef)])
/-- The slots, as far as the region has come. -/
def tkAct (s : ByteArray) (sb : Nat) (va : Nat) (wa : Nat) (cb : Nat) (idx : Nat) (k : Int) (k1 : Int) (ad : Addr) (tx : ByteArray) (gs : List Value) (l : Array Bool) : Act := ⟨List.toArray ((.string s) :: ((gs.getD 0 undef)) :: ((gs.getD 1 undef)) :: ((gs.getD 2 undef)) :: (.bool false) :: (ptr sb) :: (.slice (some ⟨va, 0, none⟩) 5 5) :: (.slice (some ⟨wa, 0, none⟩) 5 5) :: (ptr cb) :: ((gs.getD 3 undef)) :: ((gs.getD 4 undef)) :: (.int .i64 k) :: (.int .i64 (idx : Int)) :: ((gs.getD 7 undef)) :: ((gs.getD 8 undef)) :: ((gs.getD 9 undef)) :: ((gs.getD 10 undef)) :: ((gs.getD 11 undef)) :: ((gs.getD 12 undef)) :: ((gs.getD 13 undef)) :: ((gs.getD 14 undef)) :: ((gs.getD 15 undef)) :: ((gs.getD 16 undef)) :: ((gs.getD 17 undef)) :: ((gs.getD 18 undef)) :: ((gs.getD 19 undef)) :: ((gs.getD 20 undef)) :: ((gs.getD 21 undef)) :: ((gs.getD 22 undef)) :: ((gs.getD 23 undef)) :: ((gs.getD 24 undef)) :: ((gs.getD 25 undef)) :: ((gs.getD 26 undef)) :: ((gs.getD 27 undef)) :: ((gs.getD 28 undef)) :: ((gs.getD 29 undef)) :: ((gs.getD 30 undef)) :: ((gs.getD 31 undef)) :: ((gs.getD 32 undef)) :: ((gs.getD 33 undef)) :: ((gs.getD 34 undef)) :: ((gs.getD 35 undef)) :: ((gs.getD 36 undef)) :: ((gs.getD 37 undef)) :: ((gs.getD 38 undef)) :: ((gs.getD 39 undef)) :: ((gs.getD 40 undef)) :: ((gs.getD 41 undef)) :: ((gs.getD 42 undef)) :: ((gs.getD 43 undef)) :: ((gs.getD 44 undef)) :: ((gs.getD 45 undef)) :: (.slice (some ⟨va, 0, none⟩) 5 5) :: (.int .i64 5) :: (.int .i64 (idx : Int)) :: (.bool true) :: (.int .i64 (idx : Int)) :: (.int .i64 (idx : Int)) :: (.bool false) :: (cond (l.getD 0 false) (ptr sb) ((gs.getD 53 undef))) :: (cond (l.getD 1 false) (.int .i64 k) ((gs.getD 54 undef))) :: (cond (l.getD 2 false) (.int .i64 4) ((gs.getD 55 undef))) :: (cond (l.getD 3 false) (.bool false) ((gs.getD 56 undef))) :: (cond (l.getD 4 false) (.bool false) ((gs.getD 57 undef))) :: (cond (l.getD 5 false) (ptr sb) ((gs.getD 58 undef))) :: (cond (l.getD 6 false) (.int .i64 k) ((gs.getD 59 undef))) :: (cond (l.getD 7 false) (.string tx) ((gs.getD 60 undef))) :: (cond (l.getD 8 false) (.slice (some ⟨wa, 0, none⟩) 5 5) ((gs.getD 61 undef))) :: (cond (l.getD 9 false) (.int .i64 (idx : Int)) ((gs.getD 62 undef))) :: (cond (l.getD 10 false) (.pointer (some ad)) ((gs.getD 63 undef))) :: (cond (l.getD 11 false) (.string tx) ((gs.getD 64 undef))) :: (cond (l.getD 12 false) (.bool false) ((gs.getD 65 undef))) :: (cond (l.getD 13 false) (.bool false) ((gs.getD 66 undef))) :: (cond (l.getD 14 false) (.bool false) ((gs.getD 67 undef))) :: (cond (l.getD 15 false) (ptr sb) ((gs.getD 68 undef))) :: (cond (l.getD 16 false) (.int .i64 k) ((gs.getD 69 undef))) :: (cond (l.getD 17 false) (.int .i64 k1) ((gs.getD 70 undef))) :: (cond (l.getD 18 false) (.int .i64 3) ((gs.getD 71 undef))) :: (cond (l.getD 19 false) (.bool false) ((gs.getD 72 undef))) :: (cond (l.getD 20 false) (.bool false) ((gs.getD 73 undef))) :: (cond (l.getD 21 false) (.bool false) ((gs.getD 74 undef))) :: (cond (l.getD 22 false) (ptr sb) ((gs.getD 75 undef))) :: (cond (l.getD 23 false) (.int .i64 k) ((gs.getD 76 undef))) :: (cond (l.getD 24 false) (.int .i64 k1) ((gs.getD 77 undef))) :: (cond (l.getD 25 false) (.string ByteArray.empty) ((gs.getD 78 undef))) :: (cond (l.getD 26 false) (.bool false) ((gs.getD 79 undef))) :: (cond (l.getD 27 false) (.bool false) ((gs.getD 80 undef))) :: ((gs.getD 81 undef)) :: ((gs.getD 82 undef)) :: ((gs.getD 83 undef)) :: ((gs.getD 84 undef)) :: ((gs.getD 85 undef)) :: ((gs.getD 86 undef)) :: ((gs.getD 87 undef)) :: ((gs.getD 88 undef)) :: []), [clDefer sb]⟩
def tkSt (main : Bool) (Z : Addr → Prop) (Stop : Goroutine → World → Prop) (w₀ : World) (K : List Item) (cs : List Frame) (s : ByteArray) (sb : Nat) (va : Nat) (wa : Nat) (cb : Nat) (idx : Nat) (k : Int) (k1 : Int) (ad : Addr) (tx : ByteArray) (gs : List Value) (f : Nat) (l : Array Bool) (w : World) : Prop :=
  ∀ A d, SchedU Try.prog main Z Stop w₀ (base 8) (opsOf (sel [1, 1, 1, 1, 1, 1, 1, 1, 1, 1, 1, 0, 1, 4, 4, 1, 1, 0, 4, 1, 1, 0, 0] bodyTt)) K cs f l (tkAct s sb va wa cb idx k k1 ad tx gs l) (tp w A d)
theorem tk_own {main : Bool} {Z : Addr → Prop} {Stop : Goroutine → World → Prop} {w₀ u : World} {s : ByteArray} {sb va wa cb idx : Nat} {gs : List Value} {k k1 : Int} {ad : Addr} {tx : ByteArray} {K : List Item} {cs : List Frame} (had : (⟨wa, 0, none⟩ : Addr).add idx = ad) (hidx : idx < 5) (hw : u.cell? ad = some (.string tx)) (hk1 : IntKind.i64.wrap (k + 1) = k1)
    (h1 : ∀ A d, Calls Try.prog 43 #[ptr sb, .int .i64 k] (tp u A d) fun e w' => e = .returned (.int .i64 4) ∧ ∃ A d, w' = tp u A d) (h2 : ∀ A d, Calls Try.prog 44 #[ptr sb, .int .i64 k] (tp u A d) fun e w' => e = .returned (.string tx) ∧ ∃ A d, w' = tp u A d)
    (h3 : ∀ A d, Calls Try.prog 43 #[ptr sb, .int .i64 k1] (tp u A d) fun e w' => e = .returned (.int .i64 3) ∧ ∃ A d, w' = tp u A d) (h4 : ∀ A d, Calls Try.prog 44 #[ptr sb, .int .i64 k1] (tp u A d) fun e w' => e = .returned (.string ByteArray.empty) ∧ ∃ A d, w' = tp u A d)
    (hk : OwnU Try.prog main Z Stop w₀ (G ((base 8).at ⟨List.toArray (.string s :: (gs.getD 0 undef) :: (gs.getD 1 undef) :: (gs.getD 2 undef) :: .bool false :: ptr sb :: .slice (some ⟨va, 0, none⟩) 5 5 :: .slice (some ⟨wa, 0, none⟩) 5 5 :: ptr cb :: (gs.getD 3 undef) :: (gs.getD 4 undef) :: .int .i64 k :: .int .i64 (idx : Int) :: (gs.getD 7 undef) :: (gs.getD 8 undef) :: (gs.getD 9 undef) :: (gs.getD 10 undef) :: (gs.getD 11 undef) :: (gs.getD 12 undef) :: (gs.getD 13 undef) :: (gs.getD 14 undef) :: (gs.getD 15 undef) :: (gs.getD 16 undef) :: (gs.getD 17 undef) :: (gs.getD 18 undef) :: (gs.getD 19 undef) :: (gs.getD 20 undef) :: (gs.getD 21 undef) :: (gs.getD 22 undef) :: (gs.getD 23 undef) :: (gs.getD 24 undef) :: (gs.getD 25 undef) :: (gs.getD 26 undef) :: (gs.getD 27 undef) :: (gs.getD 28 undef) :: (gs.getD 29 undef) :: (gs.getD 30 undef) :: (gs.getD 31 undef) :: (gs.getD 32 undef) :: (gs.getD 33 undef) :: (gs.getD 34 undef) :: (gs.getD 35 undef) :: (gs.getD 36 undef) :: (gs.getD 37 undef) :: (gs.getD 38 undef) :: (gs.getD 39 undef) :: (gs.getD 40 undef) :: (gs.getD 41 undef) :: (gs.getD 42 undef) :: (gs.getD 43 undef) :: (gs.getD 44 undef) :: (gs.getD 45 undef) :: .slice (some ⟨va, 0, none⟩) 5 5 :: .int .i64 5 :: .int .i64 (idx : Int) :: .bool true :: .int .i64 (idx : Int) :: .int .i64 (idx : Int) :: .bool false :: ptr sb :: .int .i64 k :: .int .i64 4 :: .bool false :: .bool false :: ptr sb :: .int .i64 k :: .string tx :: .slice (some ⟨wa, 0, none⟩) 5 5 :: .int .i64 (idx : Int) :: .pointer (some ad) :: .string tx :: .bool false :: .bool false :: .bool false :: ptr sb :: .int .i64 k :: .int .i64 k1 :: .int .i64 3 :: .bool false :: .bool false :: .bool false :: ptr sb :: .int .i64 k :: .int .i64 k1 :: .string ByteArray.empty :: .bool false :: .bool false :: (gs.getD 81 undef) :: (gs.getD 82 undef) :: (gs.getD 83 undef) :: (gs.getD 84 undef) :: (gs.getD 85 undef) :: (gs.getD 86 undef) :: (gs.getD 87 undef) :: (gs.getD 88 undef) :: []), [clDefer sb]⟩ K) cs) u) : OwnU Try.prog main Z Stop w₀ (G ((base 8).at ⟨List.toArray (.string s :: (gs.getD 0 undef) :: (gs.getD 1 undef) :: (gs.getD 2 undef) :: .bool false :: ptr sb :: .slice (some ⟨va, 0, none⟩) 5 5 :: .slice (some ⟨wa, 0, none⟩) 5 5 :: ptr cb :: (gs.getD 3 undef) :: (gs.getD 4 undef) :: .int .i64 k :: .int .i64 (idx : Int) :: (gs.getD 7 undef) :: (gs.getD 8 undef) :: (gs.getD 9 undef) :: (gs.getD 10 undef) :: (gs.getD 11 undef) :: (gs.getD 12 undef) :: (gs.getD 13 undef) :: (gs.getD 14 undef) :: (gs.getD 15 undef) :: (gs.getD 16 undef) :: (gs.getD 17 undef) :: (gs.getD 18 undef) :: (gs.getD 19 undef) :: (gs.getD 20 undef) :: (gs.getD 21 undef) :: (gs.getD 22 undef) :: (gs.getD 23 undef) :: (gs.getD 24 undef) :: (gs.getD 25 undef) :: (gs.getD 26 undef) :: (gs.getD 27 undef) :: (gs.getD 28 undef) :: (gs.getD 29 undef) :: (gs.getD 30 undef) :: (gs.getD 31 undef) :: (gs.getD 32 undef) :: (gs.getD 33 undef) :: (gs.getD 34 undef) :: (gs.getD 35 undef) :: (gs.getD 36 undef) :: (gs.getD 37 undef) :: (gs.getD 38 undef) :: (gs.getD 39 undef) :: (gs.getD 40 undef) :: (gs.getD 41 undef) :: (gs.getD 42 undef) :: (gs.getD 43 undef) :: (gs.getD 44 undef) :: (gs.getD 45 undef) :: .slice (some ⟨va, 0, none⟩) 5 5 :: .int .i64 5 :: .int .i64 (idx : Int) :: .bool true :: .int .i64 (idx : Int) :: .int .i64 (idx : Int) :: .bool false :: (gs.getD 53 undef) :: (gs.getD 54 undef) :: (gs.getD 55 undef) :: (gs.getD 56 undef) :: (gs.getD 57 undef) :: (gs.getD 58 undef) :: (gs.getD 59 undef) :: (gs.getD 60 undef) :: (gs.getD 61 undef) :: (gs.getD 62 undef) :: (gs.getD 63 undef) :: (gs.getD 64 undef) :: (gs.getD 65 undef) :: (gs.getD 66 undef) :: (gs.getD 67 undef) :: (gs.getD 68 undef) :: (gs.getD 69 undef) :: (gs.getD 70 undef) :: (gs.getD 71 undef) :: (gs.getD 72 undef) :: (gs.getD 73 undef) :: (gs.getD 74 undef) :: (gs.getD 75 undef) :: (gs.getD 76 undef) :: (gs.getD 77 undef) :: (gs.getD 78 undef) :: (gs.getD 79 undef) :: (gs.getD 80 undef) :: (gs.getD 81 undef) :: (gs.getD 82 undef) :: (gs.getD 83 undef) :: (gs.getD 84 undef) :: (gs.getD 85 undef) :: (gs.getD 86 undef) :: (gs.getD 87 undef) :: (gs.getD 88 undef) :: []), [clDefer sb]⟩ (.code (sel [1, 1, 1, 1, 1, 1, 1, 1, 1, 1, 1, 0, 1, 4, 4, 1, 1, 0, 4, 1, 1, 0, 0] bodyTt) :: K)) cs) u := by
  have hlast : tkSt main Z Stop w₀ K cs s sb va wa cb idx k k1 ad tx gs 0 #[true, true, true, true, true, true, true, true, true, true, true, true, true, true, true, true, true, true, true, true, true, true, true, true, true, true, true, true] (u) := by
    intro A d
    refine schedU_end ?_
    exact ownU_eq (by kernel_rfl) ((ownU_tp (A := A) (d := d)).2 hk)
  have hn_27 : tkSt main Z Stop w₀ K cs s sb va wa cb idx k k1 ad tx gs 1 #[true, true, true, true, true, true, true, true, true, true, true, true, true, true, true, true, true, true, true, true, true, true, true, true, true, true, true, false] (u) := by
    intro A d
    refine schedU_succ (rs := [27]) (by kernel_rfl) (by decide) fun i hi t => ?_
    have hi' : i = 27 := by simpa using hi
    subst hi'
    refine ownU_quiet (i := 27) (.bool false) rfl (by rfl) rfl (by decide) (fun _ => by kernel_rfl) ?_
    exact schedU_to (by kernel_rfl) (by kernel_rfl) (hlast _ _) t
  have hn_26_27 : tkSt main Z Stop w₀ K cs s sb va wa cb idx k k1 ad tx gs 2 #[true, true, true, true, true, true, true, true, true, true, true, true, true, true, true, true, true, true, true, true, true, true, true, true, true, true, false, false] (u) := by
    intro A d
    refine schedU_succ (rs := [26]) (by kernel_rfl) (by decide) fun i hi t => ?_
    have hi' : i = 26 := by simpa using hi
    subst hi'
    refine ownU_quiet (i := 26) (.bool false) rfl (by kernel_rfl) rfl (by decide) (fun _ => neq_s (p := ByteArray.empty) (q := ByteArray.empty) rfl (by kernel_rfl) (by kernel_rfl) rfl) ?_
    exact schedU_to (by kernel_rfl) (by kernel_rfl) (hn_27 _ _) t
  have hn_25_26_27 : tkSt main Z Stop w₀ K cs s sb va wa cb idx k k1 ad tx gs 3 #[true, true, true, true, true, true, true, true, true, true, true, true, true, true, true, true, true, true, true, true, true, true, true, true, true, false, false, false] (u) := by
    intro A d
    refine schedU_succ (rs := [25]) (by kernel_rfl) (by decide) fun i hi t => ?_
    have hi' : i = 25 := by simpa using hi
    subst hi'
    refine ownU_callK (i := 25) (L := lone18) (R := fun e w' => e = .returned (.string ByteArray.empty) ∧ ∃ A d, w' = tp u A d) okL18 (by decide) rfl rfl (by kernel_rfl) (by kernel_rfl) (by decide) (fun A d => calls_eq (args' := #[ptr sb, .int .i64 k1]) (by kernel_rfl) (h4 A d)) (fun e w h => ⟨_, h.1⟩) fun z u' hR => ?_
    obtain ⟨e, A, d, rfl⟩ := hR
    injection e with e
    subst e
    exact schedU_to (by kernel_rfl) (by kernel_rfl) (hn_26_27 _ _) t
  have hn_24_25_26_27 : tkSt main Z Stop w₀ K cs s sb va wa cb idx k k1 ad tx gs 4 #[true, true, true, true, true, true, true, true, true, true, true, true, true, true, true, true, true, true, true, true, true, true, true, true, false, false, false, false] (u) := by
    intro A d
    refine schedU_succ (rs := [24]) (by kernel_rfl) (by decide) fun i hi t => ?_
    have hi' : i = 24 := by simpa using hi
    subst hi'
    refine ownU_quiet (i := 24) (.int .i64 k1) rfl (by kernel_rfl) rfl (by decide) (fun _ => by subst hk1; kernel_rfl) ?_
    exact schedU_to (by kernel_rfl) (by kernel_rfl) (hn_25_26_27 _ _) t
  have hn_22_25_26_27 : tkSt main Z Stop w₀ K cs s sb va wa cb idx k k1 ad tx gs 4 #[true, true, true, true, true, true, true, true, true, true, true, true, true, true, true, true, true, true, true, true, true, true, false, true, true, false, false, false] (u) := by
    intro A d
    refine schedU_succ (rs := [22]) (by kernel_rfl) (by decide) fun i hi t => ?_
    have hi' : i = 22 := by simpa using hi
    subst hi'
    refine ownU_quiet (i := 22) (ptr sb) rfl (by kernel_rfl) rfl (by decide) (fun _ => by kernel_rfl) ?_
    exact schedU_to (by kernel_rfl) (by kernel_rfl) (hn_25_26_27 _ _) t
  have hn_23_24_25_26_27 : tkSt main Z Stop w₀ K cs s sb va wa cb idx k k1 ad tx gs 5 #[true, true, true, true, true, true, true, true, true, true, true, true, true, true, true, true, true, true, true, true, true, true, true, false, false, false, false, false] (u) := by
    intro A d
    refine schedU_succ (rs := [23]) (by kernel_rfl) (by decide) fun i hi t => ?_
    have hi' : i = 23 := by simpa using hi
    subst hi'
    refine ownU_quiet (i := 23) (.int .i64 k) rfl (by kernel_rfl) rfl (by decide) (fun _ => by kernel_rfl) ?_
    exact schedU_to (by kernel_rfl) (by kernel_rfl) (hn_24_25_26_27 _ _) t
  have hn_22_24_25_26_27 : tkSt main Z Stop w₀ K cs s sb va wa cb idx k k1 ad tx gs 5 #[true, true, true, true, true, true, true, true, true, true, true, true, true, true, true, true, true, true, true, true, true, true, false, true, false, false, false, false] (u) := by
    intro A d
    refine schedU_succ (rs := [22, 24]) (by kernel_rfl) (by decide) fun i hi t => ?_
    have hi' : i = 22 ∨ i = 24 := by simpa using hi
    rcases hi' with rfl | rfl
    · skip
      refine ownU_quiet (i := 22) (ptr sb) rfl (by kernel_rfl) rfl (by decide) (fun _ => by kernel_rfl) ?_
      exact schedU_to (by kernel_rfl) (by kernel_rfl) (hn_24_25_26_27 _ _) t
    · skip
      refine ownU_quiet (i := 24) (.int .i64 k1) rfl (by kernel_rfl) rfl (by decide) (fun _ => by subst hk1; kernel_rfl) ?_
      exact schedU_to (by kernel_rfl) (by kernel_rfl) (hn_22_25_26_27 _ _) t
  have hn_22_23_24_25_26_27 : tkSt main Z Stop w₀ K cs s sb va wa cb idx k k1 ad tx gs 6 #[true, true, true, true, true, true, true, true, true, true, true, true, true, true, true, true, true, true, true, true, true, true, false, false, false, false, false, false] (u) := by
    intro A d
    refine schedU_succ (rs := [22, 23]) (by kernel_rfl) (by decide) fun i hi t => ?_
    have hi' : i = 22 ∨ i = 23 := by simpa using hi
    rcases hi' with rfl | rfl
    · skip
      refine ownU_quiet (i := 22) (ptr sb) rfl (by kernel_rfl) rfl (by decide) (fun _ => by kernel_rfl) ?_
      exact schedU_to (by kernel_rfl) (by kernel_rfl) (hn_23_24_25_26_27 _ _) t
    · skip
      refine ownU_quiet (i := 23) (.int .i64 k) rfl (by kernel_rfl) rfl (by decide) (fun _ => by kernel_rfl) ?_
      exact schedU_to (by kernel_rfl) (by kernel_rfl) (hn_22_24_25_26_27 _ _) t
  have hn_21_22_23_24_25_26_27 : tkSt main Z Stop w₀ K cs s sb va wa cb idx k k1 ad tx gs 7 #[true, true, true, true, true, true, true, true, true, true, true, true, true, true, true, true, true, true, true, true, true, false, false, false, false, false, false, false] (u) := by
    intro A d
    refine schedU_succ (rs := [21]) (by kernel_rfl) (by decide) fun i hi t => ?_
    have hi' : i = 21 := by simpa using hi
    subst hi'
    refine ownU_quiet (i := 21) (.bool false) rfl (by rfl) rfl (by decide) (fun _ => by kernel_rfl) ?_
    exact schedU_to (by kernel_rfl) (by kernel_rfl) (hn_22_23_24_25_26_27 _ _) t
  have hn_20_21_22_23_24_25_26_27 : tkSt main Z Stop w₀ K cs s sb va wa cb idx k k1 ad tx gs 8 #[true, true, true, true, true, true, true, true, true, true, true, true, true, true, true, true, true, true, true, true, false, false, false, false, false, false, false, false] (u) := by
    intro A d
    refine schedU_succ (rs := [20]) (by kernel_rfl) (by decide) fun i hi t => ?_
    have hi' : i = 20 := by simpa using hi
    subst hi'
    refine ownU_quiet (i := 20) (.bool false) rfl (by rfl) rfl (by decide) (fun _ => by kernel_rfl) ?_
    exact schedU_to (by kernel_rfl) (by kernel_rfl) (hn_21_22_23_24_25_26_27 _ _) t
  have hn_19_20_21_22_23_24_25_26_27 : tkSt main Z Stop w₀ K cs s sb va wa cb idx k k1 ad tx gs 9 #[true, true, true, true, true, true, true, true, true, true, true, true, true, true, true, true, true, true, true, false, false, false, false, false, false, false, false, false] (u) := by
    intro A d
    refine schedU_succ (rs := [19]) (by kernel_rfl) (by decide) fun i hi t => ?_
    have hi' : i = 19 := by simpa using hi
    subst hi'
    refine ownU_quiet (i := 19) (.bool false) rfl (by kernel_rfl) rfl (by decide) (fun _ => by kernel_rfl) ?_
    exact schedU_to (by kernel_rfl) (by kernel_rfl) (hn_20_21_22_23_24_25_26_27 _ _) t
  have hn_18_19_20_21_22_23_24_25_26_27 : tkSt main Z Stop w₀ K cs s sb va wa cb idx k k1 ad tx gs 10 #[true, true, true, true, true, true, true, true, true, true, true, true, true, true, true, true, true, true, false, false, false, false, false, false, false, false, false, false] (u) := by
    intro A d
    refine schedU_succ (rs := [18]) (by kernel_rfl) (by decide) fun i hi t => ?_
    have hi' : i = 18 := by simpa using hi
    subst hi'
    refine ownU_callK (i := 18) (L := lone18) (R := fun e w' => e = .returned (.int .i64 3) ∧ ∃ A d, w' = tp u A d) okL18 (by decide) rfl rfl (by kernel_rfl) (by kernel_rfl) (by decide) (fun A d => calls_eq (args' := #[ptr sb, .int .i64 k1]) (by kernel_rfl) (h3 A d)) (fun e w h => ⟨_, h.1⟩) fun z u' hR => ?_
    obtain ⟨e, A, d, rfl⟩ := hR
    injection e with e
    subst e
    exact schedU_to (by kernel_rfl) (by kernel_rfl) (hn_19_20_21_22_23_24_25_26_27 _ _) t
  have hn_17_18_19_20_21_22_23_24_25_26_27 : tkSt main Z Stop w₀ K cs s sb va wa cb idx k k1 ad tx gs 11 #[true, true, true, true, true, true, true, true, true, true, true, true, true, true, true, true, true, false, false, false, false, false, false, false, false, false, false, false] (u) := by
    intro A d
    refine schedU_succ (rs := [17]) (by kernel_rfl) (by decide) fun i hi t => ?_
    have hi' : i = 17 := by simpa using hi
    subst hi'
    refine ownU_quiet (i := 17) (.int .i64 k1) rfl (by kernel_rfl) rfl (by decide) (fun _ => by subst hk1; kernel_rfl) ?_
    exact schedU_to (by kernel_rfl) (by kernel_rfl) (hn_18_19_20_21_22_23_24_25_26_27 _ _) t
  have hn_15_18_19_20_21_22_23_24_25_26_27 : tkSt main Z Stop w₀ K cs s sb va wa cb idx k k1 ad tx gs 11 #[true, true, true, true, true, true, true, true, true, true, true, true, true, true, true, false, true, true, false, false, false, false, false, false, false, false, false, false] (u) := by
    intro A d
    refine schedU_succ (rs := [15]) (by kernel_rfl) (by decide) fun i hi t => ?_
    have hi' : i = 15 := by simpa using hi
    subst hi'
    refine ownU_quiet (i := 15) (ptr sb) rfl (by kernel_rfl) rfl (by decide) (fun _ => by kernel_rfl) ?_
    exact schedU_to (by kernel_rfl) (by kernel_rfl) (hn_18_19_20_21_22_23_24_25_26_27 _ _) t
  have hn_16_17_18_19_20_21_22_23_24_25_26_27 : tkSt main Z Stop w₀ K cs s sb va wa cb idx k k1 ad tx gs 12 #[true, true, true, true, true, true, true, true, true, true, true, true, true, true, true, true, false, false, false, false, false, false, false, false, false, false, false, false] (u) := by
    intro A d
    refine schedU_succ (rs := [16]) (by kernel_rfl) (by decide) fun i hi t => ?_
    have hi' : i = 16 := by simpa using hi
    subst hi'
    refine ownU_quiet (i := 16) (.int .i64 k) rfl (by kernel_rfl) rfl (by decide) (fun _ => by kernel_rfl) ?_
    exact schedU_to (by kernel_rfl) (by kernel_rfl) (hn_17_18_19_20_21_22_23_24_25_26_27 _ _) t
  have hn_15_17_18_19_20_21_22_23_24_25_26_27 : tkSt main Z Stop w₀ K cs s sb va wa cb idx k k1 ad tx gs 12 #[true, true, true, true, true, true, true, true, true, true, true, true, true, true, true, false, true, false, false, false, false, false, false, false, false, false, false, false] (u) := by
    intro A d
    refine schedU_succ (rs := [15, 17]) (by kernel_rfl) (by decide) fun i hi t => ?_
    have hi' : i = 15 ∨ i = 17 := by simpa using hi
    rcases hi' with rfl | rfl
    · skip
      refine ownU_quiet (i := 15) (ptr sb) rfl (by kernel_rfl) rfl (by decide) (fun _ => by kernel_rfl) ?_
      exact schedU_to (by kernel_rfl) (by kernel_rfl) (hn_17_18_19_20_21_22_23_24_25_26_27 _ _) t
    · skip
      refine ownU_quiet (i := 17) (.int .i64 k1) rfl (by kernel_rfl) rfl (by decide) (fun _ => by subst hk1; kernel_rfl) ?_
      exact schedU_to (by kernel_rfl) (by kernel_rfl) (hn_15_18_19_20_21_22_23_24_25_26_27 _ _) t
  have hn_15_16_17_18_19_20_21_22_23_24_25_26_27 : tkSt main Z Stop w₀ K cs s sb va wa cb idx k k1 ad tx gs 13 #[true, true, true, true, true, true, true, true, true, true, true, true, true, true, true, false, false, false, false, false, false, false, false, false, false, false, false, false] (u) := by
    intro A d
    refine schedU_succ (rs := [15, 16]) (by kernel_rfl) (by decide) fun i hi t => ?_
    have hi' : i = 15 ∨ i = 16 := by simpa using hi
    rcases hi' with rfl | rfl
    · skip
      refine ownU_quiet (i := 15) (ptr sb) rfl (by kernel_rfl) rfl (by decide) (fun _ => by kernel_rfl) ?_
      exact schedU_to (by kernel_rfl) (by kernel_rfl) (hn_16_17_18_19_20_21_22_23_24_25_26_27 _ _) t
    · skip
      refine ownU_quiet (i := 16) (.int .i64 k) rfl (by kernel_rfl) rfl (by decide) (fun _ => by kernel_rfl) ?_
      exact schedU_to (by kernel_rfl) (by kernel_rfl) (hn_15_17_18_19_20_21_22_23_24_25_26_27 _ _) t
  have h_0_1_2_3_4_5_6_7_8_9_10_11_12_13 : tkSt main Z Stop w₀ K cs s sb va wa cb idx k k1 ad tx gs 14 #[true, true, true, true, true, true, true, true, true, true, true, true, true, true, false, false, false, false, false, false, false, false, false, false, false, false, false, false] (u) := by
    intro A d
    refine schedU_succ (rs := [14]) (by kernel_rfl) (by decide) fun i hi t => ?_
    have hi' : i = 14 := by simpa using hi
    subst hi'
    refine ownU_quiet (i := 14) (.bool false) rfl (by rfl) rfl (by decide) (fun _ => by kernel_rfl) ?_
    exact schedU_to (by kernel_rfl) (by kernel_rfl) (hn_15_16_17_18_19_20_21_22_23_24_25_26_27 _ _) t
  have h_0_1_2_3_4_5_6_7_8_9_10_11_12 : tkSt main Z Stop w₀ K cs s sb va wa cb idx k k1 ad tx gs 15 #[true, true, true, true, true, true, true, true, true, true, true, true, true, false, false, false, false, false, false, false, false, false, false, false, false, false, false, false] (u) := by
    intro A d
    refine schedU_succ (rs := [13]) (by kernel_rfl) (by decide) fun i hi t => ?_
    have hi' : i = 13 := by simpa using hi
    subst hi'
    refine ownU_quiet (i := 13) (.bool false) rfl (by rfl) rfl (by decide) (fun _ => by kernel_rfl) ?_
    exact schedU_to (by kernel_rfl) (by kernel_rfl) (h_0_1_2_3_4_5_6_7_8_9_10_11_12_13 _ _) t
  have h_0_1_2_3_4_5_6_7_8_9_10_11 : tkSt main Z Stop w₀ K cs s sb va wa cb idx k k1 ad tx gs 16 #[true, true, true, true, true, true, true, true, true, true, true, true, false, false, false, false, false, false, false, false, false, false, false, false, false, false, false, false] (u) := by
    intro A d
    refine schedU_succ (rs := [12]) (by kernel_rfl) (by decide) fun i hi t => ?_
    have hi' : i = 12 := by simpa using hi
    subst hi'
    refine ownU_quiet (i := 12) (.bool false) rfl (by kernel_rfl) rfl (by decide) (fun _ => neq_s (p := tx) (q := tx) rfl (by kernel_rfl) (by kernel_rfl) rfl) ?_
    exact schedU_to (by kernel_rfl) (by kernel_rfl) (h_0_1_2_3_4_5_6_7_8_9_10_11_12 _ _) t
  have h_0_1_2_3_4_5_6_7_8_9_10 : tkSt main Z Stop w₀ K cs s sb va wa cb idx k k1 ad tx gs 17 #[true, true, true, true, true, true, true, true, true, true, true, false, false, false, false, false, false, false, false, false, false, false, false, false, false, false, false, false] (u) := by
    intro A d
    refine schedU_succ (rs := [11]) (by kernel_rfl) (by decide) fun i hi t => ?_
    have hi' : i = 11 := by simpa using hi
    subst hi'
    refine ownU_load (i := 11) ad (.string tx) rfl (by kernel_rfl) (by decide) loads_str rfl (by kernel_rfl) hw ?_
    exact schedU_to (by kernel_rfl) (by kernel_rfl) (h_0_1_2_3_4_5_6_7_8_9_10_11 _ _) t
  have h_0_1_2_3_4_5_6_8_9_10_11 : tkSt main Z Stop w₀ K cs s sb va wa cb idx k k1 ad tx gs 17 #[true, true, true, true, true, true, true, false, true, true, true, true, false, false, false, false, false, false, false, false, false, false, false, false, false, false, false, false] (u) := by
    intro A d
    refine schedU_succ (rs := [7]) (by kernel_rfl) (by decide) fun i hi t => ?_
    have hi' : i = 7 := by simpa using hi
    subst hi'
    refine ownU_callK (i := 7) (L := lone18) (R := fun e w' => e = .returned (.string tx) ∧ ∃ A d, w' = tp u A d) okL18 (by decide) rfl rfl (by kernel_rfl) (by kernel_rfl) (by decide) (fun A d => calls_eq (args' := #[ptr sb, .int .i64 k]) (by kernel_rfl) (h2 A d)) (fun e w h => ⟨_, h.1⟩) fun z u' hR => ?_
    obtain ⟨e, A, d, rfl⟩ := hR
    injection e with e
    subst e
    exact schedU_to (by kernel_rfl) (by kernel_rfl) (h_0_1_2_3_4_5_6_7_8_9_10_11 _ _) t
  have h_0_1_2_3_4_5_6_7_8_9 : tkSt main Z Stop w₀ K cs s sb va wa cb idx k k1 ad tx gs 18 #[true, true, true, true, true, true, true, true, true, true, false, false, false, false, false, false, false, false, false, false, false, false, false, false, false, false, false, false] (u) := by
    intro A d
    refine schedU_succ (rs := [10]) (by kernel_rfl) (by decide) fun i hi t => ?_
    have hi' : i = 10 := by simpa using hi
    subst hi'
    refine ownU_quiet (i := 10) (.pointer (some ad)) rfl (by kernel_rfl) rfl (by decide) (fun w => idx_s Try.underlying36 (fun _ => by kernel_rfl) (A := ⟨wa, 0, none⟩) (n := 5) (cap := 5) (i := idx) had w rfl (by kernel_rfl) (by kernel_rfl) hidx) ?_
    exact schedU_to (by kernel_rfl) (by kernel_rfl) (h_0_1_2_3_4_5_6_7_8_9_10 _ _) t
  have h_0_1_2_3_4_5_6_8_9_10 : tkSt main Z Stop w₀ K cs s sb va wa cb idx k k1 ad tx gs 18 #[true, true, true, true, true, true, true, false, true, true, true, false, false, false, false, false, false, false, false, false, false, false, false, false, false, false, false, false] (u) := by
    intro A d
    refine schedU_succ (rs := [7, 11]) (by kernel_rfl) (by decide) fun i hi t => ?_
    have hi' : i = 7 ∨ i = 11 := by simpa using hi
    rcases hi' with rfl | rfl
    · skip
      refine ownU_callK (i := 7) (L := lone18) (R := fun e w' => e = .returned (.string tx) ∧ ∃ A d, w' = tp u A d) okL18 (by decide) rfl rfl (by kernel_rfl) (by kernel_rfl) (by decide) (fun A d => calls_eq (args' := #[ptr sb, .int .i64 k]) (by kernel_rfl) (h2 A d)) (fun e w h => ⟨_, h.1⟩) fun z u' hR => ?_
      obtain ⟨e, A, d, rfl⟩ := hR
      injection e with e
      subst e
      exact schedU_to (by kernel_rfl) (by kernel_rfl) (h_0_1_2_3_4_5_6_7_8_9_10 _ _) t
    · skip
      refine ownU_load (i := 11) ad (.string tx) rfl (by kernel_rfl) (by decide) loads_str rfl (by kernel_rfl) hw ?_
      exact schedU_to (by kernel_rfl) (by kernel_rfl) (h_0_1_2_3_4_5_6_8_9_10_11 _ _) t
  have h_0_1_2_3_4_5_8_9_10_11 : tkSt main Z Stop w₀ K cs s sb va wa cb idx k k1 ad tx gs 18 #[true, true, true, true, true, true, false, false, true, true, true, true, false, false, false, false, false, false, false, false, false, false, false, false, false, false, false, false] (u) := by
    intro A d
    refine schedU_succ (rs := [6]) (by kernel_rfl) (by decide) fun i hi t => ?_
    have hi' : i = 6 := by simpa using hi
    subst hi'
    refine ownU_quiet (i := 6) (.int .i64 k) rfl (by kernel_rfl) rfl (by decide) (fun _ => by kernel_rfl) ?_
    exact schedU_to (by kernel_rfl) (by kernel_rfl) (h_0_1_2_3_4_5_6_8_9_10_11 _ _) t
  have h_0_1_2_3_4_6_8_9_10_11 : tkSt main Z Stop w₀ K cs s sb va wa cb idx k k1 ad tx gs 18 #[true, true, true, true, true, false, true, false, true, true, true, true, false, false, false, false, false, false, false, false, false, false, false, false, false, false, false, false] (u) := by
    intro A d
    refine schedU_succ (rs := [5]) (by kernel_rfl) (by decide) fun i hi t => ?_
    have hi' : i = 5 := by simpa using hi
    subst hi'
    refine ownU_quiet (i := 5) (ptr sb) rfl (by kernel_rfl) rfl (by decide) (fun _ => by kernel_rfl) ?_
    exact schedU_to (by kernel_rfl) (by kernel_rfl) (h_0_1_2_3_4_5_6_8_9_10_11 _ _) t
  have h_0_1_2_3_4_5_6_7_8 : tkSt main Z Stop w₀ K cs s sb va wa cb idx k k1 ad tx gs 19 #[true, true, true, true, true, true, true, true, true, false, false, false, false, false, false, false, false, false, false, false, false, false, false, false, false, false, false, false] (u) := by
    intro A d
    refine schedU_succ (rs := [9]) (by kernel_rfl) (by decide) fun i hi t => ?_
    have hi' : i = 9 := by simpa using hi
    subst hi'
    refine ownU_quiet (i := 9) (.int .i64 (idx : Int)) rfl (by kernel_rfl) rfl (by decide) (fun _ => by kernel_rfl) ?_
    exact schedU_to (by kernel_rfl) (by kernel_rfl) (h_0_1_2_3_4_5_6_7_8_9 _ _) t
  have h_0_1_2_3_4_5_6_7_9 : tkSt main Z Stop w₀ K cs s sb va wa cb idx k k1 ad tx gs 19 #[true, true, true, true, true, true, true, true, false, true, false, false, false, false, false, false, false, false, false, false, false, false, false, false, false, false, false, false] (u) := by
    intro A d
    refine schedU_succ (rs := [8]) (by kernel_rfl) (by decide) fun i hi t => ?_
    have hi' : i = 8 := by simpa using hi
    subst hi'
    refine ownU_quiet (i := 8) (.slice (some ⟨wa, 0, none⟩) 5 5) rfl (by kernel_rfl) rfl (by decide) (fun _ => by kernel_rfl) ?_
    exact schedU_to (by kernel_rfl) (by kernel_rfl) (h_0_1_2_3_4_5_6_7_8_9 _ _) t
  have h_0_1_2_3_4_5_6_8_9 : tkSt main Z Stop w₀ K cs s sb va wa cb idx k k1 ad tx gs 19 #[true, true, true, true, true, true, true, false, true, true, false, false, false, false, false, false, false, false, false, false, false, false, false, false, false, false, false, false] (u) := by
    intro A d
    refine schedU_succ (rs := [7, 10]) (by kernel_rfl) (by decide) fun i hi t => ?_
    have hi' : i = 7 ∨ i = 10 := by simpa using hi
    rcases hi' with rfl | rfl
    · skip
      refine ownU_callK (i := 7) (L := lone18) (R := fun e w' => e = .returned (.string tx) ∧ ∃ A d, w' = tp u A d) okL18 (by decide) rfl rfl (by kernel_rfl) (by kernel_rfl) (by decide) (fun A d => calls_eq (args' := #[ptr sb, .int .i64 k]) (by kernel_rfl) (h2 A d)) (fun e w h => ⟨_, h.1⟩) fun z u' hR => ?_
      obtain ⟨e, A, d, rfl⟩ := hR
      injection e with e
      subst e
      exact schedU_to (by kernel_rfl) (by kernel_rfl) (h_0_1_2_3_4_5_6_7_8_9 _ _) t
    · skip
      refine ownU_quiet (i := 10) (.pointer (some ad)) rfl (by kernel_rfl) rfl (by decide) (fun w => idx_s Try.underlying36 (fun _ => by kernel_rfl) (A := ⟨wa, 0, none⟩) (n := 5) (cap := 5) (i := idx) had w rfl (by kernel_rfl) (by kernel_rfl) hidx) ?_
      exact schedU_to (by kernel_rfl) (by kernel_rfl) (h_0_1_2_3_4_5_6_8_9_10 _ _) t
  have h_0_1_2_3_4_5_8_9_10 : tkSt main Z Stop w₀ K cs s sb va wa cb idx k k1 ad tx gs 19 #[true, true, true, true, true, true, false, false, true, true, true, false, false, false, false, false, false, false, false, false, false, false, false, false, false, false, false, false] (u) := by
    intro A d
    refine schedU_succ (rs := [6, 11]) (by kernel_rfl) (by decide) fun i hi t => ?_
    have hi' : i = 6 ∨ i = 11 := by simpa using hi
    rcases hi' with rfl | rfl
    · skip
      refine ownU_quiet (i := 6) (.int .i64 k) rfl (by kernel_rfl) rfl (by decide) (fun _ => by kernel_rfl) ?_
      exact schedU_to (by kernel_rfl) (by kernel_rfl) (h_0_1_2_3_4_5_6_8_9_10 _ _) t
    · skip
      refine ownU_load (i := 11) ad (.string tx) rfl (by kernel_rfl) (by decide) loads_str rfl (by kernel_rfl) hw ?_
      exact schedU_to (by kernel_rfl) (by kernel_rfl) (h_0_1_2_3_4_5_8_9_10_11 _ _) t
  have h_0_1_2_3_4_6_8_9_10 : tkSt main Z Stop w₀ K cs s sb va wa cb idx k k1 ad tx gs 19 #[true, true, true, true, true, false, true, false, true, true, true, false, false, false, false, false, false, false, false, false, false, false, false, false, false, false, false, false] (u) := by
    intro A d
    refine schedU_succ (rs := [5, 11]) (by kernel_rfl) (by decide) fun i hi t => ?_
    have hi' : i = 5 ∨ i = 11 := by simpa using hi
    rcases hi' with rfl | rfl
    · skip
      refine ownU_quiet (i := 5) (ptr sb) rfl (by kernel_rfl) rfl (by decide) (fun _ => by kernel_rfl) ?_
      exact schedU_to (by kernel_rfl) (by kernel_rfl) (h_0_1_2_3_4_5_6_8_9_10 _ _) t
    · skip
      refine ownU_load (i := 11) ad (.string tx) rfl (by kernel_rfl) (by decide) loads_str rfl (by kernel_rfl) hw ?_
      exact schedU_to (by kernel_rfl) (by kernel_rfl) (h_0_1_2_3_4_6_8_9_10_11 _ _) t
  have h_0_1_2_3_4_8_9_10_11 : tkSt main Z Stop w₀ K cs s sb va wa cb idx k k1 ad tx gs 19 #[true, true, true, true, true, false, false, false, true, true, true, true, false, false, false, false, false, false, false, false, false, false, false, false, false, false, false, false] (u) := by
    intro A d
    refine schedU_succ (rs := [5, 6]) (by kernel_rfl) (by decide) fun i hi t => ?_
    have hi' : i = 5 ∨ i = 6 := by simpa using hi
    rcases hi' with rfl | rfl
    · skip
      refine ownU_quiet (i := 5) (ptr sb) rfl (by kernel_rfl) rfl (by decide) (fun _ => by kernel_rfl) ?_
      exact schedU_to (by kernel_rfl) (by kernel_rfl) (h_0_1_2_3_4_5_8_9_10_11 _ _) t
    · skip
      refine ownU_quiet (i := 6) (.int .i64 k) rfl (by kernel_rfl) rfl (by decide) (fun _ => by kernel_rfl) ?_
      exact schedU_to (by kernel_rfl) (by kernel_rfl) (h_0_1_2_3_4_6_8_9_10_11 _ _) t
  have h_0_1_2_3_4_5_6_7 : tkSt main Z Stop w₀ K cs s sb va wa cb idx k k1 ad tx gs 20 #[true, true, true, true, true, true, true, true, false, false, false, false, false, false, false, false, false, false, false, false, false, false, false, false, false, false, false, false] (u) := by
    intro A d
    refine schedU_succ (rs := [8, 9]) (by kernel_rfl) (by decide) fun i hi t => ?_
    have hi' : i = 8 ∨ i = 9 := by simpa using hi
    rcases hi' with rfl | rfl
    · skip
      refine ownU_quiet (i := 8) (.slice (some ⟨wa, 0, none⟩) 5 5) rfl (by kernel_rfl) rfl (by decide) (fun _ => by kernel_rfl) ?_
      exact schedU_to (by kernel_rfl) (by kernel_rfl) (h_0_1_2_3_4_5_6_7_8 _ _) t
    · skip
      refine ownU_quiet (i := 9) (.int .i64 (idx : Int)) rfl (by kernel_rfl) rfl (by decide) (fun _ => by kernel_rfl) ?_
      exact schedU_to (by kernel_rfl) (by kernel_rfl) (h_0_1_2_3_4_5_6_7_9 _ _) t
  have h_0_1_2_3_4_5_6_8 : tkSt main Z Stop w₀ K cs s sb va wa cb idx k k1 ad tx gs 20 #[true, true, true, true, true, true, true, false, true, false, false, false, false, false, false, false, false, false, false, false, false, false, false, false, false, false, false, false] (u) := by
    intro A d
    refine schedU_succ (rs := [7, 9]) (by kernel_rfl) (by decide) fun i hi t => ?_
    have hi' : i = 7 ∨ i = 9 := by simpa using hi
    rcases hi' with rfl | rfl
    · skip
      refine ownU_callK (i := 7) (L := lone18) (R := fun e w' => e = .returned (.string tx) ∧ ∃ A d, w' = tp u A d) okL18 (by decide) rfl rfl (by kernel_rfl) (by kernel_rfl) (by decide) (fun A d => calls_eq (args' := #[ptr sb, .int .i64 k]) (by kernel_rfl) (h2 A d)) (fun e w h => ⟨_, h.1⟩) fun z u' hR => ?_
      obtain ⟨e, A, d, rfl⟩ := hR
      injection e with e
      subst e
      exact schedU_to (by kernel_rfl) (by kernel_rfl) (h_0_1_2_3_4_5_6_7_8 _ _) t
    · skip
      refine ownU_quiet (i := 9) (.int .i64 (idx : Int)) rfl (by kernel_rfl) rfl (by decide) (fun _ => by kernel_rfl) ?_
      exact schedU_to (by kernel_rfl) (by kernel_rfl) (h_0_1_2_3_4_5_6_8_9 _ _) t
  have h_0_1_2_3_4_5_6_9 : tkSt main Z Stop w₀ K cs s sb va wa cb idx k k1 ad tx gs 20 #[true, true, true, true, true, true, true, false, false, true, false, false, false, false, false, false, false, false, false, false, false, false, false, false, false, false, false, false] (u) := by
    intro A d
    refine schedU_succ (rs := [7, 8]) (by kernel_rfl) (by decide) fun i hi t => ?_
    have hi' : i = 7 ∨ i = 8 := by simpa using hi
    rcases hi' with rfl | rfl
    · skip
      refine ownU_callK (i := 7) (L := lone18) (R := fun e w' => e = .returned (.string tx) ∧ ∃ A d, w' = tp u A d) okL18 (by decide) rfl rfl (by kernel_rfl) (by kernel_rfl) (by decide) (fun A d => calls_eq (args' := #[ptr sb, .int .i64 k]) (by kernel_rfl) (h2 A d)) (fun e w h => ⟨_, h.1⟩) fun z u' hR => ?_
      obtain ⟨e, A, d, rfl⟩ := hR
      injection e with e
      subst e
      exact schedU_to (by kernel_rfl) (by kernel_rfl) (h_0_1_2_3_4_5_6_7_9 _ _) t
    · skip
      refine ownU_quiet (i := 8) (.slice (some ⟨wa, 0, none⟩) 5 5) rfl (by kernel_rfl) rfl (by decide) (fun _ => by kernel_rfl) ?_
      exact schedU_to (by kernel_rfl) (by kernel_rfl) (h_0_1_2_3_4_5_6_8_9 _ _) t
  have h_0_1_2_3_4_5_8_9 : tkSt main Z Stop w₀ K cs s sb va wa cb idx k k1 ad tx gs 20 #[true, true, true, true, true, true, false, false, true, true, false, false, false, false, false, false, false, false, false, false, false, false, false, false, false, false, false, false] (u) := by
    intro A d
    refine schedU_succ (rs := [6, 10]) (by kernel_rfl) (by decide) fun i hi t => ?_
    have hi' : i = 6 ∨ i = 10 := by simpa using hi
    rcases hi' with rfl | rfl
    · skip
      refine ownU_quiet (i := 6) (.int .i64 k) rfl (by kernel_rfl) rfl (by decide) (fun _ => by kernel_rfl) ?_
      exact schedU_to (by kernel_rfl) (by kernel_rfl) (h_0_1_2_3_4_5_6_8_9 _ _) t
    · skip
      refine ownU_quiet (i := 10) (.pointer (some ad)) rfl (by kernel_rfl) rfl (by decide) (fun w => idx_s Try.underlying36 (fun _ => by kernel_rfl) (A := ⟨wa, 0, none⟩) (n := 5) (cap := 5) (i := idx) had w rfl (by kernel_rfl) (by kernel_rfl) hidx) ?_
      exact schedU_to (by kernel_rfl) (by kernel_rfl) (h_0_1_2_3_4_5_8_9_10 _ _) t
  have h_0_1_2_3_4_6_8_9 : tkSt main Z Stop w₀ K cs s sb va wa cb idx k k1 ad tx gs 20 #[true, true, true, true, true, false, true, false, true, true, false, false, false, false, false, false, false, false, false, false, false, false, false, false, false, false, false, false] (u) := by
    intro A d
    refine schedU_succ (rs := [5, 10]) (by kernel_rfl) (by decide) fun i hi t => ?_
    have hi' : i = 5 ∨ i = 10 := by simpa using hi
    rcases hi' with rfl | rfl
    · skip
      refine ownU_quiet (i := 5) (ptr sb) rfl (by kernel_rfl) rfl (by decide) (fun _ => by kernel_rfl) ?_
      exact schedU_to (by kernel_rfl) (by kernel_rfl) (h_0_1_2_3_4_5_6_8_9 _ _) t
    · skip
      refine ownU_quiet (i := 10) (.pointer (some ad)) rfl (by kernel_rfl) rfl (by decide) (fun w => idx_s Try.underlying36 (fun _ => by kernel_rfl) (A := ⟨wa, 0, none⟩) (n := 5) (cap := 5) (i := idx) had w rfl (by kernel_rfl) (by kernel_rfl) hidx) ?_
      exact schedU_to (by kernel_rfl) (by kernel_rfl) (h_0_1_2_3_4_6_8_9_10 _ _) t
  have h_0_1_2_3_4_8_9_10 : tkSt main Z Stop w₀ K cs s sb va wa cb idx k k1 ad tx gs 20 #[true, true, true, true, true, false, false, false, true, true, true, false, false, false, false, false, false, false, false, false, false, false, false, false, false, false, false, false] (u) := by
    intro A d
    refine schedU_succ (rs := [5, 6, 11]) (by kernel_rfl) (by decide) fun i hi t => ?_
    have hi' : i = 5 ∨ i = 6 ∨ i = 11 := by simpa using hi
    rcases hi' with rfl | rfl | rfl
    · skip
      refine ownU_quiet (i := 5) (ptr sb) rfl (by kernel_rfl) rfl (by decide) (fun _ => by kernel_rfl) ?_
      exact schedU_to (by kernel_rfl) (by kernel_rfl) (h_0_1_2_3_4_5_8_9_10 _ _) t
    · skip
      refine ownU_quiet (i := 6) (.int .i64 k) rfl (by kernel_rfl) rfl (by decide) (fun _ => by kernel_rfl) ?_
      exact schedU_to (by kernel_rfl) (by kernel_rfl) (h_0_1_2_3_4_6_8_9_10 _ _) t
    · skip
      refine ownU_load (i := 11) ad (.string tx) rfl (by kernel_rfl) (by decide) loads_str rfl (by kernel_rfl) hw ?_
      exact schedU_to (by kernel_rfl) (by kernel_rfl) (h_0_1_2_3_4_8_9_10_11 _ _) t
  have h_0_1_2_3_4_5_6 : tkSt main Z Stop w₀ K cs s sb va wa cb idx k k1 ad tx gs 21 #[true, true, true, true, true, true, true, false, false, false, false, false, false, false, false, false, false, false, false, false, false, false, false, false, false, false, false, false] (u) := by
    intro A d
    refine schedU_succ (rs := [7, 8, 9]) (by kernel_rfl) (by decide) fun i hi t => ?_
    have hi' : i = 7 ∨ i = 8 ∨ i = 9 := by simpa using hi
    rcases hi' with rfl | rfl | rfl
    · skip
      refine ownU_callK (i := 7) (L := lone18) (R := fun e w' => e = .returned (.string tx) ∧ ∃ A d, w' = tp u A d) okL18 (by decide) rfl rfl (by kernel_rfl) (by kernel_rfl) (by decide) (fun A d => calls_eq (args' := #[ptr sb, .int .i64 k]) (by kernel_rfl) (h2 A d)) (fun e w h => ⟨_, h.1⟩) fun z u' hR => ?_
      obtain ⟨e, A, d, rfl⟩ := hR
      injection e with e
      subst e
      exact schedU_to (by kernel_rfl) (by kernel_rfl) (h_0_1_2_3_4_5_6_7 _ _) t
    · skip
      refine ownU_quiet (i := 8) (.slice (some ⟨wa, 0, none⟩) 5 5) rfl (by kernel_rfl) rfl (by decide) (fun _ => by kernel_rfl) ?_
      exact schedU_to (by kernel_rfl) (by kernel_rfl) (h_0_1_2_3_4_5_6_8 _ _) t
    · skip
      refine ownU_quiet (i := 9) (.int .i64 (idx : Int)) rfl (by kernel_rfl) rfl (by decide) (fun _ => by kernel_rfl) ?_
      exact schedU_to (by kernel_rfl) (by kernel_rfl) (h_0_1_2_3_4_5_6_9 _ _) t
  have h_0_1_2_3_4_5_8 : tkSt main Z Stop w₀ K cs s sb va wa cb idx k k1 ad tx gs 21 #[true, true, true, true, true, true, false, false, true, false, false, false, false, false, false, false, false, false, false, false, false, false, false, false, false, false, false, false] (u) := by
    intro A d
    refine schedU_succ (rs := [6, 9]) (by kernel_rfl) (by decide) fun i hi t => ?_
    have hi' : i = 6 ∨ i = 9 := by simpa using hi
    rcases hi' with rfl | rfl
    · skip
      refine ownU_quiet (i := 6) (.int .i64 k) rfl (by kernel_rfl) rfl (by decide) (fun _ => by kernel_rfl) ?_
      exact schedU_to (by kernel_rfl) (by kernel_rfl) (h_0_1_2_3_4_5_6_8 _ _) t
    · skip
      refine ownU_quiet (i := 9) (.int .i64 (idx : Int)) rfl (by kernel_rfl) rfl (by decide) (fun _ => by kernel_rfl) ?_
      exact schedU_to (by kernel_rfl) (by kernel_rfl) (h_0_1_2_3_4_5_8_9 _ _) t
  have h_0_1_2_3_4_5_9 : tkSt main Z Stop w₀ K cs s sb va wa cb idx k k1 ad tx gs 21 #[true, true, true, true, true, true, false, false, false, true, false, false, false, false, false, false, false, false, false, false, false, false, false, false, false, false, false, false] (u) := by
    intro A d
    refine schedU_succ (rs := [6, 8]) (by kernel_rfl) (by decide) fun i hi t => ?_
    have hi' : i = 6 ∨ i = 8 := by simpa using hi
    rcases hi' with rfl | rfl
    · skip
      refine ownU_quiet (i := 6) (.int .i64 k) rfl (by kernel_rfl) rfl (by decide) (fun _ => by kernel_rfl) ?_
      exact schedU_to (by kernel_rfl) (by kernel_rfl) (h_0_1_2_3_4_5_6_9 _ _) t
    · skip
      refine ownU_quiet (i := 8) (.slice (some ⟨wa, 0, none⟩) 5 5) rfl (by kernel_rfl) rfl (by decide) (fun _ => by kernel_rfl) ?_
      exact schedU_to (by kernel_rfl) (by kernel_rfl) (h_0_1_2_3_4_5_8_9 _ _) t
  have h_0_1_2_3_4_6_8 : tkSt main Z Stop w₀ K cs s sb va wa cb idx k k1 ad tx gs 21 #[true, true, true, true, true, false, true, false, true, false, false, false, false, false, false, false, false, false, false, false, false, false, false, false, false, false, false, false] (u) := by
    intro A d
    refine schedU_succ (rs := [5, 9]) (by kernel_rfl) (by decide) fun i hi t => ?_
    have hi' : i = 5 ∨ i = 9 := by simpa using hi
    rcases hi' with rfl | rfl
    · skip
      refine ownU_quiet (i := 5) (ptr sb) rfl (by kernel_rfl) rfl (by decide) (fun _ => by kernel_rfl) ?_
      exact schedU_to (by kernel_rfl) (by kernel_rfl) (h_0_1_2_3_4_5_6_8 _ _) t
    · skip
      refine ownU_quiet (i := 9) (.int .i64 (idx : Int)) rfl (by kernel_rfl) rfl (by decide) (fun _ => by kernel_rfl) ?_
      exact schedU_to (by kernel_rfl) (by kernel_rfl) (h_0_1_2_3_4_6_8_9 _ _) t
  have h_0_1_2_3_4_6_9 : tkSt main Z Stop w₀ K cs s sb va wa cb idx k k1 ad tx gs 21 #[true, true, true, true, true, false, true, false, false, true, false, false, false, false, false, false, false, false, false, false, false, false, false, false, false, false, false, false] (u) := by
    intro A d
    refine schedU_succ (rs := [5, 8]) (by kernel_rfl) (by decide) fun i hi t => ?_
    have hi' : i = 5 ∨ i = 8 := by simpa using hi
    rcases hi' with rfl | rfl
    · skip
      refine ownU_quiet (i := 5) (ptr sb) rfl (by kernel_rfl) rfl (by decide) (fun _ => by kernel_rfl) ?_
      exact schedU_to (by kernel_rfl) (by kernel_rfl) (h_0_1_2_3_4_5_6_9 _ _) t
    · skip
      refine ownU_quiet (i := 8) (.slice (some ⟨wa, 0, none⟩) 5 5) rfl (by kernel_rfl) rfl (by decide) (fun _ => by kernel_rfl) ?_
      exact schedU_to (by kernel_rfl) (by kernel_rfl) (h_0_1_2_3_4_6_8_9 _ _) t
  have h_0_1_2_3_4_8_9 : tkSt main Z Stop w₀ K cs s sb va wa cb idx k k1 ad tx gs 21 #[true, true, true, true, true, false, false, false, true, true, false, false, false, false, false, false, false, false, false, false, false, false, false, false, false, false, false, false] (u) := by
    intro A d
    refine schedU_succ (rs := [5, 6, 10]) (by kernel_rfl) (by decide) fun i hi t => ?_
    have hi' : i = 5 ∨ i = 6 ∨ i = 10 := by simpa using hi
    rcases hi' with rfl | rfl | rfl
    · skip
      refine ownU_quiet (i := 5) (ptr sb) rfl (by kernel_rfl) rfl (by decide) (fun _ => by kernel_rfl) ?_
      exact schedU_to (by kernel_rfl) (by kernel_rfl) (h_0_1_2_3_4_5_8_9 _ _) t
    · skip
      refine ownU_quiet (i := 6) (.int .i64 k) rfl (by kernel_rfl) rfl (by decide) (fun _ => by kernel_rfl) ?_
      exact schedU_to (by kernel_rfl) (by kernel_rfl) (h_0_1_2_3_4_6_8_9 _ _) t
    · skip
      refine ownU_quiet (i := 10) (.pointer (some ad)) rfl (by kernel_rfl) rfl (by decide) (fun w => idx_s Try.underlying36 (fun _ => by kernel_rfl) (A := ⟨wa, 0, none⟩) (n := 5) (cap := 5) (i := idx) had w rfl (by kernel_rfl) (by kernel_rfl) hidx) ?_
      exact schedU_to (by kernel_rfl) (by kernel_rfl) (h_0_1_2_3_4_8_9_10 _ _) t
  have h_0_1_2_3_4_5 : tkSt main Z Stop w₀ K cs s sb va wa cb idx k k1 ad tx gs 22 #[true, true, true, true, true, true, false, false, false, false, false, false, false, false, false, false, false, false, false, false, false, false, false, false, false, false, false, false] (u) := by
    intro A d
    refine schedU_succ (rs := [6, 8, 9]) (by kernel_rfl) (by decide) fun i hi t => ?_
    have hi' : i = 6 ∨ i = 8 ∨ i = 9 := by simpa using hi
    rcases hi' with rfl | rfl | rfl
    · skip
      refine ownU_quiet (i := 6) (.int .i64 k) rfl (by kernel_rfl) rfl (by decide) (fun _ => by kernel_rfl) ?_
      exact schedU_to (by kernel_rfl) (by kernel_rfl) (h_0_1_2_3_4_5_6 _ _) t
    · skip
      refine ownU_quiet (i := 8) (.slice (some ⟨wa, 0, none⟩) 5 5) rfl (by kernel_rfl) rfl (by decide) (fun _ => by kernel_rfl) ?_
      exact schedU_to (by kernel_rfl) (by kernel_rfl) (h_0_1_2_3_4_5_8 _ _) t
    · skip
      refine ownU_quiet (i := 9) (.int .i64 (idx : Int)) rfl (by kernel_rfl) rfl (by decide) (fun _ => by kernel_rfl) ?_
      exact schedU_to (by kernel_rfl) (by kernel_rfl) (h_0_1_2_3_4_5_9 _ _) t
  have h_0_1_2_3_4_6 : tkSt main Z Stop w₀ K cs s sb va wa cb idx k k1 ad tx gs 22 #[true, true, true, true, true, false, true, false, false, false, false, false, false, false, false, false, false, false, false, false, false, false, false, false, false, false, false, false] (u) := by
    intro A d
    refine schedU_succ (rs := [5, 8, 9]) (by kernel_rfl) (by decide) fun i hi t => ?_
    have hi' : i = 5 ∨ i = 8 ∨ i = 9 := by simpa using hi
    rcases hi' with rfl | rfl | rfl
    · skip
      refine ownU_quiet (i := 5) (ptr sb) rfl (by kernel_rfl) rfl (by decide) (fun _ => by kernel_rfl) ?_
      exact schedU_to (by kernel_rfl) (by kernel_rfl) (h_0_1_2_3_4_5_6 _ _) t
    · skip
      refine ownU_quiet (i := 8) (.slice (some ⟨wa, 0, none⟩) 5 5) rfl (by kernel_rfl) rfl (by decide) (fun _ => by kernel_rfl) ?_
      exact schedU_to (by kernel_rfl) (by kernel_rfl) (h_0_1_2_3_4_6_8 _ _) t
    · skip
      refine ownU_quiet (i := 9) (.int .i64 (idx : Int)) rfl (by kernel_rfl) rfl (by decide) (fun _ => by kernel_rfl) ?_
      exact schedU_to (by kernel_rfl) (by kernel_rfl) (h_0_1_2_3_4_6_9 _ _) t
  have h_0_1_2_3_4_8 : tkSt main Z Stop w₀ K cs s sb va wa cb idx k k1 ad tx gs 22 #[true, true, true, true, true, false, false, false, true, false, false, false, false, false, false, false, false, false, false, false, false, false, false, false, false, false, false, false] (u) := by
    intro A d
    refine schedU_succ (rs := [5, 6, 9]) (by kernel_rfl) (by decide) fun i hi t => ?_
    have hi' : i = 5 ∨ i = 6 ∨ i = 9 := by simpa using hi
    rcases hi' with rfl | rfl | rfl
    · skip
      refine ownU_quiet (i := 5) (ptr sb) rfl (by kernel_rfl) rfl (by decide) (fun _ => by kernel_rfl) ?_
      exact schedU_to (by kernel_rfl) (by kernel_rfl) (h_0_1_2_3_4_5_8 _ _) t
    · skip
      refine ownU_quiet (i := 6) (.int .i64 k) rfl (by kernel_rfl) rfl (by decide) (fun _ => by kernel_rfl) ?_
      exact schedU_to (by kernel_rfl) (by kernel_rfl) (h_0_1_2_3_4_6_8 _ _) t
    · skip
      refine ownU_quiet (i := 9) (.int .i64 (idx : Int)) rfl (by kernel_rfl) rfl (by decide) (fun _ => by kernel_rfl) ?_
      exact schedU_to (by kernel_rfl) (by kernel_rfl) (h_0_1_2_3_4_8_9 _ _) t
  have h_0_1_2_3_4_9 : tkSt main Z Stop w₀ K cs s sb va wa cb idx k k1 ad tx gs 22 #[true, true, true, true, true, false, false, false, false, true, false, false, false, false, false, false, false, false, false, false, false, false, false, false, false, false, false, false] (u) := by
    intro A d
    refine schedU_succ (rs := [5, 6, 8]) (by kernel_rfl) (by decide) fun i hi t => ?_
    have hi' : i = 5 ∨ i = 6 ∨ i = 8 := by simpa using hi
    rcases hi' with rfl | rfl | rfl
    · skip
      refine ownU_quiet (i := 5) (ptr sb) rfl (by kernel_rfl) rfl (by decide) (fun _ => by kernel_rfl) ?_
      exact schedU_to (by kernel_rfl) (by kernel_rfl) (h_0_1_2_3_4_5_9 _ _) t
    · skip
      refine ownU_quiet (i := 6) (.int .i64 k) rfl (by kernel_rfl) rfl (by decide) (fun _ => by kernel_rfl) ?_
      exact schedU_to (by kernel_rfl) (by kernel_rfl) (h_0_1_2_3_4_6_9 _ _) t
    · skip
      refine ownU_quiet (i := 8) (.slice (some ⟨wa, 0, none⟩) 5 5) rfl (by kernel_rfl) rfl (by decide) (fun _ => by kernel_rfl) ?_
      exact schedU_to (by kernel_rfl) (by kernel_rfl) (h_0_1_2_3_4_8_9 _ _) t
  have h_0_1_2_3_4 : tkSt main Z Stop w₀ K cs s sb va wa cb idx k k1 ad tx gs 23 #[true, true, true, true, true, false, false, false, false, false, false, false, false, false, false, false, false, false, false, false, false, false, false, false, false, false, false, false] (u) := by
    intro A d
    refine schedU_succ (rs := [5, 6, 8, 9]) (by kernel_rfl) (by decide) fun i hi t => ?_
    have hi' : i = 5 ∨ i = 6 ∨ i = 8 ∨ i = 9 := by simpa using hi
    rcases hi' with rfl | rfl | rfl | rfl
    · skip
      refine ownU_quiet (i := 5) (ptr sb) rfl (by kernel_rfl) rfl (by decide) (fun _ => by kernel_rfl) ?_
      exact schedU_to (by kernel_rfl) (by kernel_rfl) (h_0_1_2_3_4_5 _ _) t
    · skip
      refine ownU_quiet (i := 6) (.int .i64 k) rfl (by kernel_rfl) rfl (by decide) (fun _ => by kernel_rfl) ?_
      exact schedU_to (by kernel_rfl) (by kernel_rfl) (h_0_1_2_3_4_6 _ _) t
    · skip
      refine ownU_quiet (i := 8) (.slice (some ⟨wa, 0, none⟩) 5 5) rfl (by kernel_rfl) rfl (by decide) (fun _ => by kernel_rfl) ?_
      exact schedU_to (by kernel_rfl) (by kernel_rfl) (h_0_1_2_3_4_8 _ _) t
    · skip
      refine ownU_quiet (i := 9) (.int .i64 (idx : Int)) rfl (by kernel_rfl) rfl (by decide) (fun _ => by kernel_rfl) ?_
      exact schedU_to (by kernel_rfl) (by kernel_rfl) (h_0_1_2_3_4_9 _ _) t
  have h_0_1_2_3 : tkSt main Z Stop w₀ K cs s sb va wa cb idx k k1 ad tx gs 24 #[true, true, true, true, false, false, false, false, false, false, false, false, false, false, false, false, false, false, false, false, false, false, false, false, false, false, false, false] (u) := by
    intro A d
    refine schedU_succ (rs := [4]) (by kernel_rfl) (by decide) fun i hi t => ?_
    have hi' : i = 4 := by simpa using hi
    subst hi'
    refine ownU_quiet (i := 4) (.bool false) rfl (by rfl) rfl (by decide) (fun _ => by kernel_rfl) ?_
    exact schedU_to (by kernel_rfl) (by kernel_rfl) (h_0_1_2_3_4 _ _) t
  have h_0_1_2 : tkSt main Z Stop w₀ K cs s sb va wa cb idx k k1 ad tx gs 25 #[true, true, true, false, false, false, false, false, false, false, false, false, false, false, false, false, false, false, false, false, false, false, false, false, false, false, false, false] (u) := by
    intro A d
    refine schedU_succ (rs := [3]) (by kernel_rfl) (by decide) fun i hi t => ?_
    have hi' : i = 3 := by simpa using hi
    subst hi'
    refine ownU_quiet (i := 3) (.bool false) rfl (by rfl) rfl (by decide) (fun _ => by kernel_rfl) ?_
    exact schedU_to (by kernel_rfl) (by kernel_rfl) (h_0_1_2_3 _ _) t
  have h_0_1 : tkSt main Z Stop w₀ K cs s sb va wa cb idx k k1 ad tx gs 26 #[true, true, false, false, false, false, false, false, false, false, false, false, false, false, false, false, false, false, false, false, false, false, false, false, false, false, false, false] (u) := by
    intro A d
    refine schedU_succ (rs := [2]) (by kernel_rfl) (by decide) fun i hi t => ?_
    have hi' : i = 2 := by simpa using hi
    subst hi'
    refine ownU_callK (i := 2) (L := lone18) (R := fun e w' => e = .returned (.int .i64 4) ∧ ∃ A d, w' = tp u A d) okL18 (by decide) rfl rfl (by kernel_rfl) (by rfl) (by decide) (fun A d => calls_eq (args' := #[ptr sb, .int .i64 k]) (by kernel_rfl) (h1 A d)) (fun e w h => ⟨_, h.1⟩) fun z u' hR => ?_
    obtain ⟨e, A, d, rfl⟩ := hR
    injection e with e
    subst e
    exact schedU_to (by kernel_rfl) (by kernel_rfl) (h_0_1_2 _ _) t
  have h_0 : tkSt main Z Stop w₀ K cs s sb va wa cb idx k k1 ad tx gs 27 #[true, false, false, false, false, false, false, false, false, false, false, false, false, false, false, false, false, false, false, false, false, false, false, false, false, false, false, false] (u) := by
    intro A d
    refine schedU_succ (rs := [1]) (by kernel_rfl) (by decide) fun i hi t => ?_
    have hi' : i = 1 := by simpa using hi
    subst hi'
    refine ownU_quiet (i := 1) (.int .i64 k) rfl (by rfl) rfl (by decide) (fun _ => by kernel_rfl) ?_
    exact schedU_to (by kernel_rfl) (by kernel_rfl) (h_0_1 _ _) t
  have h_1 : tkSt main Z Stop w₀ K cs s sb va wa cb idx k k1 ad tx gs 27 #[false, true, false, false, false, false, false, false, false, false, false, false, false, false, false, false, false, false, false, false, false, false, false, false, false, false, false, false] (u) := by
    intro A d
    refine schedU_succ (rs := [0]) (by kernel_rfl) (by decide) fun i hi t => ?_
    have hi' : i = 0 := by simpa using hi
    subst hi'
    refine ownU_quiet (i := 0) (ptr sb) rfl (by rfl) rfl (by decide) (fun _ => by kernel_rfl) ?_
    exact schedU_to (by kernel_rfl) (by kernel_rfl) (h_0_1 _ _) t
  have h : tkSt main Z Stop w₀ K cs s sb va wa cb idx k k1 ad tx gs 28 #[false, false, false, false, false, false, false, false, false, false, false, false, false, false, false, false, false, false, false, false, false, false, false, false, false, false, false, false] (u) := by
    intro A d
    refine schedU_succ (rs := [0, 1]) (by kernel_rfl) (by decide) fun i hi t => ?_
    have hi' : i = 0 ∨ i = 1 := by simpa using hi
    rcases hi' with rfl | rfl
    · skip
      refine ownU_quiet (i := 0) (ptr sb) rfl (by rfl) rfl (by decide) (fun _ => by kernel_rfl) ?_
      exact schedU_to (by kernel_rfl) (by kernel_rfl) (h_0 _ _) t
    · skip
      refine ownU_quiet (i := 1) (.int .i64 k) rfl (by rfl) rfl (by decide) (fun _ => by kernel_rfl) ?_
      exact schedU_to (by kernel_rfl) (by kernel_rfl) (h_1 _ _) t
  exact schedU_start (n := 28) (by kernel_rfl) rfl fun A d => by
    intro t
    exact schedU_to (act := tkAct s sb va wa cb idx k k1 ad tx gs #[false, false, false, false, false, false, false, false, false, false, false, false, false, false, false, false, false, false, false, false, false, false, false, false, false, false, false, false]) (by kernel_rfl) rfl (h A d) t
theorem texts_check {main : Bool} {Z : Addr → Prop} {Stop : Goroutine → World → Prop} {w₀ u : World} {s : ByteArray} {sb va wa cb idx : Nat} {gs : List Value} {k k1 k2 : Int} {ad : Addr} {tx : ByteArray} (h3i : idx ≠ 3) (hi : IntKind.i64.wrap ((idx : Int) + 1) = ((idx + 1 : Nat) : Int)) (had : (⟨wa, 0, none⟩ : Addr).add idx = ad) (hidx : idx < 5) (hw : u.cell? ad = some (.string tx)) (hk1 : IntKind.i64.wrap (k + 1) = k1) (hk2 : IntKind.i64.wrap (k + 2) = k2)
    (h1 : ∀ A d, Calls Try.prog 43 #[ptr sb, .int .i64 k] (tp u A d) fun e w' => e = .returned (.int .i64 4) ∧ ∃ A d, w' = tp u A d) (h2 : ∀ A d, Calls Try.prog 44 #[ptr sb, .int .i64 k] (tp u A d) fun e w' => e = .returned (.string tx) ∧ ∃ A d, w' = tp u A d)
    (h3 : ∀ A d, Calls Try.prog 43 #[ptr sb, .int .i64 k1] (tp u A d) fun e w' => e = .returned (.int .i64 3) ∧ ∃ A d, w' = tp u A d) (h4 : ∀ A d, Calls Try.prog 44 #[ptr sb, .int .i64 k1] (tp u A d) fun e w' => e = .returned (.string ByteArray.empty) ∧ ∃ A d, w' = tp u A d)
    (hk : ∀ gs, OwnU Try.prog main Z Stop w₀ (tcHead s sb va wa cb (idx + 1) k2 gs) u) : OwnU Try.prog main Z Stop w₀ (tcHead s sb va wa cb idx k gs) u := by
  unfold tcHead at *
  refine ownU_seq (x := sel [1, 1, 1, 1, 1, 1, 1, 1, 1, 1, 1, 0, 1, 4, 4, 0] bodyTt) (y := sel [1, 1, 1, 1, 1, 1, 1, 1, 1, 1, 1, 0, 1, 4, 4, 1] bodyTt) ?_
  refine ownU_region (id := 20) (ops := opsOf (sel [1, 1, 1, 1, 1, 1, 1, 1, 1, 1, 1, 0, 1, 4, 4, 0] bodyTt)) ?_
  refine ownU_quiet (i := 0) (rest := []) (.bool true) rfl (by rfl) rfl (by decide) (fun _ => lss_v (p := (idx : Int)) (q := 5) rfl (by kernel_rfl) (by kernel_rfl) (by simp; omega)) ?_
  refine ownU_region_end ?_
  refine ownU_seq (x := sel [1, 1, 1, 1, 1, 1, 1, 1, 1, 1, 1, 0, 1, 4, 4, 1, 0] bodyTt) (y := sel [1, 1, 1, 1, 1, 1, 1, 1, 1, 1, 1, 0, 1, 4, 4, 1, 1] bodyTt) ?_
  refine ownU_cond (c := .tmp 55) (x := .skip) (y := .exit 2) (t := true) (by kernel_rfl) ?_
  refine ownU_skip ?_
  refine ownU_seq (x := sel [1, 1, 1, 1, 1, 1, 1, 1, 1, 1, 1, 0, 1, 4, 4, 1, 1, 0] bodyTt) (y := sel [1, 1, 1, 1, 1, 1, 1, 1, 1, 1, 1, 0, 1, 4, 4, 1, 1, 1] bodyTt) ?_
  refine ownU_block (id := 3) (c := sel [1, 1, 1, 1, 1, 1, 1, 1, 1, 1, 1, 0, 1, 4, 4, 1, 1, 0, 4] bodyTt) ?_
  refine ownU_seq (x := sel [1, 1, 1, 1, 1, 1, 1, 1, 1, 1, 1, 0, 1, 4, 4, 1, 1, 0, 4, 0] bodyTt) (y := sel [1, 1, 1, 1, 1, 1, 1, 1, 1, 1, 1, 0, 1, 4, 4, 1, 1, 0, 4, 1] bodyTt) ?_
  refine ownU_region (id := 21) (ops := opsOf (sel [1, 1, 1, 1, 1, 1, 1, 1, 1, 1, 1, 0, 1, 4, 4, 1, 1, 0, 4, 0] bodyTt)) ?_
  refine ownU_quiet (i := 0) (rest := [1]) (.int .i64 (idx : Int)) rfl (by rfl) rfl (by decide) (fun _ => by kernel_rfl) ?_
  refine ownU_quiet (i := 1) (rest := []) (.int .i64 (idx : Int)) rfl (by rfl) rfl (by decide) (fun _ => by kernel_rfl) ?_
  refine ownU_region_end ?_
  refine ownU_lit (List.toArray (.string s :: (gs.getD 0 undef) :: (gs.getD 1 undef) :: (gs.getD 2 undef) :: .bool false :: ptr sb :: .slice (some ⟨va, 0, none⟩) 5 5 :: .slice (some ⟨wa, 0, none⟩) 5 5 :: ptr cb :: (gs.getD 3 undef) :: (gs.getD 4 undef) :: .int .i64 k :: .int .i64 (idx : Int) :: (gs.getD 7 undef) :: (gs.getD 8 undef) :: (gs.getD 9 undef) :: (gs.getD 10 undef) :: (gs.getD 11 undef) :: (gs.getD 12 undef) :: (gs.getD 13 undef) :: (gs.getD 14 undef) :: (gs.getD 15 undef) :: (gs.getD 16 undef) :: (gs.getD 17 undef) :: (gs.getD 18 undef) :: (gs.getD 19 undef) :: (gs.getD 20 undef) :: (gs.getD 21 undef) :: (gs.getD 22 undef) :: (gs.getD 23 undef) :: (gs.getD 24 undef) :: (gs.getD 25 undef) :: (gs.getD 26 undef) :: (gs.getD 27 undef) :: (gs.getD 28 undef) :: (gs.getD 29 undef) :: (gs.getD 30 undef) :: (gs.getD 31 undef) :: (gs.getD 32 undef) :: (gs.getD 33 undef) :: (gs.getD 34 undef) :: (gs.getD 35 undef) :: (gs.getD 36 undef) :: (gs.getD 37 undef) :: (gs.getD 38 undef) :: (gs.getD 39 undef) :: (gs.getD 40 undef) :: (gs.getD 41 undef) :: (gs.getD 42 undef) :: (gs.getD 43 undef) :: (gs.getD 44 undef) :: (gs.getD 45 undef) :: .slice (some ⟨va, 0, none⟩) 5 5 :: .int .i64 5 :: .int .i64 (idx : Int) :: .bool true :: .int .i64 (idx : Int) :: (gs.getD 51 undef) :: (gs.getD 52 undef) :: (gs.getD 53 undef) :: (gs.getD 54 undef) :: (gs.getD 55 undef) :: (gs.getD 56 undef) :: (gs.getD 57 undef) :: (gs.getD 58 undef) :: (gs.getD 59 undef) :: (gs.getD 60 undef) :: (gs.getD 61 undef) :: (gs.getD 62 undef) :: (gs.getD 63 undef) :: (gs.getD 64 undef) :: (gs.getD 65 undef) :: (gs.getD 66 undef) :: (gs.getD 67 undef) :: (gs.getD 68 undef) :: (gs.getD 69 undef) :: (gs.getD 70 undef) :: (gs.getD 71 undef) :: (gs.getD 72 undef) :: (gs.getD 73 undef) :: (gs.getD 74 undef) :: (gs.getD 75 undef) :: (gs.getD 76 undef) :: (gs.getD 77 undef) :: (gs.getD 78 undef) :: (gs.getD 79 undef) :: (gs.getD 80 undef) :: (gs.getD 81 undef) :: (gs.getD 82 undef) :: (gs.getD 83 undef) :: (gs.getD 84 undef) :: (gs.getD 85 undef) :: (gs.getD 86 undef) :: (gs.getD 87 undef) :: (gs.getD 88 undef) :: [])) [clDefer sb] (by kernel_rfl) (by kernel_rfl) ?_
  refine ownU_seq (x := sel [1, 1, 1, 1, 1, 1, 1, 1, 1, 1, 1, 0, 1, 4, 4, 1, 1, 0, 4, 1, 0] bodyTt) (y := sel [1, 1, 1, 1, 1, 1, 1, 1, 1, 1, 1, 0, 1, 4, 4, 1, 1, 0, 4, 1, 1] bodyTt) ?_
  refine ownU_seq (x := sel [1, 1, 1, 1, 1, 1, 1, 1, 1, 1, 1, 0, 1, 4, 4, 1, 1, 0, 4, 1, 0, 0] bodyTt) (y := sel [1, 1, 1, 1, 1, 1, 1, 1, 1, 1, 1, 0, 1, 4, 4, 1, 1, 0, 4, 1, 0, 1] bodyTt) ?_
  refine ownU_region (id := 22) (ops := opsOf (sel [1, 1, 1, 1, 1, 1, 1, 1, 1, 1, 1, 0, 1, 4, 4, 1, 1, 0, 4, 1, 0, 0] bodyTt)) ?_
  refine ownU_quiet (i := 0) (rest := [1]) (.int .i64 (idx : Int)) rfl (by rfl) rfl (by decide) (fun _ => by kernel_rfl) ?_
  refine ownU_quiet (i := 1) (rest := []) (.bool false) rfl (by rfl) rfl (by decide) (fun _ => eql_f (p := (idx : Int)) (q := 3) rfl (by kernel_rfl) (by kernel_rfl) (by simp; omega)) ?_
  refine ownU_region_end ?_
  refine ownU_cond (c := .tmp 58) (x := .exit 3) (y := .skip) (t := false) (by kernel_rfl) ?_
  refine ownU_skip ?_
  refine ownU_seq (x := sel [1, 1, 1, 1, 1, 1, 1, 1, 1, 1, 1, 0, 1, 4, 4, 1, 1, 0, 4, 1, 1, 0] bodyTt) (y := sel [1, 1, 1, 1, 1, 1, 1, 1, 1, 1, 1, 0, 1, 4, 4, 1, 1, 0, 4, 1, 1, 1] bodyTt) ?_
  refine ownU_seq (x := sel [1, 1, 1, 1, 1, 1, 1, 1, 1, 1, 1, 0, 1, 4, 4, 1, 1, 0, 4, 1, 1, 0, 0] bodyTt) (y := sel [1, 1, 1, 1, 1, 1, 1, 1, 1, 1, 1, 0, 1, 4, 4, 1, 1, 0, 4, 1, 1, 0, 1] bodyTt) ?_
  refine ownU_lit (List.toArray (.string s :: (gs.getD 0 undef) :: (gs.getD 1 undef) :: (gs.getD 2 undef) :: .bool false :: ptr sb :: .slice (some ⟨va, 0, none⟩) 5 5 :: .slice (some ⟨wa, 0, none⟩) 5 5 :: ptr cb :: (gs.getD 3 undef) :: (gs.getD 4 undef) :: .int .i64 k :: .int .i64 (idx : Int) :: (gs.getD 7 undef) :: (gs.getD 8 undef) :: (gs.getD 9 undef) :: (gs.getD 10 undef) :: (gs.getD 11 undef) :: (gs.getD 12 undef) :: (gs.getD 13 undef) :: (gs.getD 14 undef) :: (gs.getD 15 undef) :: (gs.getD 16 undef) :: (gs.getD 17 undef) :: (gs.getD 18 undef) :: (gs.getD 19 undef) :: (gs.getD 20 undef) :: (gs.getD 21 undef) :: (gs.getD 22 undef) :: (gs.getD 23 undef) :: (gs.getD 24 undef) :: (gs.getD 25 undef) :: (gs.getD 26 undef) :: (gs.getD 27 undef) :: (gs.getD 28 undef) :: (gs.getD 29 undef) :: (gs.getD 30 undef) :: (gs.getD 31 undef) :: (gs.getD 32 undef) :: (gs.getD 33 undef) :: (gs.getD 34 undef) :: (gs.getD 35 undef) :: (gs.getD 36 undef) :: (gs.getD 37 undef) :: (gs.getD 38 undef) :: (gs.getD 39 undef) :: (gs.getD 40 undef) :: (gs.getD 41 undef) :: (gs.getD 42 undef) :: (gs.getD 43 undef) :: (gs.getD 44 undef) :: (gs.getD 45 undef) :: .slice (some ⟨va, 0, none⟩) 5 5 :: .int .i64 5 :: .int .i64 (idx : Int) :: .bool true :: .int .i64 (idx : Int) :: .int .i64 (idx : Int) :: .bool false :: (gs.getD 53 undef) :: (gs.getD 54 undef) :: (gs.getD 55 undef) :: (gs.getD 56 undef) :: (gs.getD 57 undef) :: (gs.getD 58 undef) :: (gs.getD 59 undef) :: (gs.getD 60 undef) :: (gs.getD 61 undef) :: (gs.getD 62 undef) :: (gs.getD 63 undef) :: (gs.getD 64 undef) :: (gs.getD 65 undef) :: (gs.getD 66 undef) :: (gs.getD 67 undef) :: (gs.getD 68 undef) :: (gs.getD 69 undef) :: (gs.getD 70 undef) :: (gs.getD 71 undef) :: (gs.getD 72 undef) :: (gs.getD 73 undef) :: (gs.getD 74 undef) :: (gs.getD 75 undef) :: (gs.getD 76 undef) :: (gs.getD 77 undef) :: (gs.getD 78 undef) :: (gs.getD 79 undef) :: (gs.getD 80 undef) :: (gs.getD 81 undef) :: (gs.getD 82 undef) :: (gs.getD 83 undef) :: (gs.getD 84 undef) :: (gs.getD 85 undef) :: (gs.getD 86 undef) :: (gs.getD 87 undef) :: (gs.getD 88 undef) :: [])) [clDefer sb] (by kernel_rfl) (by kernel_rfl) ?_
  refine tk_own had hidx hw hk1 h1 h2 h3 h4 ?_
  refine ownU_cond (c := .tmp 86) (x := sel [1, 1, 1, 1, 1, 1, 1, 1, 1, 1, 1, 0, 1, 4, 4, 1, 1, 0, 4, 1, 1, 0, 1, 2] bodyTt) (y := .skip) (t := false) (by kernel_rfl) ?_
  refine ownU_skip ?_
  refine ownU_lit (List.toArray (.string s :: (gs.getD 0 undef) :: (gs.getD 1 undef) :: (gs.getD 2 undef) :: .bool false :: ptr sb :: .slice (some ⟨va, 0, none⟩) 5 5 :: .slice (some ⟨wa, 0, none⟩) 5 5 :: ptr cb :: (gs.getD 3 undef) :: (gs.getD 4 undef) :: .int .i64 k :: .int .i64 (idx : Int) :: (gs.getD 7 undef) :: (gs.getD 8 undef) :: (gs.getD 9 undef) :: (gs.getD 10 undef) :: (gs.getD 11 undef) :: (gs.getD 12 undef) :: (gs.getD 13 undef) :: (gs.getD 14 undef) :: (gs.getD 15 undef) :: (gs.getD 16 undef) :: (gs.getD 17 undef) :: (gs.getD 18 undef) :: (gs.getD 19 undef) :: (gs.getD 20 undef) :: (gs.getD 21 undef) :: (gs.getD 22 undef) :: (gs.getD 23 undef) :: (gs.getD 24 undef) :: (gs.getD 25 undef) :: (gs.getD 26 undef) :: (gs.getD 27 undef) :: (gs.getD 28 undef) :: (gs.getD 29 undef) :: (gs.getD 30 undef) :: (gs.getD 31 undef) :: (gs.getD 32 undef) :: (gs.getD 33 undef) :: (gs.getD 34 undef) :: (gs.getD 35 undef) :: (gs.getD 36 undef) :: (gs.getD 37 undef) :: (gs.getD 38 undef) :: (gs.getD 39 undef) :: (gs.getD 40 undef) :: (gs.getD 41 undef) :: (gs.getD 42 undef) :: (gs.getD 43 undef) :: (gs.getD 44 undef) :: (gs.getD 45 undef) :: .slice (some ⟨va, 0, none⟩) 5 5 :: .int .i64 5 :: .int .i64 (idx : Int) :: .bool true :: .int .i64 (idx : Int) :: .int .i64 (idx : Int) :: .bool false :: ptr sb :: .int .i64 k :: .int .i64 4 :: .bool false :: .bool false :: ptr sb :: .int .i64 k :: .string tx :: .slice (some ⟨wa, 0, none⟩) 5 5 :: .int .i64 (idx : Int) :: .pointer (some ad) :: .string tx :: .bool false :: .bool false :: .bool false :: ptr sb :: .int .i64 k :: .int .i64 k1 :: .int .i64 3 :: .bool false :: .bool false :: .bool false :: ptr sb :: .int .i64 k :: .int .i64 k1 :: .string ByteArray.empty :: .bool false :: .bool false :: (gs.getD 81 undef) :: (gs.getD 82 undef) :: (gs.getD 83 undef) :: (gs.getD 84 undef) :: (gs.getD 85 undef) :: (gs.getD 86 undef) :: (gs.getD 87 undef) :: (gs.getD 88 undef) :: [])) [clDefer sb] (by kernel_rfl) (by kernel_rfl) ?_
  refine ownU_region (id := 25) (ops := opsOf (sel [1, 1, 1, 1, 1, 1, 1, 1, 1, 1, 1, 0, 1, 4, 4, 1, 1, 0, 4, 1, 1, 1] bodyTt)) ?_
  refine ownU_quiet (i := 0) (rest := [1, 2]) (.int .i64 k) rfl (by rfl) rfl (by decide) (fun _ => by kernel_rfl) ?_
  refine ownU_quiet (i := 1) (rest := [2]) (.int .i64 k2) rfl (by rfl) rfl (by decide) (fun _ => by subst hk2; kernel_rfl) ?_
  refine ownU_quiet (i := 2) (rest := []) (.int .i64 k2) rfl (by rfl) rfl (by decide) (fun _ => by kernel_rfl) ?_
  refine ownU_region_end ?_
  refine ownU_inBlock ?_
  refine ownU_lit (List.toArray (.string s :: (gs.getD 0 undef) :: (gs.getD 1 undef) :: (gs.getD 2 undef) :: .bool false :: ptr sb :: .slice (some ⟨va, 0, none⟩) 5 5 :: .slice (some ⟨wa, 0, none⟩) 5 5 :: ptr cb :: (gs.getD 3 undef) :: (gs.getD 4 undef) :: .int .i64 k2 :: .int .i64 (idx : Int) :: (gs.getD 7 undef) :: (gs.getD 8 undef) :: (gs.getD 9 undef) :: (gs.getD 10 undef) :: (gs.getD 11 undef) :: (gs.getD 12 undef) :: (gs.getD 13 undef) :: (gs.getD 14 undef) :: (gs.getD 15 undef) :: (gs.getD 16 undef) :: (gs.getD 17 undef) :: (gs.getD 18 undef) :: (gs.getD 19 undef) :: (gs.getD 20 undef) :: (gs.getD 21 undef) :: (gs.getD 22 undef) :: (gs.getD 23 undef) :: (gs.getD 24 undef) :: (gs.getD 25 undef) :: (gs.getD 26 undef) :: (gs.getD 27 undef) :: (gs.getD 28 undef) :: (gs.getD 29 undef) :: (gs.getD 30 undef) :: (gs.getD 31 undef) :: (gs.getD 32 undef) :: (gs.getD 33 undef) :: (gs.getD 34 undef) :: (gs.getD 35 undef) :: (gs.getD 36 undef) :: (gs.getD 37 undef) :: (gs.getD 38 undef) :: (gs.getD 39 undef) :: (gs.getD 40 undef) :: (gs.getD 41 undef) :: (gs.getD 42 undef) :: (gs.getD 43 undef) :: (gs.getD 44 undef) :: (gs.getD 45 undef) :: .slice (some ⟨va, 0, none⟩) 5 5 :: .int .i64 5 :: .int .i64 (idx : Int) :: .bool true :: .int .i64 (idx : Int) :: .int .i64 (idx : Int) :: .bool false :: ptr sb :: .int .i64 k :: .int .i64 4 :: .bool false :: .bool false :: ptr sb :: .int .i64 k :: .string tx :: .slice (some ⟨wa, 0, none⟩) 5 5 :: .int .i64 (idx : Int) :: .pointer (some ad) :: .string tx :: .bool false :: .bool false :: .bool false :: ptr sb :: .int .i64 k :: .int .i64 k1 :: .int .i64 3 :: .bool false :: .bool false :: .bool false :: ptr sb :: .int .i64 k :: .int .i64 k1 :: .string ByteArray.empty :: .bool false :: .bool false :: .int .i64 k :: .int .i64 k2 :: (gs.getD 83 undef) :: (gs.getD 84 undef) :: (gs.getD 85 undef) :: (gs.getD 86 undef) :: (gs.getD 87 undef) :: (gs.getD 88 undef) :: [])) [clDefer sb] (by kernel_rfl) (by kernel_rfl) ?_
  refine ownU_region (id := 26) (ops := opsOf (sel [1, 1, 1, 1, 1, 1, 1, 1, 1, 1, 1, 0, 1, 4, 4, 1, 1, 1] bodyTt)) ?_
  refine ownU_quiet (i := 0) (rest := [1]) (.int .i64 ((idx + 1 : Nat) : Int)) rfl (by rfl) rfl (by decide) (fun _ => by rw [← hi]; kernel_rfl) ?_
  refine ownU_quiet (i := 1) (rest := []) (.int .i64 ((idx + 1 : Nat) : Int)) rfl (by rfl) rfl (by decide) (fun _ => by kernel_rfl) ?_
  refine ownU_region_end ?_
  refine ownU_inLoop ?_
  exact ownU_eq (by kernel_rfl) (hk [(gs.getD 0 undef), (gs.getD 1 undef), (gs.getD 2 undef), (gs.getD 3 undef), (gs.getD 4 undef), .int .i64 k2, .int .i64 (idx : Int), (gs.getD 7 undef), (gs.getD 8 undef), (gs.getD 9 undef), (gs.getD 10 undef), (gs.getD 11 undef), (gs.getD 12 undef), (gs.getD 13 undef), (gs.getD 14 undef), (gs.getD 15 undef), (gs.getD 16 undef), (gs.getD 17 undef), (gs.getD 18 undef), (gs.getD 19 undef), (gs.getD 20 undef), (gs.getD 21 undef), (gs.getD 22 undef), (gs.getD 23 undef), (gs.getD 24 undef), (gs.getD 25 undef), (gs.getD 26 undef), (gs.getD 27 undef), (gs.getD 28 undef), (gs.getD 29 undef), (gs.getD 30 undef), (gs.getD 31 undef), (gs.getD 32 undef), (gs.getD 33 undef), (gs.getD 34 undef), (gs.getD 35 undef), (gs.getD 36 undef), (gs.getD 37 undef), (gs.getD 38 undef), (gs.getD 39 undef), (gs.getD 40 undef), (gs.getD 41 undef), (gs.getD 42 undef), (gs.getD 43 undef), (gs.getD 44 undef), (gs.getD 45 undef), .slice (some ⟨va, 0, none⟩) 5 5, .int .i64 5, .int .i64 ((idx + 1 : Nat) : Int), .bool true, .int .i64 (idx : Int), .int .i64 (idx : Int), .bool false, ptr sb, .int .i64 k, .int .i64 4, .bool false, .bool false, ptr sb, .int .i64 k, .string tx, .slice (some ⟨wa, 0, none⟩) 5 5, .int .i64 (idx : Int), .pointer (some ad), .string tx, .bool false, .bool false, .bool false, ptr sb, .int .i64 k, .int .i64 k1, .int .i64 3, .bool false, .bool false, .bool false, ptr sb, .int .i64 k, .int .i64 k1, .string ByteArray.empty, .bool false, .bool false, .int .i64 k, .int .i64 k2, .int .i64 ((idx + 1 : Nat) : Int), (gs.getD 84 undef), (gs.getD 85 undef), (gs.getD 86 undef), (gs.getD 87 undef), (gs.getD 88 undef)])
noncomputable def teAct (s : ByteArray) (sb va wa cb idx : Nat) (k : Int) (gs : List Value) : Act := ⟨List.toArray (.string s :: (gs.getD 0 undef) :: (gs.getD 1 undef) :: (gs.getD 2 undef) :: .bool false :: ptr sb :: .slice (some ⟨va, 0, none⟩) 5 5 :: .slice (some ⟨wa, 0, none⟩) 5 5 :: ptr cb :: (gs.getD 3 undef) :: (gs.getD 4 undef) :: .int .i64 k :: (gs.getD 6 undef) :: (gs.getD 7 undef) :: (gs.getD 8 undef) :: (gs.getD 9 undef) :: (gs.getD 10 undef) :: (gs.getD 11 undef) :: (gs.getD 12 undef) :: (gs.getD 13 undef) :: (gs.getD 14 undef) :: (gs.getD 15 undef) :: (gs.getD 16 undef) :: (gs.getD 17 undef) :: (gs.getD 18 undef) :: (gs.getD 19 undef) :: (gs.getD 20 undef) :: (gs.getD 21 undef) :: (gs.getD 22 undef) :: (gs.getD 23 undef) :: (gs.getD 24 undef) :: (gs.getD 25 undef) :: (gs.getD 26 undef) :: (gs.getD 27 undef) :: (gs.getD 28 undef) :: (gs.getD 29 undef) :: (gs.getD 30 undef) :: (gs.getD 31 undef) :: (gs.getD 32 undef) :: (gs.getD 33 undef) :: (gs.getD 34 undef) :: (gs.getD 35 undef) :: (gs.getD 36 undef) :: (gs.getD 37 undef) :: (gs.getD 38 undef) :: (gs.getD 39 undef) :: (gs.getD 40 undef) :: (gs.getD 41 undef) :: (gs.getD 42 undef) :: (gs.getD 43 undef) :: (gs.getD 44 undef) :: (gs.getD 45 undef) :: .slice (some ⟨va, 0, none⟩) 5 5 :: .int .i64 5 :: .int .i64 (idx : Int) :: .bool false :: (gs.getD 50 undef) :: (gs.getD 51 undef) :: (gs.getD 52 undef) :: (gs.getD 53 undef) :: (gs.getD 54 undef) :: (gs.getD 55 undef) :: (gs.getD 56 undef) :: (gs.getD 57 undef) :: (gs.getD 58 undef) :: (gs.getD 59 undef) :: (gs.getD 60 undef) :: (gs.getD 61 undef) :: (gs.getD 62 undef) :: (gs.getD 63 undef) :: (gs.getD 64 undef) :: (gs.getD 65 undef) :: (gs.getD 66 undef) :: (gs.getD 67 undef) :: (gs.getD 68 undef) :: (gs.getD 69 undef) :: (gs.getD 70 undef) :: (gs.getD 71 undef) :: (gs.getD 72 undef) :: (gs.getD 73 undef) :: (gs.getD 74 undef) :: (gs.getD 75 undef) :: (gs.getD 76 undef) :: (gs.getD 77 undef) :: (gs.getD 78 undef) :: (gs.getD 79 undef) :: (gs.getD 80 undef) :: (gs.getD 81 undef) :: (gs.getD 82 undef) :: (gs.getD 83 undef) :: (gs.getD 84 undef) :: (gs.getD 85 undef) :: (gs.getD 86 undef) :: (gs.getD 87 undef) :: (gs.getD 88 undef) :: []), [clDefer sb]⟩
theorem texts_end {main : Bool} {Z : Addr → Prop} {Stop : Goroutine → World → Prop} {w₀ u : World} {s : ByteArray} {sb va wa cb idx : Nat} {gs : List Value} {k : Int} (hidx : 5 ≤ idx) (hk : OwnU Try.prog main Z Stop w₀ (aliveIn (((base 8).at (teAct s sb va wa cb idx k gs) (.inRegion (opsOf (sel [1, 1, 1, 1, 1, 1, 1, 1, 1, 1, 1, 1, 0] bodyTt)) (0 :: [1, 2, 3, 4, 5]) :: [.code .ret])) :: [])) u) : OwnU Try.prog main Z Stop w₀ (tcHead s sb va wa cb idx k gs) u := by
  unfold tcHead
  refine ownU_seq (x := sel [1, 1, 1, 1, 1, 1, 1, 1, 1, 1, 1, 0, 1, 4, 4, 0] bodyTt) (y := sel [1, 1, 1, 1, 1, 1, 1, 1, 1, 1, 1, 0, 1, 4, 4, 1] bodyTt) ?_
  refine ownU_region (id := 20) (ops := opsOf (sel [1, 1, 1, 1, 1, 1, 1, 1, 1, 1, 1, 0, 1, 4, 4, 0] bodyTt)) ?_
  refine ownU_quiet (i := 0) (rest := []) (.bool false) rfl (by rfl) rfl (by decide) (fun _ => lss_v (p := (idx : Int)) (q := 5) rfl (by kernel_rfl) (by kernel_rfl) (by simp; omega)) ?_
  refine ownU_region_end ?_
  refine ownU_seq (x := sel [1, 1, 1, 1, 1, 1, 1, 1, 1, 1, 1, 0, 1, 4, 4, 1, 0] bodyTt) (y := sel [1, 1, 1, 1, 1, 1, 1, 1, 1, 1, 1, 0, 1, 4, 4, 1, 1] bodyTt) ?_
  refine ownU_cond (c := .tmp 55) (x := .skip) (y := .exit 2) (t := false) (by kernel_rfl) ?_
  refine ownU_exit (k' := [.code (sel [1, 1, 1, 1, 1, 1, 1, 1, 1, 1, 1, 1] bodyTt)]) rfl ?_
  refine ownU_lit (List.toArray (.string s :: (gs.getD 0 undef) :: (gs.getD 1 undef) :: (gs.getD 2 undef) :: .bool false :: ptr sb :: .slice (some ⟨va, 0, none⟩) 5 5 :: .slice (some ⟨wa, 0, none⟩) 5 5 :: ptr cb :: (gs.getD 3 undef) :: (gs.getD 4 undef) :: .int .i64 k :: (gs.getD 6 undef) :: (gs.getD 7 undef) :: (gs.getD 8 undef) :: (gs.getD 9 undef) :: (gs.getD 10 undef) :: (gs.getD 11 undef) :: (gs.getD 12 undef) :: (gs.getD 13 undef) :: (gs.getD 14 undef) :: (gs.getD 15 undef) :: (gs.getD 16 undef) :: (gs.getD 17 undef) :: (gs.getD 18 undef) :: (gs.getD 19 undef) :: (gs.getD 20 undef) :: (gs.getD 21 undef) :: (gs.getD 22 undef) :: (gs.getD 23 undef) :: (gs.getD 24 undef) :: (gs.getD 25 undef) :: (gs.getD 26 undef) :: (gs.getD 27 undef) :: (gs.getD 28 undef) :: (gs.getD 29 undef) :: (gs.getD 30 undef) :: (gs.getD 31 undef) :: (gs.getD 32 undef) :: (gs.getD 33 undef) :: (gs.getD 34 undef) :: (gs.getD 35 undef) :: (gs.getD 36 undef) :: (gs.getD 37 undef) :: (gs.getD 38 undef) :: (gs.getD 39 undef) :: (gs.getD 40 undef) :: (gs.getD 41 undef) :: (gs.getD 42 undef) :: (gs.getD 43 undef) :: (gs.getD 44 undef) :: (gs.getD 45 undef) :: .slice (some ⟨va, 0, none⟩) 5 5 :: .int .i64 5 :: .int .i64 (idx : Int) :: .bool false :: (gs.getD 50 undef) :: (gs.getD 51 undef) :: (gs.getD 52 undef) :: (gs.getD 53 undef) :: (gs.getD 54 undef) :: (gs.getD 55 undef) :: (gs.getD 56 undef) :: (gs.getD 57 undef) :: (gs.getD 58 undef) :: (gs.getD 59 undef) :: (gs.getD 60 undef) :: (gs.getD 61 undef) :: (gs.getD 62 undef) :: (gs.getD 63 undef) :: (gs.getD 64 undef) :: (gs.getD 65 undef) :: (gs.getD 66 undef) :: (gs.getD 67 undef) :: (gs.getD 68 undef) :: (gs.getD 69 undef) :: (gs.getD 70 undef) :: (gs.getD 71 undef) :: (gs.getD 72 undef) :: (gs.getD 73 undef) :: (gs.getD 74 undef) :: (gs.getD 75 undef) :: (gs.getD 76 undef) :: (gs.getD 77 undef) :: (gs.getD 78 undef) :: (gs.getD 79 undef) :: (gs.getD 80 undef) :: (gs.getD 81 undef) :: (gs.getD 82 undef) :: (gs.getD 83 undef) :: (gs.getD 84 undef) :: (gs.getD 85 undef) :: (gs.getD 86 undef) :: (gs.getD 87 undef) :: (gs.getD 88 undef) :: [])) [clDefer sb] (by kernel_rfl) (by kernel_rfl) ?_
  refine ownU_seq (x := sel [1, 1, 1, 1, 1, 1, 1, 1, 1, 1, 1, 1, 0] bodyTt) (y := .ret) ?_
  refine ownU_region (id := 27) (ops := opsOf (sel [1, 1, 1, 1, 1, 1, 1, 1, 1, 1, 1, 1, 0] bodyTt)) ?_
  refine ownU_enter (i := 0) (rest := [1, 2, 3, 4, 5]) (f := 34) rfl (by rfl) (by decide) rfl Try.func34 (by kernel_rfl) rfl ?_
  exact ownU_eq (by kernel_rfl) hk
/-- CoroTexts on its way out. -/
noncomputable def textsOutF (ts : Array Value) : Frame := { (base 8).at ⟨ts, []⟩ [.code .ret] with mode := .returning }
theorem texts_out {main : Bool} {Z : Addr → Prop} {Stop : Goroutine → World → Prop} {w₀ u : World} {s : ByteArray} {sb va wa cb idx : Nat} {gs : List Value} {k : Int} (hc : u.cell? ⟨cb, 0, none⟩ = some (.int .i64 4)) (hk : ∀ ts, ts.getD 4 undef = .bool true → OwnU Try.prog main Z Stop w₀ (closeIn .deferred sb [textsOutF ts]) u) : OwnU Try.prog main Z Stop w₀ (G ((base 8).at ((teAct s sb va wa cb idx k gs).put (((opsOf (sel [1, 1, 1, 1, 1, 1, 1, 1, 1, 1, 1, 1, 0] bodyTt))[0]?).bind (·.dst)) (.bool true)) (.inRegion (opsOf (sel [1, 1, 1, 1, 1, 1, 1, 1, 1, 1, 1, 1, 0] bodyTt)) [1, 2, 3, 4, 5] :: [.code .ret])) []) u := by
  refine ownU_lit (List.toArray (.string s :: (gs.getD 0 undef) :: (gs.getD 1 undef) :: (gs.getD 2 undef) :: .bool false :: ptr sb :: .slice (some ⟨va, 0, none⟩) 5 5 :: .slice (some ⟨wa, 0, none⟩) 5 5 :: ptr cb :: (gs.getD 3 undef) :: (gs.getD 4 undef) :: .int .i64 k :: (gs.getD 6 undef) :: (gs.getD 7 undef) :: (gs.getD 8 undef) :: (gs.getD 9 undef) :: (gs.getD 10 undef) :: (gs.getD 11 undef) :: (gs.getD 12 undef) :: (gs.getD 13 undef) :: (gs.getD 14 undef) :: (gs.getD 15 undef) :: (gs.getD 16 undef) :: (gs.getD 17 undef) :: (gs.getD 18 undef) :: (gs.getD 19 undef) :: (gs.getD 20 undef) :: (gs.getD 21 undef) :: (gs.getD 22 undef) :: (gs.getD 23 undef) :: (gs.getD 24 undef) :: (gs.getD 25 undef) :: (gs.getD 26 undef) :: (gs.getD 27 undef) :: (gs.getD 28 undef) :: (gs.getD 29 undef) :: (gs.getD 30 undef) :: (gs.getD 31 undef) :: (gs.getD 32 undef) :: (gs.getD 33 undef) :: (gs.getD 34 undef) :: (gs.getD 35 undef) :: (gs.getD 36 undef) :: (gs.getD 37 undef) :: (gs.getD 38 undef) :: (gs.getD 39 undef) :: (gs.getD 40 undef) :: (gs.getD 41 undef) :: (gs.getD 42 undef) :: (gs.getD 43 undef) :: (gs.getD 44 undef) :: (gs.getD 45 undef) :: .slice (some ⟨va, 0, none⟩) 5 5 :: .int .i64 5 :: .int .i64 (idx : Int) :: .bool false :: (gs.getD 50 undef) :: (gs.getD 51 undef) :: (gs.getD 52 undef) :: (gs.getD 53 undef) :: (gs.getD 54 undef) :: (gs.getD 55 undef) :: (gs.getD 56 undef) :: (gs.getD 57 undef) :: (gs.getD 58 undef) :: (gs.getD 59 undef) :: (gs.getD 60 undef) :: (gs.getD 61 undef) :: (gs.getD 62 undef) :: (gs.getD 63 undef) :: (gs.getD 64 undef) :: (gs.getD 65 undef) :: (gs.getD 66 undef) :: (gs.getD 67 undef) :: (gs.getD 68 undef) :: (gs.getD 69 undef) :: (gs.getD 70 undef) :: (gs.getD 71 undef) :: (gs.getD 72 undef) :: (gs.getD 73 undef) :: (gs.getD 74 undef) :: (gs.getD 75 undef) :: (gs.getD 76 undef) :: (gs.getD 77 undef) :: (gs.getD 78 undef) :: (gs.getD 79 undef) :: (gs.getD 80 undef) :: (gs.getD 81 undef) :: (gs.getD 82 undef) :: (gs.getD 83 undef) :: .bool true :: (gs.getD 85 undef) :: (gs.getD 86 undef) :: (gs.getD 87 undef) :: (gs.getD 88 undef) :: [])) [clDefer sb] (by kernel_rfl) (by kernel_rfl) ?_
  refine ownU_quiet (i := 1) (rest := [2, 3, 4, 5]) (.bool true) rfl (by rfl) rfl (by decide) (fun _ => by kernel_rfl) ?_
  refine ownU_load (i := 2) (rest := [3, 4, 5]) ⟨cb, 0, none⟩ (.int .i64 4) rfl (by kernel_rfl) (by decide) loads_int rfl (by kernel_rfl) hc ?_
  refine ownU_quiet (i := 3) (rest := [4, 5]) (.bool true) rfl (by kernel_rfl) rfl (by decide) (fun _ => by kernel_rfl) ?_
  refine ownU_quiet (i := 4) (rest := [5]) (.bool true) rfl (by rfl) rfl (by decide) (fun _ => by kernel_rfl) ?_
  refine ownU_quiet (i := 5) (rest := []) (.bool true) rfl (by rfl) rfl (by decide) (fun _ => by kernel_rfl) ?_
  refine ownU_region_end ?_
  refine ownU_lit (List.toArray (.string s :: (gs.getD 0 undef) :: (gs.getD 1 undef) :: (gs.getD 2 undef) :: .bool true :: ptr sb :: .slice (some ⟨va, 0, none⟩) 5 5 :: .slice (some ⟨wa, 0, none⟩) 5 5 :: ptr cb :: (gs.getD 3 undef) :: (gs.getD 4 undef) :: .int .i64 k :: (gs.getD 6 undef) :: (gs.getD 7 undef) :: (gs.getD 8 undef) :: (gs.getD 9 undef) :: (gs.getD 10 undef) :: (gs.getD 11 undef) :: (gs.getD 12 undef) :: (gs.getD 13 undef) :: (gs.getD 14 undef) :: (gs.getD 15 undef) :: (gs.getD 16 undef) :: (gs.getD 17 undef) :: (gs.getD 18 undef) :: (gs.getD 19 undef) :: (gs.getD 20 undef) :: (gs.getD 21 undef) :: (gs.getD 22 undef) :: (gs.getD 23 undef) :: (gs.getD 24 undef) :: (gs.getD 25 undef) :: (gs.getD 26 undef) :: (gs.getD 27 undef) :: (gs.getD 28 undef) :: (gs.getD 29 undef) :: (gs.getD 30 undef) :: (gs.getD 31 undef) :: (gs.getD 32 undef) :: (gs.getD 33 undef) :: (gs.getD 34 undef) :: (gs.getD 35 undef) :: (gs.getD 36 undef) :: (gs.getD 37 undef) :: (gs.getD 38 undef) :: (gs.getD 39 undef) :: (gs.getD 40 undef) :: (gs.getD 41 undef) :: (gs.getD 42 undef) :: (gs.getD 43 undef) :: (gs.getD 44 undef) :: (gs.getD 45 undef) :: .slice (some ⟨va, 0, none⟩) 5 5 :: .int .i64 5 :: .int .i64 (idx : Int) :: .bool false :: (gs.getD 50 undef) :: (gs.getD 51 undef) :: (gs.getD 52 undef) :: (gs.getD 53 undef) :: (gs.getD 54 undef) :: (gs.getD 55 undef) :: (gs.getD 56 undef) :: (gs.getD 57 undef) :: (gs.getD 58 undef) :: (gs.getD 59 undef) :: (gs.getD 60 undef) :: (gs.getD 61 undef) :: (gs.getD 62 undef) :: (gs.getD 63 undef) :: (gs.getD 64 undef) :: (gs.getD 65 undef) :: (gs.getD 66 undef) :: (gs.getD 67 undef) :: (gs.getD 68 undef) :: (gs.getD 69 undef) :: (gs.getD 70 undef) :: (gs.getD 71 undef) :: (gs.getD 72 undef) :: (gs.getD 73 undef) :: (gs.getD 74 undef) :: (gs.getD 75 undef) :: (gs.getD 76 undef) :: (gs.getD 77 undef) :: (gs.getD 78 undef) :: (gs.getD 79 undef) :: (gs.getD 80 undef) :: (gs.getD 81 undef) :: (gs.getD 82 undef) :: (gs.getD 83 undef) :: .bool true :: .bool true :: .int .i64 4 :: .bool true :: .bool true :: [])) [clDefer sb] (by kernel_rfl) (by kernel_rfl) ?_
  refine ownU_ret ?_
  refine ownU_deferred (args := #[ptr sb]) (ca := #[]) (ds := []) (by simp) rfl Try.func36 (by kernel_rfl) rfl ?_
  exact ownU_eq (by kernel_rfl) (hk (List.toArray (.string s :: (gs.getD 0 undef) :: (gs.getD 1 undef) :: (gs.getD 2 undef) :: .bool true :: ptr sb :: .slice (some ⟨va, 0, none⟩) 5 5 :: .slice (some ⟨wa, 0, none⟩) 5 5 :: ptr cb :: (gs.getD 3 undef) :: (gs.getD 4 undef) :: .int .i64 k :: (gs.getD 6 undef) :: (gs.getD 7 undef) :: (gs.getD 8 undef) :: (gs.getD 9 undef) :: (gs.getD 10 undef) :: (gs.getD 11 undef) :: (gs.getD 12 undef) :: (gs.getD 13 undef) :: (gs.getD 14 undef) :: (gs.getD 15 undef) :: (gs.getD 16 undef) :: (gs.getD 17 undef) :: (gs.getD 18 undef) :: (gs.getD 19 undef) :: (gs.getD 20 undef) :: (gs.getD 21 undef) :: (gs.getD 22 undef) :: (gs.getD 23 undef) :: (gs.getD 24 undef) :: (gs.getD 25 undef) :: (gs.getD 26 undef) :: (gs.getD 27 undef) :: (gs.getD 28 undef) :: (gs.getD 29 undef) :: (gs.getD 30 undef) :: (gs.getD 31 undef) :: (gs.getD 32 undef) :: (gs.getD 33 undef) :: (gs.getD 34 undef) :: (gs.getD 35 undef) :: (gs.getD 36 undef) :: (gs.getD 37 undef) :: (gs.getD 38 undef) :: (gs.getD 39 undef) :: (gs.getD 40 undef) :: (gs.getD 41 undef) :: (gs.getD 42 undef) :: (gs.getD 43 undef) :: (gs.getD 44 undef) :: (gs.getD 45 undef) :: .slice (some ⟨va, 0, none⟩) 5 5 :: .int .i64 5 :: .int .i64 (idx : Int) :: .bool false :: (gs.getD 50 undef) :: (gs.getD 51 undef) :: (gs.getD 52 undef) :: (gs.getD 53 undef) :: (gs.getD 54 undef) :: (gs.getD 55 undef) :: (gs.getD 56 undef) :: (gs.getD 57 undef) :: (gs.getD 58 undef) :: (gs.getD 59 undef) :: (gs.getD 60 undef) :: (gs.getD 61 undef) :: (gs.getD 62 undef) :: (gs.getD 63 undef) :: (gs.getD 64 undef) :: (gs.getD 65 undef) :: (gs.getD 66 undef) :: (gs.getD 67 undef) :: (gs.getD 68 undef) :: (gs.getD 69 undef) :: (gs.getD 70 undef) :: (gs.getD 71 undef) :: (gs.getD 72 undef) :: (gs.getD 73 undef) :: (gs.getD 74 undef) :: (gs.getD 75 undef) :: (gs.getD 76 undef) :: (gs.getD 77 undef) :: (gs.getD 78 undef) :: (gs.getD 79 undef) :: (gs.getD 80 undef) :: (gs.getD 81 undef) :: (gs.getD 82 undef) :: (gs.getD 83 undef) :: .bool true :: .bool true :: .int .i64 4 :: .bool true :: .bool true :: [])) rfl)
end Go.Proofs.Ytolnmdanlggmhaa
