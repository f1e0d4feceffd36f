/- The own run under the token's frame; the frame with more still places. -/
import Derived.Test.YtolnmdanlggmhaaKc
import Derived.Conc.Token
import Derived.Conc.TokenWalk
import Derived.Orders
import Derived.Below
namespace Go.Proofs.Ytolnmdanlggmhaa
open Go.Conc
open Go.ConcN (sumTo upd sumTo_upd upd_ne upd_same)

section
variable {P : Program} {main : Bool} {K K' : World → Prop} {Still Still' : Loc → Prop} {B B' : Nat}

theorem goes_mono {R R' : World → World → Prop} {D D' : World → World → Array Event → Prop} {Stop Stop' : Goroutine → World → Prop} (hR : ∀ a b, R' a b → R a b) (hD : ∀ a b es, D a b es → D' a b es) (hS : ∀ g w, Stop g w → Stop' g w) :
    ∀ {n : Nat} {g : Goroutine} {w : World}, Goes P main R D Stop n g w → Goes P main R' D' Stop' n g w
  | 0, _, _, h => fun w₁ h₁ => hS _ _ (h w₁ (hR _ _ h₁))
  | n + 1, g, w, h => by
    rcases h with h | ⟨hs, h⟩
    · exact .inl fun w₁ h₁ => hS _ _ (h w₁ (hR _ _ h₁))
    · refine .inr ⟨hs, fun w₁ h₁ => ?_⟩
      have := h w₁ (hR _ _ h₁)
      revert this
      cases stepG P main g w₁ <;> simp only [GStep.goes, imp_self]
      exact fun ⟨d, x⟩ => ⟨hD _ _ _ d, goes_mono hR hD hS x⟩

theorem evC_mono (hS : ∀ l, Still l → Still' l) (hB : B ≤ B') {e : Event} (h : EvC Still B e) : EvC Still' B' e := by
  obtain ⟨a, e1, e2, e3⟩ := h
  exact ⟨a, e1, hS _ e2, Nat.lt_of_lt_of_le e3 hB⟩
theorem atIn_mono (hK : ∀ w, K' w → K w) (hS : ∀ l, Still l → Still' l) (hB : B ≤ B') {s : Seat} {g g₂ : Goroutine} (h : AtIn P main K Still B s g g₂) : AtIn P main K' Still' B' s g g₂ := by
  obtain ⟨h0, h1, h2, h3, hh, es, hes, hst⟩ := h
  exact ⟨h0, h1, h2, h3, hh, es, fun e he => evC_mono hS hB (hes e he), fun w hw => hst w (hK w hw)⟩
theorem sits_mono (hK : ∀ w, K' w → K w) (hS : ∀ l, Still l → Still' l) (hB : B ≤ B') {s : Seat} {n : Nat} {g : Goroutine} (h : Sits P main K Still B s n g) : Sits P main K' Still' B' s n g := by
  rcases h with ⟨k, w, rfl, h⟩ | ⟨rfl, g₀, g₂, rfl, h⟩
  · exact .inl ⟨k, w, rfl, goes_mono (fun _ b hb => hK b hb) (fun _ _ _ ⟨e, h⟩ => ⟨e, fun x hx => evC_mono hS hB (h x hx)⟩) (fun g w ⟨g₂, h⟩ => ⟨g₂, atIn_mono hK hS hB h⟩) h⟩
  · exact .inr ⟨rfl, g₀, g₂, rfl, atIn_mono hK hS hB h⟩
theorem idle_mono (hK : ∀ w, K' w → K w) (hS : ∀ l, Still l → Still' l) (hB : B ≤ B') {T : Trace} {i n : Nat} {g : Goroutine} : ∀ {s : Option Seat}, Idle P K Still B T i n g s → Idle P K' Still' B' T i n g s
  | none, h => h
  | some _, h => sits_mono hK hS hB h
end

section
variable {P : Program} {K K' : World → Prop} {Still Still' : Loc → Prop} {B B' : Nat} {Kf : Trace → Nat → Prop} {Mem Lo : Nat → Prop} {Inb : Nat → Option Seat} {Sp Dd : Nat → Prop} {h : Nat} {T : Trace} {gs : Array Goroutine} {w : World} {q : Nat → Nat}

/-- MORE PLACES ARE STILL FROM NOW ON, and more is leant on. -/
theorem core_grow (C : TokCore P K Still B Kf Mem Lo Inb Sp Dd T gs w q) (hK : ∀ w, K' w → K w) (hw : K' w) (hS : ∀ l, Still l → Still' l) (hB : B ≤ B')
    (hwr : ∀ i a, touchAt T i = some a → a.write = true → Still' a.loc → ¬ Still a.loc → ∀ g, Mem g → Knows T g i) : TokCore P K' Still' B' Kf Mem Lo Inb Sp Dd T gs w q := by
  refine ⟨fun i g hi hg => idle_mono hK hS hB (C.idle i g hi hg), C.chans, C.wf, C.live, C.inj, C.above, fun i s e => ⟨(C.mem i s e).1, fun c hc => Nat.lt_of_lt_of_le ((C.mem i s e).2 c hc) hB⟩, C.nomem, C.lo, ?_, hw⟩
  have H := C.past
  refine ⟨H.clean, fun i a ha hm => (H.known i a ha hm).imp id fun ⟨x, y, z⟩ => ⟨x, hS _ y, z⟩, fun i a ha hw' hs g hg => ?_, H.hears, fun op hop => MemAct.low_mono hB (H.seen op hop)⟩
  by_cases hs' : Still a.loc
  · exact H.wrote i a ha hw' hs' g hg
  · exact hwr i a ha hw' hs hs' g hg

theorem evHd_of {Z : Addr → Prop} {n : Nat} (hZS : ∀ l, Still l → ∃ a, l = .cell a ∧ Z a) {e : Event} (h : EvIn Z n e) : EvHd Still n e := by
  obtain ⟨⟨h1, h2, h3⟩, h4⟩ := h
  refine ⟨fun x hx hs => ?_, h2, h3, h4⟩
  obtain ⟨a, ha, hz⟩ := hZS _ hs
  cases hw : x.write with
  | false => rfl
  | true => exact absurd hz (h1 x a hx ha hw)

/-- THE HOLDER's OWN RUN UNDER THE FRAME, on whatever tape. The bound of the trace's addresses is the world's. -/
theorem own_crowd {Z : Addr → Prop} {Stop : Goroutine → World → Prop} (hKat : ∀ w d, K w → K (w.at d)) (hZK : ∀ w w', Kept Z w w' → K w → K w') (hZS : ∀ l, Still l → ∃ a, l = .cell a ∧ Z a)
    {a : Goroutine} (hO : Own P (h == 0) Z Stop a w) : ∀ {gs : Array Goroutine} {T : Trace} {q : Nat → Nat} {sl : Option (Nat × Nat)}, gs[h]? = some a → Ring P K Still w.heap.size Mem Inb h T gs w q →
      ∃ (N : Nat) (gs' : Array Goroutine) (a' : Goroutine) (w' : World) (sl' : Option (Nat × Nat)) (T' : Trace) (q' : Nat → Nat), runNT P N (crowd gs w sl) T = (.next (crowd gs' w' sl'), T') ∧ gs'.size = gs.size ∧ gs'[h]? = some a' ∧ Stop a' w' ∧
        Ring P K Still w'.heap.size Mem Inb h T' gs' w' q' := by
  induction hO with
  | stop g w hs => exact fun {gs T q sl} ha C => ⟨0, gs, g, w, sl, T, q, rfl, rfl, ha, hs w.drawn, C⟩
  | step g w g' w' es hrun hstep hkept hev _ ih =>
    intro gs T q sl ha C
    obtain ⟨N, gs₁, d, d', sl₁, sl₂, T₁, q₁, hr, hst, hsz, ha₁, C₁⟩ := picked (sl := sl) hKat ha hrun C
    have hrt := runT_crowd_go (P := P) (sl := sl₂) ha₁ (hstep d')
    have hgrow : w.heap.size ≤ (w' d').heap.size := (hkept d').grow
    have C₂ : Ring P K Still (w' d').heap.size Mem Inb h T₁ gs₁ (w.at d') q₁ := core_grow C₁ (fun _ h => h) C₁.keep (fun _ h => h) hgrow fun _ _ _ _ h1 h2 => absurd h1 h2
    have hDH : DH K Still (w' d').heap.size Inb (w.at d') (w' d') (es d') := by
      refine ⟨hZK _ _ (hkept d'), fun i s c e hc => ?_, fun e he => evHd_of hZS (hev d' e he)⟩
      obtain ⟨cap, k, hk⟩ := C₂.chans i s c (fun z => z) e hc
      exact (hkept d').chans c _ _ _ _ _ _ hk
    obtain ⟨C₃, ha₃⟩ := C₂.own (a' := g' d') ha₁ hDH
    obtain ⟨N₂, gs₂, a₂, w₂, sl₃, T₂, q₂, hr₂, hsz₂, ha₂, hS₂, C₄⟩ := ih d' (sl := sl₂) ha₃ C₃
    exact ⟨N + 1 + N₂, gs₂, a₂, w₂, sl₃, T₂, q₂, runNT_then (runNT_succ_of hr (hst.trans hrt)) hr₂, by rw [hsz₂]; simp [hsz], ha₂, hS₂, C₄⟩
end
end Go.Proofs.Ytolnmdanlggmhaa

/- A child that allots one block on the way to its seat; the parent, meanwhile, walks to a send on the child's channel and meets it. -/
namespace Go.Proofs.Ytolnmdanlggmhaa
open Go.Conc
open Go.ConcN (sumTo upd sumTo_upd upd_ne upd_same)

section
variable {P : Program} {K K' : World → Prop} {Still Still' : Loc → Prop} {B B' : Nat} {Kf : Trace → Nat → Prop} {Mem Lo : Nat → Prop} {Inb : Nat → Option Seat} {Sp : Nat → Prop} {h : Nat} {T : Trace} {gs : Array Goroutine} {w : World} {q : Nat → Nat}

/-- The record of one of whom the mode speaks itself is laid anew; the world may be another. -/
theorem core_sp (C : TokCore P K Still B Kf Mem Lo Inb Sp (fun _ => False) T gs w q) {x : Nat} (hx : Sp x) (hlt : x < gs.size) {gs' : Array Goroutine} (hsz : gs'.size = gs.size) (hoth : ∀ y, y ≠ x → gs'[y]? = gs[y]?) {ops : Trace} (hops : ∀ op ∈ ops, op.g = x)
    {w' : World} (hch : ∀ i s c, Inb i = some s → s.has c → w'.heap[c]? = w.heap[c]?) (hK : K w') (hpast : PastG Still Mem Lo B (Kf (T ++ ops)) (T ++ ops)) : TokCore P K Still B Kf Mem Lo Inb Sp (fun _ => False) (T ++ ops) gs' w' q := by
  refine ⟨fun i g hi hg => ?_, fun i s c hd e hc => ?_, C.wf, fun _ _ z => z.elim, C.inj, fun i hi => ?_, C.mem, C.nomem, C.lo, hpast, hK⟩
  · have hne : i ≠ x := fun e => hi (e ▸ hx)
    rw [hoth i hne] at hg
    have hid := C.idle i g hi hg
    cases e : Inb i with
    | none => rw [e] at hid; exact ⟨hid.1, by rw [Deaf_other T (fun z => hne z.symm) _ hops]; exact hid.2⟩
    | some s => rw [e] at hid; exact hid
  · rw [hch i s c e hc]; exact C.chans i s c hd e hc
  · rw [hsz] at hi
    rw [Deaf_other T (fun z => by omega) _ hops]
    exact C.above i hi

/-- A holder PARKED AT A SEND to one that is on its way to its seat: the meeting comes. -/
theorem parked_give (hKat : ∀ w d, K w → K (w.at d)) (hKc : ∀ w i s c cap buf cl a b tm, Inb i = some s → s.has c → K w → K (w.setChan c cap buf cl a b tm))
    {a₂ : Goroutine} {j c : Nat} {z v z' : Value} {home : Goroutine → Prop} {sl : Option (Nat × Nat)} (hjh : j ≠ h) (hjlt : j < gs.size) (hj : Inb j = some (Seat.one c z false home)) (hMh : Mem h)
    (ha : gs[h]? = some (parked a₂ #[scase c v z'] .send)) (C : Ring P K Still B Mem Inb h T gs w q) (hqj : 0 < q j) {k : Nat} (hc : w.heap[c]? = some (.chan 0 #[] false k k false))
    {Inb' : Nat → Option Seat} (hI : ∀ x, x ≠ h → Inb' x = Inb x) (hIh : Inb' h = Inb h ∨ Inb' h = none) {nh : Nat} (hafter : ∀ T', Deaf T' h = 0 → Idle P K Still B T' h nh (Conc.served a₂ undef) (Inb' h)) :
    ∃ N m' T', runNT P N (crowd gs w sl) T = (.next m', T') ∧ Given P K Still B Mem Inb' j (Seat.one c z false home) c 0 gs.size w v m' T' := by
  have hsc : (Seat.one c z false home).has c := Seat.one_has.2 rfl
  obtain ⟨hMj, hcB'⟩ := C.mem j _ hj
  have hcB := hcB' c hsc
  refine runs_until (P := P)
    (Inv := fun μ m t => Given P K Still B Mem Inb' j (Seat.one c z false home) c 0 gs.size w v m t ∨ ∃ gs₁ d sl₁ q₁, m = crowd gs₁ (w.at d) sl₁ ∧ gs₁.size = gs.size ∧ gs₁[h]? = some (parked a₂ #[scase c v z'] .send) ∧
      Ring P K Still B Mem Inb h t gs₁ (w.at d) q₁ ∧ 0 < q₁ j ∧ μ = sumTo gs₁.size q₁)
    (fun μ m t hInv => ?_) _ _ T (.inr ⟨gs, w.drawn, sl, q, rfl, rfl, ha, C, hqj, rfl⟩)
  rcases hInv with hdone | ⟨gs₁, d, sl₁, q₁, rfl, hsz, ha₁, C₁, hpk, hμ⟩
  · exact .inl hdone
  refine .inr ?_
  obtain ⟨gj, hgj⟩ : ∃ gj, gs₁[j]? = some gj := ⟨gs₁[j]'(by omega), Array.getElem?_eq_getElem (by omega)⟩
  have hlth : h < gs₁.size := (Array.getElem?_eq_some_iff.1 ha₁).1
  have hSj : Sits P (j == 0) K Still B (Seat.one c z false home) (q₁ j) gj := by have := C₁.idle j gj hjh hgj; rwa [hj] at this
  have hjrun : gj.status = .running := (Sits.status C₁.keep hSj).elim (·.1) (fun z => by omega)
  obtain ⟨i, g, d', sl', hi, hg, hst⟩ := crowd_pick (P := P) (w := w.at d) (sl := sl₁) (C₁.awake ha₁ (.inr rfl)) ⟨j, gj, hgj, hjrun⟩
  rw [at_at'] at hst
  have Cd : Ring P K Still B Mem Inb h t gs₁ (w.at d') q₁ := TokCore.at hKat C₁ d'
  have hcd : (w.at d').heap[c]? = some (.chan 0 #[] false k k false) := hc
  have hμpos : 0 < μ := by
    have h2 : q₁ j ≤ sumTo gs₁.size q₁ := Go.ConcN.le_sumTo (f := q₁) (by omega)
    omega
  have hih : i ≠ h := fun e => by subst e; rw [ha₁] at hi; obtain rfl := Option.some.inj hi; cases hg
  by_cases ej : i = j ∧ ∃ g₂, AtIn P (i == 0) K Still B (Seat.one c z false home) g g₂
  · obtain ⟨rfl, g₂, hat⟩ := ej
    obtain ⟨_, _, _, _, hhome, esj, hesj, hstp⟩ := hat
    obtain ⟨hops, hr, hl, hd⟩ := evC_ops (i := i) (fn := g.frame.fn) (pos := g.frame.place) hesj
    have hp : partners (gs₁.setIfInBounds i ph) c true = [(h, 0)] := by
      rw [partners_one (stand_get (Ne.symm hjh) ha₁) fun x y hxh hy => by
        rcases getElem?_stand gs₁ i x y hy with ⟨_, rfl⟩ | ⟨_, hy'⟩
        · exact offersAt_ph _ _
        · exact TokCore.noSend Cd hxh hy' _]
      simp [offersAt_parked_send]
    have hk0 : (Seat.one c z false home).cases[0]? = some (rcase c z) := rfl
    have ho : ∀ (m : Nat) (c' : CommCase), m ≠ 0 → (Seat.one c z false home).cases[m]? = some c' → NoWays (w.at d') (gs₁.setIfInBounds i ph) c' := by
      intro m c' hm hc'
      rcases m with _ | m
      · exact absurd rfl hm
      · simp [Seat.one] at hc'
    have p1 : PastH Still Mem (fun g => g ≠ h ∧ (Inb g).isSome) B h (t ++ MemOp.ofEvents i g.frame.fn g.frame.place esj) := PastH.appRead C₁.past hMj ⟨hjh, by rw [hj]; rfl⟩ hops hr (hd t) hl
    have hD0 : ∀ x, Deaf (t ++ MemOp.ofEvents i g.frame.fn g.frame.place esj) x = Deaf t x := fun x => by
      by_cases ex : x = i
      · subst ex; exact hd t
      · exact Deaf_other t (fun z => ex z.symm) _ hops
    have hDeaf : ∀ x, Deaf (t ++ (MemOp.ofEvents i g.frame.fn g.frame.place esj ++ met h i a₂.frame.fn a₂.frame.place g₂.frame.fn g₂.frame.place c k 0)) x = Deaf t x := fun x => by rw [← Array.append_assoc, Deaf_quiet (met_quiet _ _ _ _ _ _ _ _ _ x), hD0]
    have p2 := p1.give hMh hMj a₂.frame.fn a₂.frame.place g₂.frame.fn g₂.frame.place k 0 hcB
    rw [Array.append_assoc] at p2
    refine ⟨_, _, 0, by rw [hst]; exact crowd_sel_recv_meets (sl := sl') hi (hstp _ Cd.keep) hk0 ho hcd (Ne.symm hjh) ha₁ hp, hμpos, .inl ⟨_, g₂, d', k, 0, sl', upd q₁ h nh, rfl, by simpa using hsz, ?_, hhome, hc, ?_⟩⟩
    · rw [Array.getElem?_setIfInBounds_self_of_lt (by simp; omega), finishComm_served]
    · exact Ring.pass hKc Cd hj hsc hcd (by simp) (fun x hx hxj => by rw [Array.getElem?_setIfInBounds_ne (fun z => hxj z.symm), Array.getElem?_setIfInBounds_ne (fun z => hx z.symm)])
        (by rw [Array.getElem?_setIfInBounds_ne hjh, Array.getElem?_setIfInBounds_self_of_lt hlth, finishComm_send]) hDeaf hI hIh (hafter _ (by rw [hDeaf]; exact C₁.past.hears h hMh)) p2
  · obtain ⟨gs', ops, q', hrt, hsz', hsp, hqo, hq0, C', hlt⟩ := TokCore.by_step (sl := sl') (fun t u i => Knows.app u) Cd hi hih hg
      (fun x gx hx hgx => by subst hx; rw [ha₁] at hgx; obtain rfl := Option.some.inj hgx; exact again_send_open hcd) (fun hD => hD.elim)
      (fun s' g₂ hs' hat => ⟨fun hD => hD, fun x gx c' hx hgx hc' => by
        subst hx; rw [ha₁] at hgx; obtain rfl := Option.some.inj hgx
        rw [offersAt_parked_send, if_neg]
        intro ec
        have hij : i = j := C₁.inj i j s' _ c hs' hj (ec ▸ hc') hsc
        subst hij
        rw [hj] at hs'
        obtain rfl := Option.some.inj hs'
        exact ej ⟨rfl, g₂, hat⟩⟩)
    refine ⟨_, _, sumTo gs'.size q', by rw [hst]; exact hrt, by rw [hsz']; omega, .inr ⟨gs', d', sl', q', rfl, hsz'.trans hsz, by rw [hsp h rfl]; exact ha₁, C', ?_, rfl⟩⟩
    by_cases hij : j = i
    · subst hij
      rcases Nat.eq_zero_or_pos (q' j) with h0 | h0
      · obtain ⟨g₂, hat⟩ := hq0 _ hj h0
        exact absurd ⟨rfl, g₂, hat⟩ ej
      · exact h0
    · rw [hqo j hij]; exact hpk

/-- It stands at a send of v on channel c (no buffer), listing nothing. -/
def AtSend (P : Program) (main : Bool) (K : World → Prop) (c : Nat) (v z' : Value) (a₂ g : Goroutine) : Prop :=
  g.status = .running ∧ ∀ w, K w → stepG P main g w = .comm a₂ #[scase c v z'] true .send w
/-- It is about to allot block o; the record behind that. -/
def AtBox (P : Program) (o : Obj) (g₁ g : Goroutine) (w : World) : Prop := g.status = .running ∧ stepG P false g w = .go g₁ { w with heap := w.heap.push o }
/-- A step that leaves the world as it is and lists nothing. -/
def DMute (w w' : World) (es : Array Event) : Prop := w' = w ∧ es = #[]

theorem ofEvents_none (i : Nat) (fn : FuncId) (pos : String) : MemOp.ofEvents i fn pos #[] = #[] := by simp [MemOp.ofEvents]

/-- STAGE I: the child, on its way, has come to its block; the parent walks, or waits at its send. -/
theorem birth_box (hKat : ∀ w d, K w → K (w.at d)) {j c : Nat} {z v z' : Value} {home : Goroutine → Prop} {sl : Option (Nat × Nat)} {a₂ child child₂ am : Goroutine} {o : Obj} {m n₁ : Nat}
    (hj0 : (j == 0) = false) (hjh : j ≠ h) (hj : Inb j = some (Seat.one c z false home)) (hhs : (Inb h).isSome = true) (hMh : Mem h) {k : Nat} (hc : w.heap[c]? = some (.chan 0 #[] false k k false))
    (ha : gs[h]? = some am) (hgj : gs[j]? = some child) (C : TokCore P K Still B (fun t => Knows t h) Mem (fun g => (Inb g).isSome) Inb (fun x => x = h ∨ x = j) (fun _ => False) T gs w q)
    (hm : Goes P (h == 0) (RK K) (DS Still B) (fun g _ => AtSend P (h == 0) K c v z' a₂ g) m am w)
    (hn : Goes P false (fun _ w₁ => K w₁ ∧ w₁.heap.size = w.heap.size) DMute (AtBox P o child₂) n₁ child w) (hK' : ∀ d, K { w.at d with heap := w.heap.push o }) (hcp : ∀ i s c, Inb i = some s → s.has c → c < w.heap.size) :
    ∃ (N : Nat) (gs' : Array Goroutine) (d : Nat) (sl' : Option (Nat × Nat)) (T' : Trace) (q' : Nat → Nat), runNT P N (crowd gs w sl) T = (.next (crowd gs' { w.at d with heap := w.heap.push o } sl'), T') ∧ gs'.size = gs.size ∧ gs'[j]? = some child₂ ∧
      ((∃ am m, gs'[h]? = some am ∧ Goes P (h == 0) (RK K) (DS Still B) (fun g _ => AtSend P (h == 0) K c v z' a₂ g) m am w) ∨ gs'[h]? = some (parked a₂ #[scase c v z'] .send)) ∧
      TokCore P K Still B (fun t => Knows t h) Mem (fun g => (Inb g).isSome) Inb (fun x => x = h ∨ x = j) (fun _ => False) T' gs' { w.at d with heap := w.heap.push o } q' := by
  have hsc : (Seat.one c z false home).has c := Seat.one_has.2 rfl
  obtain ⟨hMj, hcB'⟩ := C.mem j _ hj
  let Done : Machine → Trace → Prop := fun mm t => ∃ gs' d sl' q', mm = crowd gs' { w.at d with heap := w.heap.push o } sl' ∧ gs'.size = gs.size ∧ gs'[j]? = some child₂ ∧
      ((∃ am m, gs'[h]? = some am ∧ Goes P (h == 0) (RK K) (DS Still B) (fun g _ => AtSend P (h == 0) K c v z' a₂ g) m am w) ∨ gs'[h]? = some (parked a₂ #[scase c v z'] .send)) ∧
      TokCore P K Still B (fun t => Knows t h) Mem (fun g => (Inb g).isSome) Inb (fun x => x = h ∨ x = j) (fun _ => False) t gs' { w.at d with heap := w.heap.push o } q'
  let Inv : Nat → Machine → Trace → Prop := fun μ mm t => Done mm t ∨
      ∃ gs₁ d sl₁ q₁ cg n mh, mm = crowd gs₁ (w.at d) sl₁ ∧ gs₁.size = gs.size ∧ gs₁[j]? = some cg ∧ Goes P false (fun _ w₁ => K w₁ ∧ w₁.heap.size = w.heap.size) DMute (AtBox P o child₂) n cg w ∧
        ((∃ am m, gs₁[h]? = some am ∧ Goes P (h == 0) (RK K) (DS Still B) (fun g _ => AtSend P (h == 0) K c v z' a₂ g) m am w ∧ mh = m + 1) ∨ (gs₁[h]? = some (parked a₂ #[scase c v z'] .send) ∧ mh = 0)) ∧
        TokCore P K Still B (fun t => Knows t h) Mem (fun g => (Inb g).isSome) Inb (fun x => x = h ∨ x = j) (fun _ => False) t gs₁ (w.at d) q₁ ∧ μ = mh + (n + 1) + sumTo gs₁.size q₁
  have key : ∀ μ mm t, Inv μ mm t → Done mm t ∨ ∃ m' ops μ', stepT P mm = (.next m', ops) ∧ μ' < μ ∧ Inv μ' m' (t ++ ops) := by
    intro μ mm t hInv
    rcases hInv with hdone | ⟨gs₁, d, sl₁, q₁, cg, n, mh, rfl, hsz, hcg, hG, hmain, C₁, hμ⟩
    · exact .inl hdone
    refine .inr ?_
    have hltj : j < gs₁.size := (Array.getElem?_eq_some_iff.1 hcg).1
    have hK1 : ∀ d, K (w.at d) ∧ (w.at d).heap.size = w.heap.size := fun d => ⟨hKat _ _ (by have := hKat _ w.drawn C₁.keep; rwa [at_at'] at this), rfl⟩
    have hKw : ∀ d, K (w.at d) := fun d => (hK1 d).1
    -- the child runs
    have hcrun : cg.status = .running := by
      cases n with
      | zero => exact (hG _ (hK1 d)).1
      | succ n => exact hG.elim (fun x => (x _ (hK1 d)).1) (·.1)
    -- the parent: it runs, or waits at its send
    obtain ⟨ah, hah⟩ : ∃ ah, gs₁[h]? = some ah := by rcases hmain with ⟨am, _, h, _⟩ | ⟨h, _⟩ <;> exact ⟨_, h⟩
    have hlth : h < gs₁.size := (Array.getElem?_eq_some_iff.1 hah).1
    have hahst : (ah.status = .running ∧ ∃ m, Goes P (h == 0) (RK K) (DS Still B) (fun g _ => AtSend P (h == 0) K c v z' a₂ g) m ah w ∧ mh = m + 1) ∨ (ah = parked a₂ #[scase c v z'] .send ∧ mh = 0) := by
      rcases hmain with ⟨am, m, h1, h2, h3⟩ | ⟨h1, h3⟩
      · rw [hah] at h1
        obtain rfl := Option.some.inj h1
        refine .inl ⟨?_, m, h2, h3⟩
        cases m with
        | zero => exact (h2 _ (hKw d)).1
        | succ m => exact h2.elim (fun x => (x _ (hKw d)).1) (·.1)
      · rw [hah] at h1
        exact .inr ⟨Option.some.inj h1, h3⟩
    have hspst : ∀ (d : Nat) (x : Nat) (gx : Goroutine), (x = h ∨ x = j) → gs₁[x]? = some gx → gx.again (w.at d) = gx := by
      intro d x gx hx hgx
      rcases hx with rfl | rfl
      · rw [hah] at hgx
        obtain rfl := Option.some.inj hgx
        rcases hahst with ⟨hr, _⟩ | ⟨rfl, _⟩
        · exact again_of_running (.inl hr) _
        · exact again_send_open (w := w.at d) hc
      · rw [hcg] at hgx
        obtain rfl := Option.some.inj hgx
        exact again_of_running (.inl hcrun) _
    have hawake : ∀ g ∈ gs₁, awake g := by
      intro g hg
      obtain ⟨i, hi, rfl⟩ := Array.mem_iff_getElem.1 hg
      have hi' := Array.getElem?_eq_getElem hi
      by_cases hsp : i = h ∨ i = j
      · rcases hsp with rfl | rfl
        · rw [hah] at hi'
          rw [← Option.some.inj hi']
          rcases hahst with ⟨hr, _⟩ | ⟨rfl, _⟩
          · exact awake_of (.inl hr)
          · exact awake_of (.inr (.inl rfl))
        · rw [hcg] at hi'
          rw [← Option.some.inj hi']
          exact awake_of (.inl hcrun)
      · have hid := C₁.idle i _ hsp hi'
        cases es : Inb i with
        | none => rw [es] at hid; exact awake_of (hid.2.status.elim .inl fun x => .inr (.inr x))
        | some s => rw [es] at hid; exact awake_of ((Sits.status C₁.keep hid).elim (fun x => .inl x.1) fun x => .inr (.inl x.1))
    obtain ⟨i, g, d', sl', hi, hg, hst⟩ := crowd_pick (P := P) (w := w.at d) (sl := sl₁) hawake ⟨j, cg, hcg, hcrun⟩
    rw [at_at'] at hst
    have Cd : TokCore P K Still B (fun t => Knows t h) Mem (fun g => (Inb g).isSome) Inb (fun x => x = h ∨ x = j) (fun _ => False) t gs₁ (w.at d') q₁ := by have := TokCore.at hKat C₁ d'; rwa [at_at'] at this
    have hcd : (w.at d').heap[c]? = some (.chan 0 #[] false k k false) := hc
    have hchan : ∀ i s c, Inb i = some s → s.has c → (w.at d').heap[c]? = (w.at d').heap[c]? := fun _ _ _ _ _ => rfl
    -- nobody is unseated by a step that leaves the world
    have hfix : ∀ (a a' : Goroutine) (W : World), (∀ (x : Nat) (y : Goroutine), gs₁[x]? = some y → y.again W = y) → ∀ (x : Nat) (y : Goroutine), gs₁[x]? = some y → woken P a a' W y = y := fun a a' W hW x y hy => woken_of_again (hW x y hy)
    have hall : ∀ (x : Nat) (y : Goroutine), gs₁[x]? = some y → y.again (w.at d') = y := fun x y hy => by
      by_cases hx : x = h ∨ x = j
      · exact hspst d' x y hx hy
      · exact Cd.fixed hx hy
    have harr : ∀ (a a' g' : Goroutine) (i : Nat) (W : World), (∀ (x : Nat) (y : Goroutine), gs₁[x]? = some y → y.again W = y) → ∀ x, x ≠ i → ((gs₁.map (woken P a a' W)).setIfInBounds i g')[x]? = gs₁[x]? := by
      intro a a' g' i W hW x hx
      rw [Array.getElem?_setIfInBounds_ne (fun e => hx e.symm), Array.getElem?_map]
      cases e : gs₁[x]? with
      | none => rfl
      | some y => simp [hfix a a' W hW x y e]
    have hself : ∀ (a a' g' : Goroutine) (i : Nat) (W : World), i < gs₁.size → ((gs₁.map (woken P a a' W)).setIfInBounds i g')[i]? = some g' := fun a a' g' i W hi => Array.getElem?_setIfInBounds_self_of_lt (by simpa using hi)
    by_cases eh : i = h
    · -- THE PARENT's STEP
      subst eh
      obtain rfl : g = ah := by rw [hah] at hi; exact (Option.some.inj hi).symm
      rcases hahst with ⟨_, m, hGm, rfl⟩ | ⟨rfl, _⟩
      rotate_left
      · cases hg
      have hcase : AtSend P (i == 0) K c v z' a₂ g ∨ ∃ m' g' es, m = m' + 1 ∧ stepG P (i == 0) g (w.at d') = .go g' (w.at d') es ∧ (∀ e ∈ es, EvC Still B e) ∧ Goes P (i == 0) (RK K) (DS Still B) (fun g _ => AtSend P (i == 0) K c v z' a₂ g) m' g' w := by
        cases m with
        | zero => exact .inl (hGm _ (hKw d'))
        | succ m' =>
          rcases hGm with hstop | ⟨_, hstep⟩
          · exact .inl (hstop _ (hKw d'))
          · have hs := hstep (w.at d') (hKw d')
            cases hgo : stepG P (i == 0) g (w.at d') with
            | go g' w' es =>
              rw [hgo, goes_go] at hs
              obtain ⟨⟨rfl, hes⟩, hG'⟩ := hs
              exact .inr ⟨m', g', es, rfl, rfl, hes, goes_mono (R := RK K) (R' := RK K) (fun _ _ h => h) (fun _ _ _ h => h) (fun _ _ h => h) (Goes.rely (fun _ _ _ _ h => h) hG' (hKw w.drawn))⟩
            | _ => rw [hgo] at hs; exact hs.elim
      rcases hcase with hat | ⟨m', g', es, rfl, hgo, hes, hG'⟩
      · -- it comes to its send: the child is on its way: it waits
        have hp : partners (gs₁.setIfInBounds i ph) c false = [] := partners_nil fun x y hy => by
          rcases getElem?_stand gs₁ i x y hy with ⟨_, rfl⟩ | ⟨hx, hy'⟩
          · exact offersAt_ph _ _
          · by_cases hxj : x = j
            · subst hxj
              rw [hcg] at hy'
              obtain rfl := Option.some.inj hy'
              exact offersAt_of_not_blocked (by rw [hcrun]; simp) _ _
            · exact TokCore.noRecvAt Cd (fun z => z.elim hx hxj) hy' fun s' hs' hc' => hxj (C₁.inj x j s' _ c hs' hj hc' hsc)
        have hw : ∀ cc ∈ #[scase c v z'], NoWays (w.at d') (gs₁.setIfInBounds i ph) cc := by
          intro cc hcc
          simp only [List.mem_toArray, List.mem_cons, List.not_mem_nil, or_false] at hcc
          subst hcc
          exact ways_send_none hcd (Nat.le_refl _) hp
        have hrt := crowd_waits (P := P) (sl := sl') hi (hat.2 _ (hKw d')) hw
        rw [ofEvents_none] at hrt
        have C' := core_sp Cd (x := i) (.inl rfl) hlth (gs' := gs₁.setIfInBounds i (parked a₂ #[scase c v z'] .send)) (by simp) (fun y hy => Array.getElem?_setIfInBounds_ne (fun e => hy e.symm)) (ops := #[]) (by simp) hchan Cd.keep (by simpa using Cd.past)
        exact ⟨_, _, 0 + (n + 1) + sumTo gs₁.size q₁, by rw [hst]; exact hrt, by omega, .inr ⟨_, d', sl', q₁, cg, n, 0, rfl, by simpa using hsz, by rw [Array.getElem?_setIfInBounds_ne (fun e => hjh e.symm)]; exact hcg, hG, .inr ⟨Array.getElem?_setIfInBounds_self_of_lt hlth, rfl⟩, C', by simp⟩⟩
      · obtain ⟨hops, hr, hl, hd⟩ := evC_ops (i := i) (fn := g.frame.fn) (pos := g.frame.place) hes
        have hpast : PastG Still Mem (fun g => (Inb g).isSome) B (Knows (t ++ MemOp.ofEvents i g.frame.fn g.frame.place es) i) (t ++ MemOp.ofEvents i g.frame.fn g.frame.place es) := PastG.appRead Cd.past (fun _ => Knows.app _) hMh hhs hops hr (hd t) hl
        have C' := core_sp Cd (x := i) (.inl rfl) hlth (gs' := (gs₁.map (woken P g g' (w.at d'))).setIfInBounds i g') (by simp) (fun y hy => harr g g' g' i _ hall y hy) hops hchan Cd.keep hpast
        exact ⟨_, _, (m' + 1) + (n + 1) + sumTo gs₁.size q₁, by rw [hst]; exact runT_crowd_go (sl := sl') hi hgo, by omega, .inr ⟨_, d', sl', q₁, cg, n, _, rfl, by simpa using hsz, by rw [harr g g' g' i _ hall j hjh]; exact hcg, hG, .inl ⟨g', m', hself _ _ _ _ _ hlth, hG', rfl⟩, C', by simp⟩⟩
    · by_cases ej : i = j
      · -- THE CHILD's STEP
        subst ej
        obtain rfl : g = cg := by rw [hcg] at hi; exact (Option.some.inj hi).symm
        have hcase : AtBox P o child₂ g (w.at d') ∨ ∃ n' g', n = n' + 1 ∧ stepG P false g (w.at d') = .go g' (w.at d') ∧ Goes P false (fun _ w₁ => K w₁ ∧ w₁.heap.size = w.heap.size) DMute (AtBox P o child₂) n' g' w := by
          cases n with
          | zero => exact .inl (hG _ (hK1 d'))
          | succ n' =>
            rcases hG with hstop | ⟨_, hstep⟩
            · exact .inl (hstop _ (hK1 d'))
            · have hs := hstep (w.at d') (hK1 d')
              cases hgo : stepG P false g (w.at d') with
              | go g' w' es =>
                rw [hgo, goes_go] at hs
                obtain ⟨⟨rfl, rfl⟩, hG'⟩ := hs
                exact .inr ⟨n', g', rfl, rfl, Goes.rely (fun _ _ _ _ h => h) hG' (hK1 w.drawn)⟩
              | _ => rw [hgo] at hs; exact hs.elim
        rcases hcase with ⟨_, hbox⟩ | ⟨n', g', rfl, hgo, hG'⟩
        · -- it allots its block
          have hst' : stepG P (i == 0) g (w.at d') = .go child₂ { w.at d' with heap := w.heap.push o } #[] := by rw [hj0]; exact hbox
          have hrt := runT_crowd_go (P := P) (sl := sl') hi hst'
          rw [ofEvents_none] at hrt
          have hpush : ∀ (r : Nat) (ob : Obj), w.heap[r]? = some ob → (w.heap.push o)[r]? = some ob := fun r ob hr => by
            have : r < w.heap.size := (Array.getElem?_eq_some_iff.1 hr).1
            rw [Array.getElem?_push, if_neg (by omega)]; exact hr
          have hall' : ∀ (x : Nat) (y : Goroutine), gs₁[x]? = some y → y.again { w.at d' with heap := w.heap.push o } = y := fun x y hy => by
            by_cases hx : x = h ∨ x = i
            · rcases hx with rfl | rfl
              · rw [hah] at hy
                obtain rfl := Option.some.inj hy
                rcases hahst with ⟨hr, _⟩ | ⟨rfl, _⟩
                · exact again_of_running (.inl hr) _
                · exact again_send_open (w := { w.at d' with heap := w.heap.push o }) (hpush _ _ hc)
              · rw [hcg] at hy
                obtain rfl := Option.some.inj hy
                exact again_of_running (.inl hcrun) _
            · have hid := Cd.idle x y hx hy
              cases e : Inb x with
              | none => rw [e] at hid; exact again_of_running hid.2.status _
              | some s =>
                rw [e] at hid
                exact Sits.again (hK' d') hid (C₁.wf x s e) fun c' hc' => by obtain ⟨cap, kk, hk⟩ := C₁.chans x s c' (fun z => z) e hc'; exact ⟨_, _, _, _, _, hpush _ _ hk⟩
          have C' := core_sp Cd (x := i) (.inr rfl) hltj (gs' := (gs₁.map (woken P g child₂ { w.at d' with heap := w.heap.push o })).setIfInBounds i child₂) (by simp) (fun y hy => harr g child₂ child₂ i _ hall' y hy) (ops := #[]) (by simp)
            (w' := { w.at d' with heap := w.heap.push o }) (fun i s c hi hc => by
              show (w.heap.push o)[c]? = w.heap[c]?
              rw [Array.getElem?_push, if_neg (by have := hcp i s c hi hc; omega)]) (hK' d') (by simpa using Cd.past)
          refine ⟨_, _, 0, by rw [hst]; exact hrt, by omega, .inl ⟨_, d', sl', q₁, rfl, by simpa using hsz, hself _ _ _ _ _ hltj, ?_, C'⟩⟩
          rw [harr g child₂ child₂ i _ hall' h hjh.symm]
          rcases hmain with ⟨am, m, h1, h2, _⟩ | ⟨h1, _⟩
          · exact .inl ⟨am, m, h1, h2⟩
          · exact .inr h1
        · have hst' : stepG P (i == 0) g (w.at d') = .go g' (w.at d') #[] := by rw [hj0]; exact hgo
          have hrt := runT_crowd_go (P := P) (sl := sl') hi hst'
          rw [ofEvents_none] at hrt
          have C' := core_sp Cd (x := i) (.inr rfl) hltj (gs' := (gs₁.map (woken P g g' (w.at d'))).setIfInBounds i g') (by simp) (fun y hy => harr g g' g' i _ hall y hy) (ops := #[]) (by simp) hchan Cd.keep (by simpa using Cd.past)
          refine ⟨_, _, mh + (n' + 1) + sumTo gs₁.size q₁, by rw [hst]; exact hrt, by omega, .inr ⟨_, d', sl', q₁, g', n', mh, rfl, by simpa using hsz, hself _ _ _ _ _ hltj, hG', ?_, C', by simp⟩⟩
          rw [harr g g' g' i _ hall h hjh.symm]
          exact hmain
      · -- A BYSTANDER's STEP
        obtain ⟨gs', ops, q', hrt, hsz', hsp, _, _, C', hlt⟩ := TokCore.by_step (sl := sl') (fun t u i => Knows.app u) Cd hi (fun z => z.elim eh ej) hg (hspst d') (fun hD => hD.elim)
          (fun s' g₂ hs' hat => ⟨fun hD => hD, fun x gx c' hx hgx hc' => by
            rcases hx with rfl | rfl
            · rw [hah] at hgx
              obtain rfl := Option.some.inj hgx
              rcases hahst with ⟨hr, _⟩ | ⟨rfl, _⟩
              · exact offersAt_of_not_blocked (by rw [hr]; simp) _ _
              · rw [offersAt_parked_send, if_neg]
                intro ec
                exact ej (C₁.inj i j s' _ c hs' hj (ec ▸ hc') hsc)
            · rw [hcg] at hgx
              obtain rfl := Option.some.inj hgx
              exact offersAt_of_not_blocked (by rw [hcrun]; simp) _ _⟩)
        refine ⟨_, _, mh + (n + 1) + sumTo gs'.size q', by rw [hst]; exact hrt, by rw [hsz']; omega, .inr ⟨gs', d', sl', q', cg, n, mh, rfl, hsz'.trans hsz, by rw [hsp j (.inr rfl)]; exact hcg, hG, ?_, C', rfl⟩⟩
        rw [hsp h (.inl rfl)]
        exact hmain
  obtain ⟨N, m', T', hr, gs', d, sl', q', rfl, h1, h2, h3, h4⟩ := runs_until (P := P) key _ _ T (.inr ⟨gs, w.drawn, sl, q, child, n₁, _, rfl, rfl, hgj, hn, .inl ⟨am, m, ha, hm, rfl⟩, C, rfl⟩)
  exact ⟨N, gs', d, sl', T', q', hr, h1, h2, h3, h4⟩

theorem goes_at {main : Bool} {Stop : Goroutine → World → Prop} {W : World} (hK : ∀ d, K (W.at d)) : ∀ {n : Nat} {g : Goroutine} {w : World}, (∃ d, w = W.at d) → Goes P main (RK K) (DS Still B) Stop n g w → Goes P main AtRel (DS Still B) (fun g w => Stop g w ∧ ∃ d, w = W.at d) n g w
  | 0, _, _, hw, h => fun w₁ ⟨d, e⟩ => by obtain ⟨d', rfl⟩ := hw; subst e; exact ⟨h _ (hK d), d, rfl⟩
  | n + 1, g, w, hw, h => by
    obtain ⟨d', rfl⟩ := hw
    rcases h with h | ⟨hs, h⟩
    · exact .inl fun w₁ ⟨d, e⟩ => by subst e; exact ⟨h _ (hK d), d, rfl⟩
    · refine .inr ⟨hs, fun w₁ ⟨d, e⟩ => ?_⟩
      subst e
      have := h _ (hK d)
      revert this
      rw [at_at']
      cases stepG P main g (W.at d) <;> simp only [GStep.goes, imp_self]
      exact fun ⟨hd, x⟩ => ⟨hd, goes_at hK ⟨d, hd.1⟩ x⟩

/-- ████ A CHILD IS BORN, COMES TO ITS SEAT, AND IS HANDED THE TOKEN. ████ -/
theorem birth (hKat : ∀ w d, K w → K (w.at d)) (hKat' : ∀ w d, K' w → K' (w.at d)) {c : Nat} {z v z' : Value} {home : Goroutine → Prop} {sl : Option (Nat × Nat)} {a a' a₂ child child₂ : Goroutine} {es : Array Event} {o : Obj} {m n₁ n₂ nh : Nat} {sh : Seat}
    (hKc' : ∀ w i s r cap buf cl a b tm, upd Inb gs.size (some (Seat.one c z false home)) i = some s → s.has r → K' w → K' (w.setChan r cap buf cl a b tm))
    (hB : B ≤ w.heap.size) (hMh : Mem h) (ha : gs[h]? = some a) (hrun : a.status = .running) (hgo : ∀ d, stepG P (h == 0) a (w.at d) = .spawn a' child (w.at d) es) (hes : ∀ e ∈ es, EvHd Still B e)
    (C : Ring P K Still B Mem Inb h T gs w q) (hIh : Inb h = some sh) (hfresh : ∀ i s, Inb i = some s → ¬ s.has c) {k : Nat} (hc : w.heap[c]? = some (.chan 0 #[] false k k false))
    (hKK : ∀ w, K' w → K w) (hK' : ∀ d, K' { w.at d with heap := w.heap.push o }) (hS : ∀ l, Still l → Still' l) (hS' : ∀ l, Still' l → Still l ∨ ∃ x : Addr, l = .cell x ∧ x.block = w.heap.size)
    (hm : Goes P (h == 0) (RK K) (DS Still B) (fun g _ => AtSend P (h == 0) K c v z' a₂ g) m a' w)
    (hn : Goes P false (fun _ w₁ => K w₁ ∧ w₁.heap.size = w.heap.size) DMute (AtBox P o child₂) n₁ child w)
    (hn₂ : Sits P false K' Still' (w.heap.size + 1) (Seat.one c z false home) (n₂ + 1) child₂) (hafter : Sits P (h == 0) K' Still' (w.heap.size + 1) sh nh (Conc.served a₂ undef)) :
    ∃ N m' T' d, runNT P N (crowd gs w sl) T = (.next m', T') ∧ Given P K' Still' (w.heap.size + 1) (fun g => Mem g ∨ g = gs.size) (upd Inb gs.size (some (Seat.one c z false home))) gs.size (Seat.one c z false home) c 0 (gs.size + 1) { w.at d with heap := w.heap.push o } v m' T' := by
  obtain ⟨N, gs₁, d, d', sl₁, sl₂, T₁, q₁, hr, hst, hsz, ha₁, C₁⟩ := picked (sl := sl) hKat ha hrun C
  have hlt : h < gs₁.size := (Array.getElem?_eq_some_iff.1 ha₁).1
  have hcl : c < w.heap.size := (Array.getElem?_eq_some_iff.1 hc).1
  have hjh : gs.size ≠ h := by omega
  have hj0 : (gs.size == 0) = false := by rw [beq_eq_false_iff_ne]; omega
  obtain ⟨hops, hs, hl, hdf⟩ := evHd_ops (i := h) (fn := a.frame.fn) (pos := a.frame.place) hes
  have hrt := runT_crowd_spawn (P := P) (sl := sl₂) ha₁ (hgo d')
  have hpush : ((MemOp.ofEvents h a.frame.fn a.frame.place es).push { g := h, fn := a.frame.fn, pos := a.frame.place, act := .go gs₁.size } |>.push { g := gs₁.size, fn := child.frame.fn, pos := a.frame.place, act := .start }) =
      MemOp.ofEvents h a.frame.fn a.frame.place es ++ #[{ g := h, fn := a.frame.fn, pos := a.frame.place, act := .go gs₁.size }, { g := gs₁.size, fn := child.frame.fn, pos := a.frame.place, act := .start }] := by
    apply Array.ext'; simp
  rw [hpush, hsz] at hrt
  generalize hu : (#[{ g := h, fn := a.frame.fn, pos := a.frame.place, act := .go gs.size }, { g := gs.size, fn := child.frame.fn, pos := a.frame.place, act := .start }] : Trace) = u at hrt
  have p1 := PastH.appH C₁.past hops hs (hdf T₁) hl
  have hD1 : ∀ x, Deaf (T₁ ++ MemOp.ofEvents h a.frame.fn a.frame.place es) x = Deaf T₁ x := fun x => by
    by_cases ex : x = h
    · subst ex; exact hdf T₁
    · exact Deaf_other T₁ (fun z => ex z.symm) _ hops
  have p2 := p1.hire (c := gs.size) hMh (by rw [hD1]; exact C₁.above _ (by omega)) a.frame.fn a.frame.place child.frame.fn
  rw [hu, Array.append_assoc] at p2
  have hD2 : ∀ x, Deaf (T₁ ++ (MemOp.ofEvents h a.frame.fn a.frame.place es ++ u)) x = Deaf T₁ x := fun x => by
    rw [← Array.append_assoc, Deaf_quiet (fun op hop d => by
      subst hu
      simp only [List.mem_toArray, List.mem_cons, List.not_mem_nil, or_false] at hop
      rcases hop with rfl | rfl <;> rfl), hD1]
  let Inb₁ := upd Inb gs.size (some (Seat.one c z false home))
  have hI₁ : Inb₁ gs.size = some (Seat.one c z false home) := upd_same _ _ _
  have hI₁' : ∀ x, x ≠ gs.size → Inb₁ x = Inb x := fun x hx => upd_ne Inb _ hx
  -- THE MODE WITH TWO OF WHOM IT SPEAKS ITSELF
  have C₂ : TokCore P K Still' (w.heap.size + 1) (fun t => Knows t h) (fun g => Mem g ∨ g = gs.size) (fun g => (Inb₁ g).isSome) Inb₁ (fun x => x = h ∨ x = gs.size) (fun _ => False) (T₁ ++ (MemOp.ofEvents h a.frame.fn a.frame.place es ++ u)) ((gs₁.setIfInBounds h a').push child) (w.at d') q₁ := by
    refine ⟨fun x y hx hy => ?_, fun i s c' _ e hc' => ?_, fun i s e => ?_, fun _ _ z => z.elim, fun i i' s₁ s₂ c' e₁ e₂ h₁ h₂ => ?_, fun x hx => ?_, fun i s e => ?_, fun i hM => ?_, fun i s _ e => by rw [e]; rfl, ?_, C₁.keep⟩
    · have hxh : x ≠ h := fun e => hx (.inl e)
      have hxj : x ≠ gs.size := fun e => hx (.inr e)
      have hxl : x < gs₁.size := by
        have := (Array.getElem?_eq_some_iff.1 hy).1
        simp at this; omega
      rw [Array.getElem?_push, if_neg (by simp; omega), Array.getElem?_setIfInBounds_ne (fun z => hxh z.symm)] at hy
      rw [hI₁' x hxj]
      have hid := idle_mono (K' := K) (Still' := Still') (B' := w.heap.size + 1) (fun _ h => h) hS (by omega) (C₁.idle x y hxh hy)
      cases e : Inb x with
      | none => rw [e] at hid; exact ⟨hid.1, by rw [hD2]; exact hid.2⟩
      | some s => rw [e] at hid; exact hid
    · by_cases ei : i = gs.size
      · subst ei
        rw [hI₁] at e
        obtain rfl := Option.some.inj e
        rw [Seat.one_has] at hc'
        subst hc'
        exact ⟨0, k, hc⟩
      · rw [hI₁' i ei] at e
        exact C₁.chans i s c' (fun z => z) e hc'
    · by_cases ei : i = gs.size
      · subst ei
        rw [hI₁] at e
        obtain rfl := Option.some.inj e
        exact Seat.one_wf _ _ _ _
      · rw [hI₁' i ei] at e
        exact C₁.wf i s e
    · by_cases e1 : i = gs.size <;> by_cases e2 : i' = gs.size
      · rw [e1, e2]
      · subst e1
        rw [hI₁] at e₁; rw [hI₁' i' e2] at e₂
        obtain rfl := Option.some.inj e₁
        rw [Seat.one_has] at h₁
        subst h₁
        exact absurd h₂ (hfresh i' s₂ e₂)
      · subst e2
        rw [hI₁] at e₂; rw [hI₁' i e1] at e₁
        obtain rfl := Option.some.inj e₂
        rw [Seat.one_has] at h₂
        subst h₂
        exact absurd h₁ (hfresh i s₁ e₁)
      · rw [hI₁' i e1] at e₁; rw [hI₁' i' e2] at e₂
        exact C₁.inj i i' s₁ s₂ c' e₁ e₂ h₁ h₂
    · rw [hD2]
      exact C₁.above x (by simp at hx; omega)
    · by_cases ei : i = gs.size
      · subst ei
        rw [hI₁] at e
        obtain rfl := Option.some.inj e
        exact ⟨.inr rfl, fun c' hc' => by rw [Seat.one_has] at hc'; omega⟩
      · rw [hI₁' i ei] at e
        exact ⟨.inl (C₁.mem i s e).1, fun c' hc' => by have := (C₁.mem i s e).2 c' hc'; omega⟩
    · rcases hM with hM | rfl
      · by_cases ei : i = gs.size
        · exact .inr (.inr ei)
        · rcases C₁.nomem i hM with h | h
          · exact .inl (by rw [hI₁' i ei]; exact h)
          · exact .inr (.inl h)
      · exact .inr (.inr rfl)
    · have p3 : PastG Still (fun g => Mem g ∨ g = gs.size) (fun g => (Inb₁ g).isSome) B (Knows (T₁ ++ (MemOp.ofEvents h a.frame.fn a.frame.place es ++ u)) h) (T₁ ++ (MemOp.ofEvents h a.frame.fn a.frame.place es ++ u)) :=
        PastG.loosen p2 fun g hg => by
          rcases hg with ⟨_, hg⟩ | rfl
          · by_cases eg : g = gs.size
            · rw [eg, hI₁]; rfl
            · rw [hI₁' g eg]; exact hg
          · rw [hI₁]; rfl
      refine ⟨p3.clean, fun i x hx hmm => (p3.known i x hx hmm).imp id fun ⟨e1, e2, e3⟩ => ⟨e1, hS _ e2, e3⟩, fun i x hx hw hs' g hg => ?_, p3.hears, fun op hop => MemAct.low_mono (by omega) (p3.seen op hop)⟩
      rcases hS' _ hs' with h' | ⟨y, hy, hyb⟩
      · exact p3.wrote i x hx hw h' g hg
      · exfalso
        obtain ⟨op, hop, hxa⟩ := touch_of hx
        have hlow := p3.seen op (Array.mem_of_getElem? hop)
        cases hact : op.act with
        | access e =>
          rw [hact] at hxa hlow
          simp only [MemAct.touch?, Option.some.injEq] at hxa
          subst hxa
          have hy' : e.loc = .cell y := hy
          simp only [MemAct.low] at hlow
          rw [hy'] at hlow
          simp only [Loc.low] at hlow
          omega
        | mark mk =>
          rw [hact] at hxa hlow
          cases mk with
          | read a0 =>
            simp only [MemAct.touch?, Option.some.injEq] at hxa
            subst hxa
            simp only [Loc.cell.injEq] at hy
            subst hy
            simp only [MemAct.low] at hlow
            omega
          | write a0 =>
            simp only [MemAct.touch?, Option.some.injEq] at hxa
            subst hxa
            simp only [Loc.cell.injEq] at hy
            subst hy
            simp only [MemAct.low] at hlow
            omega
          | _ => simp [MemAct.touch?] at hxa
        | _ => rw [hact] at hxa; simp [MemAct.touch?] at hxa
  have hgs2 : ((gs₁.setIfInBounds h a').push child).size = gs.size + 1 := by simp [hsz]
  have hgj : ((gs₁.setIfInBounds h a').push child)[gs.size]? = some child := by rw [← hsz, Array.getElem?_push, if_pos (by simp)]
  have hgh : ((gs₁.setIfInBounds h a').push child)[h]? = some a' := by rw [Array.getElem?_push, if_neg (by simp; omega)]; exact Array.getElem?_setIfInBounds_self_of_lt hlt
  have hKw : ∀ d, K (w.at d) := fun d => by have := hKat _ d C.keep; exact this
  obtain ⟨N₂, gs₃, d₃, sl₃, T₃, q₃, hr₃, hsz₃, hj₃, hmain, C₃⟩ := birth_box (sl := sl₂) (w := w.at d') (am := a') (child := child) (child₂ := child₂) (o := o) (k := k) (v := v) (z' := z') (a₂ := a₂) hKat hj0 hjh hI₁ (by rw [hI₁' h hjh.symm, hIh]; rfl) (.inl hMh) hc hgh hgj C₂
    (goes_mono (R := RK K) (R' := RK K) (fun _ _ h => h) (fun _ _ _ ⟨e, h⟩ => ⟨e, fun x hx => evC_mono hS (by omega) (h x hx)⟩) (fun _ _ h => h) (Goes.rely (fun _ _ _ _ h => h) hm (hKw d')))
    (Goes.rely (fun _ _ _ _ h => h) hn ⟨hKw d', rfl⟩) (fun d => hKK _ (hK' d)) (fun i s c' e hc' => by
      by_cases ei : i = gs.size
      · subst ei
        rw [hI₁] at e
        obtain rfl := Option.some.inj e
        rw [Seat.one_has] at hc'
        subst hc'
        exact hcl
      · rw [hI₁' i ei] at e
        obtain ⟨cap, k', hk'⟩ := C₁.chans i s c' (fun z => z) e hc'
        exact (Array.getElem?_eq_some_iff.1 hk').1)
  rw [hgs2] at hsz₃
  have hW : ({ (w.at d').at d₃ with heap := (w.at d').heap.push o } : World) = { w.at d₃ with heap := w.heap.push o } := rfl
  rw [hW] at hr₃ C₃
  -- THE FRAME: the parent holds, the child is on its way to its seat
  have R : Ring P K' Still' (w.heap.size + 1) (fun g => Mem g ∨ g = gs.size) Inb₁ h T₃ gs₃ { w.at d₃ with heap := w.heap.push o } (upd q₃ gs.size (n₂ + 1)) := by
    refine ⟨fun x y hx hy => ?_, C₃.chans, C₃.wf, fun _ _ z => z.elim, C₃.inj, C₃.above, C₃.mem, fun i hM => ?_, fun i s hi e => ⟨hi, by rw [e]; rfl⟩, ?_, hK' d₃⟩
    · by_cases hxj : x = gs.size
      · subst hxj
        rw [hj₃] at hy
        obtain rfl := Option.some.inj hy
        rw [upd_same, hI₁]
        show Sits P (gs.size == 0) K' Still' (w.heap.size + 1) (Seat.one c z false home) (n₂ + 1) child₂
        rw [hj0]
        exact hn₂
      · rw [upd_ne q₃ _ hxj]
        exact idle_mono hKK (fun _ h => h) (Nat.le_refl _) (C₃.idle x y (fun e => e.elim hx hxj) hy)
    · rcases C₃.nomem i hM with h' | h' | h'
      · exact .inl h'
      · exact .inr h'
      · exact .inl (by rw [h', hI₁]; simp)
    · refine ⟨C₃.past.clean, fun i x hx hmm => ?_, C₃.past.wrote, C₃.past.hears, C₃.past.seen⟩
      rcases C₃.past.known i x hx hmm with h' | ⟨e1, e2, g, e3, e4⟩
      · exact .inl h'
      · by_cases hg : g = h
        · subst hg
          obtain ⟨op, hop, _⟩ := touch_of hx
          have := knows_own hop
          rw [show op.g = g from by have := g?_of hop; rw [e3] at this; exact (Option.some.inj this).symm] at this
          exact .inl this
        · exact .inr ⟨e1, e2, g, e3, hg, e4⟩
  have hKc : ∀ w i s c cap buf cl a b tm, Inb₁ i = some s → s.has c → K' w → K' (w.setChan c cap buf cl a b tm) := fun w i s c cap buf cl a b tm e h1 h2 => hKc' w i s c cap buf cl a b tm e h1 h2
  have hch3 : (w.heap.push o)[c]? = some (.chan 0 #[] false k k false) := by rw [Array.getElem?_push, if_neg (by omega)]; exact hc
  have hjlt : gs.size < gs₃.size := by omega
  have hIh₁ : Inb₁ h = some sh := by rw [hI₁' h hjh.symm]; exact hIh
  have haft : ∀ T', Deaf T' h = 0 → Idle P K' Still' (w.heap.size + 1) T' h nh (Conc.served a₂ undef) (Inb₁ h) := fun T' _ => by rw [hIh₁]; exact hafter
  have hrN : runNT P (N + 1) (crowd gs w sl) T = (.next (crowd ((gs₁.setIfInBounds h a').push child) (w.at d') sl₂), T₁ ++ (MemOp.ofEvents h a.frame.fn a.frame.place es ++ u)) := runNT_succ_of hr (hst.trans hrt)
  have hloose : ∀ m' T', Given P K' Still' (w.heap.size + 1) (fun g => Mem g ∨ g = gs.size) Inb₁ gs.size (Seat.one c z false home) c 0 gs₃.size { w.at d₃ with heap := w.heap.push o } v m' T' →
      Given P K' Still' (w.heap.size + 1) (fun g => Mem g ∨ g = gs.size) Inb₁ gs.size (Seat.one c z false home) c 0 (gs.size + 1) { w.at d₃ with heap := w.heap.push o } v m' T' := fun m' T' hg => by rw [hsz₃] at hg; exact hg
  rcases hmain with ⟨am, mm, hma, hmG⟩ | hpk
  · have hKW : ∀ d, K (({ w.at d₃ with heap := w.heap.push o } : World).at d) := fun d => hKK _ (hK' d)
    have hG' := goes_at (Still := Still') (B := w.heap.size + 1) hKW ⟨d₃, rfl⟩ (Goes.rely (w₁ := ({ w.at d₃ with heap := w.heap.push o } : World).at d₃) (fun _ _ _ _ h => h) hmG (hKW d₃))
    obtain ⟨N₄, gs₄, a₄, w₄, sl₄, T₄, q₄, hr₄, hsz₄, ha₄, ⟨hat, d₄, rfl⟩, C₄⟩ := hold_walk (sl := sl₃) hKat' (D := DS Still' (w.heap.size + 1)) (Still := Still') (B := w.heap.size + 1) (K := K') (Inb := Inb₁) (fun w w' es hd => by
      obtain ⟨rfl, hd⟩ := hd
      refine ⟨id, fun _ _ _ _ _ => rfl, fun e he => ?_⟩
      obtain ⟨x, rfl, hx, hxB⟩ := hd e he
      exact evHd_read x hxB) hma R hG'
    have hsend : ∀ d, stepG P (h == 0) a₄ ((({ w.at d₃ with heap := w.heap.push o } : World).at d₄).at d) = .comm a₂ #[scase c v z'] true .send ((({ w.at d₃ with heap := w.heap.push o } : World).at d₄).at d) := fun d => hat.2 _ (hKW d)
    obtain ⟨N₅, m', T', hr₅, hg⟩ := give (sl := sl₄) hKat' hKc (by omega) (by omega) hI₁ (show (Seat.one c z false home).cases[0]? = some (rcase c z) from rfl) (.inl hMh) ha₄ hat.1 hsend (by simp) C₄ (Inb' := Inb₁) (fun _ _ => rfl) (.inl rfl) (nh := nh) haft
    rw [hsz₄, hsz₃] at hg
    exact ⟨_, m', T', d₄, runNT_then hrN (runNT_then hr₃ (runNT_then hr₄ hr₅)), hg⟩
  · obtain ⟨N₄, m', T', hr₄, hg⟩ := parked_give (sl := sl₃) (k := k) hKat' hKc (by omega) hjlt hI₁ (.inl hMh) hpk R (by rw [upd_same]; omega) hch3 (Inb' := Inb₁) (fun _ _ => rfl) (.inl rfl) haft
    exact ⟨_, m', T', d₃, runNT_then hrN (runNT_then hr₃ hr₄), hloose _ _ hg⟩
end
end Go.Proofs.Ytolnmdanlggmhaa

/- The cells that nobody writes any more, as rows; the lone world in which they are frozen. -/
namespace Go.Proofs.Ytolnmdanlggmhaa
open Go.Conc
open Go.ConcN (sumTo upd sumTo_upd upd_ne upd_same)

structure Row where
  b : Nat
  lo : Nat
  xs : List Value

def KF (FC : List Row) (w : World) : Prop := ∀ r ∈ FC, ∀ (i : Nat) x, r.xs[i]? = some x → w.cell? ⟨r.b, r.lo + i, none⟩ = some x
def ZF (FC : List Row) (a : Addr) : Prop := ∃ r ∈ FC, ∃ i, i < r.xs.length ∧ a = ⟨r.b, r.lo + i, none⟩
def SF (FC : List Row) (l : Loc) : Prop := ∃ a, l = .cell a ∧ ZF FC a
structure WfF (FC : List Row) : Prop where
  nodup : (FC.map Row.b).Nodup
  some : ∀ r ∈ FC, r.xs ≠ []

section
variable {P : Program} {FC : List Row} {w w' u : World}

theorem kf_kept (hk : Kept (ZF FC) w w') (h : KF FC w) : KF FC w' := fun r hr i x hx => by
  rw [hk.cells _ ⟨r, hr, i, (List.getElem?_eq_some_iff.1 hx).1, rfl⟩]
  exact h r hr i x hx
theorem sf_zf (l : Loc) (h : SF FC l) : ∃ a, l = .cell a ∧ ZF FC a := h
theorem kf_sub {FC' : List Row} (hs : ∀ r ∈ FC, r ∈ FC') (h : KF FC' w) : KF FC w := fun r hr => h r (hs r hr)
theorem sf_sub {FC' : List Row} (hs : ∀ r ∈ FC, r ∈ FC') (l : Loc) (h : SF FC l) : SF FC' l := by
  obtain ⟨a, e, r, hr, h⟩ := h
  exact ⟨a, e, r, hs r hr, h⟩
theorem kf_setChan {c : Nat} (hne : ∀ r ∈ FC, r.b ≠ c) (cap : Nat) (buf : Array Value) (cl : Bool) (a b : Nat) (tm : Bool) (h : KF FC w) : KF FC (w.setChan c cap buf cl a b tm) := fun r hr i x hx => by
  have := h r hr i x hx
  unfold World.cell? at this ⊢
  simp only at this ⊢
  rw [heap_setChan_ne _ _ _ _ _ _ _ (fun e => hne r hr e.symm)]
  exact this
/-- A block in which cells are still is no channel. -/
theorem kf_ne (hW : WfF FC) (h : KF FC w) {c : Nat} {cap : Nat} {buf : Array Value} {cl : Bool} {a b : Nat} {tm : Bool} (hc : w.heap[c]? = some (.chan cap buf cl a b tm)) : ∀ r ∈ FC, r.b ≠ c := by
  intro r hr e
  cases hx : r.xs with
  | nil => exact hW.some r hr hx
  | cons x l =>
    have := h r hr 0 x (by rw [hx]; rfl)
    unfold World.cell? at this
    simp only [e, hc] at this
    cases this

/-- The frozen range that holds both. -/
def fz (lo hi : Nat) (g : Nat × Nat) : Nat × Nat := if g.1 < g.2 then (min lo g.1, max hi g.2) else (lo, hi)
def oddAddr : Addr := ⟨0, 0, some 0⟩
def gObj (FC : List Row) (b : Nat) : Obj → Obj
  | .cells c t g => match FC.find? (fun r => r.b == b) with
    | some r => .cells c t (fz r.lo (r.lo + r.xs.length) g)
    | none => .cells c t g
  | .view _ u => .view oddAddr u
  | .pending _ t => .view oddAddr t
  | o => o
/-- THE LONE WORLD: the still cells are frozen. -/
def guardW (FC : List Row) (w : World) : World := { w with heap := w.heap.mapIdx fun b o => gObj FC b o }

theorem guard_heap (FC : List Row) (w : World) (b : Nat) : (guardW FC w).heap[b]? = (w.heap[b]?).map (gObj FC b) := by
  simp [guardW, Array.getElem?_mapIdx]
theorem find_row (hW : WfF FC) {r : Row} (hr : r ∈ FC) : FC.find? (fun x => x.b == r.b) = some r := by
  cases h : FC.find? (fun x => x.b == r.b) with
  | none =>
    rw [List.find?_eq_none] at h
    exact absurd (by simp) (h r hr)
  | some r' =>
    have h1 := List.find?_some h
    have h2 := List.mem_of_find?_eq_some h
    have hb : r'.b = r.b := by simpa using h1
    have : r' = r := by
      have hnd := hW.nodup
      clear h h1 hW
      induction FC with
      | nil => cases hr
      | cons y l ih =>
        simp only [List.map_cons, List.nodup_cons, List.mem_map, not_exists, not_and] at hnd
        rcases List.mem_cons.1 hr with rfl | hr' <;> rcases List.mem_cons.1 h2 with rfl | h2'
        · rfl
        · exact absurd hb (hnd.1 r' h2')
        · exact absurd hb.symm (hnd.1 r hr')
        · exact ih hr' h2' hnd.2
    rw [this]
theorem find_none {b : Nat} (hb : ∀ r ∈ FC, r.b ≠ b) : FC.find? (fun x => x.b == b) = none := by
  rw [List.find?_eq_none]
  intro r hr
  simpa using hb r hr

theorem gObj_tame (FC : List Row) (b : Nat) (o : Obj) : tameObj (gObj FC b o) := by
  cases o with
  | cells c t g =>
    unfold gObj
    simp only
    split <;> trivial
  | view a u => rfl
  | pending c t => rfl
  | _ => trivial
theorem guard_noview (FC : List Row) (w : World) : NoView (guardW FC w) := by
  intro b o h
  rw [guard_heap] at h
  obtain ⟨o', _, rfl⟩ := Option.map_eq_some_iff.1 h
  exact gObj_tame _ _ _

theorem fz_sub {lo hi : Nat} {g : Nat × Nat} {o : Nat} (h : g.1 ≤ o ∧ o < g.2) : (fz lo hi g).1 ≤ o ∧ o < (fz lo hi g).2 := by
  unfold fz
  rw [if_pos (by omega)]
  simp only
  omega
theorem fz_sup {lo hi : Nat} {g : Nat × Nat} {o : Nat} (h : lo ≤ o ∧ o < hi) : (fz lo hi g).1 ≤ o ∧ o < (fz lo hi g).2 := by
  unfold fz
  split <;> simp only <;> omega
theorem fz_eq {lo hi : Nat} {g : Nat × Nat} (h : ∀ o, g.1 ≤ o ∧ o < g.2 → lo ≤ o ∧ o < hi) : fz lo hi g = (lo, hi) := by
  unfold fz
  split
  · have h1 := h g.1 ⟨Nat.le_refl _, by omega⟩
    have h2 := h (g.2 - 1) ⟨by omega, by omega⟩
    rw [show min lo g.1 = lo by omega, show max hi g.2 = hi by omega]
  · rfl

theorem guard_sim (hW : WfF FC) (hK : KF FC w) : Sim False (ZF FC) (guardW FC w) w := by
  refine ⟨by simp [guardW], fun b => ?_, guard_noview FC w, fun a ha => ?_, rfl, rfl, fun h => h.elim⟩
  · rw [guard_heap]
    cases ho : w.heap[b]? with
    | none => exact .inl rfl
    | some o =>
      simp only [Option.map_some]
      cases o with
      | cells c t g =>
        by_cases hb : ∃ r ∈ FC, r.b = b
        · obtain ⟨r, hr, rfl⟩ := hb
          refine .inr (.inl ⟨c, t, fz r.lo (r.lo + r.xs.length) g, g, ?_, rfl, fun o h => fz_sub h, ?_⟩)
          · simp only [gObj, find_row hW hr]
          · cases hx : r.xs with
            | nil => exact absurd hx (hW.some r hr)
            | cons x l => exact ⟨⟨r.b, r.lo + 0, none⟩, ⟨r, hr, 0, by rw [hx]; simp, rfl⟩, rfl⟩
        · refine .inl ?_
          simp only [gObj, find_none (fun r hr e => hb ⟨r, hr, e⟩)]
      | view a u => exact .inr (.inr ⟨⟨_, _, rfl⟩, .inl ⟨_, _, rfl⟩⟩)
      | pending c t => exact .inr (.inr ⟨⟨_, _, rfl⟩, .inr ⟨_, _, rfl⟩⟩)
      | _ => exact .inl rfl
  · obtain ⟨r, hr, i, hi, rfl⟩ := ha
    have hc := hK r hr i _ (List.getElem?_eq_getElem hi)
    unfold World.cell? at hc ⊢
    unfold World.frozen?
    simp only [guard_heap] at hc ⊢
    cases ho : w.heap[r.b]? with
    | none => rw [ho] at hc; cases hc
    | some o =>
      rw [ho] at hc
      cases o with
      | cells c t g =>
        simp only [Option.map_some, gObj, find_row hW hr]
        simp only at hc
        refine ⟨by rw [hc]; rfl, ?_⟩
        have := fz_sup (lo := r.lo) (hi := r.lo + r.xs.length) (g := g) (o := r.lo + i) ⟨by omega, by omega⟩
        simp [this]
      | _ => cases hc

/-- A block of which no cell is still, and that is none of the odd ones. -/
theorem guard_same {b : Nat} (hb : ∀ r ∈ FC, r.b ≠ b) (ho : ¬ Odd w.heap[b]?) : (guardW FC w).heap[b]? = w.heap[b]? := by
  rw [guard_heap]
  cases h : w.heap[b]? with
  | none => rfl
  | some o =>
    simp only [Option.map_some]
    rw [h] at ho
    cases o with
    | cells c t g => simp only [gObj, find_none hb]
    | view a u => exact absurd (.inl ⟨_, _, rfl⟩) ho
    | pending c t => exact absurd (.inr ⟨_, _, rfl⟩) ho
    | _ => rfl
/-- A block of cells, of which only some in [lo, hi) may be frozen. -/
def CellsAt (w : World) (b : Nat) (c : Array Value) (t : TypeId) (lo hi : Nat) : Prop := ∃ g : Nat × Nat, w.heap[b]? = some (.cells c t g) ∧ ∀ o, g.1 ≤ o ∧ o < g.2 → lo ≤ o ∧ o < hi
theorem guard_cells (hW : WfF FC) {r : Row} (hr : r ∈ FC) {c : Array Value} {t : TypeId} (h : CellsAt w r.b c t r.lo (r.lo + r.xs.length)) : (guardW FC w).heap[r.b]? = some (.cells c t (r.lo, r.lo + r.xs.length)) := by
  obtain ⟨g, h1, h2⟩ := h
  rw [guard_heap, h1]
  simp only [Option.map_some, gObj, find_row hW hr]
  rw [fz_eq h2]
theorem sim_same {X : Prop} (h : Sim X (ZF FC) u w) {b : Nat} (hb : ∀ r ∈ FC, r.b ≠ b) (ho : ¬ Odd w.heap[b]?) : w.heap[b]? = u.heap[b]? := by
  rcases h.blk b with e | ⟨c, t, f, g, _, _, _, a, ⟨r, hr, i, _, rfl⟩, e⟩ | ⟨_, e⟩
  · exact e.symm
  · exact absurd e (hb r hr)
  · exact absurd e ho

end
end Go.Proofs.Ytolnmdanlggmhaa

/- From this state of the crowd the run ends well: laws, one per kind of step. -/
namespace Go.Proofs.Ytolnmdanlggmhaa
open Go.Conc
open Go.ConcN (sumTo upd sumTo_upd upd_ne upd_same)

def Wins (P : Program) (Post : Value → World → Prop) (m : Machine) (T : Trace) : Prop :=
  ∃ N last o w' t', runNT P (N + 1) m T = (.ended o w', t') ∧ runN P N m = .next last ∧ step P last = .ended o w' ∧ Conc.Good P Post last o w' t'
/-- Goroutine h holds the token; its record is g; the world is w; n goroutines; seats Inb; still cells FC. -/
def Won (P : Program) (Post : Value → World → Prop) (FC : List Row) (n : Nat) (Inb : Nat → Option Seat) (h : Nat) (g : Goroutine) (w : World) : Prop :=
  ∀ gs T q sl Mem, gs.size = n → gs[h]? = some g → Mem h → Ring P (KF FC) (SF FC) w.heap.size Mem Inb h T gs w q → Wins P Post (crowd gs w sl) T

section
variable {P : Program} {Post : Value → World → Prop} {FC : List Row} {n h : Nat} {Inb Inb' : Nat → Option Seat} {g : Goroutine} {w : World}

theorem wins_run {N : Nat} {m m' : Machine} {T T' : Trace} (hr : runNT P N m T = (.next m', T')) (hw : Wins P Post m' T') : Wins P Post m T := by
  obtain ⟨N', last, o, w', t', h1, h2, h3, h4⟩ := hw
  refine ⟨N + N', last, o, w', t', ?_, ?_, h3, h4⟩
  · rw [Nat.add_assoc, runNT_add, hr]; exact h1
  · rw [runN_add, ← runNT_fst P _ _ T, hr]; exact h2

/-- THE HOLDER's OWN RUN. -/
theorem win_own (hW : WfF FC) (hO : OwnU P (h == 0) (ZF FC) (fun g' w' => Won P Post FC n Inb h g' w') w g (guardW FC w)) : Won P Post FC n Inb h g w := by
  intro gs T q sl Mem hsz ha hM C
  obtain ⟨N, gs', a', w', sl', T', q', hr, hsz', ha', hS, C'⟩ := own_crowd (Z := ZF FC) (sl := sl) (fun _ _ h => h) (fun _ _ => kf_kept) sf_zf (hO w (guard_sim hW C.keep) (Kept.refl _ _)) ha C
  exact wins_run hr (hS gs' T' q' sl' Mem (hsz'.trans hsz) ha' hM C')
theorem ownU_stop {main : Bool} {Z : Addr → Prop} {Stop : Goroutine → World → Prop} {w₀ u : World} (h : ∀ w, Sim False Z u w → Kept Z w₀ w → Stop g w) : OwnU P main Z Stop w₀ g u :=
  fun w hs hk => .stop _ _ fun d => h _ (sim_untp (A := w.tape) (d := d) (sim_tp hs _ _ _)) (kept_at hk d)

/-- THE TOKEN IS GIVEN to whoever sits at channel c. -/
theorem win_give (hW : WfF FC) {j c : Nat} {z v z' : Value} {g₂ gj : Goroutine} {nh : Nat} (hjh : j ≠ h) (hjn : j < n) (hj : Inb j = some (Seat.one c z false (· = gj))) (hrun : g.status = .running)
    (hsend : ∀ w, stepG P (h == 0) g w = .comm g₂ #[scase c v z'] true .send w) (hI : ∀ x, x ≠ h → Inb' x = Inb x) (hIh : Inb' h = Inb h ∨ Inb' h = none)
    (hafter : ∀ T', Deaf T' h = 0 → Idle P (KF FC) (SF FC) w.heap.size T' h nh (Conc.served g₂ undef) (Inb' h))
    (hk : ∀ d cap kk, w.heap[c]? = some (.chan cap #[] false kk kk false) → Won P Post FC n Inb' j (Conc.served gj v) ((w.at d).setChan c cap #[] false (kk + 1) (kk + 1) false)) : Won P Post FC n Inb h g w := by
  intro gs T q sl Mem hsz ha hM C
  have hsc : (Seat.one c z false (· = gj)).has c := Seat.one_has.2 rfl
  have hKc : ∀ w' i s r cap buf cl a b tm, Inb i = some s → s.has r → KF FC w' → KF FC (w'.setChan r cap buf cl a b tm) := by
    intro w' i s r cap buf cl a b tm e hr hK
    obtain ⟨cap', k', hk'⟩ := C.chans i s r (fun z => z) e hr
    exact kf_setChan (kf_ne hW C.keep hk') _ _ _ _ _ _ hK
  obtain ⟨N, m', T', hr, gs', g₂', d, k, cap, sl', q', rfl, h1, h2, h3, h4, h5⟩ := give (sl := sl) (fun _ _ h => h) hKc hjh (by omega) hj (show (Seat.one c z false (· = gj)).cases[0]? = some (rcase c z) from rfl) hM ha hrun (fun d => hsend _) (by simp) C hI hIh hafter
  have h3' : g₂' = gj := h3
  subst h3'
  refine wins_run hr (hk d cap k h4 gs' T' q' sl' (fun g => Mem g ∧ (Inb' g ≠ none ∨ g = j)) (h1.trans hsz) ?_ ⟨?_, .inr rfl⟩ ?_)
  · rw [h2]
    rfl
  · exact (C.mem j _ hj).1
  · have : ((w.at d).setChan c cap #[] false (k + 1) (k + 1) false).heap.size = w.heap.size := by simp [World.setChan, World.at]
    rw [this]
    exact h5

/-- THE RUN ENDS: goroutine 0 holds, nobody else has a seat. -/
theorem win_end (hI : ∀ i, i ≠ 0 → Inb i = none) (hrun : g.status = .running) {v : Value} (hend : ∀ d, ∃ es, stepG P true g (w.at d) = .ended (.done v) (w.at d) es ∧ (∀ e ∈ es, EvL (fun _ => False) w.heap.size e) ∧ Post v (w.at d)) : Won P Post FC n Inb 0 g w := by
  intro gs T q sl Mem hsz ha hM C
  obtain ⟨L, Pp⟩ := ring_end C hM hI
  have hG : Goes P true AtRel (fun _ _ es => ∀ e ∈ es, EvL (fun _ => False) w.heap.size e) (AtEnd P (fun _ => False) w.heap.size Post) 0 g w := by
    rintro w₁ ⟨d, rfl⟩
    obtain ⟨es, h1, h2, h3⟩ := hend d
    exact ⟨hrun, v, es, h1, h2, h3⟩
  obtain ⟨N, last, o, w', t', e1, e2, e3, e4⟩ := beside_ends (sl := sl) (fun _ _ _ h => h) ha L Pp hG
  exact ⟨N, last, o, w', t', e1, e2, e3, e4⟩

/-- The holder says its seat anew. -/
theorem win_reseat {c : Nat} {z : Value} {home : Goroutine → Prop} (hfresh : ∀ i s, i ≠ h → Inb i = some s → ¬ s.has c) {cap k : Nat} (hc : w.heap[c]? = some (.chan cap #[] false k k false)) (hw : Won P Post FC n (upd Inb h (some (Seat.one c z false home))) h g w) : Won P Post FC n Inb h g w := by
  intro gs T q sl Mem hsz ha hM C
  have hlt := (Array.getElem?_eq_some_iff.1 hc).1
  exact hw gs T q sl Mem hsz ha hM (C.reseat hM _ (Seat.one_wf _ _ _ _) (fun i s r hi e hr hn => by rw [Seat.one_has] at hn; subst hn; exact hfresh i s hi e hr) (fun r hr => by rw [Seat.one_has] at hr; subst hr; exact ⟨cap, k, hc⟩) (fun r hr => by rw [Seat.one_has] at hr; omega))
/-- The holder gives up its seat. -/
theorem win_unseat (hw : Won P Post FC n (upd Inb h none) h g w) : Won P Post FC n Inb h g w := by
  intro gs T q sl Mem hsz ha hM C
  have hup : ∀ x, x ≠ h → upd Inb h none x = Inb x := fun x hx => upd_ne Inb _ hx
  have hsub : ∀ i s, upd Inb h none i = some s → Inb i = some s := fun i s e => by
    by_cases ei : i = h
    · subst ei; rw [upd_same] at e; cases e
    · rwa [hup i ei] at e
  refine hw gs T q sl Mem hsz ha hM ⟨fun x y hx hy => by rw [hup x hx]; exact C.idle x y hx hy, fun i s c hd e hc => C.chans i s c hd (hsub i s e) hc, fun i s e => C.wf i s (hsub i s e), fun _ _ z => z.elim, fun i i' s₁ s₂ c e₁ e₂ => C.inj i i' s₁ s₂ c (hsub _ _ e₁) (hsub _ _ e₂), C.above, fun i s e => C.mem i s (hsub i s e), fun i hi => ?_, fun i s hi e => ⟨hi, by rw [e]; rfl⟩, ?_, C.keep⟩
  · by_cases ei : i = h
    · exact .inr ei
    · rw [hup i ei]; exact C.nomem i hi
  · exact PastG.loosen C.past fun g ⟨hg, hs⟩ => ⟨hg, by rw [hup g hg]; exact hs⟩

theorem cell_push {w : World} {a : Addr} {x : Value} (h : w.cell? a = some x) (o : Obj) (d : Nat) : ({ w.at d with heap := w.heap.push o } : World).cell? a = some x := by
  have hlt := cell_lt h
  unfold World.cell? at h ⊢
  simp only
  rw [Array.getElem?_push, if_neg (by omega)]
  exact h
theorem kf_push {x : Value} {t : TypeId} (hK : KF FC w) (d : Nat) : KF (⟨w.heap.size, 0, [x]⟩ :: FC) { w.at d with heap := w.heap.push (.cells #[x] t) } := by
  intro r hr i y hy
  rcases List.mem_cons.1 hr with rfl | hr
  · rcases i with _ | i
    · simp only [List.getElem?_cons_zero, Option.some.injEq] at hy
      subst hy
      unfold World.cell?
      simp
    · simp at hy
  · exact cell_push (hK r hr i y hy) _ _

/-- A go STATEMENT; the child comes to its seat, and is handed the token. -/
theorem win_birth (hW : WfF FC) {c : Nat} {z v z' x : Value} {t : TypeId} {g' child child₂ gj g₂ : Goroutine} {m n₁ n₂ nh : Nat} {sh : Seat} (hrun : g.status = .running)
    (hgo : ∀ w, stepG P (h == 0) g w = .spawn g' child w #[]) (hIh : Inb h = some sh) (hfresh : ∀ i s, Inb i = some s → ¬ s.has c) {k : Nat} (hc : w.heap[c]? = some (.chan 0 #[] false k k false))
    (hm : Goes P (h == 0) (RK (KF FC)) (DS (SF FC) w.heap.size) (fun g _ => AtSend P (h == 0) (KF FC) c v z' g₂ g) m g' w)
    (hn : Goes P false (fun _ w₁ => KF FC w₁ ∧ w₁.heap.size = w.heap.size) DMute (AtBox P (.cells #[x] t) child₂) n₁ child w)
    (hn₂ : Sits P false (KF (⟨w.heap.size, 0, [x]⟩ :: FC)) (SF (⟨w.heap.size, 0, [x]⟩ :: FC)) (w.heap.size + 1) (Seat.one c z false (· = gj)) (n₂ + 1) child₂)
    (hafter : Sits P (h == 0) (KF (⟨w.heap.size, 0, [x]⟩ :: FC)) (SF (⟨w.heap.size, 0, [x]⟩ :: FC)) (w.heap.size + 1) sh nh (Conc.served g₂ undef))
    (hk : ∀ d kk, w.heap[c]? = some (.chan 0 #[] false kk kk false) →
      Won P Post (⟨w.heap.size, 0, [x]⟩ :: FC) (n + 1) (upd Inb n (some (Seat.one c z false (· = gj)))) n (Conc.served gj v) (({ w.at d with heap := w.heap.push (.cells #[x] t) } : World).setChan c 0 #[] false (kk + 1) (kk + 1) false)) :
    Won P Post FC n Inb h g w := by
  intro gs T q sl Mem hsz ha hM C
  subst hsz
  have hcl : c < w.heap.size := (Array.getElem?_eq_some_iff.1 hc).1
  have hch : ∀ i s r, upd Inb gs.size (some (Seat.one c z false (· = gj))) i = some s → s.has r → ∃ cap k, w.heap[r]? = some (.chan cap #[] false k k false) := by
    intro i s r e hr
    by_cases ei : i = gs.size
    · subst ei
      rw [upd_same] at e
      obtain rfl := Option.some.inj e
      rw [Seat.one_has] at hr
      subst hr
      exact ⟨0, k, hc⟩
    · rw [upd_ne _ _ ei] at e
      exact C.chans i s r (fun z => z) e hr
  obtain ⟨N, m', T', d, hr, gs', g₂', d', kk, cap, sl', q', rfl, h1, h2, h3, h4, h5⟩ := birth (sl := sl) (K' := KF (⟨w.heap.size, 0, [x]⟩ :: FC)) (Still' := SF (⟨w.heap.size, 0, [x]⟩ :: FC)) (fun _ _ h => h) (fun _ _ h => h)
    (fun w' i s r cap buf cl a b tm e hr hK => by
      obtain ⟨cap', k', hk'⟩ := hch i s r e hr
      refine kf_setChan (fun y hy => ?_) _ _ _ _ _ _ hK
      rcases List.mem_cons.1 hy with rfl | hy
      · have := (Array.getElem?_eq_some_iff.1 hk').1
        simp only
        omega
      · exact kf_ne hW C.keep hk' y hy) (Nat.le_refl _) hM ha hrun (fun d => hgo _) (by simp) C hIh hfresh hc (fun _ => kf_sub fun r hr => List.mem_cons_of_mem _ hr) (fun d => kf_push C.keep d) (sf_sub fun r hr => List.mem_cons_of_mem _ hr)
    (fun l hl => by
      obtain ⟨a, e, r, hr, i, hi, rfl⟩ := hl
      rcases List.mem_cons.1 hr with rfl | hr
      · exact .inr ⟨_, e, rfl⟩
      · exact .inl ⟨_, e, r, hr, i, hi, rfl⟩) hm hn hn₂ hafter
  have h3' : g₂' = gj := h3
  subst h3'
  have h4' : w.heap[c]? = some (.chan cap #[] false kk kk false) := by
    have e : (w.heap.push (.cells #[x] t))[c]? = some (.chan cap #[] false kk kk false) := h4
    rwa [Array.getElem?_push, if_neg (by omega)] at e
  have hcap : cap = 0 := by rw [hc] at h4'; injection h4' with e; injection e with e; exact e.symm
  subst hcap
  refine wins_run hr (hk d' kk h4' gs' T' q' sl' (fun g => (Mem g ∨ g = gs.size) ∧ (upd Inb gs.size (some (Seat.one c z false (· = g₂'))) g ≠ none ∨ g = gs.size)) h1 (by rw [h2]; rfl) ⟨.inr rfl, .inr rfl⟩ ?_)
  have : (({ w.at d' with heap := w.heap.push (.cells #[x] t) } : World).setChan c 0 #[] false (kk + 1) (kk + 1) false).heap.size = w.heap.size + 1 := by simp [World.setChan]
  rw [this]
  exact h5
end
end Go.Proofs.Ytolnmdanlggmhaa

/- The own run's rules in the form in which walks use them. -/
namespace Go.Proofs.Ytolnmdanlggmhaa
open Go.Conc

section
variable {P : Program} {L : List FuncId} {main : Bool} {Z : Addr → Prop} {Stop : Goroutine → World → Prop} {w₀ u v w : World} {g : Goroutine}

theorem ownU_tp {A : Nat → Question → Nat} {d : Nat} : OwnU P main Z Stop w₀ g (tp u A d) ↔ OwnU P main Z Stop w₀ g u :=
  ⟨fun h w hs hk => h w ⟨hs.size, hs.blk, hs.noview, hs.guard, hs.os, hs.output, hs.exact⟩ hk, fun h w hs hk => h w (sim_untp hs) hk⟩
theorem ownU_nv (h : NoView u → OwnU P main Z Stop w₀ g u) : OwnU P main Z Stop w₀ g u := fun w hs hk => h hs.noview w hs hk

section
variable {b : Frame} {a : Act} {k : List Item} {cs : List Frame} {ops : Array Oper} {i : Nat} {rest : List Nat} {o : Oper}

/-- A lone walk of a piece of code; what follows goes on behind it. -/
theorem ownU_codeK {c : Code} (hL : okL P L = true) (hc : okCode P L c = true) (hb : b.kind ≠ .early) (hfn : ∃ fn, P.funcs[b.fn]? = some fn)
    (h : ∀ A d, c.wp P (fun e a' w' => e = .normal ∧ OwnU P main Z Stop w₀ (G (b.at ⟨a'.tmps, a.defers⟩ k) cs) w') ⟨a.tmps, []⟩ (tp u A d)) : OwnU P main Z Stop w₀ (G (b.at a (.code c :: k)) cs) u :=
  ownU_nv fun hn => ownU_code hL hc hb hfn hn h (fun _ _ _ h => h.1) fun _ _ _ _ _ hq => ownU_tp.1 hq.2

/-- A lone contract; what follows goes on behind it. -/
theorem ownU_callK {f : FuncId} {args : Array Operand} {ats : Array TypeId} {R : Ending → World → Prop} (hL : okL P L = true) (hf : f ∈ L) (ho : ops[i]? = some o) (hop : o.op = .call { callee := .value (.func f), args, argTypes := ats })
    (hok : okCallee P L f = true) (hw : Region.wanted o (yielded ops a.tmps) = true) (hb : b.kind ≠ .early)
    (hc : ∀ A d, Calls P f (args.map a.eval) (tp u A d) R) (hR : ∀ e w, R e w → ∃ z, e = .returned z)
    (hk : ∀ z u', R (.returned z) u' → OwnU P main Z Stop w₀ (G (b.at (a.put o.dst z) (.inRegion ops rest :: k)) cs) u') :
    OwnU P main Z Stop w₀ (G (b.at a (.inRegion ops (i :: rest) :: k)) cs) u :=
  ownU_nv fun hn => ownU_call hL hf ho hop hok hw hb hn hc hR fun z _ _ _ _ hr => ownU_tp.1 (hk z _ hr)

/-- A step of which the law is given in the library's style. -/
theorem ownU_goes {g g' : Goroutine} (hs : g.status = .running) (h : ∀ w, (stepG P main g w).goes fun g₁ w₁ es => g₁ = g' ∧ w₁ = w ∧ es = #[]) (hk : OwnU P main Z Stop w₀ g' u) : OwnU P main Z Stop w₀ g u := by
  refine ownU_still hs (fun w => ?_) hk
  have hg := h w
  cases hs : stepG P main g w with
  | go g' w' es => rw [hs, goes_go] at hg; obtain ⟨rfl, rfl, rfl⟩ := hg; rfl
  | _ => rw [hs] at hg; exact hg.elim

/-- A call of a function that is walked in company itself. -/
theorem ownU_enter {f : FuncId} {fn : Func} {c : Code} {args : Array Operand} {ats : Array TypeId} (ho : ops[i]? = some o) (hw : Region.wanted o (yielded ops a.tmps) = true) (hb : b.kind ≠ .early) (hop : o.op = .call { callee := .value (.func f), args, argTypes := ats })
    (hfn : P.funcs[f]? = some fn) (hnm : (fn.name == "runtime.NumGoroutine") = false) (hbd : fn.body = some c)
    (hk : OwnU P main Z Stop w₀ (G ((base f).at { tmps := args.map a.eval ++ Array.replicate (fn.ntmps - (args.map a.eval).size) undef, defers := [] } [.code c]) (b.at a (.inRegion ops (i :: rest) :: k) :: cs)) u) : OwnU P main Z Stop w₀ (G (b.at a (.inRegion ops (i :: rest) :: k)) cs) u :=
  ownU_goes rfl (fun _ => goes_call ho hw hb hop hfn hnm hbd ⟨rfl, rfl, rfl⟩) hk

/-- .. returns nothing. -/
theorem ownU_leave0 {fn : Func} {b₀ : Frame} {a₀ : Act} {todo : List Item} (hn : b.kind = .normal) (hd : a.defers = []) (hf : P.funcs[b.fn]? = some fn) (hr : fn.results = #[])
    (hk : OwnU P main Z Stop w₀ (G (b₀.at (a₀.put ((ops[i]?).bind (·.dst)) (.tuple #[])) (.inRegion ops rest :: k)) cs) u) : OwnU P main Z Stop w₀ (G { b.at a todo with mode := .returning } (b₀.at a₀ (.inRegion ops (i :: rest) :: k) :: cs)) u :=
  ownU_goes rfl (fun _ => goes_leave0 hn hd hf hr ⟨rfl, rfl, rfl⟩) hk
/-- .. returns one value. -/
theorem ownU_leave1 {fn : Func} {b₀ : Frame} {a₀ : Act} {todo : List Item} {t : Tmp} (hn : b.kind = .normal) (hd : a.defers = []) (hf : P.funcs[b.fn]? = some fn) (hr : fn.results = #[.tmp t])
    (hk : OwnU P main Z Stop w₀ (G (b₀.at (a₀.put ((ops[i]?).bind (·.dst)) (a.tmps.getD t undef)) (.inRegion ops rest :: k)) cs) u) : OwnU P main Z Stop w₀ (G { b.at a todo with mode := .returning } (b₀.at a₀ (.inRegion ops (i :: rest) :: k) :: cs)) u :=
  ownU_goes rfl (fun _ => goes_leave1 hn hd hf hr ⟨rfl, rfl, rfl⟩) hk

theorem ownU_seq {x y : Code} (hk : OwnU P main Z Stop w₀ (G (b.at a (.code x :: .code y :: k)) cs) u) : OwnU P main Z Stop w₀ (G (b.at a (.code (.seq x y) :: k)) cs) u := ownU_still rfl (fun _ => stepG_seq) hk
theorem ownU_skip (hk : OwnU P main Z Stop w₀ (G (b.at a k) cs) u) : OwnU P main Z Stop w₀ (G (b.at a (.code .skip :: k)) cs) u := ownU_still rfl (fun _ => stepG_skip) hk
theorem ownU_inBlock {id : Nat} (hk : OwnU P main Z Stop w₀ (G (b.at a k) cs) u) : OwnU P main Z Stop w₀ (G (b.at a (.inBlock id :: k)) cs) u := ownU_still rfl (fun _ => stepG_inBlock) hk
theorem ownU_block {id : Nat} {c : Code} (hk : OwnU P main Z Stop w₀ (G (b.at a (.code c :: .inBlock id :: k)) cs) u) : OwnU P main Z Stop w₀ (G (b.at a (.code (.block id c) :: k)) cs) u := ownU_still rfl (fun _ => stepG_block) hk
theorem ownU_loop {c : Code} (hk : OwnU P main Z Stop w₀ (G (b.at a (.code c :: .inLoop c :: k)) cs) u) : OwnU P main Z Stop w₀ (G (b.at a (.code (.loop c) :: k)) cs) u := ownU_still rfl (fun _ => stepG_loop) hk
theorem ownU_inLoop {c : Code} (hk : OwnU P main Z Stop w₀ (G (b.at a (.code c :: .inLoop c :: k)) cs) u) : OwnU P main Z Stop w₀ (G (b.at a (.inLoop c :: k)) cs) u := ownU_still rfl (fun _ => stepG_inLoop) hk
theorem ownU_exit {id : Nat} {k' : List Item} (h : exitTo id k = some k') (hk : OwnU P main Z Stop w₀ (G (b.at a k') cs) u) : OwnU P main Z Stop w₀ (G (b.at a (.code (.exit id) :: k)) cs) u := ownU_still rfl (fun _ => stepG_exit h) hk
theorem ownU_region {id : Nat} (hk : OwnU P main Z Stop w₀ (G (b.at a (.inRegion ops (List.range ops.size) :: k)) cs) u) : OwnU P main Z Stop w₀ (G (b.at a (.code (.region id ops false) :: k)) cs) u := ownU_still rfl (fun _ => stepG_region) hk
theorem ownU_region_end (hk : OwnU P main Z Stop w₀ (G (b.at a k) cs) u) : OwnU P main Z Stop w₀ (G (b.at a (.inRegion ops [] :: k)) cs) u := ownU_still rfl (fun _ => stepG_region_end) hk
theorem ownU_end (hk : OwnU P main Z Stop w₀ (G { b.at a [] with mode := .returning } cs) u) : OwnU P main Z Stop w₀ (G (b.at a []) cs) u := ownU_still rfl (fun _ => stepG_end) hk
theorem ownU_ret (hk : OwnU P main Z Stop w₀ (G { b.at a (.code .ret :: k) with mode := .returning } cs) u) : OwnU P main Z Stop w₀ (G (b.at a (.code .ret :: k)) cs) u := ownU_still rfl (fun _ => stepG_ret') hk
theorem ownU_cond {c : Operand} {x y : Code} {t : Bool} (h : a.eval c = .bool t) (hk : OwnU P main Z Stop w₀ (G (b.at a (.code (if t then x else y) :: k)) cs) u) : OwnU P main Z Stop w₀ (G (b.at a (.code (.cond c x y) :: k)) cs) u := ownU_still rfl (fun _ => stepG_cond h) hk
end
end
end Go.Proofs.Ytolnmdanlggmhaa

/- Own runs: a region in a drawn order; a defer statement; a dynamic call. -/
namespace Go.Proofs.Ytolnmdanlggmhaa
open Go.Conc

section
variable {P : Program} {L : List FuncId} {main : Bool} {Z : Addr → Prop} {Stop : Goroutine → World → Prop} {w₀ u v w : World} {g : Goroutine}
variable {b : Frame} {a : Act} {k : List Item} {cs : List Frame} {ops : Array Oper} {i : Nat} {rest : List Nat} {o : Oper}

/-- The order is drawn: for every answer. -/
theorem ownU_draw {id : Nat} (h : ∀ t A d, OwnU P main Z Stop w₀ (G (b.at a (.inRegion ops (Region.schedule (P.follows .mixedOrders) ops t) :: k)) cs) { tp u A d with drawn := d + 1 }) : OwnU P main Z Stop w₀ (G (b.at a (.code (.region id ops true) :: k)) cs) u := by
  have hch : ∀ w : World, (choose (.order b.fn id)).run P w = .ok (w.tape w.drawn (.order b.fn id)) { w with drawn := w.drawn + 1 } := fun w => by
    simp [choose, Sem.run, Question.forced, Question.cut]
  have hev : ∀ w : World, (choose (.order b.fn id)).events P w #[] = #[] := fun w => by simp [choose, Sem.events, Sem.runT, -Sem.runT_eq, Question.forced]
  refine ownU_term (e := choose (.order b.fn id)) (f := b.fn) (good_choose _ _) rfl fun A d => ⟨_, _, _, hch _, fun w w' hr => ?_, h (A d (.order b.fn id)) A d⟩
  rw [hev, seen_none]
  simp only [hch, Result.ok.injEq] at hr
  obtain ⟨h1, h2⟩ := hr
  have hfn : (b.at a (.code (.region id ops true) :: k)).fn = b.fn := rfl
  have : (choose (.order b.fn id)).run P w = .ok (A d (.order b.fn id)) w' := by rw [hch, h1, h2]; rfl
  simp [G, stepG, stepG.exec, Frame.at, this]

/-- Operation i, in whatever order the rest comes behind it. -/
def OpU (P : Program) (main : Bool) (Z : Addr → Prop) (Stop : Goroutine → World → Prop) (w₀ : World) (b : Frame) (ops : Array Oper) (k : List Item) (cs : List Frame) (i fuel : Nat) (listed : Array Bool) (next : Act → World → Prop) (a : Act) (u : World) : Prop :=
  ∀ t, (∀ a' u', next a' u' → OwnU P main Z Stop w₀ (G (b.at a' (.inRegion ops (Region.linearise.go .any ops fuel t listed []) :: k)) cs) u') → OwnU P main Z Stop w₀ (G (b.at a (.inRegion ops (i :: Region.linearise.go .any ops fuel t listed []) :: k)) cs) u
theorem opU_op {fuel : Nat} {listed : Array Bool} {next : Act → World → Prop} (ho : ops[i]? = some o) (hok : okOp P L o.op = true) (hw : Region.wanted o (yielded ops a.tmps) = true) (hb : b.kind ≠ .early)
    (hk : ∀ A d, ResK a o next ((execOp a.eval o).run P (tp u A d))) : OpU P main Z Stop w₀ b ops k cs i fuel listed next a u := fun t hn => by
  refine ownU_op ho hok hw hb fun A d => ?_
  have h := hk A d
  cases hr : (execOp a.eval o).run P (tp u A d) with
  | ok x u' =>
    rw [hr] at h
    cases x with
    | value z => exact hn _ _ h
    | skip => exact hn _ _ h
    | _ => exact h
  | halt x u' => rw [hr] at h; exact h
/-- Whatever order is picked from here on. -/
def AnyU (P : Program) (main : Bool) (Z : Addr → Prop) (Stop : Goroutine → World → Prop) (w₀ : World) (b : Frame) (ops : Array Oper) (k : List Item) (cs : List Frame) (K : Act → World → Prop) : Nat → Array Bool → Act → World → Prop
  | 0, listed, a, u => Region.ready .any ops listed = [] ∧ K a u
  | fuel + 1, listed, a, u => (Region.ready .any ops listed = [] → K a u) ∧ ∀ i ∈ Region.ready .any ops listed, OpU P main Z Stop w₀ b ops k cs i fuel (listed.setIfInBounds i true) (AnyU P main Z Stop w₀ b ops k cs K fuel (listed.setIfInBounds i true)) a u

theorem anyU_sound {K : Act → World → Prop} (hK : ∀ a u, K a u → OwnU P main Z Stop w₀ (G (b.at a k) cs) u) : ∀ (fuel t : Nat) (listed : Array Bool) (a : Act) (u : World), AnyU P main Z Stop w₀ b ops k cs K fuel listed a u →
    OwnU P main Z Stop w₀ (G (b.at a (.inRegion ops (Region.linearise.go .any ops fuel t listed []) :: k)) cs) u := by
  intro fuel
  induction fuel with
  | zero => intro t listed a u h; exact ownU_region_end (hK _ _ h.2)
  | succ fuel ih =>
    intro t listed a u h
    obtain ⟨h₀, h₁⟩ := h
    simp only [Region.linearise.go]
    change OwnU P main Z Stop w₀ (G (b.at a (.inRegion ops (match (Region.ready .any ops listed)[t % (Region.ready .any ops listed).length]? with
      | some i => Region.linearise.go .any ops fuel (t / (Region.ready .any ops listed).length) (listed.setIfInBounds i true) [i]
      | none => [].reverse) :: k)) cs) u
    cases hi : (Region.ready .any ops listed)[t % (Region.ready .any ops listed).length]? with
    | none =>
      have hnil : Region.ready .any ops listed = [] := by
        cases hr : Region.ready .any ops listed with
        | nil => rfl
        | cons x xs =>
          rw [hr] at hi
          have hlt : t % (x :: xs).length < (x :: xs).length := Nat.mod_lt _ (by simp)
          simp at hi
          simp at hlt
          omega
      exact ownU_region_end (hK _ _ (h₀ hnil))
    | some i =>
      simp only []
      rw [linearise_go_acc, List.reverse_singleton, List.singleton_append]
      exact h₁ i (List.mem_of_getElem? hi) _ fun a' u' hn => ih _ _ a' u' hn

/-- A REGION IN A DRAWN ORDER. -/
theorem ownU_any {id : Nat} (hm : P.follows .mixedOrders = true) (h : ∀ A d, AnyU P main Z Stop w₀ b ops k cs (fun a u => OwnU P main Z Stop w₀ (G (b.at a k) cs) u) ops.size (Array.replicate ops.size false) a (tp u A d)) :
    OwnU P main Z Stop w₀ (G (b.at a (.code (.region id ops true) :: k)) cs) u :=
  ownU_draw fun t A d => by
    simp only [Region.schedule, hm, Bool.true_or, if_true]
    exact anyU_sound (fun _ _ h => h) ops.size t _ a _ (h A (d + 1))

/-- A defer statement. -/
theorem ownU_defer {d : Deferred} (ho : ops[i]? = some o) (hw : Region.wanted o (yielded ops a.tmps) = true) (hb : b.kind ≠ .early) (hr : ∀ w, (execOp a.eval o).run P w = .ok (.defer d) w) (he : ∀ w, (execOp a.eval o).events P w #[] = #[])
    (hk : OwnU P main Z Stop w₀ (G (b.at (({ a with defers := d :: a.defers } : Act).put o.dst undef) (.inRegion ops rest :: k)) cs) u) : OwnU P main Z Stop w₀ (G (b.at a (.inRegion ops (i :: rest) :: k)) cs) u := by
  refine ownU_still rfl (fun w => ?_) hk
  have hk' : (b.kind == CallKind.early) = false := by simpa using hb
  have hfin : (b.at { a with defers := d :: a.defers } (.inRegion ops (i :: rest) :: k)).finish undef = b.at (({ a with defers := d :: a.defers } : Act).put o.dst undef) (.inRegion ops rest :: k) := by rw [Frame.finish_at, ho]; rfl
  rw [stepG_oper ho hw, ← hfin]
  simp [stepG.apply, hr, he, G, Frame.at, hk', GStep.after, seen_none]

/-- A call of a function value. -/
theorem ownU_dyn {x : Operand} {args : Array Operand} {ats : Array TypeId} {f : FuncId} {fi ca : Array Value} {fn : Func} {c : Code} (ho : ops[i]? = some o) (hw : Region.wanted o (yielded ops a.tmps) = true) (hb : b.kind ≠ .early) (hop : o.op = .call { callee := .value x, args, argTypes := ats })
    (hx : a.eval x = .func (.func f) fi ca) (hf : P.funcs[f]? = some fn) (hnm : (fn.name == "runtime.NumGoroutine") = false) (hbd : fn.body = some c)
    (hk : OwnU P main Z Stop w₀ (G (Frame.enter P f ((fi ++ args.map a.eval) ++ ca) .normal) (b.at a (.inRegion ops (i :: rest) :: k) :: cs)) u) : OwnU P main Z Stop w₀ (G (b.at a (.inRegion ops (i :: rest) :: k)) cs) u := by
  have hrun : ∀ w, (execOp a.eval o).run P w = .ok (.enter f ((fi ++ args.map a.eval) ++ ca)) w := by
    intro w
    unfold execOp
    simp only [hop, resolve, hx, Deferred.ofValue]
    show (invoke (.fn (.func f) ca) (fi ++ args.map a.eval)).run P w = _
    unfold invoke callFunc
    rw [Sem.run_bind]
    have hb' : fn.body.isNone = false := by rw [hbd]; rfl
    have hn' : ¬ fn.name = "runtime.NumGoroutine" := by simpa using hnm
    simp only [program, Sem.run, Result.andThen_ok, hf]
    simp [hn', hb', Sem.run_pure]
  have hev : ∀ w, (execOp a.eval o).events P w #[] = #[] := by
    intro w
    unfold execOp
    simp only [hop, resolve, hx, Deferred.ofValue]
    show (invoke (.fn (.func f) ca) (fi ++ args.map a.eval)).events P w #[] = _
    unfold invoke callFunc
    rw [Sem.events_bind]
    have hb' : fn.body.isNone = false := by rw [hbd]; rfl
    have hn' : ¬ fn.name = "runtime.NumGoroutine" := by simpa using hnm
    simp only [program, Sem.run, Result.evThen_ok, hf]
    simp [hn', hb']
    rfl
  refine ownU_still rfl (fun w => ?_) hk
  have hk' : (b.kind == CallKind.early) = false := by simpa using hb
  rw [stepG_oper ho hw]
  simp [stepG.apply, hrun, hev, Frame.at, hk', GStep.after, G, seen_none]
end
end Go.Proofs.Ytolnmdanlggmhaa

/- Whose block is whose: a tag per block (0: nobody's that is spoken of). Steps that turn blocks of some tags alone; from the lone world to the real one and back. -/
namespace Go.Proofs.Ytolnmdanlggmhaa
open Go.Conc Go.RowKit

/-- A block of cells, of which only some in [lo, hi) may be frozen, is so in w too. -/
theorem cellsAt_sim {X : Prop} {Z : Addr → Prop} {u w : World} (h : Sim X Z u w) {b : Nat} {c : Array Value} {t : TypeId} {lo hi : Nat} (hu : CellsAt u b c t lo hi) : CellsAt w b c t lo hi := by
  obtain ⟨g, h1, h2⟩ := hu
  rcases h.blk b with e | ⟨c', t', f, g', e1, e2, e3, _⟩ | ⟨⟨a, u', e⟩, _⟩
  · exact ⟨g, by rw [← e]; exact h1, h2⟩
  · rw [h1] at e1
    injection e1 with e1
    injection e1 with i1 i2 i3
    subst i1; subst i2; subst i3
    exact ⟨g', e2, fun o ho => h2 o (e3 o ho)⟩
  · rw [h1] at e; cases e

/-- Every block that is spoken of is there, and is none of the odd ones. -/
def LW (own : Nat → Nat) (w : World) : Prop := ∀ b, own b ≠ 0 → b < w.heap.size ∧ ¬ Odd w.heap[b]?
/-- What is spoken of later says no less. -/
def OLe (own own' : Nat → Nat) : Prop := ∀ b, own b ≠ 0 → own' b = own b
theorem OLe.refl (own : Nat → Nat) : OLe own own := fun _ _ => rfl
theorem OLe.trans {a b c : Nat → Nat} (h : OLe a b) (k : OLe b c) : OLe a c := fun x hx => by
  have := h x hx
  rw [k x (by rw [this]; exact hx), this]
theorem OLe.tag {a b : Nat → Nat} (h : OLe a b) {x t : Nat} (hx : a x = t) (ht : t ≠ 0) : b x = t := by rw [h x (by rw [hx]; exact ht), hx]

/-- A step that turns only blocks of the tags T, and names new ones. -/
structure Stp (T : Nat → Prop) (own own' : Nat → Nat) (w w' : World) : Prop where
  os : w'.os = w.os
  output : w'.output = w.output
  size : w.heap.size ≤ w'.heap.size
  block : ∀ b, b < w.heap.size → ¬ T (own b) → w'.heap[b]? = w.heap[b]?
  le : OLe own own'
  new : ∀ b, own b = 0 → own' b ≠ 0 → w.heap.size ≤ b
  lt : ∀ b, own' b ≠ 0 → b < w'.heap.size

section
variable {T T' : Nat → Prop} {own own' own'' : Nat → Nat} {w w' w'' : World}
theorem Stp.refl (h : ∀ b, own b ≠ 0 → b < w.heap.size) : Stp T own own w w := ⟨rfl, rfl, Nat.le_refl _, fun _ _ _ => rfl, OLe.refl _, fun _ h h' => absurd h h', h⟩
theorem Stp.mono (h : Stp T own own' w w') (hT : ∀ t, T t → T' t) : Stp T' own own' w w' := ⟨h.os, h.output, h.size, fun b hb hn => h.block b hb fun ht => hn (hT _ ht), h.le, h.new, h.lt⟩
theorem Stp.trans (h : Stp T own own' w w') (k : Stp T own' own'' w' w'') (h0 : ¬ T 0) : Stp T own own'' w w'' := by
  refine ⟨k.os.trans h.os, k.output.trans h.output, Nat.le_trans h.size k.size, fun b hb hn => ?_, h.le.trans k.le, fun b hb hb' => ?_, k.lt⟩
  · have e := h.block b hb hn
    rw [← e]
    refine k.block b (Nat.lt_of_lt_of_le hb h.size) fun ht => ?_
    by_cases hz : own b = 0
    · by_cases hz' : own' b = 0
      · rw [hz'] at ht; exact h0 ht
      · have := h.new b hz hz'; omega
    · rw [h.le b hz] at ht; exact hn ht
  · by_cases hz : own' b = 0
    · have := k.new b hz hb'; have := h.size; omega
    · exact h.new b hb hz
theorem Stp.lw (h : Stp T own own' w w') (hl : LW own w) (hT : ∀ b, own b ≠ 0 → T (own b) → ¬ Odd w'.heap[b]?) (hn : ∀ b, w.heap.size ≤ b → b < w'.heap.size → own' b ≠ 0 → ¬ Odd w'.heap[b]?) : LW own' w' := fun b hb => by
  refine ⟨h.lt b hb, ?_⟩
  by_cases hz : own b = 0
  · exact hn b (h.new b hz hb) (h.lt b hb) hb
  · by_cases ht : T (own b)
    · exact hT b hz ht
    · rw [h.block b (hl b hz).1 ht]; exact (hl b hz).2
theorem Stp.tp (h : Stp T own own' w w') (A A' : Nat → Question → Nat) (d d' : Nat) : Stp T own own' (Go.Proofs.Ytolnmdanlggmhaa.tp w A d) (Go.Proofs.Ytolnmdanlggmhaa.tp w' A' d') := ⟨h.os, h.output, h.size, h.block, h.le, h.new, h.lt⟩
theorem Stp.unl {A : Nat → Question → Nat} {d : Nat} (h : Stp T own own' (Go.Proofs.Ytolnmdanlggmhaa.tp w A d) w') : Stp T own own' w w' := ⟨h.os, h.output, h.size, h.block, h.le, h.new, h.lt⟩
noncomputable def retagC (own : Nat → Nat) (t : Nat) (fp : Nat → Prop) : Nat → Nat := by
  classical exact fun b => if fp b then t else own b
theorem retagC_in {t : Nat} {fp : Nat → Prop} {b : Nat} (h : fp b) : retagC own t fp b = t := by unfold retagC; exact if_pos h
theorem retagC_out {t : Nat} {fp : Nat → Prop} {b : Nat} (h : ¬ fp b) : retagC own t fp b = own b := by unfold retagC; exact if_neg h
/-- A step that turns and makes only blocks of a footprint; the new ones get the tag t. -/
theorem stp_of {t : Nat} {fp fp' : Nat → Prop} (ht : t ≠ 0) (hlt : ∀ b, own b ≠ 0 → b < w.heap.size) (h1 : w'.os = w.os) (h3 : w'.output = w.output) (hs : w.heap.size ≤ w'.heap.size) (hb : ∀ i, i < w.heap.size → ¬ fp i → w'.heap[i]? = w.heap[i]?) (hfp : ∀ b, fp b → own b = t) (hf : ∀ i, fp' i → fp i ∨ w.heap.size ≤ i) (hf' : ∀ i, fp' i → i < w'.heap.size) :
    Stp (· = t) own (retagC own t fp') w w' := by
  refine ⟨h1, h3, hs, fun b hlt hn => hb b hlt fun h => hn (hfp b h), fun b hn => ?_, fun b hz hn => ?_, fun b hn => ?_⟩
  · by_cases h : fp' b
    · rw [retagC_in h]
      rcases hf b h with h' | h'
      · exact (hfp b h').symm
      · have := hlt b hn; omega
    · exact retagC_out h
  · by_cases h : fp' b
    · rcases hf b h with h' | h'
      · rw [hfp b h'] at hz; exact absurd hz ht
      · exact h'
    · rw [retagC_out h] at hn; exact absurd hz hn
  · by_cases h : fp' b
    · exact hf' b h
    · rw [retagC_out h] at hn; exact Nat.lt_of_lt_of_le (hlt b hn) hs
end

/-- The real world is like the lone one in all that is spoken of, and in the rows of still cells. -/
structure Agr (own : Nat → Nat) (FC : List Row) (u w : World) : Prop where
  eq : ∀ b, own b ≠ 0 → (∀ r ∈ FC, r.b ≠ b) → w.heap[b]? = u.heap[b]?
  row : ∀ r ∈ FC, ∀ c t, CellsAt u r.b c t r.lo (r.lo + r.xs.length) → CellsAt w r.b c t r.lo (r.lo + r.xs.length)
/-- All else is as it was. -/
structure Ext (O : Nat → Prop) (FC : List Row) (w w' : World) : Prop where
  os : w'.os = w.os
  tape : w'.tape = w.tape
  output : w'.output = w.output
  size : w.heap.size ≤ w'.heap.size
  eq : ∀ b, b < w.heap.size → ¬ O b → (∀ r ∈ FC, r.b ≠ b) → w'.heap[b]? = w.heap[b]?
  row : ∀ r ∈ FC, r.b < w.heap.size → ¬ O r.b → ∀ c t, CellsAt w r.b c t r.lo (r.lo + r.xs.length) → CellsAt w' r.b c t r.lo (r.lo + r.xs.length)
theorem Ext.refl (O : Nat → Prop) (FC : List Row) (w : World) : Ext O FC w w := ⟨rfl, rfl, rfl, Nat.le_refl _, fun _ _ _ _ => rfl, fun _ _ _ _ _ _ h => h⟩

section
variable {T : Nat → Prop} {own own' : Nat → Nat} {FC FC' : List Row} {u w w' w'' : World}
theorem Ext.then {O O' : Nat → Prop} (h : Ext O FC w w') (k : Ext O' FC' w' w'') (hO : ∀ b, b < w.heap.size → O' b → O b) (hF : ∀ r ∈ FC, r ∈ FC') (hF' : ∀ r ∈ FC', r ∈ FC ∨ w.heap.size ≤ r.b) : Ext O FC w w'' := by
  refine ⟨k.os.trans h.os, k.tape.trans h.tape, k.output.trans h.output, Nat.le_trans h.size k.size, fun b hb hn hr => ?_, fun r hr hb hn c t hc => ?_⟩
  · rw [k.eq b (Nat.lt_of_lt_of_le hb h.size) (fun e => hn (hO b hb e)) (fun r hr' => ?_), h.eq b hb hn hr]
    rcases hF' r hr' with e | e
    · exact hr r e
    · omega
  · exact k.row r (hF r hr) (Nat.lt_of_lt_of_le hb h.size) (fun e => hn (hO _ hb e)) c t (h.row r hr hb hn c t hc)
theorem Ext.below {B : Nat} (h : Ext (fun b => B ≤ b) [] w w') (hB : B ≤ w.heap.size) : Below B w w' := ⟨h.os, h.tape, h.output, h.size, fun k hk => h.eq k (by omega) (by omega) (fun _ hr => by cases hr)⟩
theorem Stp.ext (h : Stp T own own' w w') (ht : w'.tape = w.tape) (h0 : ¬ T 0) : Ext (fun b => own b ≠ 0) FC w w' := by
  refine ⟨h.os, ht, h.output, h.size, fun b hb hn _ => h.block b hb fun ht => ?_, fun r _ hb hn c t hc => ?_⟩
  · have : own b = 0 := Classical.byContradiction hn
    rw [this] at ht; exact h0 ht
  · obtain ⟨g, h1, h2⟩ := hc
    refine ⟨g, (h.block r.b hb fun ht => ?_).trans h1, h2⟩
    have : own r.b = 0 := Classical.byContradiction hn
    rw [this] at ht; exact h0 ht

/-- INTO THE LONE WORLD. -/
theorem agr_guard (hW : WfF FC) (lw : LW own w) : Agr own FC w (guardW FC w) :=
  ⟨fun b hb hr => guard_same hr (lw b hb).2, fun _ hr _ _ h => ⟨_, guard_cells hW hr h, fun _ h => h⟩⟩

/-- BACK: a step of the lone world is one of the real world. -/
theorem cross (hW : WfF FC) (lw : LW own w) (hs : Sim False (ZF FC) u w') (hk : Kept (ZF FC) w w') (hq : Stp T own own' (guardW FC w) u) (h0 : ¬ T 0) : Agr own' FC u w' ∧ LW own' w' ∧ Ext (fun b => own b ≠ 0) FC w w' := by
  have hgs : (guardW FC w).heap.size = w.heap.size := by simp [guardW]
  have hodd : ∀ b, own' b ≠ 0 → ¬ Odd w'.heap[b]? := fun b hb ho => by
    have ho := hk.odd b ho
    by_cases hz : own b = 0
    · have := hq.new b hz hb
      rw [hgs] at this
      rw [Array.getElem?_eq_none this] at ho
      rcases ho with ⟨_, _, e⟩ | ⟨_, _, e⟩ <;> cases e
    · exact (lw b hz).2 ho
  refine ⟨⟨fun b hb hr => sim_same hs hr (hodd b hb), fun r hr c t hc => cellsAt_sim hs hc⟩, fun b hb => ⟨by have := hq.lt b hb; rw [hs.size] at this; exact this, hodd b hb⟩,
    ⟨hk.os, hk.tape, hk.output, hk.grow, fun b hb hn hr => ?_, fun r hr hb hn c t hc => ?_⟩⟩
  · by_cases ho : Odd w.heap[b]?
    · exact hk.same b ho
    · have hz : own b = 0 := Classical.byContradiction hn
      have e1 := sim_same hs hr (fun h => ho (hk.odd b h))
      rw [e1, hq.block b (by rw [hgs]; exact hb) (by rw [hz]; exact h0), guard_same hr ho]
  · have hz : own r.b = 0 := Classical.byContradiction hn
    have hg := (agr_guard hW lw).row r hr c t hc
    obtain ⟨g, h1, h2⟩ := hg
    exact cellsAt_sim hs ⟨g, (hq.block r.b (by rw [hgs]; exact hb) (by rw [hz]; exact h0)).trans h1, h2⟩
end
end Go.Proofs.Ytolnmdanlggmhaa

/- Regions in a drawn order, state by state: what has been carried out so far is an array of flags. -/
namespace Go.Proofs.Ytolnmdanlggmhaa
open Go.Conc

section
variable {P : Program} {L : List FuncId} {main : Bool} {Z : Addr → Prop} {Stop : Goroutine → World → Prop} {w₀ u : World} {b : Frame} {a a' : Act} {k : List Item} {cs : List Frame} {ops : Array Oper} {fuel : Nat} {listed listed' : Array Bool}
/-- Whatever order is drawn for the rest. -/
def SchedU (P : Program) (main : Bool) (Z : Addr → Prop) (Stop : Goroutine → World → Prop) (w₀ : World) (b : Frame) (ops : Array Oper) (k : List Item) (cs : List Frame) (fuel : Nat) (listed : Array Bool) (a : Act) (u : World) : Prop :=
  ∀ t, OwnU P main Z Stop w₀ (G (b.at a (.inRegion ops (Region.linearise.go .any ops fuel t listed []) :: k)) cs) u

theorem go_step {rs : List Nat} (hr : Region.ready .any ops listed = rs) (hne : rs ≠ []) (t : Nat) : ∃ i ∈ rs, Region.linearise.go .any ops (fuel + 1) t listed [] = i :: Region.linearise.go .any ops fuel (t / rs.length) (listed.setIfInBounds i true) [] := by
  have hlen : 0 < rs.length := List.length_pos_iff.2 hne
  have hlt : t % rs.length < rs.length := Nat.mod_lt _ hlen
  refine ⟨rs[t % rs.length], List.getElem_mem hlt, ?_⟩
  have e : Region.linearise.go .any ops (fuel + 1) t listed [] = (match (Region.ready .any ops listed)[t % (Region.ready .any ops listed).length]? with
      | some i => Region.linearise.go .any ops fuel (t / (Region.ready .any ops listed).length) (listed.setIfInBounds i true) [i]
      | none => [].reverse) := rfl
  rw [e, hr, List.getElem?_eq_getElem hlt]
  simp only []
  rw [linearise_go_acc, List.reverse_singleton, List.singleton_append]
theorem go_one {i : Nat} (hr : Region.ready .any ops listed = [i]) (t : Nat) : Region.linearise.go .any ops (fuel + 1) t listed [] = i :: Region.linearise.go .any ops fuel t (listed.setIfInBounds i true) [] := by
  obtain ⟨j, hj, e⟩ := go_step (fuel := fuel) hr (by simp) t
  rw [List.mem_singleton] at hj
  subst hj
  rw [e]
  simp
theorem schedU_succ {rs : List Nat} (hr : Region.ready .any ops listed = rs) (hne : rs ≠ []) (h : ∀ i ∈ rs, ∀ t, OwnU P main Z Stop w₀ (G (b.at a (.inRegion ops (i :: Region.linearise.go .any ops fuel t (listed.setIfInBounds i true) []) :: k)) cs) u) :
    SchedU P main Z Stop w₀ b ops k cs (fuel + 1) listed a u := fun t => by
  obtain ⟨i, hi, e⟩ := go_step (fuel := fuel) hr hne t
  rw [e]
  exact h i hi _
theorem schedU_start {id : Nat} {n : Nat} (hm : P.follows .mixedOrders = true) (hn : ops.size = n) (h : ∀ A d, SchedU P main Z Stop w₀ b ops k cs n (Array.replicate n false) a (tp u A d)) : OwnU P main Z Stop w₀ (G (b.at a (.code (.region id ops true) :: k)) cs) u :=
  ownU_draw fun t A d => by
    subst hn
    simp only [Region.schedule, hm, Bool.true_or, if_true]
    exact h A (d + 1) t
theorem schedU_to {act : Act} {l : Array Bool} (ha : a = act) (hl : listed = l) (h : SchedU P main Z Stop w₀ b ops k cs fuel l act u) (t : Nat) : OwnU P main Z Stop w₀ (G (b.at a (.inRegion ops (Region.linearise.go .any ops fuel t listed []) :: k)) cs) u := by
  subst ha; subst hl; exact h t
end
end Go.Proofs.Ytolnmdanlggmhaa

/- The holder makes a block of which cells are still from its birth. -/
namespace Go.Proofs.Ytolnmdanlggmhaa
open Go.Conc
open Go.ConcN (sumTo upd sumTo_upd upd_ne upd_same)

/-- What lies above all that has been touched has not been touched. -/
theorem touch_low {T : Trace} {B : Nat} (hseen : ∀ op ∈ T, op.act.low B) {i : Nat} {x : Touch} (hx : touchAt T i = some x) {y : Addr} (hy : x.loc = .cell y) : y.block < B := by
  obtain ⟨op, hop, hxa⟩ := touch_of hx
  have hlow := hseen op (Array.mem_of_getElem? hop)
  cases hact : op.act with
  | access e =>
    rw [hact] at hxa hlow
    simp only [MemAct.touch?, Option.some.injEq] at hxa
    subst hxa
    have hy' : e.loc = .cell y := hy
    simp only [MemAct.low] at hlow
    rw [hy'] at hlow
    simpa only [Loc.low] using hlow
  | mark mk =>
    rw [hact] at hxa hlow
    cases mk with
    | read a0 =>
      simp only [MemAct.touch?, Option.some.injEq] at hxa
      subst hxa
      simp only [Loc.cell.injEq] at hy
      subst hy
      simpa only [MemAct.low] using hlow
    | write a0 =>
      simp only [MemAct.touch?, Option.some.injEq] at hxa
      subst hxa
      simp only [Loc.cell.injEq] at hy
      subst hy
      simpa only [MemAct.low] using hlow
    | _ => simp [MemAct.touch?] at hxa
  | _ => rw [hact] at hxa; simp [MemAct.touch?] at hxa

section
variable {P : Program} {Post : Value → World → Prop} {FC : List Row} {n h : Nat} {Inb : Nat → Option Seat} {g : Goroutine} {w : World}
theorem kf_push_old (hK : KF FC w) (d : Nat) (o : Obj) : KF FC { w.at d with heap := w.heap.push o } := fun r hr i y hy => cell_push (hK r hr i y hy) o d
theorem kf_push_row {lo : Nat} {xs : List Value} {c : Array Value} {t : TypeId} (hc : ∀ (i : Nat) x, xs[i]? = some x → c[lo + i]? = some x) (hK : KF FC w) (d : Nat) : KF (⟨w.heap.size, lo, xs⟩ :: FC) { w.at d with heap := w.heap.push (.cells c t) } := by
  intro r hr i y hy
  rcases List.mem_cons.1 hr with rfl | hr
  · have := hc i y hy
    unfold World.cell?
    simp [this]
  · exact cell_push (hK r hr i y hy) _ _

/-- A BLOCK IS MADE, and some of its cells are still from now on, whoever sits. -/
theorem win_box {lo : Nat} {g' : Nat → Goroutine} {xs : List Value} {c : Array Value} {t : TypeId} (hc : ∀ (i : Nat) x, xs[i]? = some x → c[lo + i]? = some x) (hrun : g.status = .running) (hstep : ∀ w, stepG P (h == 0) g w = .go (g' w.heap.size) { w with heap := w.heap.push (.cells c t) })
    (hk : ∀ d, Won P Post (⟨w.heap.size, lo, xs⟩ :: FC) n Inb h (g' w.heap.size) { w.at d with heap := w.heap.push (.cells c t) }) : Won P Post FC n Inb h g w := by
  intro gs T q sl Mem hsz ha hM C
  obtain ⟨N, gs₁, d, d', sl₁, sl₂, T₁, q₁, hr, hst, hsz₁, ha₁, C₁⟩ := picked (sl := sl) (fun _ _ h => h) ha hrun C
  have hrt := runT_crowd_go (P := P) (sl := sl₂) ha₁ (hstep (w.at d'))
  have hB : w.heap.size ≤ w.heap.size + 1 := by omega
  have C₂ := core_grow C₁ (B' := w.heap.size + 1) (fun _ h => h) C₁.keep (fun _ h => h) hB fun _ _ _ _ h1 h2 => absurd h1 h2
  have hDH : DH (KF FC) (SF FC) (w.heap.size + 1) Inb (w.at d') { w.at d' with heap := w.heap.push (.cells c t) } #[] := by
    refine ⟨fun hK => kf_push_old (w := w) hK d' _, fun i s r e hr' => ?_, by simp⟩
    obtain ⟨cap, k, hk'⟩ := C₂.chans i s r (fun z => z) e hr'
    have hl : r < w.heap.size := obj_lt hk'
    show (w.heap.push _)[r]? = w.heap[r]?
    rw [Array.getElem?_push, if_neg (by omega)]
  obtain ⟨C₃, ha₃⟩ := Ring.own C₂ (a' := g' w.heap.size) ha₁ hDH
  rw [ofEvents_none] at C₃ hrt
  have C₄ := core_grow C₃ (K' := KF (⟨w.heap.size, lo, xs⟩ :: FC)) (Still' := SF (⟨w.heap.size, lo, xs⟩ :: FC)) (B' := w.heap.size + 1) (fun _ => kf_sub fun r hr => List.mem_cons_of_mem _ hr) (kf_push_row hc C.keep d') (sf_sub fun r hr => List.mem_cons_of_mem _ hr) (Nat.le_refl _) (fun i a hta _ hS hnS x hx => by
    obtain ⟨y, hy, r, hr, j, hj, e⟩ := hS
    rcases List.mem_cons.1 hr with rfl | hr
    · have h1 : ∀ op ∈ T₁ ++ #[], op.act.low w.heap.size := by simpa using C₁.past.seen
      have := touch_low h1 hta hy
      rw [e] at this
      simp at this
    · exact absurd ⟨y, hy, r, hr, j, hj, e⟩ hnS)
  refine wins_run (runNT_succ_of hr (hst.trans hrt)) (hk d' _ _ q₁ _ Mem (by simp [hsz₁, hsz]) ha₃ hM ?_)
  have : ({ w.at d' with heap := w.heap.push (.cells c t) } : World).heap.size = w.heap.size + 1 := by simp
  rw [this]
  exact C₄
end
end Go.Proofs.Ytolnmdanlggmhaa
