/- A term of the model carried out in two worlds: one in which protected cells are frozen (there a lone contract is used), and the real one. No program in sight. -/
import Derived.Conc.Events
import Derived.Conc.Machine
import Derived.Conc.Beside
import Derived.Eval
import Derived.Conc.EventLaws2
namespace Go.Proofs.Ytolnmdanlggmhaa

/-- A block seen as another type, or one whose variable is not there yet: no code of ours comes to such. -/
def Odd (y : Option Obj) : Prop := (∃ a u, y = some (.view a u)) ∨ ∃ c t, y = some (.pending c t)
/-- A block in the world with protected cells (first), and in the real one. -/
def Blk (Z : Addr → Prop) (b : Nat) (x y : Option Obj) : Prop := x = y ∨ (∃ c t f g, x = some (.cells c t f) ∧ y = some (.cells c t g) ∧ (∀ o : Nat, (g.1 ≤ o ∧ o < g.2) → (f.1 ≤ o ∧ o < f.2)) ∧ ∃ a, Z a ∧ a.block = b) ∨ ((∃ a u, x = some (.view a u)) ∧ Odd y)
/-- In the first world: no pending variable; every block that is seen as another type is dead (any access ends the run). -/
def tameObj : Obj → Prop
  | .view a _ => a.spot.isSome = true
  | .pending _ _ => False
  | _ => True
def newOk : Obj → Prop
  | .view _ _ | .pending _ _ => False
  | _ => True
theorem newOk.tame {o : Obj} (h : newOk o) : tameObj o := by cases o <;> first | trivial | exact h.elim
def NoView (v : World) : Prop := ∀ (b : Nat) o, v.heap[b]? = some o → tameObj o

structure Sim (X : Prop) (Z : Addr → Prop) (v w : World) : Prop where
  size : v.heap.size = w.heap.size
  blk : ∀ b : Nat, Blk Z b v.heap[b]? w.heap[b]?
  noview : NoView v
  guard : ∀ a, Z a → (v.cell? a).isSome = true ∧ v.frozen? a = true
  os : v.os = w.os
  output : v.output = w.output
  exact : X → v.heap = w.heap

/-- Block r is no channel. -/
def NotCh (w : World) (r : Nat) : Prop := (∀ cap buf cl s rc tm, w.heap[r]? ≠ some (.chan cap buf cl s rc tm)) ∧ ¬ Odd w.heap[r]?

/-- What a step keeps in the real world. -/
structure Kept (Z : Addr → Prop) (w w' : World) : Prop where
  cells : ∀ a, Z a → w'.cell? a = w.cell? a
  chans : ∀ (c : Nat) cap buf cl s r tm, w.heap[c]? = some (.chan cap buf cl s r tm) → w'.heap[c]? = w.heap[c]?
  notch : ∀ r, r < w.heap.size → NotCh w r → NotCh w' r
  grow : w.heap.size ≤ w'.heap.size
  odd : ∀ b : Nat, Odd w'.heap[b]? → Odd w.heap[b]?
  same : ∀ b : Nat, Odd w.heap[b]? → w'.heap[b]? = w.heap[b]?
  tape : w'.tape = w.tape
  os : w'.os = w.os
  output : w'.output = w.output

theorem Kept.refl (Z : Addr → Prop) (w : World) : Kept Z w w := ⟨fun _ _ => rfl, fun _ _ _ _ _ _ _ _ => rfl, fun _ _ h => h, Nat.le_refl _, fun _ h => h, fun _ _ => rfl, rfl, rfl, rfl⟩
theorem Kept.trans {Z : Addr → Prop} {a b c : World} (h : Kept Z a b) (k : Kept Z b c) : Kept Z a c :=
  ⟨fun x hx => (k.cells x hx).trans (h.cells x hx), fun x cap buf cl s r tm hx => (k.chans x cap buf cl s r tm ((h.chans x _ _ _ _ _ _ hx).trans hx)).trans (h.chans x _ _ _ _ _ _ hx),
    fun r hr hn => k.notch r (Nat.lt_of_lt_of_le hr h.grow) (h.notch r hr hn), Nat.le_trans h.grow k.grow, fun b hb => h.odd b (k.odd b hb), fun b hb => (k.same b (by rw [h.same b hb]; exact hb)).trans (h.same b hb), k.tape.trans h.tape, k.os.trans h.os, k.output.trans h.output⟩

/-- An entry of the trace that is let by. -/
def EvOk (Z : Addr → Prop) (e : Event) : Prop :=
  (∀ x a, (MemAct.ofEvent e).touch? = some x → x.loc = .cell a → x.write = true → ¬ Z a) ∧ e.loc ≠ .mark .disable ∧ e.loc ≠ .mark .enable

/-- .. and names no block that is not there. -/
def EvIn (Z : Addr → Prop) (n : Nat) (e : Event) : Prop := EvOk Z e ∧ (MemAct.ofEvent e).low n
theorem EvIn.mono {Z : Addr → Prop} {n m : Nat} {e : Event} (h : EvIn Z n e) (hn : n ≤ m) : EvIn Z m e := ⟨h.1, MemAct.low_mono hn h.2⟩

/-- The two tapes agree over the next n questions. -/
def Win (v w : World) (n : Nat) : Prop := ∀ k, k < n → ∀ q, v.tape (v.drawn + k) q = w.tape (w.drawn + k) q

/-- The world in which an outcome leaves the run going on (a panic does). -/
def lives {α : Type} : Result α → Option World
  | .ok _ w => some w
  | .halt (.panic _) w => some w
  | .halt _ _ => none
def rwith {α : Type} : Result α → World → Result α
  | .ok a _, w => .ok a w
  | .halt h _, w => .halt h w

section
variable {α β : Type} {P : Program} {X : Prop} {Z : Addr → Prop} {v w : World}

/-- How a term of ours may end the run. -/
def Calm : Halt → Prop
  | .panic _ | .stuck _ => True
  | .unsupported (.initOrder _) => False
  | .unsupported _ => True
  | _ => False
def calmR : Result α → Prop
  | .ok _ _ => True
  | .halt h _ => Calm h

/-- The term does in the real world what it does in the other. 'rs': blocks that are known to be no channels. -/
structure Good (P : Program) (rs : List Nat) (e : Sem α) : Prop where
  lone : ∀ v, NoView v → ∀ v', lives (e.run P v) = some v' → v.drawn ≤ v'.drawn ∧ v'.tape = v.tape ∧ NoView v'
  calm : ∀ v, NoView v → calmR (e.run P v)
  both : ∀ X Z v w, Sim X Z v w → (∀ r ∈ rs, r < w.heap.size ∧ NotCh w r) → ∀ v', lives (e.run P v) = some v' → Win v w (v'.drawn - v.drawn) →
    ∃ w' new, e.run P w = rwith (e.run P v) w' ∧ (∀ es, e.events P w es = es ++ new) ∧ Sim X Z v' w' ∧ w'.tape = w.tape ∧ w'.drawn = w.drawn + (v'.drawn - v.drawn) ∧ Kept Z w w' ∧ ∀ x ∈ new, EvIn Z w'.heap.size x

theorem Good.more {rs rs' : List Nat} {e : Sem α} (h : Good P rs e) (hs : ∀ r ∈ rs, r ∈ rs') : Good P rs' e :=
  ⟨h.lone, h.calm, fun X Z v w hw hr => h.both X Z v w hw fun r hr' => hr r (hs r hr')⟩

theorem good_pure (rs : List Nat) (a : α) : Good P rs (pure a : Sem α) := by
  refine ⟨fun v hn v' hv => ?_, fun _ _ => trivial, fun X Z v w hs _ v' hv _ => ?_⟩
  · simp only [Sem.run_pure, lives, Option.some.injEq] at hv
    subst hv
    exact ⟨Nat.le_refl _, rfl, hn⟩
  · simp only [Sem.run_pure, lives, Option.some.injEq] at hv
    subst hv
    exact ⟨w, #[], by simp [Sem.run_pure, rwith], fun es => by simp, hs, rfl, by simp, Kept.refl _ _, by simp⟩

theorem good_bind {rs : List Nat} {e : Sem α} {f : α → Sem β} (he : Good P rs e) (hf : ∀ a, Good P rs (f a)) : Good P rs (e >>= f) := by
  refine ⟨fun v hn v' hv => ?_, fun v hn => ?_, fun X Z v w hs hr v' hv hw => ?_⟩
  · rw [Sem.run_bind] at hv
    cases h1 : e.run P v with
    | ok a v1 =>
      rw [h1] at hv
      simp only [Result.andThen_ok] at hv
      obtain ⟨d1, t1, n1⟩ := he.lone v hn v1 (by rw [h1]; rfl)
      obtain ⟨d2, t2, n2⟩ := (hf a).lone v1 n1 v' hv
      exact ⟨Nat.le_trans d1 d2, t2.trans t1, n2⟩
    | halt h v1 =>
      rw [h1] at hv
      cases h with
      | panic x =>
        simp only [Result.andThen, lives, Option.some.injEq] at hv
        subst hv
        exact he.lone v hn v1 (by rw [h1]; rfl)
      | _ => simp [Result.andThen, lives] at hv
  · rw [Sem.run_bind]
    have hc := he.calm v hn
    cases h1 : e.run P v with
    | ok a v1 =>
      obtain ⟨_, _, n1⟩ := he.lone v hn v1 (by rw [h1]; rfl)
      simp only [Result.andThen_ok]
      exact (hf a).calm v1 n1
    | halt h v1 => rw [h1] at hc; exact hc
  · rw [Sem.run_bind] at hv
    cases h1 : e.run P v with
    | ok a v1 =>
      rw [h1] at hv
      simp only [Result.andThen_ok] at hv
      obtain ⟨d1, t1, n1⟩ := he.lone v hs.noview v1 (by rw [h1]; rfl)
      obtain ⟨d2, t2, n2⟩ := (hf a).lone v1 n1 v' hv
      obtain ⟨w1, new1, r1, e1, s1, tt1, dd1, k1, o1⟩ := he.both X Z v w hs hr v1 (by rw [h1]; rfl) (fun k hk q => hw k (by omega) q)
      have hw2 : Win v1 w1 (v'.drawn - v1.drawn) := fun k hk q => by
        have := hw (v1.drawn - v.drawn + k) (by omega) q
        rw [t1, tt1, dd1]
        have ea : v.drawn + (v1.drawn - v.drawn + k) = v1.drawn + k := by omega
        rw [ea, ← Nat.add_assoc] at this
        exact this
      obtain ⟨w2, new2, r2, e2, s2, tt2, dd2, k2, o2⟩ := (hf a).both X Z v1 w1 s1 (fun r hr' => ⟨Nat.lt_of_lt_of_le (hr r hr').1 k1.grow, k1.notch r (hr r hr').1 (hr r hr').2⟩) v' hv hw2
      rw [h1] at r1
      simp only [rwith] at r1
      refine ⟨w2, new1 ++ new2, ?_, fun es => ?_, s2, tt2.trans tt1, by omega, k1.trans k2, fun x hx => (Array.mem_append.1 hx).elim (fun h => (o1 x h).mono k2.grow) (o2 x)⟩
      · rw [Sem.run_bind, r1, Sem.run_bind, h1]
        simp only [Result.andThen_ok]
        exact r2
      · rw [Sem.events_bind, r1]
        simp only [Result.evThen_ok]
        rw [e1, e2, Array.append_assoc]
    | halt h v1 =>
      rw [h1] at hv
      cases h with
      | panic x =>
        simp only [Result.andThen, lives, Option.some.injEq] at hv
        subst hv
        obtain ⟨w1, new1, r1, e1, s1, tt1, dd1, k1, o1⟩ := he.both X Z v w hs hr v1 (by rw [h1]; rfl) hw
        rw [h1] at r1
        simp only [rwith] at r1
        refine ⟨w1, new1, ?_, fun es => ?_, s1, tt1, dd1, k1, o1⟩
        · rw [Sem.run_bind, r1, Sem.run_bind, h1]
          rfl
        · rw [Sem.events_bind, r1]
          exact e1 es
      | _ => simp [Result.andThen, lives] at hv

theorem Sim.cell (h : Sim X Z v w) (a : Addr) : v.cell? a = w.cell? a := by
  unfold World.cell?
  rcases h.blk a.block with e | ⟨c, t, f, g, e1, e2, _⟩ | ⟨⟨a1, u1, e1⟩, ⟨a2, u2, e2⟩ | ⟨c2, t2, e2⟩⟩
  · rw [e]
  all_goals rw [e1, e2]
theorem Sim.shape (h : Sim X Z v w) (r : Nat) : v.shape? r = w.shape? r := by
  unfold World.shape?
  rcases h.blk r with e | ⟨c, t, f, g, e1, e2, _⟩ | ⟨⟨a1, u1, e1⟩, ⟨a2, u2, e2⟩ | ⟨c2, t2, e2⟩⟩
  · rw [e]
  all_goals rw [e1, e2]
theorem Sim.frozen (h : Sim X Z v w) {a : Addr} (hf : v.frozen? a = false) : w.frozen? a = false := by
  unfold World.frozen? at hf ⊢
  rcases h.blk a.block with e | ⟨c, t, f, g, e1, e2, hs⟩ | ⟨⟨a1, u1, e1⟩, ⟨a2, u2, e2⟩ | ⟨c2, t2, e2⟩⟩
  · rw [← e]; exact hf
  rotate_left
  · rw [e2]
  · rw [e2]
  · rw [e1] at hf
    rw [e2]
    simp only [Bool.and_eq_false_iff, decide_eq_false_iff_not] at hf ⊢
    by_cases h1 : g.1 ≤ a.off
    · right
      intro h2
      have := hs.1 a.off ⟨h1, h2⟩
      rcases hf with h3 | h3
      · exact h3 this.1
      · exact h3 this.2
    · exact .inl h1
theorem Sim.obj (h : Sim X Z v w) {r : Nat} {o : Obj} (ho : v.heap[r]? = some o) (hn : ∀ c t f, o ≠ .cells c t f) (hw : ∀ a u, o ≠ .view a u) : w.heap[r]? = some o := by
  rcases h.blk r with e | ⟨c, t, f, g, e1, e2, _⟩ | ⟨⟨a1, u1, e1⟩, _⟩
  · rw [← e]; exact ho
  · rw [e1] at ho; injection ho with ho; exact absurd ho.symm (hn _ _ _)
  · rw [e1] at ho; injection ho with ho; exact absurd ho.symm (hw _ _)
/-- A block that is no row of cells is none in either. -/
theorem Sim.notCells (h : Sim X Z v w) {r : Nat} {o : Obj} (ho : v.heap[r]? = some o) (hn : ∀ c t f, o ≠ .cells c t f) : ∃ o', w.heap[r]? = some o' ∧ ∀ c t f, o' ≠ .cells c t f := by
  rcases h.blk r with e | ⟨c, t, f, g, e1, e2, _⟩ | ⟨_, ⟨a2, u2, e2⟩ | ⟨c2, t2, e2⟩⟩
  · exact ⟨o, by rw [← e]; exact ho, hn⟩
  · rw [e1] at ho; injection ho with ho; exact absurd ho.symm (hn _ _ _)
  · exact ⟨_, e2, by simp⟩
  · exact ⟨_, e2, by simp⟩

theorem good_halt {rs : List Nat} (h : Halt) (hc : Calm h) : Good P rs (.halt h : Sem α) := by
  refine ⟨fun v hn v' hv => ?_, fun _ _ => hc, fun X Z v w hs _ v' hv _ => ?_⟩
  · cases h with
    | panic x => simp only [Sem.run, lives, Option.some.injEq] at hv; subst hv; exact ⟨Nat.le_refl _, rfl, hn⟩
    | _ => simp [Sem.run, lives] at hv
  · cases h with
    | panic x =>
      simp only [Sem.run, lives, Option.some.injEq] at hv
      subst hv
      exact ⟨w, #[], by simp [Sem.run, rwith], fun es => by simp [Sem.events, Sem.runT, -Sem.runT_eq], hs, rfl, by simp, Kept.refl _ _, by simp⟩
    | _ => simp [Sem.run, lives] at hv

/-- A term that asks one thing of the world, without turning it: what it yields in the one it yields in the other. -/
theorem good_read {rs : List Nat} {e : Sem α} (h1 : ∀ v, NoView v → (∃ a, e.run P v = .ok a v) ∨ (lives (e.run P v) = none ∧ calmR (e.run P v)))
    (h2 : ∀ X Z v w a, Sim X Z v w → e.run P v = .ok a v → e.run P w = .ok a w ∧ ∃ new, (∀ es, e.events P w es = es ++ new) ∧ ∀ x ∈ new, EvIn Z w.heap.size x) : Good P rs e := by
  refine ⟨fun v hn v' hv => ?_, fun v hn => ?_, fun X Z v w hs _ v' hv _ => ?_⟩
  · rcases h1 v hn with ⟨a, e1⟩ | ⟨e1, _⟩
    · rw [e1] at hv; simp only [lives, Option.some.injEq] at hv; subst hv; exact ⟨Nat.le_refl _, rfl, hn⟩
    · rw [e1] at hv; cases hv
  · rcases h1 v hn with ⟨a, e1⟩ | ⟨_, e1⟩
    · rw [e1]; trivial
    · exact e1
  · rcases h1 v hs.noview with ⟨a, e1⟩ | ⟨e1, _⟩
    · rw [e1] at hv; simp only [lives, Option.some.injEq] at hv; subst hv
      obtain ⟨r, new, hn, ho⟩ := h2 X Z v w a hs e1
      exact ⟨w, new, by rw [r, e1]; rfl, hn, hs, rfl, by simp, Kept.refl _ _, ho⟩
    · rw [e1] at hv; cases hv

theorem evOk_read (Z : Addr → Prop) (l : Loc) (s : Bool) (hm : ∀ m, l ≠ .mark m) : EvOk Z ⟨l, false, s⟩ := by
  refine ⟨fun x a hx _ hw => ?_, hm _, hm _⟩
  cases l with
  | mark m => exact absurd rfl (hm m)
  | _ =>
    simp only [MemAct.ofEvent, MemAct.touch?, Option.some.injEq] at hx
    subst hx
    cases hw

theorem cell_lt {w : World} {a : Addr} {x : Value} (h : w.cell? a = some x) : a.block < w.heap.size := by
  rcases Nat.lt_or_ge a.block w.heap.size with h1 | h1
  · exact h1
  · unfold World.cell? at h
    rw [Array.getElem?_eq_none h1] at h
    cases h
theorem obj_lt {w : World} {r : Nat} {o : Obj} (h : w.heap[r]? = some o) : r < w.heap.size := (Array.getElem?_eq_some_iff.1 h).1

theorem noCell_lives (w : World) (a : Addr) (s : String) (u : World) : lives (.halt (w.noCell a s) u : Result α) = none := by
  unfold World.noCell
  split <;> rfl
theorem seen_dead {v : World} {at_ : Addr} (h : at_.spot.isSome = true) (u : TypeId) (k : Addr) (b : Bool) : ∃ s, v.seen P at_ u k b = .error s := by
  unfold World.seen
  simp only [h, Bool.or_true, if_true]
  exact ⟨_, rfl⟩
theorem noCell_calm {w : World} (hn : NoView w) (a : Addr) (s : String) : Calm (w.noCell a s) := by
  unfold World.noCell
  split
  · rename_i he; exact (hn _ _ he).elim
  · trivial
  · trivial
theorem farLoad_noview {v : World} (hn : NoView v) (a : Addr) (b : Bool) : ∃ h, v.farLoad P a b = .error h ∧ Calm h ∧ ∀ (u : World), lives (.halt h u : Result α) = none := by
  unfold World.farLoad
  split
  · rename_i at_ u he
    obtain ⟨s, hs⟩ := seen_dead (P := P) (v := v) (hn _ _ he) u a b
    refine ⟨.unsupported (.unsafePointer s), ?_, trivial, fun _ => rfl⟩
    unfold World.viewLoad
    rw [hs]
    rfl
  · exact ⟨_, rfl, noCell_calm hn a _, fun u => noCell_lives v a _ u⟩
theorem farStore_noview {v : World} (hn : NoView v) (a : Addr) (x : Value) (b : Bool) : ∃ h, v.farStore P a x b = .error h ∧ Calm h ∧ ∀ (u : World), lives (.halt h u : Result α) = none := by
  unfold World.farStore
  split
  · rename_i at_ u he
    obtain ⟨s, hs⟩ := seen_dead (P := P) (v := v) (hn _ _ he) u a b
    unfold World.viewStore
    rw [hs]
    cases ht : tight P P.depth u with
    | true => exact ⟨.unsupported (.unsafePointer s), rfl, trivial, fun _ => rfl⟩
    | false => exact ⟨.unsupported (.unsafePointer _), rfl, trivial, fun _ => rfl⟩
  · exact ⟨_, rfl, noCell_calm hn a _, fun u => noCell_lives v a _ u⟩

theorem good_load (rs : List Nat) (a : Addr) (m : Mode) : Good P rs (load a m) := by
  refine good_read (fun v hn => ?_) (fun X Z v w x hs hx => ?_)
  · cases hc : v.cell? a with
    | some x => exact .inl ⟨x, by simp [load, Sem.run, hc]⟩
    | none =>
      obtain ⟨h, e, hcl, hl⟩ := farLoad_noview (P := P) (α := Value) hn a (m == .atomic)
      exact .inr ⟨by simp only [load, Sem.run, hc, e]; exact hl v, by simp only [load, Sem.run, hc, e]; exact hcl⟩
  · cases hc : v.cell? a with
    | some y =>
      simp [load, Sem.run, hc] at hx
      subst hx
      have hw : w.cell? a = some y := (hs.cell a).symm.trans hc
      exact ⟨by simp [load, Sem.run, hw], #[⟨.cell a, false, m == .atomic⟩], fun es => by simp [load, Sem.events, Sem.runT, -Sem.runT_eq, hw], fun x hx => by simp at hx; subst hx; exact ⟨evOk_read Z _ _ (by simp), cell_lt hw⟩⟩
    | none =>
      obtain ⟨h, e, _, hl⟩ := farLoad_noview (P := P) (α := Value) hs.noview a (m == .atomic)
      simp [load, Sem.run, hc, e] at hx

theorem good_shape (rs : List Nat) (r : Nat) : Good P rs (shape r) :=
  good_read (fun v _ => .inl ⟨_, rfl⟩) fun X Z v w x hs hx => by
    simp only [Go.shape, Sem.run, Result.ok.injEq, and_true] at hx
    subst hx
    exact ⟨by simp [Go.shape, Sem.run, hs.shape r], #[], fun es => by simp [Go.shape, Sem.events, Sem.runT, -Sem.runT_eq], by simp⟩
theorem good_program (rs : List Nat) : Good P rs program :=
  good_read (fun v _ => .inl ⟨_, rfl⟩) fun X Z v w x hs hx => by
    simp only [program, Sem.run, Result.ok.injEq, and_true] at hx
    subst hx
    exact ⟨by simp [program, Sem.run], #[], fun es => by simp [program, Sem.events, Sem.runT, -Sem.runT_eq], by simp⟩
theorem good_mark (rs : List Nat) (m : Mark) (hm : m = .noRoom) : Good P rs (mark m) :=
  good_read (fun v _ => .inl ⟨_, rfl⟩) fun X Z v w x hs _ => by
    refine ⟨by simp [mark, Sem.run], #[⟨.mark m, false, true⟩], fun es => by simp [mark, Sem.events, Sem.runT, -Sem.runT_eq], fun x hx => ?_⟩
    simp at hx; subst hx
    refine ⟨⟨fun y a hy _ hw => ?_, ?_, ?_⟩, ?_⟩ <;> subst hm <;> simp_all [MemAct.ofEvent, MemAct.touch?, MemAct.low]

theorem good_choose (rs : List Nat) (q : Question) : Good P rs (choose q) := by
  refine ⟨fun v hn v' hv => ?_, fun v _ => ?_, fun X Z v w hs _ v' hv hw => ?_⟩
  · unfold choose at hv
    simp only [Sem.run] at hv
    split at hv
    · simp only [lives, Option.some.injEq] at hv; subst hv; exact ⟨Nat.le_refl _, rfl, hn⟩
    · simp only [lives, Option.some.injEq] at hv; subst hv; exact ⟨Nat.le_succ _, rfl, hn⟩
  · unfold choose
    simp only [Sem.run]
    split <;> trivial
  · unfold choose at hv ⊢
    simp only [Sem.run] at hv ⊢
    by_cases hq : q.forced = true
    · rw [if_pos hq] at hv ⊢
      simp only [lives, Option.some.injEq] at hv; subst hv
      exact ⟨w, #[], by simp [hq, rwith], fun es => by simp [Sem.events, Sem.runT, -Sem.runT_eq, hq], hs, rfl, by simp, Kept.refl _ _, by simp⟩
    · rw [if_neg hq] at hv ⊢
      simp only [lives, Option.some.injEq] at hv; subst hv
      have h0 := hw 0 (by simp) q
      simp only [Nat.add_zero] at h0
      refine ⟨{ w with drawn := w.drawn + 1 }, #[], ?_, fun es => by simp [Sem.events, Sem.runT, -Sem.runT_eq, hq], ⟨hs.size, hs.blk, hs.noview, hs.guard, hs.os, hs.output, hs.exact⟩, rfl, ?_, ⟨fun _ _ => rfl, fun _ _ _ _ _ _ _ _ => rfl, fun _ _ h => h, Nat.le_refl _, fun _ h => h, fun _ _ => rfl, rfl, rfl, rfl⟩, by simp⟩
      · simp [hq, rwith, h0]
      · simp

theorem get_modify (h : Array Obj) (b : Nat) (f : Obj → Obj) (i : Nat) : (h.modify b f)[i]? = if b = i then (h[i]?).map f else h[i]? := by
  rw [Array.getElem?_modify]

theorem setCell_get (w : World) (a : Addr) (x : Value) (i : Nat) : (w.setCell a x).heap[i]? = if a.block = i then (w.heap[i]?).map (fun o => match o with | .cells c e fr => .cells (if a.spot.isSome then c else c.setIfInBounds a.off x) e fr | o => o) else w.heap[i]? := by
  unfold World.setCell
  exact get_modify _ _ _ _

theorem setCell_cell_ne (w : World) (a a' : Addr) (x : Value) (hs : a.spot = none) (h : a' ≠ a) : (w.setCell a x).cell? a' = w.cell? a' := by
  unfold World.cell?
  rw [setCell_get]
  by_cases hb : a.block = a'.block
  · rw [if_pos hb]
    cases ho : w.heap[a'.block]? with
    | none => rfl
    | some o =>
      cases o with
      | cells c e fr =>
        simp only [Option.map_some, hs, Option.isSome_none, Bool.false_eq_true, if_false]
        by_cases hsp : a'.spot.isSome = true
        · rw [if_pos hsp, if_pos hsp]
        · rw [if_neg hsp, if_neg hsp]
          have hne : a.off ≠ a'.off := fun e2 => h (by
            cases a; cases a'
            simp only [Addr.mk.injEq] at *
            refine ⟨hb.symm, e2.symm, ?_⟩
            subst hs
            simpa using hsp)
          exact Array.getElem?_setIfInBounds_ne hne
      | _ => rfl
  · rw [if_neg hb]
theorem setCell_frozen (w : World) (a a' : Addr) (x : Value) : (w.setCell a x).frozen? a' = w.frozen? a' := by
  unfold World.frozen?
  rw [setCell_get]
  by_cases hb : a.block = a'.block
  · rw [if_pos hb]
    cases ho : w.heap[a'.block]? with
    | none => rfl
    | some o => cases o <;> rfl
  · rw [if_neg hb]
theorem setCell_size (w : World) (a : Addr) (x : Value) : (w.setCell a x).heap.size = w.heap.size := by simp [World.setCell]

theorem cell_spot {w : World} {a : Addr} {x : Value} (h : w.cell? a = some x) : a.spot = none := by
  unfold World.cell? at h
  cases ho : w.heap[a.block]? with
  | none => rw [ho] at h; cases h
  | some o =>
    rw [ho] at h
    cases o with
    | cells c e fr =>
      simp only at h
      cases hs : a.spot with
      | none => rfl
      | some k => rw [hs] at h; simp at h
    | _ => cases h

theorem setCell_odd {w : World} {a : Addr} {x : Value} {b : Nat} (hb : Odd (w.setCell a x).heap[b]?) : Odd w.heap[b]? := by
  rw [setCell_get] at hb
  by_cases hbb : a.block = b
  · rw [if_pos hbb] at hb
    cases ho : w.heap[b]? with
    | none => rw [ho] at hb; rcases hb with ⟨_, _, e⟩ | ⟨_, _, e⟩ <;> cases e
    | some o =>
      rw [ho] at hb
      cases o with
      | view a u => exact .inl ⟨_, _, rfl⟩
      | pending c t => exact .inr ⟨_, _, rfl⟩
      | _ => rcases hb with ⟨_, _, e⟩ | ⟨_, _, e⟩ <;> simp at e
  · rw [if_neg hbb] at hb; exact hb
theorem setCell_same {w : World} {a : Addr} {x : Value} {b : Nat} (hb : Odd w.heap[b]?) : (w.setCell a x).heap[b]? = w.heap[b]? := by
  rw [setCell_get]
  by_cases hbb : a.block = b
  · rw [if_pos hbb]
    rcases hb with ⟨_, _, e⟩ | ⟨_, _, e⟩ <;> (rw [e]; rfl)
  · rw [if_neg hbb]

theorem Sim.setCell (h : Sim X Z v w) {a : Addr} {y : Value} (hc : v.cell? a = some y) (hf : v.frozen? a = false) (x : Value) : Sim X Z (v.setCell a x) (w.setCell a x) ∧ Kept Z w (w.setCell a x) := by
  have hsp := cell_spot hc
  refine ⟨⟨by rw [setCell_size, setCell_size]; exact h.size, fun b => ?_, fun b o => ?_, fun a' ha => ?_, h.os, h.output, fun hx => by simp only [World.setCell, h.exact hx]⟩, ⟨fun a' ha => ?_, fun c cap buf cl s r tm hcc => ?_, fun r _ hn => ⟨fun cap buf cl s rc tm he => ?_, fun ho => hn.2 (setCell_odd ho)⟩, by rw [setCell_size]; exact Nat.le_refl _, fun b hb => setCell_odd hb, fun b hb => setCell_same hb, rfl, rfl, rfl⟩⟩
  · rw [setCell_get, setCell_get]
    by_cases hb : a.block = b
    · rw [if_pos hb, if_pos hb]
      rcases h.blk b with e | ⟨c, t, f, g, e1, e2, e3⟩ | ⟨⟨a1, u1, e1⟩, e2⟩
      · exact .inl (by rw [e])
      · right; left
        rw [e1, e2]
        exact ⟨_, t, f, g, rfl, rfl, e3⟩
      · right; right
        rw [e1]
        refine ⟨⟨a1, u1, rfl⟩, ?_⟩
        rcases e2 with ⟨a2, u2, e2⟩ | ⟨c2, t2, e2⟩
        · exact .inl ⟨a2, u2, by rw [e2]; rfl⟩
        · exact .inr ⟨c2, t2, by rw [e2]; rfl⟩
    · rw [if_neg hb, if_neg hb]; exact h.blk b
  · rw [setCell_get]
    by_cases hb : a.block = b
    · rw [if_pos hb]
      cases ho : v.heap[b]? with
      | none => simp
      | some o' =>
        intro e
        have := h.noview b o' ho
        simp only [Option.map_some, Option.some.injEq] at e
        subst e
        cases o' <;> exact this
    · rw [if_neg hb]; exact h.noview b o
  · obtain ⟨h1, h2⟩ := h.guard a' ha
    have hne : a' ≠ a := fun e => by rw [e, hf] at h2; cases h2
    rw [setCell_cell_ne v a a' x hsp hne, setCell_frozen]
    exact ⟨h1, h2⟩
  · obtain ⟨h1, h2⟩ := h.guard a' ha
    have hne : a' ≠ a := fun e => by rw [e, hf] at h2; cases h2
    exact setCell_cell_ne w a a' x hsp hne
  · rw [setCell_get]
    by_cases hb : a.block = c
    · rw [if_pos hb, hcc]; rfl
    · rw [if_neg hb]
  · rw [setCell_get] at he
    by_cases hb : a.block = r
    · rw [if_pos hb] at he
      cases ho : w.heap[r]? with
      | none => rw [ho] at he; cases he
      | some o =>
        rw [ho] at he
        cases o with
        | chan cap buf cl s rc tm => exact hn.1 cap buf cl s rc tm ho
        | _ => simp at he
    · rw [if_neg hb] at he; exact hn.1 _ _ _ _ _ _ he

/-- A value of one cell. -/
def plainV : Value → Bool
  | .agg _ | .tuple _ => false
  | _ => true
theorem run_store_plain {x : Value} (hx : plainV x = true) (a : Addr) (m : Mode) (v : World) : (store a x m).run P v =
    match v.cell? a with
    | some _ => if v.frozen? a then .halt (.unsupported (.unsafePointer "a write to bytes that a string shares")) v else .ok () (v.setCell a x)
    | none => match v.farStore P a x (m == .atomic) with
      | .ok (w, _) => .ok () w
      | .error h => .halt h v := by
  cases x <;> first | rfl | cases hx
theorem run_store_agg {x : Value} (hx : plainV x = false) (a : Addr) (m : Mode) (v : World) : lives ((store a x m).run P v) = none := by
  cases x <;> first | rfl | cases hx
theorem events_store_plain {x : Value} (hx : plainV x = true) (a : Addr) (m : Mode) {w : World} {y : Value} (hc : w.cell? a = some y) (hf : w.frozen? a = false) (es : Array Event) :
    (store a x m).events P w es = es.push ⟨.cell a, true, m == .atomic⟩ := by
  cases x <;> first | (simp [store, Sem.events, Sem.runT, -Sem.runT_eq, hc, hf]; done) | cases hx

theorem good_store (rs : List Nat) (a : Addr) (x : Value) (m : Mode) : Good P rs (store a x m) := by
  have key : ∀ v : World, NoView v → ∀ v', lives ((store a x m : Sem Unit).run P v) = some v' → plainV x = true ∧ (∃ y, v.cell? a = some y) ∧ v.frozen? a = false ∧ v' = v.setCell a x ∧ (store a x m : Sem Unit).run P v = .ok () (v.setCell a x) := by
    intro v hn v' hv
    cases hx : plainV x with
    | false => rw [run_store_agg hx] at hv; cases hv
    | true =>
      rw [run_store_plain hx] at hv ⊢
      cases hc : v.cell? a with
      | none =>
        rw [hc] at hv
        obtain ⟨h, e, _, hl⟩ := farStore_noview (P := P) (α := Unit) hn a x (m == .atomic)
        simp only [e] at hv
        rw [hl] at hv; cases hv
      | some y =>
        rw [hc] at hv
        simp only at hv ⊢
        cases hf : v.frozen? a with
        | true => rw [hf] at hv; simp [lives] at hv
        | false =>
          rw [hf] at hv
          simp only [Bool.false_eq_true, if_false, lives, Option.some.injEq] at hv
          exact ⟨trivial, ⟨y, rfl⟩, rfl, hv.symm, by simp⟩
  refine ⟨fun v hn v' hv => ?_, fun v hn => ?_, fun X Z v w hs _ v' hv _ => ?_⟩
  rotate_left
  · cases hx : plainV x with
    | false => cases x <;> first | trivial | cases hx
    | true =>
      rw [run_store_plain hx]
      cases hc : v.cell? a with
      | some y =>
        simp only
        split <;> trivial
      | none =>
        obtain ⟨h, e, hcl, _⟩ := farStore_noview (P := P) (α := Unit) hn a x (m == .atomic)
        simp only [e]
        exact hcl
  rotate_right
  · obtain ⟨_, ⟨y, hc⟩, hf, rfl, _⟩ := key v hn v' hv
    have hs : Sim True (fun _ => False) v v := ⟨rfl, fun b => .inl rfl, hn, fun a ha => ha.elim, rfl, rfl, fun _ => rfl⟩
    exact ⟨Nat.le_refl _, rfl, (hs.setCell hc hf x).1.noview⟩
  · obtain ⟨hx, ⟨y, hc⟩, hf, rfl, hr⟩ := key v hs.noview v' hv
    obtain ⟨h1, h2⟩ := hs.setCell hc hf x
    have hcw := (hs.cell a).symm.trans hc
    have hfw := hs.frozen hf
    refine ⟨w.setCell a x, #[⟨.cell a, true, m == .atomic⟩], ?_, fun es => ?_, h1, rfl, by simp [World.setCell], h2, fun e he => ?_⟩
    · rw [hr, run_store_plain hx]
      simp [hcw, hfw, rwith]
    · rw [events_store_plain hx a m hcw hfw]; simp
    · simp at he
      subst he
      refine ⟨⟨fun z a' hz hl _ hZ => ?_, by simp, by simp⟩, by rw [setCell_size]; exact cell_lt hcw⟩
      simp only [MemAct.ofEvent, MemAct.touch?, Option.some.injEq] at hz
      subst hz
      simp only [Loc.cell.injEq] at hl
      subst hl
      obtain ⟨_, h3⟩ := hs.guard a hZ
      rw [hf] at h3; cases h3

/-- A new block. -/
theorem Sim.push (h : Sim X Z v w) {o : Obj} (hv : newOk o) : Sim X Z { v with heap := v.heap.push o } { w with heap := w.heap.push o } ∧ Kept Z w { w with heap := w.heap.push o } := by
  have hcell : ∀ (u : World) (a : Addr), a.block < u.heap.size → ({ u with heap := u.heap.push o } : World).cell? a = u.cell? a ∧ ({ u with heap := u.heap.push o } : World).frozen? a = u.frozen? a := by
    intro u a ha
    unfold World.cell? World.frozen?
    simp only
    rw [Array.getElem?_push, if_neg (by omega)]
    exact ⟨rfl, rfl⟩
  have hlt : ∀ a, Z a → a.block < v.heap.size := fun a ha => by
    rcases Nat.lt_or_ge a.block v.heap.size with h1 | h1
    · exact h1
    · obtain ⟨h2, _⟩ := h.guard a ha
      unfold World.cell? at h2
      rw [Array.getElem?_eq_none h1] at h2
      cases h2
  have hodd : ∀ b : Nat, Odd (w.heap.push o)[b]? → Odd w.heap[b]? := by
    intro b hb
    rw [Array.getElem?_push] at hb
    by_cases hbb : b = w.heap.size
    · rw [if_pos hbb] at hb
      exfalso
      rcases hb with ⟨_, _, e⟩ | ⟨_, _, e⟩ <;> (injection e with e; subst e; exact hv)
    · rw [if_neg hbb] at hb; exact hb
  refine ⟨⟨by simp [h.size], fun b => ?_, fun b o' => ?_, fun a ha => ?_, h.os, h.output, fun hx => by simp only [h.exact hx]⟩, ⟨fun a ha => (hcell w a (by have := hlt a ha; have := h.size; omega)).1, fun c cap buf cl s r tm hc => ?_, fun r hr hn => ⟨fun cap buf cl s rc tm he => ?_, fun ho => hn.2 (hodd r ho)⟩, by simp, fun b hb => hodd b hb, fun b hb => ?_, rfl, rfl, rfl⟩⟩
  rotate_right
  · simp only
    rw [Array.getElem?_push, if_neg]
    rintro rfl
    rw [Array.getElem?_eq_none (Nat.le_refl _)] at hb
    rcases hb with ⟨_, _, e⟩ | ⟨_, _, e⟩ <;> cases e
  · simp only
    rw [Array.getElem?_push, Array.getElem?_push, h.size]
    by_cases hb : b = w.heap.size
    · rw [if_pos hb, if_pos hb]; exact .inl rfl
    · rw [if_neg hb, if_neg hb]; exact h.blk b
  · simp only
    rw [Array.getElem?_push]
    by_cases hb : b = v.heap.size
    · rw [if_pos hb]; intro e; injection e with e; subst e; exact hv.tame
    · rw [if_neg hb]; exact h.noview b o'
  · rw [(hcell v a (hlt a ha)).1, (hcell v a (hlt a ha)).2]; exact h.guard a ha
  · simp only
    rw [Array.getElem?_push, if_neg (by have := (Array.getElem?_eq_some_iff.1 hc).1; omega)]
  · simp only at he
    rw [Array.getElem?_push, if_neg (by omega)] at he
    exact hn.1 _ _ _ _ _ _ he

theorem good_new (rs : List Nat) (o : Obj) (hv : newOk o) : Good P rs (newObj o) := by
  refine ⟨fun v hn v' hv' => ?_, fun _ _ => trivial, fun X Z v w hs _ v' hv' _ => ?_⟩
  · simp only [newObj, Sem.run, lives, Option.some.injEq] at hv'
    subst hv'
    have hs : Sim True (fun _ => False) v v := ⟨rfl, fun b => .inl rfl, hn, fun a ha => ha.elim, rfl, rfl, fun _ => rfl⟩
    exact ⟨Nat.le_refl _, rfl, (hs.push hv).1.noview⟩
  · simp only [newObj, Sem.run, lives, Option.some.injEq] at hv'
    subst hv'
    obtain ⟨h1, h2⟩ := hs.push hv
    exact ⟨_, #[], by simp [newObj, Sem.run, rwith, hs.size], fun es => by simp [newObj, Sem.events, Sem.runT, -Sem.runT_eq], h1, rfl, by simp, h2, by simp⟩

/-- An object is asked for: where it is a channel the rest goes on as it will; where it is memory seen as another type the run ends; else the block is known to be no channel. -/
theorem good_getObj' {rs : List Nat} (r : Nat) {k : Obj → Sem α} (hdead : ∀ a u (v : World), lives ((k (.view a u)).run P v) = none ∧ calmR ((k (.view a u)).run P v)) (h1 : ∀ cap buf cl s rc tm, Good P rs (k (.chan cap buf cl s rc tm)))
    (h2 : ∀ o, (∀ cap buf cl s rc tm, o ≠ .chan cap buf cl s rc tm) → Good P (r :: rs) (k o)) : Good P rs (getObj r >>= k) := by
  have hk : ∀ v : World, (∃ o, v.heap[r]? = some o ∧ (∀ c t f, o ≠ .cells c t f) ∧ (getObj r : Sem Obj).run P v = .ok o v) ∨ (lives ((getObj r : Sem Obj).run P v) = none ∧ ∃ s, (getObj r : Sem Obj).run P v = .halt (.stuck s) v) := by
    intro v
    cases ho : v.heap[r]? with
    | none => exact .inr ⟨by simp [getObj, Sem.run, ho, lives], _, by unfold getObj; simp only [Sem.run, ho]; rfl⟩
    | some o =>
      cases o with
      | cells c t f => exact .inr ⟨by simp [getObj, Sem.run, ho, lives], _, by unfold getObj; simp only [Sem.run, ho]; rfl⟩
      | _ => exact .inl ⟨_, rfl, by simp, by simp [getObj, Sem.run, ho]⟩
  have hsplit : ∀ o : Obj, (∃ a u, o = .view a u) ∨ (∃ cap buf cl s rc tm, o = .chan cap buf cl s rc tm) ∨ ((∀ a u, o ≠ .view a u) ∧ ∀ cap buf cl s rc tm, o ≠ .chan cap buf cl s rc tm) := by
    intro o
    cases o with
    | view a u => exact .inl ⟨a, u, rfl⟩
    | chan cap buf cl s rc tm => exact .inr (.inl ⟨_, _, _, _, _, _, rfl⟩)
    | _ => exact .inr (.inr ⟨by simp, by simp⟩)
  refine ⟨fun v hn v' hv => ?_, fun v hn => ?_, fun X Z v w hs hr v' hv hw => ?_⟩
  · rw [Sem.run_bind] at hv
    rcases hk v with ⟨o, ho, hc, e⟩ | ⟨_, s, e⟩
    · rw [e] at hv
      simp only [Result.andThen_ok] at hv
      rcases hsplit o with ⟨a, u, rfl⟩ | ⟨cap, buf, cl, s, rc, tm, rfl⟩ | ⟨_, hch⟩
      · rw [(hdead a u v).1] at hv; cases hv
      · exact (h1 _ _ _ _ _ _).lone v hn v' hv
      · exact (h2 o hch).lone v hn v' hv
    · rw [e] at hv
      simp [Result.andThen, lives] at hv
  · rw [Sem.run_bind]
    rcases hk v with ⟨o, ho, hc, e⟩ | ⟨_, s, e⟩
    · rw [e]
      simp only [Result.andThen_ok]
      rcases hsplit o with ⟨a, u, rfl⟩ | ⟨cap, buf, cl, s, rc, tm, rfl⟩ | ⟨_, hch⟩
      · exact (hdead a u v).2
      · exact (h1 _ _ _ _ _ _).calm v hn
      · exact (h2 o hch).calm v hn
    · rw [e]; trivial
  · rw [Sem.run_bind] at hv
    rcases hk v with ⟨o, ho, hc, e⟩ | ⟨_, s, e⟩
    · rw [e] at hv
      simp only [Result.andThen_ok] at hv
      rcases hsplit o with ⟨a, u, rfl⟩ | hrest
      · rw [(hdead a u v).1] at hv; cases hv
      have hnv : ∀ a u, o ≠ .view a u := by
        rcases hrest with ⟨cap, buf, cl, s, rc, tm, rfl⟩ | ⟨h, _⟩
        · simp
        · exact h
      have how := hs.obj ho hc hnv
      have ew : (getObj r : Sem Obj).run P w = .ok o w ∧ ∀ es, (getObj r : Sem Obj).events P w es = es.push ⟨.obj r, false, o.isChan⟩ := by
        cases o with
        | cells c t f => exact absurd rfl (hc _ _ _)
        | _ => exact ⟨by simp [getObj, Sem.run, how], fun es => by simp [getObj, Sem.events, Sem.runT, -Sem.runT_eq, how]⟩
      have hG : ∃ w' new, (k o).run P w = rwith ((k o).run P v) w' ∧ (∀ es, (k o).events P w es = es ++ new) ∧ Sim X Z v' w' ∧ w'.tape = w.tape ∧ w'.drawn = w.drawn + (v'.drawn - v.drawn) ∧ Kept Z w w' ∧ ∀ x ∈ new, EvIn Z w'.heap.size x := by
        rcases hrest with ⟨cap, buf, cl, s, rc, tm, rfl⟩ | ⟨_, hch⟩
        · exact (h1 _ _ _ _ _ _).both X Z v w hs hr v' hv hw
        · have hno : ¬ Odd w.heap[r]? := by
            rw [how]
            rintro (⟨_, _, e⟩ | ⟨_, _, e⟩)
            · injection e with e; exact hnv _ _ e
            · injection e with e; subst e; exact hs.noview _ _ ho
          refine (h2 o hch).both X Z v w hs (fun r' hr' => ?_) v' hv hw
          rcases List.mem_cons.1 hr' with rfl | hr'
          · exact ⟨(Array.getElem?_eq_some_iff.1 how).1, fun cap buf cl s rc tm e => hch cap buf cl s rc tm (by rw [how] at e; injection e), hno⟩
          · exact hr r' hr'
      obtain ⟨w', new, r1, e1, s1, t1, d1, k1, o1⟩ := hG
      refine ⟨w', #[⟨.obj r, false, o.isChan⟩] ++ new, ?_, fun es => ?_, s1, t1, d1, k1, fun x hx => ?_⟩
      · rw [Sem.run_bind, ew.1, Sem.run_bind, e]
        simp only [Result.andThen_ok]
        exact r1
      · rw [Sem.events_bind, ew.1]
        simp only [Result.evThen_ok]
        rw [e1, ew.2]
        simp
      · rcases Array.mem_append.1 hx with hx | hx
        · simp at hx; subst hx; exact ⟨evOk_read Z _ _ (by simp), Nat.lt_of_lt_of_le (obj_lt how) k1.grow⟩
        · exact o1 x hx
    · rw [e] at hv
      simp [Result.andThen, lives] at hv

theorem good_getObj {rs : List Nat} (r : Nat) {k : Obj → Sem α} (h0 : ∀ a u, ∃ h, k (.view a u) = .halt h ∧ Calm h ∧ ∀ x, h ≠ .panic x) (h1 : ∀ cap buf cl s rc tm, Good P rs (k (.chan cap buf cl s rc tm)))
    (h2 : ∀ o, (∀ cap buf cl s rc tm, o ≠ .chan cap buf cl s rc tm) → Good P (r :: rs) (k o)) : Good P rs (getObj r >>= k) := by
  refine good_getObj' r (fun a u v => ?_) h1 h2
  obtain ⟨h, e, hc, hp⟩ := h0 a u
  rw [e]
  refine ⟨?_, hc⟩
  cases h with
  | panic x => exact absurd rfl (hp x)
  | _ => rfl

/-- An object is laid anew in a block that is no channel's. -/
theorem good_setObj {rs : List Nat} {r : Nat} (hr : r ∈ rs) {o : Obj} (hc : ∀ cap buf cl s rc tm, o ≠ .chan cap buf cl s rc tm) (hv : newOk o) : Good P rs (setObj r o) := by
  have key : ∀ v : World, ∀ v', lives ((setObj r o : Sem Unit).run P v) = some v' → ∃ o', v.heap[r]? = some o' ∧ (∀ c t f, o' ≠ .cells c t f) ∧ v' = { v with heap := v.heap.setIfInBounds r o } ∧ (setObj r o : Sem Unit).run P v = .ok () v' := by
    intro v v' hv'
    unfold setObj at hv' ⊢
    simp only [Sem.run] at hv' ⊢
    cases ho : v.heap[r]? with
    | none => rw [ho] at hv'; simp [lives] at hv'
    | some o' =>
      rw [ho] at hv'
      cases o' with
      | cells c t f => simp [lives] at hv'
      | _ => simp only [lives, Option.some.injEq] at hv'; subst hv'; exact ⟨_, rfl, by simp, rfl, rfl⟩
  have hget : ∀ (u : World) (i : Nat), ({ u with heap := u.heap.setIfInBounds r o } : World).heap[i]? = if r = i then (if i < u.heap.size then some o else none) else u.heap[i]? := by
    intro u i
    simp only
    rw [Array.getElem?_setIfInBounds]
    by_cases h : r = i
    · subst h; rw [if_pos rfl]
    · rw [if_neg h, if_neg h]
  have hnv : ∀ v : World, NoView v → NoView { v with heap := v.heap.setIfInBounds r o } := by
    intro v hn b o'
    rw [hget]
    by_cases h : r = b
    · rw [if_pos h]
      split
      · intro e; injection e with e; subst e; exact hv.tame
      · simp
    · rw [if_neg h]; exact hn b o'
  refine ⟨fun v hn v' hv' => ?_, fun v _ => ?_, fun X Z v w hs hrs v' hv' _ => ?_⟩
  · obtain ⟨_, _, _, rfl, _⟩ := key v v' hv'
    exact ⟨Nat.le_refl _, rfl, hnv v hn⟩
  · unfold setObj
    simp only [Sem.run]
    split <;> trivial
  · obtain ⟨o', ho', hn', rfl, hrun⟩ := key v v' hv'
    obtain ⟨o₂, how, hn₂⟩ := hs.notCells ho' hn'
    have hcell : ∀ (u : World) (a : Addr), a.block ≠ r → ({ u with heap := u.heap.setIfInBounds r o } : World).cell? a = u.cell? a ∧ ({ u with heap := u.heap.setIfInBounds r o } : World).frozen? a = u.frozen? a := by
      intro u a ha
      have e : (u.heap.setIfInBounds r o)[a.block]? = u.heap[a.block]? := Array.getElem?_setIfInBounds_ne (fun e => ha e.symm)
      unfold World.cell? World.frozen?
      simp only [e]
      exact ⟨trivial, trivial⟩
    have hZ : ∀ a, Z a → a.block ≠ r := fun a ha e => by
      obtain ⟨h2, _⟩ := hs.guard a ha
      unfold World.cell? at h2
      rw [e, ho'] at h2
      cases o' with
      | cells c t f => exact absurd rfl (hn' _ _ _)
      | _ => simp at h2
    have hodd : ∀ b : Nat, Odd (w.heap.setIfInBounds r o)[b]? → Odd w.heap[b]? := by
      intro b hb
      rw [show (w.heap.setIfInBounds r o)[b]? = _ from hget w b] at hb
      by_cases h : r = b
      · rw [if_pos h] at hb
        exfalso
        split at hb
        · rcases hb with ⟨_, _, e⟩ | ⟨_, _, e⟩ <;> (injection e with e; subst e; exact hv)
        · rcases hb with ⟨_, _, e⟩ | ⟨_, _, e⟩ <;> cases e
      · rw [if_neg h] at hb; exact hb
    refine ⟨{ w with heap := w.heap.setIfInBounds r o }, #[⟨.obj r, true, o.isChan⟩], ?_, fun es => ?_, ⟨by simp [hs.size], fun b => ?_, hnv v hs.noview, fun a ha => ?_, hs.os, hs.output, fun hx => by simp only [hs.exact hx]⟩, rfl, by simp, ⟨fun a ha => (hcell w a (hZ a ha)).1, fun c cap buf cl s rc tm hcc => ?_, fun r' hr' hn => ⟨fun cap buf cl s rc tm he => ?_, fun ho => hn.2 (hodd r' ho)⟩, by simp, fun b hb => hodd b hb, fun b hb => ?_, rfl, rfl, rfl⟩, fun x hx => ?_⟩
    rotate_right
    rotate_right
    · rw [hget]
      by_cases h : r = b
      · subst h
        exact absurd hb (hrs r hr).2.2
      · rw [if_neg h]
    rotate_left
    · rw [hrun]
      unfold setObj
      cases o₂ with
      | cells c t f => exact absurd rfl (hn₂ _ _ _)
      | _ => simp only [Sem.run, how, rwith]
    · unfold setObj
      cases o₂ with
      | cells c t f => exact absurd rfl (hn₂ _ _ _)
      | _ => simp [Sem.events, Sem.runT, -Sem.runT_eq, how]
    · rw [hget, hget, hs.size]
      by_cases h : r = b
      · rw [if_pos h, if_pos h]; exact .inl rfl
      · rw [if_neg h, if_neg h]; exact hs.blk b
    · rw [(hcell v a (hZ a ha)).1, (hcell v a (hZ a ha)).2]; exact hs.guard a ha
    · rw [hget]
      by_cases h : r = c
      · subst h; exact absurd hcc ((hrs r hr).2.1 _ _ _ _ _ _)
      · rw [if_neg h]
    · rw [hget] at he
      by_cases h : r = r'
      · rw [if_pos h] at he
        rw [if_pos hr'] at he
        injection he with he
        exact hc _ _ _ _ _ _ he
      · rw [if_neg h] at he; exact hn.1 _ _ _ _ _ _ he
    · simp at hx
      subst hx
      refine ⟨⟨fun y a hy hl _ => ?_, by simp, by simp⟩, by cases o <;> exact (by simpa [Obj.isChan, MemAct.ofEvent, MemAct.low, Loc.low] using obj_lt how)⟩
      cases hi : o.isChan <;> rw [hi] at hy <;> simp [MemAct.ofEvent, MemAct.touch?] at hy
      subst hy
      cases hl
end
end Go.Proofs.Ytolnmdanlggmhaa

/- The terms of the operations that the code uses, carried out in two worlds. Printed by tame.py. -/
namespace Go.Proofs.Ytolnmdanlggmhaa
section
variable {α : Type} {P : Program} (rs : List Nat)
theorem good_dead {e : Sem α} (h : ∀ v, lives (e.run P v) = none ∧ calmR (e.run P v)) : Good P rs e := by
  refine ⟨fun v _ v' hv => ?_, fun v _ => (h v).2, fun _ _ v _ _ _ v' hv => ?_⟩ <;> (rw [(h v).1] at hv; cases hv)
theorem g_typeInfo (t : TypeId) : Good P rs (typeInfo t) := by
  unfold typeInfo stuck
  repeat' (first
    | with_reducible exact good_pure _ _
    | with_reducible exact good_halt _ trivial
    | with_reducible exact good_program _
    | with_reducible exact good_load _ _ _
    | with_reducible exact good_store _ _ _ _
    | with_reducible exact good_shape _ _
    | with_reducible exact good_choose _ _
    | assumption
    | exact good_new _ _ trivial
    | (with_reducible refine good_bind ?_ fun _ => ?_)
    | split
    | dsimp only
    | exact good_pure _ _
    | exact good_halt _ trivial)
theorem g_underlying (t : TypeId) : Good P rs (underlying t) := by
  unfold underlying stuck
  repeat' (first
    | with_reducible exact good_pure _ _
    | with_reducible exact good_halt _ trivial
    | with_reducible exact good_program _
    | with_reducible exact good_load _ _ _
    | with_reducible exact good_store _ _ _ _
    | with_reducible exact good_shape _ _
    | with_reducible exact good_choose _ _
    | assumption
    | exact good_new _ _ trivial
    | (with_reducible refine good_bind ?_ fun _ => ?_)
    | split
    | dsimp only
    | exact good_pure _ _
    | exact good_halt _ trivial)
theorem g_sizeOf (t : TypeId) : Good P rs (sizeOf t) := by
  unfold sizeOf
  repeat' (first
    | with_reducible exact good_pure _ _
    | with_reducible exact good_halt _ trivial
    | with_reducible exact good_program _
    | with_reducible exact good_load _ _ _
    | with_reducible exact good_store _ _ _ _
    | with_reducible exact good_shape _ _
    | with_reducible exact good_choose _ _
    | with_reducible exact g_typeInfo _ _
    | assumption
    | exact good_new _ _ trivial
    | (with_reducible refine good_bind ?_ fun _ => ?_)
    | split
    | dsimp only
    | exact good_pure _ _
    | exact good_halt _ trivial)
theorem g_zeroValue (t : TypeId) : Good P rs (zeroValue t) := by
  unfold zeroValue unsupported
  repeat' (first
    | with_reducible exact good_pure _ _
    | with_reducible exact good_halt _ trivial
    | with_reducible exact good_program _
    | with_reducible exact good_load _ _ _
    | with_reducible exact good_store _ _ _ _
    | with_reducible exact good_shape _ _
    | with_reducible exact good_choose _ _
    | with_reducible exact g_typeInfo _ _
    | assumption
    | exact good_new _ _ trivial
    | (with_reducible refine good_bind ?_ fun _ => ?_)
    | split
    | dsimp only
    | exact good_pure _ _
    | exact good_halt _ trivial)
theorem g_isAgg (t : TypeId) : Good P rs (isAgg t) := by
  unfold isAgg
  repeat' (first
    | with_reducible exact good_pure _ _
    | with_reducible exact good_halt _ trivial
    | with_reducible exact good_program _
    | with_reducible exact good_load _ _ _
    | with_reducible exact good_store _ _ _ _
    | with_reducible exact good_shape _ _
    | with_reducible exact good_choose _ _
    | with_reducible exact g_underlying _ _
    | assumption
    | exact good_new _ _ trivial
    | (with_reducible refine good_bind ?_ fun _ => ?_)
    | split
    | dsimp only
    | exact good_pure _ _
    | exact good_halt _ trivial)
theorem g_elemOf (t : TypeId) : Good P rs (elemOf t) := by
  unfold elemOf stuck
  repeat' (first
    | with_reducible exact good_pure _ _
    | with_reducible exact good_halt _ trivial
    | with_reducible exact good_program _
    | with_reducible exact good_load _ _ _
    | with_reducible exact good_store _ _ _ _
    | with_reducible exact good_shape _ _
    | with_reducible exact good_choose _ _
    | with_reducible exact g_underlying _ _
    | assumption
    | exact good_new _ _ trivial
    | (with_reducible refine good_bind ?_ fun _ => ?_)
    | split
    | dsimp only
    | exact good_pure _ _
    | exact good_halt _ trivial)
theorem g_asIntOf (v : Value) : Good P rs (asIntOf v) := by
  unfold asIntOf stuck unsupported
  repeat' (first
    | with_reducible exact good_pure _ _
    | with_reducible exact good_halt _ trivial
    | with_reducible exact good_program _
    | with_reducible exact good_load _ _ _
    | with_reducible exact good_store _ _ _ _
    | with_reducible exact good_shape _ _
    | with_reducible exact good_choose _ _
    | assumption
    | exact good_new _ _ trivial
    | (with_reducible refine good_bind ?_ fun _ => ?_)
    | split
    | dsimp only
    | exact good_pure _ _
    | exact good_halt _ trivial)
theorem g_asInt (v : Value) : Good P rs (asInt v) := by
  unfold asInt
  repeat' (first
    | with_reducible exact good_pure _ _
    | with_reducible exact good_halt _ trivial
    | with_reducible exact good_program _
    | with_reducible exact good_load _ _ _
    | with_reducible exact good_store _ _ _ _
    | with_reducible exact good_shape _ _
    | with_reducible exact good_choose _ _
    | with_reducible exact g_asIntOf _ _
    | assumption
    | exact good_new _ _ trivial
    | (with_reducible refine good_bind ?_ fun _ => ?_)
    | split
    | dsimp only
    | exact good_pure _ _
    | exact good_halt _ trivial)
theorem g_asBool (v : Value) : Good P rs (asBool v) := by
  unfold asBool stuck
  repeat' (first
    | with_reducible exact good_pure _ _
    | with_reducible exact good_halt _ trivial
    | with_reducible exact good_program _
    | with_reducible exact good_load _ _ _
    | with_reducible exact good_store _ _ _ _
    | with_reducible exact good_shape _ _
    | with_reducible exact good_choose _ _
    | assumption
    | exact good_new _ _ trivial
    | (with_reducible refine good_bind ?_ fun _ => ?_)
    | split
    | dsimp only
    | exact good_pure _ _
    | exact good_halt _ trivial)
theorem g_asAgg (v : Value) : Good P rs (asAgg v) := by
  unfold asAgg stuck
  repeat' (first
    | with_reducible exact good_pure _ _
    | with_reducible exact good_halt _ trivial
    | with_reducible exact good_program _
    | with_reducible exact good_load _ _ _
    | with_reducible exact good_store _ _ _ _
    | with_reducible exact good_shape _ _
    | with_reducible exact good_choose _ _
    | assumption
    | exact good_new _ _ trivial
    | (with_reducible refine good_bind ?_ fun _ => ?_)
    | split
    | dsimp only
    | exact good_pure _ _
    | exact good_halt _ trivial)
theorem g_newRow (t : TypeId) (c : Array Value) : Good P rs (newRow t c) := good_bind (good_new _ _ trivial) fun _ => good_pure _ _
theorem g_newVar (t : TypeId) (v : Value) : Good P rs (newVar t v) := g_newRow _ _ _
theorem g_goPanic (v : Value) : Good P rs (goPanic v : Sem α) := good_halt _ trivial
theorem g_runtimePanic (e : RuntimeError) : Good P rs (runtimePanic e : Sem α) := by
  unfold runtimePanic
  repeat' (first
    | with_reducible exact good_pure _ _
    | with_reducible exact good_halt _ trivial
    | with_reducible exact good_program _
    | with_reducible exact good_load _ _ _
    | with_reducible exact good_store _ _ _ _
    | with_reducible exact good_shape _ _
    | with_reducible exact good_choose _ _
    | with_reducible exact g_goPanic _ _
    | with_reducible exact g_newVar _ _ _
    | with_reducible exact g_elemOf _ _
    | assumption
    | exact good_new _ _ trivial
    | (with_reducible refine good_bind ?_ fun _ => ?_)
    | split
    | dsimp only
    | exact good_pure _ _
    | exact good_halt _ trivial)
theorem g_asAddr (v : Value) : Good P rs (asAddr v) := by
  unfold asAddr stuck
  repeat' (first
    | with_reducible exact good_pure _ _
    | with_reducible exact good_halt _ trivial
    | with_reducible exact good_program _
    | with_reducible exact good_load _ _ _
    | with_reducible exact good_store _ _ _ _
    | with_reducible exact good_shape _ _
    | with_reducible exact good_choose _ _
    | with_reducible exact g_runtimePanic _ _
    | assumption
    | exact good_new _ _ trivial
    | (with_reducible refine good_bind ?_ fun _ => ?_)
    | split
    | dsimp only
    | exact good_pure _ _
    | exact good_halt _ trivial)
theorem g_boundsPanic (k : IntKind) (x y : Int) (c : BoundsCode) : Good P rs (boundsPanic k x y c : Sem α) := by
  unfold boundsPanic
  dsimp only
  split
  · exact good_bind (good_bind (good_choose _ _) fun _ => good_pure _ _) fun _ => g_runtimePanic _ _
  · exact good_bind (good_pure _ _) fun _ => g_runtimePanic _ _
theorem g_loadCellsFrom (a : Addr) : ∀ (n i : Nat) (acc : Array Value), Good P rs (loadCellsFrom a i n acc)
  | 0, _, _ => good_pure _ _
  | n + 1, i, _ => good_bind (good_load _ _ _) fun _ => g_loadCellsFrom a n (i + 1) _
theorem g_loadCells (a : Addr) (n : Nat) : Good P rs (loadCells a n) := g_loadCellsFrom rs a n 0 _
theorem g_storeCells (a : Addr) : ∀ (vs : List Value) (i : Nat), Good P rs (storeCells a vs i)
  | [], _ => good_pure _ _
  | _ :: vs, i => good_bind (good_store _ _ _ _) fun _ => g_storeCells a vs (i + 1)
theorem g_loadVar (t : TypeId) (a : Addr) : Good P rs (loadVar t a) := by
  unfold loadVar
  repeat' (first
    | with_reducible exact good_pure _ _
    | with_reducible exact good_halt _ trivial
    | with_reducible exact good_program _
    | with_reducible exact good_load _ _ _
    | with_reducible exact good_store _ _ _ _
    | with_reducible exact good_shape _ _
    | with_reducible exact good_choose _ _
    | with_reducible exact g_isAgg _ _
    | with_reducible exact g_sizeOf _ _
    | with_reducible exact g_loadCells _ _ _
    | assumption
    | exact good_new _ _ trivial
    | (with_reducible refine good_bind ?_ fun _ => ?_)
    | split
    | dsimp only
    | exact good_pure _ _
    | exact good_halt _ trivial)
theorem g_storeVar (t : TypeId) (a : Addr) (v : Value) : Good P rs (storeVar t a v) := by
  unfold storeVar stuck
  repeat' (first
    | with_reducible exact good_pure _ _
    | with_reducible exact good_halt _ trivial
    | with_reducible exact good_program _
    | with_reducible exact good_load _ _ _
    | with_reducible exact good_store _ _ _ _
    | with_reducible exact good_shape _ _
    | with_reducible exact good_choose _ _
    | with_reducible exact g_sizeOf _ _
    | with_reducible exact g_storeCells _ _ _ _
    | assumption
    | exact good_new _ _ trivial
    | (with_reducible refine good_bind ?_ fun _ => ?_)
    | split
    | dsimp only
    | exact good_pure _ _
    | exact good_halt _ trivial)
theorem g_part (t : TypeId) (c : Array Value) (o : Nat) : Good P rs (part t c o) := by
  unfold part stuck
  repeat' (first
    | with_reducible exact good_pure _ _
    | with_reducible exact good_halt _ trivial
    | with_reducible exact good_program _
    | with_reducible exact good_load _ _ _
    | with_reducible exact good_store _ _ _ _
    | with_reducible exact good_shape _ _
    | with_reducible exact good_choose _ _
    | with_reducible exact g_isAgg _ _
    | with_reducible exact g_sizeOf _ _
    | assumption
    | exact good_new _ _ trivial
    | (with_reducible refine good_bind ?_ fun _ => ?_)
    | split
    | dsimp only
    | exact good_pure _ _
    | exact good_halt _ trivial)

theorem g_numberAt (r : Nat) : Good P rs (numberAt r) := by
  obtain ⟨s0, hrun⟩ : ∃ s0 : String, ∀ w : World, (numberAt r : Sem _).run P w = match w.heap[r]? with | none => .halt (.stuck s0) w | some (.number a lost) => .ok (some (a, lost)) w | some _ => .ok none w := by
    refine ⟨?s0, fun w => ?_⟩
    rotate_left
    · unfold numberAt
      rw [Sem.run_bind]
      simp only [Go.shape, Sem.run, Result.andThen_ok, World.shape?]
      cases ho : w.heap[r]? with
      | none =>
        simp [getObj, Sem.run_bind, Sem.run, ho, Result.andThen]
        rfl
      | some o => cases o <;> simp [getObj, Sem.run_bind, Sem.run, ho]
  have hE : (numberAt r : Sem _) = Sem.shape r (fun s => if s.isSome then .pure none else Sem.getObj r fun o => match o with | .number a lost => .pure (some (a, lost)) | _ => .pure none) := by
    unfold numberAt
    show Sem.shape r _ = Sem.shape r _
    refine congrArg (Sem.shape r) ?_
    funext s
    cases s with
    | some s => rfl
    | none =>
      show Sem.getObj r _ = Sem.getObj r _
      refine congrArg (Sem.getObj r) ?_
      funext o
      cases o <;> rfl
  have hev : ∀ w : World, ∃ new, (∀ es, (numberAt r : Sem _).events P w es = es ++ new) ∧ (new = #[] ∨ ∃ s, new = #[⟨.obj r, false, s⟩] ∧ r < w.heap.size) := by
    intro w
    rw [hE]
    cases ho : w.heap[r]? with
    | none => exact ⟨#[], fun es => by simp [Sem.events, Sem.runT, -Sem.runT_eq, ho, World.shape?], .inl rfl⟩
    | some o =>
      cases o with
      | cells c t f => exact ⟨#[], fun es => by simp [Sem.events, Sem.runT, -Sem.runT_eq, ho, World.shape?], .inl rfl⟩
      | chan a b c d e f => exact ⟨#[⟨.obj r, false, true⟩], fun es => by simp [Sem.events, Sem.runT, -Sem.runT_eq, ho, World.shape?, Obj.isChan], .inr ⟨_, rfl, obj_lt ho⟩⟩
      | _ => exact ⟨#[⟨.obj r, false, false⟩], fun es => by simp [Sem.events, Sem.runT, -Sem.runT_eq, ho, World.shape?, Obj.isChan], .inr ⟨_, rfl, obj_lt ho⟩⟩
  refine good_read (fun v hn => ?_) (fun X Z v w x hs hx => ?_)
  · rw [hrun]
    cases ho : v.heap[r]? with
    | none => exact .inr ⟨rfl, trivial⟩
    | some o => cases o <;> exact .inl ⟨_, rfl⟩
  · obtain ⟨new, h1, h2⟩ := hev w
    refine ⟨?_, new, h1, ?_⟩
    · rw [hrun] at hx ⊢
      rcases hs.blk r with e | ⟨c, t, f, g, e1, e2, _⟩ | ⟨⟨a1, u1, e1⟩, ⟨a2, u2, e2⟩ | ⟨c2, t2, e2⟩⟩
      · rw [← e]
        cases ho : v.heap[r]? with
        | none => rw [ho] at hx; cases hx
        | some o => rw [ho] at hx; cases o <;> (simp only [Result.ok.injEq, and_true] at hx ⊢; exact hx)
      all_goals (rw [e1] at hx; rw [e2]; simp only [Result.ok.injEq, and_true] at hx ⊢; exact hx)
    · rcases h2 with rfl | ⟨s, rfl, h3⟩
      · simp
      · intro x hx; simp at hx; subst hx; exact ⟨evOk_read Z _ _ (by simp), h3⟩
/-- Memory that is seen as another type ends the run. -/
theorem good_viewThen {rs : List Nat} (r : Nat) {f : Option (Addr × TypeId) → Sem α} (h1 : ∀ t v, lives ((f (some t)).run P v) = none ∧ calmR ((f (some t)).run P v)) (h2 : Good P rs (f none)) : Good P rs (viewAt r >>= f) := by
  have hb : (viewAt r >>= f) = (Go.shape r >>= fun s => if s.isSome then f none else getObj r >>= fun o => match o with | .view a t => f (some (a, t)) | _ => f none) := by
    unfold viewAt
    show Sem.shape r _ = Sem.shape r _
    refine congrArg (Sem.shape r) ?_
    funext s
    cases s with
    | some s => rfl
    | none =>
      show Sem.getObj r _ = Sem.getObj r _
      refine congrArg (Sem.getObj r) ?_
      funext o
      cases o <;> rfl
  rw [hb]
  refine good_bind (good_shape _ _) fun s => ?_
  split
  · exact h2
  · exact good_getObj' r (fun a u v => h1 _ v) (fun _ _ _ _ _ _ => h2) (fun o _ => by cases o <;> first | exact h2.more (fun x hx => List.mem_cons_of_mem _ hx) | exact good_dead _ (fun v => h1 _ v))
theorem g_noView (a : Addr) : Good P rs (noView a) := by
  unfold noView unsupported
  repeat' (first
    | with_reducible exact good_pure _ _
    | with_reducible exact good_halt _ trivial
    | with_reducible exact good_program _
    | with_reducible exact good_load _ _ _
    | with_reducible exact good_store _ _ _ _
    | with_reducible exact good_shape _ _
    | with_reducible exact good_choose _ _
    | assumption
    | exact good_new _ _ trivial
    | ((with_reducible refine good_viewThen _ ?hd ?_); (case hd => exact fun t v => ⟨rfl, trivial⟩))
    | (with_reducible refine good_bind ?_ fun _ => ?_)
    | split
    | dsimp only
    | exact good_pure _ _
    | exact good_halt _ trivial)
theorem g_behindNumber (a : Addr) : Good P rs (behindNumber a) := by
  unfold behindNumber
  repeat' (first
    | with_reducible exact good_pure _ _
    | with_reducible exact good_halt _ trivial
    | with_reducible exact good_program _
    | with_reducible exact good_load _ _ _
    | with_reducible exact good_store _ _ _ _
    | with_reducible exact good_shape _ _
    | with_reducible exact good_choose _ _
    | with_reducible exact g_numberAt _ _
    | assumption
    | exact good_new _ _ trivial
    | (with_reducible refine good_bind ?_ fun _ => ?_)
    | split
    | dsimp only
    | exact good_pure _ _
    | exact good_halt _ trivial)
theorem g_byteOf (a : Addr) : Good P rs (byteOf a) := by
  unfold byteOf stuck
  repeat' (first
    | with_reducible exact good_pure _ _
    | with_reducible exact good_halt _ trivial
    | with_reducible exact good_program _
    | with_reducible exact good_load _ _ _
    | with_reducible exact good_store _ _ _ _
    | with_reducible exact good_shape _ _
    | with_reducible exact good_choose _ _
    | with_reducible exact g_noView _ _
    | assumption
    | exact good_new _ _ trivial
    | (with_reducible refine good_bind ?_ fun _ => ?_)
    | split
    | dsimp only
    | exact good_pure _ _
    | exact good_halt _ trivial)
theorem g_partAt (a : Addr) (n m : Nat) : Good P rs (partAt a n m) := by
  unfold partAt
  repeat' (first
    | with_reducible exact good_pure _ _
    | with_reducible exact good_halt _ trivial
    | with_reducible exact good_program _
    | with_reducible exact good_load _ _ _
    | with_reducible exact good_store _ _ _ _
    | with_reducible exact good_shape _ _
    | with_reducible exact good_choose _ _
    | with_reducible exact g_byteOf _ _
    | assumption
    | exact good_new _ _ trivial
    | (with_reducible refine good_bind ?_ fun _ => ?_)
    | split
    | dsimp only
    | exact good_pure _ _
    | exact good_halt _ trivial)
theorem g_fieldPlace (a : Addr) (f : Field) : Good P rs (fieldPlace a f) := by
  unfold fieldPlace
  repeat' (first
    | with_reducible exact good_pure _ _
    | with_reducible exact good_halt _ trivial
    | with_reducible exact good_program _
    | with_reducible exact good_load _ _ _
    | with_reducible exact good_store _ _ _ _
    | with_reducible exact good_shape _ _
    | with_reducible exact good_choose _ _
    | with_reducible exact g_sizeOf _ _
    | with_reducible exact g_partAt _ _ _ _
    | assumption
    | exact good_new _ _ trivial
    | (with_reducible refine good_bind ?_ fun _ => ?_)
    | split
    | dsimp only
    | exact good_pure _ _
    | exact good_halt _ trivial)
theorem g_sureAddr (v : Value) : Good P rs (Instr.sureAddr v) := by
  unfold Instr.sureAddr stuck
  repeat' (first
    | with_reducible exact good_pure _ _
    | with_reducible exact good_halt _ trivial
    | with_reducible exact good_program _
    | with_reducible exact good_load _ _ _
    | with_reducible exact good_store _ _ _ _
    | with_reducible exact good_shape _ _
    | with_reducible exact good_choose _ _
    | assumption
    | exact good_new _ _ trivial
    | (with_reducible refine good_bind ?_ fun _ => ?_)
    | split
    | dsimp only
    | exact good_pure _ _
    | exact good_halt _ trivial)
theorem g_loadAt (t : TypeId) (v : Value) : Good P rs (Instr.loadAt t v) := by
  unfold Instr.loadAt
  repeat' (first
    | with_reducible exact good_pure _ _
    | with_reducible exact good_halt _ trivial
    | with_reducible exact good_program _
    | with_reducible exact good_load _ _ _
    | with_reducible exact good_store _ _ _ _
    | with_reducible exact good_shape _ _
    | with_reducible exact good_choose _ _
    | with_reducible exact g_sureAddr _ _
    | with_reducible exact g_loadVar _ _ _
    | assumption
    | exact good_new _ _ trivial
    | (with_reducible refine good_bind ?_ fun _ => ?_)
    | split
    | dsimp only
    | exact good_pure _ _
    | exact good_halt _ trivial)
theorem g_storeAt (t : TypeId) (v x : Value) : Good P rs (Instr.storeAt t v x) := by
  unfold Instr.storeAt
  repeat' (first
    | with_reducible exact good_pure _ _
    | with_reducible exact good_halt _ trivial
    | with_reducible exact good_program _
    | with_reducible exact good_load _ _ _
    | with_reducible exact good_store _ _ _ _
    | with_reducible exact good_shape _ _
    | with_reducible exact good_choose _ _
    | with_reducible exact g_sureAddr _ _
    | with_reducible exact g_storeVar _ _ _ _
    | assumption
    | exact good_new _ _ trivial
    | (with_reducible refine good_bind ?_ fun _ => ?_)
    | split
    | dsimp only
    | exact good_pure _ _
    | exact good_halt _ trivial)
theorem g_fieldAt (t : TypeId) (v : Value) (f : Nat) : Good P rs (Instr.fieldAt t v f) := by
  unfold Instr.fieldAt stuck
  repeat' (first
    | with_reducible exact good_pure _ _
    | with_reducible exact good_halt _ trivial
    | with_reducible exact good_program _
    | with_reducible exact good_load _ _ _
    | with_reducible exact good_store _ _ _ _
    | with_reducible exact good_shape _ _
    | with_reducible exact good_choose _ _
    | with_reducible exact g_sureAddr _ _
    | with_reducible exact g_underlying _ _
    | with_reducible exact g_fieldPlace _ _ _
    | assumption
    | exact good_new _ _ trivial
    | (with_reducible refine good_bind ?_ fun _ => ?_)
    | split
    | dsimp only
    | exact good_pure _ _
    | exact good_halt _ trivial)
theorem g_indexAt (t : TypeId) (x i : Value) : Good P rs (Instr.indexAt t x i) := by
  unfold Instr.indexAt stuck unsupported
  repeat' (first
    | with_reducible exact good_pure _ _
    | with_reducible exact good_halt _ trivial
    | with_reducible exact good_program _
    | with_reducible exact good_load _ _ _
    | with_reducible exact good_store _ _ _ _
    | with_reducible exact good_shape _ _
    | with_reducible exact good_choose _ _
    | with_reducible exact g_sureAddr _ _
    | with_reducible exact g_underlying _ _
    | with_reducible exact g_asIntOf _ _
    | with_reducible exact g_sizeOf _ _
    | with_reducible exact g_boundsPanic _ _ _ _ _
    | assumption
    | exact good_new _ _ trivial
    | (with_reducible refine good_bind ?_ fun _ => ?_)
    | split
    | dsimp only
    | exact good_pure _ _
    | exact good_halt _ trivial)
theorem g_sliceBound (x : Value) (y : Nat) (c : BoundsCode) : Good P rs (Instr.sliceBound x y c) := by
  unfold Instr.sliceBound
  repeat' (first
    | with_reducible exact good_pure _ _
    | with_reducible exact good_halt _ trivial
    | with_reducible exact good_program _
    | with_reducible exact good_load _ _ _
    | with_reducible exact good_store _ _ _ _
    | with_reducible exact good_shape _ _
    | with_reducible exact good_choose _ _
    | with_reducible exact g_asIntOf _ _
    | with_reducible exact g_boundsPanic _ _ _ _ _
    | assumption
    | exact good_new _ _ trivial
    | (with_reducible refine good_bind ?_ fun _ => ?_)
    | split
    | dsimp only
    | exact good_pure _ _
    | exact good_halt _ trivial)
theorem g_sliceBounds (b : Bool) (l c : Nat) (x y z : Option Value) : Good P rs (Instr.sliceBounds b l c x y z) := by
  unfold Instr.sliceBounds stuck
  repeat' (first
    | with_reducible exact good_pure _ _
    | with_reducible exact good_halt _ trivial
    | with_reducible exact good_program _
    | with_reducible exact good_load _ _ _
    | with_reducible exact good_store _ _ _ _
    | with_reducible exact good_shape _ _
    | with_reducible exact good_choose _ _
    | with_reducible exact g_sliceBound _ _ _ _
    | assumption
    | exact good_new _ _ trivial
    | (with_reducible refine good_bind ?_ fun _ => ?_)
    | split
    | dsimp only
    | exact good_pure _ _
    | exact good_halt _ trivial)
theorem g_slice (t : TypeId) (v : Value) (x y z : Option Value) : Good P rs (Instr.slice t v x y z) := by
  unfold Instr.slice stuck
  repeat' (first
    | with_reducible exact good_pure _ _
    | with_reducible exact good_halt _ trivial
    | with_reducible exact good_program _
    | with_reducible exact good_load _ _ _
    | with_reducible exact good_store _ _ _ _
    | with_reducible exact good_shape _ _
    | with_reducible exact good_choose _ _
    | with_reducible exact g_sliceBounds _ _ _ _ _ _ _
    | with_reducible exact g_underlying _ _
    | with_reducible exact g_sizeOf _ _
    | with_reducible exact g_asAddr _ _
    | assumption
    | exact good_new _ _ trivial
    | (with_reducible refine good_bind ?_ fun _ => ?_)
    | split
    | dsimp only
    | exact good_pure _ _
    | exact good_halt _ trivial)
theorem g_sliceAt (t : TypeId) (v : Value) (x y z : Option Value) : Good P rs (Instr.sliceAt t v x y z) := by
  unfold Instr.sliceAt
  repeat' (first
    | with_reducible exact good_pure _ _
    | with_reducible exact good_halt _ trivial
    | with_reducible exact good_program _
    | with_reducible exact good_load _ _ _
    | with_reducible exact good_store _ _ _ _
    | with_reducible exact good_shape _ _
    | with_reducible exact good_choose _ _
    | with_reducible exact g_sliceBounds _ _ _ _ _ _ _
    | with_reducible exact g_underlying _ _
    | with_reducible exact g_sizeOf _ _
    | with_reducible exact g_sureAddr _ _
    | with_reducible exact g_slice _ _ _ _ _ _
    | assumption
    | exact good_new _ _ trivial
    | (with_reducible refine good_bind ?_ fun _ => ?_)
    | split
    | dsimp only
    | exact good_pure _ _
    | exact good_halt _ trivial)
theorem g_index (t : TypeId) (x i : Value) : Good P rs (Instr.index t x i) := by
  unfold Instr.index stuck
  repeat' (first
    | with_reducible exact good_pure _ _
    | with_reducible exact good_halt _ trivial
    | with_reducible exact good_program _
    | with_reducible exact good_load _ _ _
    | with_reducible exact good_store _ _ _ _
    | with_reducible exact good_shape _ _
    | with_reducible exact good_choose _ _
    | with_reducible exact g_underlying _ _
    | with_reducible exact g_asIntOf _ _
    | with_reducible exact g_sizeOf _ _
    | with_reducible exact g_boundsPanic _ _ _ _ _
    | with_reducible exact g_part _ _ _ _
    | assumption
    | exact good_new _ _ trivial
    | (with_reducible refine good_bind ?_ fun _ => ?_)
    | split
    | dsimp only
    | exact good_pure _ _
    | exact good_halt _ trivial)
theorem g_field (t : TypeId) (x : Value) (i : Nat) : Good P rs (Instr.field t x i) := by
  unfold Instr.field stuck
  repeat' (first
    | with_reducible exact good_pure _ _
    | with_reducible exact good_halt _ trivial
    | with_reducible exact good_program _
    | with_reducible exact good_load _ _ _
    | with_reducible exact good_store _ _ _ _
    | with_reducible exact good_shape _ _
    | with_reducible exact good_choose _ _
    | with_reducible exact g_underlying _ _
    | with_reducible exact g_asAgg _ _
    | with_reducible exact g_part _ _ _ _
    | assumption
    | exact good_new _ _ trivial
    | (with_reducible refine good_bind ?_ fun _ => ?_)
    | split
    | dsimp only
    | exact good_pure _ _
    | exact good_halt _ trivial)
theorem g_alloc (t : TypeId) (b : Bool) (x : Value) : Good P rs (Instr.alloc t b x) := by
  unfold Instr.alloc
  repeat' (first
    | with_reducible exact good_pure _ _
    | with_reducible exact good_halt _ trivial
    | with_reducible exact good_program _
    | with_reducible exact good_load _ _ _
    | with_reducible exact good_store _ _ _ _
    | with_reducible exact good_shape _ _
    | with_reducible exact good_choose _ _
    | with_reducible exact g_zeroValue _ _
    | with_reducible exact g_storeVar _ _ _ _
    | with_reducible exact g_newVar _ _ _
    | assumption
    | exact good_new _ _ trivial
    | (with_reducible refine good_bind ?_ fun _ => ?_)
    | split
    | dsimp only
    | exact good_pure _ _
    | exact good_halt _ trivial)
theorem g_box (t : TypeId) (x : Value) : Good P rs (Instr.box t x) := by
  unfold Instr.box
  repeat' (first
    | with_reducible exact good_pure _ _
    | with_reducible exact good_halt _ trivial
    | with_reducible exact good_program _
    | with_reducible exact good_load _ _ _
    | with_reducible exact good_store _ _ _ _
    | with_reducible exact good_shape _ _
    | with_reducible exact good_choose _ _
    | with_reducible exact g_newVar _ _ _
    | assumption
    | exact good_new _ _ trivial
    | (with_reducible refine good_bind ?_ fun _ => ?_)
    | split
    | dsimp only
    | exact good_pure _ _
    | exact good_halt _ trivial)
theorem g_extract (x : Value) (i : Nat) : Good P rs (Instr.extract x i) := by
  unfold Instr.extract stuck
  repeat' (first
    | with_reducible exact good_pure _ _
    | with_reducible exact good_halt _ trivial
    | with_reducible exact good_program _
    | with_reducible exact good_load _ _ _
    | with_reducible exact good_store _ _ _ _
    | with_reducible exact good_shape _ _
    | with_reducible exact good_choose _ _
    | assumption
    | exact good_new _ _ trivial
    | (with_reducible refine good_bind ?_ fun _ => ?_)
    | split
    | dsimp only
    | exact good_pure _ _
    | exact good_halt _ trivial)
theorem g_makeFunc (f : Fn) (a b : Array Value) : Good P rs (Instr.makeFunc f a b) := by
  unfold Instr.makeFunc
  repeat' (first
    | with_reducible exact good_pure _ _
    | with_reducible exact good_halt _ trivial
    | with_reducible exact good_program _
    | with_reducible exact good_load _ _ _
    | with_reducible exact good_store _ _ _ _
    | with_reducible exact good_shape _ _
    | with_reducible exact good_choose _ _
    | assumption
    | exact good_new _ _ trivial
    | (with_reducible refine good_bind ?_ fun _ => ?_)
    | split
    | dsimp only
    | exact good_pure _ _
    | exact good_halt _ trivial)
theorem g_makeInterface (t : TypeId) (x : Value) : Good P rs (Instr.makeInterface t x) := by
  unfold Instr.makeInterface stuck
  repeat' (first
    | with_reducible exact good_pure _ _
    | with_reducible exact good_halt _ trivial
    | with_reducible exact good_program _
    | with_reducible exact good_load _ _ _
    | with_reducible exact good_store _ _ _ _
    | with_reducible exact good_shape _ _
    | with_reducible exact good_choose _ _
    | with_reducible exact g_underlying _ _
    | assumption
    | exact good_new _ _ trivial
    | (with_reducible refine good_bind ?_ fun _ => ?_)
    | split
    | dsimp only
    | exact good_pure _ _
    | exact good_halt _ trivial)
theorem g_typeAssert (x : Value) (s t : TypeId) (b : Bool) : Good P rs (Instr.typeAssert x s t b) := by
  unfold Instr.typeAssert stuck
  repeat' (first
    | with_reducible exact good_pure _ _
    | with_reducible exact good_halt _ trivial
    | with_reducible exact good_program _
    | with_reducible exact good_load _ _ _
    | with_reducible exact good_store _ _ _ _
    | with_reducible exact good_shape _ _
    | with_reducible exact good_choose _ _
    | with_reducible exact g_underlying _ _
    | with_reducible exact g_zeroValue _ _
    | with_reducible exact g_typeInfo _ _
    | with_reducible exact g_runtimePanic _ _
    | assumption
    | exact good_new _ _ trivial
    | (with_reducible refine good_bind ?_ fun _ => ?_)
    | split
    | dsimp only
    | exact good_pure _ _
    | exact good_halt _ trivial)
theorem g_buildSlice (t : TypeId) (l : Nat) (p : Array (Nat × Value)) : Good P rs (Instr.buildSlice t l p) := by
  unfold Instr.buildSlice stuck unsupported
  repeat' (first
    | with_reducible exact good_pure _ _
    | with_reducible exact good_halt _ trivial
    | with_reducible exact good_program _
    | with_reducible exact good_load _ _ _
    | with_reducible exact good_store _ _ _ _
    | with_reducible exact good_shape _ _
    | with_reducible exact good_choose _ _
    | with_reducible exact g_underlying _ _
    | with_reducible exact g_sizeOf _ _
    | with_reducible exact g_zeroValue _ _
    | with_reducible exact g_newRow _ _ _
    | assumption
    | exact good_new _ _ trivial
    | (with_reducible refine good_bind ?_ fun _ => ?_)
    | split
    | dsimp only
    | exact good_pure _ _
    | exact good_halt _ trivial)
theorem g_mapM {β γ : Type} (f : β → Sem γ) (h : ∀ x, Good P rs (f x)) (xs : Array β) : Good P rs (xs.mapM f) := by
  rw [Array.mapM_eq_mapM_toList]
  have hl : ∀ l : List β, Good P rs (l.mapM f) := by
    intro l
    induction l with
    | nil => exact good_pure _ _
    | cons x l ih =>
      rw [List.mapM_cons]
      exact good_bind (h x) fun _ => good_bind ih fun _ => good_pure _ _
  rw [map_eq_pure_bind]
  exact good_bind (hl _) fun _ => good_pure _ _
theorem g_build (t : TypeId) (p : Array (Nat × Value)) : Good P rs (Instr.build t p) := by
  unfold Instr.build stuck
  repeat' (first
    | with_reducible exact good_pure _ _
    | with_reducible exact good_halt _ trivial
    | with_reducible exact good_program _
    | with_reducible exact good_load _ _ _
    | with_reducible exact good_store _ _ _ _
    | with_reducible exact good_shape _ _
    | with_reducible exact good_choose _ _
    | with_reducible exact g_underlying _ _
    | with_reducible exact g_sizeOf _ _
    | with_reducible exact g_zeroValue _ _
    | with_reducible exact g_mapM _ _ (fun _ => good_bind (g_sizeOf _ _) fun _ => good_pure _ _) _
    | assumption
    | exact good_new _ _ trivial
    | (with_reducible refine good_bind ?_ fun _ => ?_)
    | split
    | dsimp only
    | exact good_pure _ _
    | exact good_halt _ trivial)
theorem g_makeChan (t : TypeId) (x : Value) : Good P rs (Instr.makeChan t x) := by
  unfold Instr.makeChan stuck
  repeat' (first
    | with_reducible exact good_pure _ _
    | with_reducible exact good_halt _ trivial
    | with_reducible exact good_program _
    | with_reducible exact good_load _ _ _
    | with_reducible exact good_store _ _ _ _
    | with_reducible exact good_shape _ _
    | with_reducible exact good_choose _ _
    | with_reducible exact g_asInt _ _
    | with_reducible exact g_underlying _ _
    | with_reducible exact g_typeInfo _ _
    | with_reducible exact g_runtimePanic _ _
    | with_reducible exact (good_new _ _ trivial)
    | assumption
    | exact good_new _ _ trivial
    | (with_reducible refine good_bind ?_ fun _ => ?_)
    | split
    | dsimp only
    | exact good_pure _ _
    | exact good_halt _ trivial)
theorem g_makeMap (t : TypeId) (x : Option Value) : Good P rs (Instr.makeMap t x) := by
  unfold Instr.makeMap stuck
  repeat' (first
    | with_reducible exact good_pure _ _
    | with_reducible exact good_halt _ trivial
    | with_reducible exact good_program _
    | with_reducible exact good_load _ _ _
    | with_reducible exact good_store _ _ _ _
    | with_reducible exact good_shape _ _
    | with_reducible exact good_choose _ _
    | with_reducible exact g_asInt _ _
    | with_reducible exact g_underlying _ _
    | with_reducible exact (good_new _ _ trivial)
    | assumption
    | exact good_new _ _ trivial
    | (with_reducible refine good_bind ?_ fun _ => ?_)
    | split
    | dsimp only
    | exact good_pure _ _
    | exact good_halt _ trivial)
theorem g_intArith (op : BinOp) (k : IntKind) (x y : Int) : Good P rs (Op.intArith op k x y) := by
  unfold Op.intArith stuck
  repeat' (first
    | with_reducible exact good_pure _ _
    | with_reducible exact good_halt _ trivial
    | with_reducible exact good_program _
    | with_reducible exact good_load _ _ _
    | with_reducible exact good_store _ _ _ _
    | with_reducible exact good_shape _ _
    | with_reducible exact good_choose _ _
    | assumption
    | exact good_new _ _ trivial
    | (with_reducible refine good_bind ?_ fun _ => ?_)
    | split
    | dsimp only
    | exact good_pure _ _
    | exact good_halt _ trivial)
theorem g_intDiv (op : BinOp) (k : IntKind) (x y : Int) : Good P rs (Op.intDiv op k x y) := by
  unfold Op.intDiv stuck
  repeat' (first
    | with_reducible exact good_pure _ _
    | with_reducible exact good_halt _ trivial
    | with_reducible exact good_program _
    | with_reducible exact good_load _ _ _
    | with_reducible exact good_store _ _ _ _
    | with_reducible exact good_shape _ _
    | with_reducible exact good_choose _ _
    | with_reducible exact g_runtimePanic _ _
    | assumption
    | exact good_new _ _ trivial
    | (with_reducible refine good_bind ?_ fun _ => ?_)
    | split
    | dsimp only
    | exact good_pure _ _
    | exact good_halt _ trivial)
theorem g_intBits (op : BinOp) (k : IntKind) (x y : Int) : Good P rs (Op.intBits op k x y) := by
  unfold Op.intBits stuck
  repeat' (first
    | with_reducible exact good_pure _ _
    | with_reducible exact good_halt _ trivial
    | with_reducible exact good_program _
    | with_reducible exact good_load _ _ _
    | with_reducible exact good_store _ _ _ _
    | with_reducible exact good_shape _ _
    | with_reducible exact good_choose _ _
    | assumption
    | exact good_new _ _ trivial
    | (with_reducible refine good_bind ?_ fun _ => ?_)
    | split
    | dsimp only
    | exact good_pure _ _
    | exact good_halt _ trivial)
theorem g_intCmp (op : BinOp) (x y : Int) : Good P rs (Op.intCmp op x y) := by
  unfold Op.intCmp stuck
  repeat' (first
    | with_reducible exact good_pure _ _
    | with_reducible exact good_halt _ trivial
    | with_reducible exact good_program _
    | with_reducible exact good_load _ _ _
    | with_reducible exact good_store _ _ _ _
    | with_reducible exact good_shape _ _
    | with_reducible exact good_choose _ _
    | assumption
    | exact good_new _ _ trivial
    | (with_reducible refine good_bind ?_ fun _ => ?_)
    | split
    | dsimp only
    | exact good_pure _ _
    | exact good_halt _ trivial)
theorem g_shift (op : BinOp) (k : IntKind) (x : Int) (l : IntKind) (y : Int) : Good P rs (Op.shift op k x l y) := by
  unfold Op.shift stuck
  repeat' (first
    | with_reducible exact good_pure _ _
    | with_reducible exact good_halt _ trivial
    | with_reducible exact good_program _
    | with_reducible exact good_load _ _ _
    | with_reducible exact good_store _ _ _ _
    | with_reducible exact good_shape _ _
    | with_reducible exact good_choose _ _
    | with_reducible exact g_runtimePanic _ _
    | assumption
    | exact good_new _ _ trivial
    | (with_reducible refine good_bind ?_ fun _ => ?_)
    | split
    | dsimp only
    | exact good_pure _ _
    | exact good_halt _ trivial)
theorem g_floatArith (op : BinOp) (k : FloatKind) (x y : Nat) : Good P rs (Op.floatArith op k x y) := by
  unfold Op.floatArith stuck
  repeat' (first
    | with_reducible exact good_pure _ _
    | with_reducible exact good_halt _ trivial
    | with_reducible exact good_program _
    | with_reducible exact good_load _ _ _
    | with_reducible exact good_store _ _ _ _
    | with_reducible exact good_shape _ _
    | with_reducible exact good_choose _ _
    | assumption
    | exact good_new _ _ trivial
    | (with_reducible refine good_bind ?_ fun _ => ?_)
    | split
    | dsimp only
    | exact good_pure _ _
    | exact good_halt _ trivial)
theorem g_floatCmp (op : BinOp) (k : FloatKind) (x y : Nat) : Good P rs (Op.floatCmp op k x y) := by
  unfold Op.floatCmp stuck
  repeat' (first
    | with_reducible exact good_pure _ _
    | with_reducible exact good_halt _ trivial
    | with_reducible exact good_program _
    | with_reducible exact good_load _ _ _
    | with_reducible exact good_store _ _ _ _
    | with_reducible exact good_shape _ _
    | with_reducible exact good_choose _ _
    | assumption
    | exact good_new _ _ trivial
    | (with_reducible refine good_bind ?_ fun _ => ?_)
    | split
    | dsimp only
    | exact good_pure _ _
    | exact good_halt _ trivial)
theorem g_stringOp (op : BinOp) (x y : ByteArray) : Good P rs (Op.stringOp op x y) := by
  unfold Op.stringOp stuck unsupported
  repeat' (first
    | with_reducible exact good_pure _ _
    | with_reducible exact good_halt _ trivial
    | with_reducible exact good_program _
    | with_reducible exact good_load _ _ _
    | with_reducible exact good_store _ _ _ _
    | with_reducible exact good_shape _ _
    | with_reducible exact good_choose _ _
    | assumption
    | exact good_new _ _ trivial
    | (with_reducible refine good_bind ?_ fun _ => ?_)
    | split
    | dsimp only
    | exact good_pure _ _
    | exact good_halt _ trivial)
theorem g_carith (op : BinOp) (k : FloatKind) (x y : Nat) : Good P rs (Op.Complex.arith op k x y) := by
  unfold Op.Complex.arith stuck
  repeat' (first
    | with_reducible exact good_pure _ _
    | with_reducible exact good_halt _ trivial
    | with_reducible exact good_program _
    | with_reducible exact good_load _ _ _
    | with_reducible exact good_store _ _ _ _
    | with_reducible exact good_shape _ _
    | with_reducible exact good_choose _ _
    | with_reducible exact g_floatArith _ _ _ _ _
    | assumption
    | exact good_new _ _ trivial
    | (with_reducible refine good_bind ?_ fun _ => ?_)
    | split
    | dsimp only
    | exact good_pure _ _
    | exact good_halt _ trivial)
theorem g_ccmp (op : BinOp) (k : FloatKind) (x y : Nat) : Good P rs (Op.Complex.cmp op k x y) := by
  unfold Op.Complex.cmp
  repeat' (first
    | with_reducible exact good_pure _ _
    | with_reducible exact good_halt _ trivial
    | with_reducible exact good_program _
    | with_reducible exact good_load _ _ _
    | with_reducible exact good_store _ _ _ _
    | with_reducible exact good_shape _ _
    | with_reducible exact good_choose _ _
    | with_reducible exact g_floatCmp _ _ _ _ _
    | with_reducible exact g_asBool _ _
    | assumption
    | exact good_new _ _ trivial
    | (with_reducible refine good_bind ?_ fun _ => ?_)
    | split
    | dsimp only
    | exact good_pure _ _
    | exact good_halt _ trivial)
theorem g_f2f (s : FloatKind) (x : Nat) (d : FloatKind) : Good P rs (Conv.floatToFloat s x d) := by
  unfold Conv.floatToFloat
  repeat' (first
    | with_reducible exact good_pure _ _
    | with_reducible exact good_halt _ trivial
    | with_reducible exact good_program _
    | with_reducible exact good_load _ _ _
    | with_reducible exact good_store _ _ _ _
    | with_reducible exact good_shape _ _
    | with_reducible exact good_choose _ _
    | assumption
    | exact good_new _ _ trivial
    | (with_reducible refine good_bind ?_ fun _ => ?_)
    | split
    | dsimp only
    | exact good_pure _ _
    | exact good_halt _ trivial)
theorem g_cconv (s : FloatKind) (x : Nat) (d : FloatKind) : Good P rs (Op.Complex.conv s x d) := by
  unfold Op.Complex.conv stuck
  repeat' (first
    | with_reducible exact good_pure _ _
    | with_reducible exact good_halt _ trivial
    | with_reducible exact good_program _
    | with_reducible exact good_load _ _ _
    | with_reducible exact good_store _ _ _ _
    | with_reducible exact good_shape _ _
    | with_reducible exact good_choose _ _
    | with_reducible exact g_f2f _ _ _ _
    | assumption
    | exact good_new _ _ trivial
    | (with_reducible refine good_bind ?_ fun _ => ?_)
    | split
    | dsimp only
    | exact good_pure _ _
    | exact good_halt _ trivial)
theorem g_cadd (x y : Nat) : Good P rs (Op.Complex.add x y) := g_carith _ _ _ _ _
theorem g_csub (x y : Nat) : Good P rs (Op.Complex.sub x y) := g_carith _ _ _ _ _
theorem g_cmul (x y : Nat) : Good P rs (Op.Complex.mul x y) := g_carith _ _ _ _ _
theorem g_cquo (x y : Nat) : Good P rs (Op.Complex.quo x y) := g_carith _ _ _ _ _
theorem g_product (a b c d : Nat) : Good P rs (Op.Complex.product a b c d) := by
  unfold Op.Complex.product
  repeat' (first
    | with_reducible exact good_pure _ _
    | with_reducible exact good_halt _ trivial
    | with_reducible exact good_program _
    | with_reducible exact good_load _ _ _
    | with_reducible exact good_store _ _ _ _
    | with_reducible exact good_shape _ _
    | with_reducible exact good_choose _ _
    | with_reducible exact g_cadd _ _ _
    | with_reducible exact g_csub _ _ _
    | with_reducible exact g_cmul _ _ _
    | with_reducible exact g_cquo _ _ _
    | assumption
    | exact good_new _ _ trivial
    | (with_reducible refine good_bind ?_ fun _ => ?_)
    | split
    | dsimp only
    | exact good_pure _ _
    | exact good_halt _ trivial)
theorem g_corrected (s a b c d : Nat) : Good P rs (Op.Complex.corrected s a b c d) := by
  unfold Op.Complex.corrected
  repeat' (first
    | with_reducible exact good_pure _ _
    | with_reducible exact good_halt _ trivial
    | with_reducible exact good_program _
    | with_reducible exact good_load _ _ _
    | with_reducible exact good_store _ _ _ _
    | with_reducible exact good_shape _ _
    | with_reducible exact good_choose _ _
    | with_reducible exact g_cadd _ _ _
    | with_reducible exact g_csub _ _ _
    | with_reducible exact g_cmul _ _ _
    | with_reducible exact g_cquo _ _ _
    | assumption
    | exact good_new _ _ trivial
    | (with_reducible refine good_bind ?_ fun _ => ?_)
    | split
    | dsimp only
    | exact good_pure _ _
    | exact good_halt _ trivial)
theorem g_quotient (a b c d : Nat) : Good P rs (Op.Complex.quotient a b c d) := by
  unfold Op.Complex.quotient
  repeat' (first
    | with_reducible exact good_pure _ _
    | with_reducible exact good_halt _ trivial
    | with_reducible exact good_program _
    | with_reducible exact good_load _ _ _
    | with_reducible exact good_store _ _ _ _
    | with_reducible exact good_shape _ _
    | with_reducible exact good_choose _ _
    | with_reducible exact g_cadd _ _ _
    | with_reducible exact g_csub _ _ _
    | with_reducible exact g_cmul _ _ _
    | with_reducible exact g_cquo _ _ _
    | with_reducible exact g_ccmp _ _ _ _ _
    | with_reducible exact g_corrected _ _ _ _ _ _
    | assumption
    | exact good_new _ _ trivial
    | (with_reducible refine good_bind ?_ fun _ => ?_)
    | split
    | dsimp only
    | exact good_pure _ _
    | exact good_halt _ trivial)
theorem g_complexOp (op : BinOp) (k : FloatKind) (a b c d : Nat) : Good P rs (Op.complexOp op k a b c d) := by
  unfold Op.complexOp stuck
  repeat' (first
    | with_reducible exact good_pure _ _
    | with_reducible exact good_halt _ trivial
    | with_reducible exact good_program _
    | with_reducible exact good_load _ _ _
    | with_reducible exact good_store _ _ _ _
    | with_reducible exact good_shape _ _
    | with_reducible exact good_choose _ _
    | with_reducible exact g_carith _ _ _ _ _
    | with_reducible exact g_ccmp _ _ _ _ _
    | with_reducible exact g_cconv _ _ _ _
    | with_reducible exact g_product _ _ _ _ _
    | with_reducible exact g_quotient _ _ _ _ _
    | assumption
    | exact good_new _ _ trivial
    | (with_reducible refine good_bind ?_ fun _ => ?_)
    | split
    | dsimp only
    | exact good_pure _ _
    | exact good_halt _ trivial)
theorem g_unsafeAdd (a : Array TypeId) (t : TypeId) (x : Array Value) : Good P rs (Builtin.unsafeAdd_ a t x) := by
  unfold Builtin.unsafeAdd_ stuck unsupported
  obtain ⟨l⟩ := x
  rcases l with _ | ⟨u, _ | ⟨z, _ | _⟩⟩ <;> try (exact good_halt _ trivial)
  cases u <;> try (exact good_halt _ trivial)
  refine good_bind (g_asInt _ z) fun n => ?_
  repeat' (first
    | with_reducible exact good_pure _ _
    | with_reducible exact good_halt _ trivial
    | with_reducible exact good_program _
    | with_reducible exact good_load _ _ _
    | with_reducible exact good_store _ _ _ _
    | with_reducible exact good_shape _ _
    | with_reducible exact good_choose _ _
    | with_reducible exact g_asInt _ _
    | assumption
    | exact good_new _ _ trivial
    | ((with_reducible refine good_viewThen _ ?hd ?_); (case hd => exact fun t v => ⟨rfl, trivial⟩))
    | (with_reducible refine good_bind ?_ fun _ => ?_)
    | split
    | dsimp only
    | exact good_pure _ _
    | exact good_halt _ trivial)
theorem g_asNumber (a : Addr) (b : Bool) : Good P rs (asNumber a b) := by
  unfold asNumber
  repeat' (first
    | with_reducible exact good_pure _ _
    | with_reducible exact good_halt _ trivial
    | with_reducible exact good_program _
    | with_reducible exact good_load _ _ _
    | with_reducible exact good_store _ _ _ _
    | with_reducible exact good_shape _ _
    | with_reducible exact good_choose _ _
    | with_reducible exact (good_new _ _ trivial)
    | assumption
    | exact good_new _ _ trivial
    | (with_reducible refine good_bind ?_ fun _ => ?_)
    | split
    | dsimp only
    | exact good_pure _ _
    | exact good_halt _ trivial)
theorem g_movedNumber (t : TypeId) (x y : Value) : Good P rs (movedNumber t x y) := by
  unfold movedNumber unsupported
  repeat' (first
    | with_reducible exact good_pure _ _
    | with_reducible exact good_halt _ trivial
    | with_reducible exact good_program _
    | with_reducible exact good_load _ _ _
    | with_reducible exact good_store _ _ _ _
    | with_reducible exact good_shape _ _
    | with_reducible exact good_choose _ _
    | with_reducible exact g_underlying _ _
    | with_reducible exact g_unsafeAdd _ _ _ _
    | with_reducible exact g_behindNumber _ _
    | with_reducible exact g_asNumber _ _ _
    | assumption
    | exact good_new _ _ trivial
    | (with_reducible refine good_bind ?_ fun _ => ?_)
    | split
    | dsimp only
    | exact good_pure _ _
    | exact good_halt _ trivial)
theorem g_movedPointer (t : TypeId) (x y : Value) : Good P rs (movedPointer t x y) := by
  unfold movedPointer unsupported
  repeat' (first
    | with_reducible exact good_pure _ _
    | with_reducible exact good_halt _ trivial
    | with_reducible exact good_program _
    | with_reducible exact good_load _ _ _
    | with_reducible exact good_store _ _ _ _
    | with_reducible exact good_shape _ _
    | with_reducible exact good_choose _ _
    | with_reducible exact g_numberAt _ _
    | with_reducible exact g_unsafeAdd _ _ _ _
    | assumption
    | exact good_new _ _ trivial
    | (with_reducible refine good_bind ?_ fun _ => ?_)
    | split
    | dsimp only
    | exact good_pure _ _
    | exact good_halt _ trivial)
theorem g_twoPlaces (a b : Addr) : Good P rs (Op.twoPlaces a b) := by
  unfold Op.twoPlaces unsupported
  repeat' (first
    | with_reducible exact good_pure _ _
    | with_reducible exact good_halt _ trivial
    | with_reducible exact good_program _
    | with_reducible exact good_load _ _ _
    | with_reducible exact good_store _ _ _ _
    | with_reducible exact good_shape _ _
    | with_reducible exact good_choose _ _
    | with_reducible exact g_byteOf _ _
    | assumption
    | exact good_new _ _ trivial
    | (with_reducible refine good_bind ?_ fun _ => ?_)
    | split
    | dsimp only
    | exact good_pure _ _
    | exact good_halt _ trivial)
theorem g_addrSub (k : IntKind) (a b : Addr) : Good P rs (Op.addrSub k a b) := by
  unfold Op.addrSub
  repeat' (first
    | with_reducible exact good_pure _ _
    | with_reducible exact good_halt _ trivial
    | with_reducible exact good_program _
    | with_reducible exact good_load _ _ _
    | with_reducible exact good_store _ _ _ _
    | with_reducible exact good_shape _ _
    | with_reducible exact good_choose _ _
    | with_reducible exact g_twoPlaces _ _ _
    | assumption
    | exact good_new _ _ trivial
    | (with_reducible refine good_bind ?_ fun _ => ?_)
    | split
    | dsimp only
    | exact good_pure _ _
    | exact good_halt _ trivial)
theorem g_addrCmp (op : BinOp) (a b : Addr) : Good P rs (Op.addrCmp op a b) := by
  unfold Op.addrCmp unsupported
  repeat' (first
    | with_reducible exact good_pure _ _
    | with_reducible exact good_halt _ trivial
    | with_reducible exact good_program _
    | with_reducible exact good_load _ _ _
    | with_reducible exact good_store _ _ _ _
    | with_reducible exact good_shape _ _
    | with_reducible exact good_choose _ _
    | with_reducible exact g_twoPlaces _ _ _
    | assumption
    | exact good_new _ _ trivial
    | (with_reducible refine good_bind ?_ fun _ => ?_)
    | split
    | dsimp only
    | exact good_pure _ _
    | exact good_halt _ trivial)
theorem g_addrMod (k : IntKind) (a : Addr) (n : Int) : Good P rs (Op.addrMod k a n) := by
  unfold Op.addrMod unsupported
  repeat' (first
    | with_reducible exact good_pure _ _
    | with_reducible exact good_halt _ trivial
    | with_reducible exact good_program _
    | with_reducible exact good_load _ _ _
    | with_reducible exact good_store _ _ _ _
    | with_reducible exact good_shape _ _
    | with_reducible exact good_choose _ _
    | with_reducible exact g_typeInfo _ _
    | with_reducible exact g_byteOf _ _
    | assumption
    | exact good_new _ _ trivial
    | (with_reducible refine good_bind ?_ fun _ => ?_)
    | split
    | dsimp only
    | exact good_pure _ _
    | exact good_halt _ trivial)
set_option maxHeartbeats 2000000 in
theorem g_binOp (op : BinOp) (t : TypeId) (x y : Value) (hE : op = .eql ∨ op = .neq → Good P rs (Op.equal t x y)) : Good P rs (binOp op t x y) := by
  unfold binOp stuck unsupported
  repeat' (first
    | with_reducible exact good_pure _ _
    | with_reducible exact good_halt _ trivial
    | with_reducible exact good_program _
    | with_reducible exact good_load _ _ _
    | with_reducible exact good_store _ _ _ _
    | with_reducible exact good_shape _ _
    | with_reducible exact good_choose _ _
    | with_reducible exact g_intArith _ _ _ _ _
    | with_reducible exact g_intDiv _ _ _ _ _
    | with_reducible exact g_intBits _ _ _ _ _
    | with_reducible exact g_intCmp _ _ _ _
    | with_reducible exact g_shift _ _ _ _ _ _
    | with_reducible exact g_floatArith _ _ _ _ _
    | with_reducible exact g_floatCmp _ _ _ _ _
    | with_reducible exact g_stringOp _ _ _ _
    | with_reducible exact g_complexOp _ _ _ _ _ _ _
    | with_reducible exact g_underlying _ _
    | with_reducible exact g_movedPointer _ _ _ _
    | with_reducible exact g_movedNumber _ _ _ _
    | with_reducible exact g_addrSub _ _ _ _
    | with_reducible exact g_addrCmp _ _ _ _
    | with_reducible exact g_addrMod _ _ _ _
    | with_reducible exact g_behindNumber _ _
    | with_reducible exact hE (.inl rfl)
    | with_reducible exact hE (.inr rfl)
    | assumption
    | exact good_new _ _ trivial
    | (with_reducible refine good_bind ?_ fun _ => ?_)
    | split
    | dsimp only
    | exact good_pure _ _
    | exact good_halt _ trivial)
theorem g_unary (op : UnOp) (x : Value) : Good P rs (Op.unary op x) := by
  unfold Op.unary stuck unsupported
  repeat' (first
    | with_reducible exact good_pure _ _
    | with_reducible exact good_halt _ trivial
    | with_reducible exact good_program _
    | with_reducible exact good_load _ _ _
    | with_reducible exact good_store _ _ _ _
    | with_reducible exact good_shape _ _
    | with_reducible exact good_choose _ _
    | with_reducible exact g_intArith _ _ _ _ _
    | with_reducible exact g_intDiv _ _ _ _ _
    | with_reducible exact g_intBits _ _ _ _ _
    | with_reducible exact g_intCmp _ _ _ _
    | with_reducible exact g_shift _ _ _ _ _ _
    | with_reducible exact g_floatArith _ _ _ _ _
    | with_reducible exact g_floatCmp _ _ _ _ _
    | with_reducible exact g_stringOp _ _ _ _
    | with_reducible exact g_complexOp _ _ _ _ _ _ _
    | with_reducible exact g_underlying _ _
    | with_reducible exact g_movedPointer _ _ _ _
    | with_reducible exact g_movedNumber _ _ _ _
    | with_reducible exact g_addrSub _ _ _ _
    | with_reducible exact g_addrCmp _ _ _ _
    | with_reducible exact g_addrMod _ _ _ _
    | with_reducible exact g_behindNumber _ _
    | assumption
    | exact good_new _ _ trivial
    | (with_reducible refine good_bind ?_ fun _ => ?_)
    | split
    | dsimp only
    | exact good_pure _ _
    | exact good_halt _ trivial)

/-- The first part's value is known. -/
theorem good_known {β : Type} {rs : List Nat} {e : Sem α} {a : α} {f : α → Sem β} (hr : ∀ w, e.run P w = .ok a w) (he : ∀ w es, e.events P w es = es) (h : Good P rs (f a)) : Good P rs (e >>= f) := by
  have hrun : ∀ w, (e >>= f).run P w = (f a).run P w := fun w => by rw [Sem.run_bind, hr]; rfl
  have hev : ∀ w es, (e >>= f).events P w es = (f a).events P w es := fun w es => by rw [Sem.events_bind, hr]; simp only [Result.evThen_ok, he]
  refine ⟨fun v hn v' hv => h.lone v hn v' (by rw [← hrun]; exact hv), fun v hn => by rw [hrun]; exact h.calm v hn, fun X Z v w hs hrs v' hv hw => ?_⟩
  obtain ⟨w', new, r1, e1, x⟩ := h.both X Z v w hs hrs v' (by rw [← hrun]; exact hv) hw
  exact ⟨w', new, by rw [hrun, hrun]; exact r1, fun es => by rw [hev]; exact e1 es, x⟩
theorem good_underlying {β : Type} {rs : List Nat} {t : TypeId} {d : TypeDesc} (ht : P.underlying t = some d) {f : TypeDesc → Sem β} (h : Good P rs (f d)) : Good P rs (underlying t >>= f) :=
  good_known (run_underlying ht) (fun w es => by simp) h

theorem g_equal_int {t : TypeId} {k : IntKind} (ht : P.underlying t = some (.int k)) (x y : Value) : Good P rs (Op.equal t x y) := by
  show Good P rs (Op.equalIn (9999 + 1) t x y)
  unfold Op.equalIn
  refine good_underlying ht ?_
  unfold stuck unsupported
  repeat' (first
    | with_reducible exact good_pure _ _
    | with_reducible exact good_halt _ trivial
    | with_reducible exact good_program _
    | with_reducible exact good_load _ _ _
    | with_reducible exact good_store _ _ _ _
    | with_reducible exact good_shape _ _
    | with_reducible exact good_choose _ _
    | with_reducible exact g_behindNumber _ _
    | with_reducible exact g_byteOf _ _
    | with_reducible exact g_typeInfo _ _
    | with_reducible exact g_sizeOf _ _
    | assumption
    | exact good_new _ _ trivial
    | contradiction
    | (with_reducible refine good_bind ?_ fun _ => ?_)
    | split
    | dsimp only
    | exact good_pure _ _
    | exact good_halt _ trivial
    | (exfalso; simp_all; done))

theorem g_equal_string {t : TypeId} (ht : P.underlying t = some .string) (x y : Value) : Good P rs (Op.equal t x y) := by
  show Good P rs (Op.equalIn (9999 + 1) t x y)
  unfold Op.equalIn
  refine good_underlying ht ?_
  unfold stuck unsupported
  repeat' (first
    | with_reducible exact good_pure _ _
    | with_reducible exact good_halt _ trivial
    | with_reducible exact good_program _
    | with_reducible exact good_load _ _ _
    | with_reducible exact good_store _ _ _ _
    | with_reducible exact good_shape _ _
    | with_reducible exact good_choose _ _
    | with_reducible exact g_behindNumber _ _
    | with_reducible exact g_byteOf _ _
    | with_reducible exact g_typeInfo _ _
    | with_reducible exact g_sizeOf _ _
    | assumption
    | exact good_new _ _ trivial
    | contradiction
    | (with_reducible refine good_bind ?_ fun _ => ?_)
    | split
    | dsimp only
    | exact good_pure _ _
    | exact good_halt _ trivial
    | (exfalso; simp_all; done))

theorem g_equal_bool {t : TypeId} (ht : P.underlying t = some .bool) (x y : Value) : Good P rs (Op.equal t x y) := by
  show Good P rs (Op.equalIn (9999 + 1) t x y)
  unfold Op.equalIn
  refine good_underlying ht ?_
  unfold stuck unsupported
  repeat' (first
    | with_reducible exact good_pure _ _
    | with_reducible exact good_halt _ trivial
    | with_reducible exact good_program _
    | with_reducible exact good_load _ _ _
    | with_reducible exact good_store _ _ _ _
    | with_reducible exact good_shape _ _
    | with_reducible exact good_choose _ _
    | with_reducible exact g_behindNumber _ _
    | with_reducible exact g_byteOf _ _
    | with_reducible exact g_typeInfo _ _
    | with_reducible exact g_sizeOf _ _
    | assumption
    | exact good_new _ _ trivial
    | contradiction
    | (with_reducible refine good_bind ?_ fun _ => ?_)
    | split
    | dsimp only
    | exact good_pure _ _
    | exact good_halt _ trivial
    | (exfalso; simp_all; done))

theorem g_equal_nil {t e : TypeId} (ht : P.underlying t = some (.pointer e)) (x : Value) : Good P rs (Op.equal t x (.pointer none)) := by
  show Good P rs (Op.equalIn (9999 + 1) t x (.pointer none))
  unfold Op.equalIn
  refine good_underlying ht ?_
  unfold stuck unsupported
  repeat' (first
    | with_reducible exact good_pure _ _
    | with_reducible exact good_halt _ trivial
    | with_reducible exact good_program _
    | with_reducible exact good_load _ _ _
    | with_reducible exact good_store _ _ _ _
    | with_reducible exact good_shape _ _
    | with_reducible exact good_choose _ _
    | with_reducible exact g_behindNumber _ _
    | with_reducible exact g_byteOf _ _
    | with_reducible exact g_typeInfo _ _
    | with_reducible exact g_sizeOf _ _
    | assumption
    | exact good_new _ _ trivial
    | contradiction
    | (with_reducible refine good_bind ?_ fun _ => ?_)
    | split
    | dsimp only
    | exact good_pure _ _
    | exact good_halt _ trivial
    | (exfalso; simp_all; done))

theorem g_equal_nilIface {t : TypeId} {ms} (ht : P.underlying t = some (.interface ms)) (x : Value) : Good P rs (Op.equal t x .nilIface) := by
  show Good P rs (Op.equalIn (9999 + 1) t x .nilIface)
  unfold Op.equalIn
  refine good_underlying ht ?_
  unfold stuck unsupported
  repeat' (first
    | with_reducible exact good_pure _ _
    | with_reducible exact good_halt _ trivial
    | with_reducible exact good_program _
    | with_reducible exact good_load _ _ _
    | with_reducible exact good_store _ _ _ _
    | with_reducible exact good_shape _ _
    | with_reducible exact good_choose _ _
    | with_reducible exact g_behindNumber _ _
    | with_reducible exact g_byteOf _ _
    | with_reducible exact g_typeInfo _ _
    | with_reducible exact g_sizeOf _ _
    | assumption
    | exact good_new _ _ trivial
    | contradiction
    | (with_reducible refine good_bind ?_ fun _ => ?_)
    | split
    | dsimp only
    | exact good_pure _ _
    | exact good_halt _ trivial
    | (exfalso; simp_all; done))

theorem holdsCells_ok (a : Addr) (n : Nat) (v : World) : ∃ b, (Builtin.holdsCells a n).run P v = .ok b v := by
  unfold Builtin.holdsCells
  rw [Sem.run_bind]
  simp only [Go.shape, Sem.run, Result.andThen_ok]
  split <;> exact ⟨_, rfl⟩
theorem mayShare_ok (s l n : Nat) (base : Option Addr) (x : Value) (v : World) : ∃ b, (Builtin.mayShare s l n base x).run P v = .ok b v := by
  have jp : ∀ there : Bool, ∃ b, (if (!there) = true then pure true else match x with
      | .slice (some b) _ _ => do pure (!(← Builtin.holdsCells b (n * s)) || base.any (·.block == b.block))
      | _ => pure false : Sem Bool).run P v = .ok b v := by
    intro there
    cases there with
    | false => exact ⟨_, rfl⟩
    | true =>
      simp only [Bool.not_true, Bool.false_eq_true, if_false]
      split
      · rename_i b' _ _
        obtain ⟨c, hc⟩ := holdsCells_ok (P := P) b' (n * s) v
        exact ⟨_, by rw [Sem.run_bind, hc]; rfl⟩
      · exact ⟨_, rfl⟩
  unfold Builtin.mayShare
  dsimp only
  cases base with
  | none => exact jp true
  | some a =>
    obtain ⟨b, hb⟩ := holdsCells_ok (P := P) a (l * s) v
    dsimp only
    rw [Sem.run_bind, hb]
    simp only [Result.andThen_ok]
    rw [Sem.run_bind]
    simp only [frozen, Sem.run, Result.andThen_ok]
    rw [Sem.run_bind, Sem.run_pure]
    exact jp _
theorem g_mayShareThen (s l n : Nat) (base : Option Addr) (x : Value) {f : Bool → Sem α} (h : ∀ b v, lives ((f b).run P v) = none ∧ calmR ((f b).run P v)) : Good P rs (Builtin.mayShare s l n base x >>= f) := by
  refine good_dead _ fun v => ?_
  obtain ⟨b, hb⟩ := mayShare_ok (P := P) s l n base x v
  rw [Sem.run_bind, hb]
  exact h b v
theorem g_lenOf (v : Value) : Good P rs (Builtin.lenOf v) := by
  unfold Builtin.lenOf stuck
  repeat' (first
    | with_reducible exact good_pure _ _
    | with_reducible exact good_halt _ trivial
    | with_reducible exact good_program _
    | with_reducible exact good_load _ _ _
    | with_reducible exact good_store _ _ _ _
    | with_reducible exact good_shape _ _
    | with_reducible exact good_choose _ _
    | assumption
    | exact good_new _ _ trivial
    | (with_reducible refine good_bind ?_ fun _ => ?_)
    | split
    | dsimp only
    | exact good_pure _ _
    | exact good_halt _ trivial)
theorem g_firstCells (s n : Nat) (v : Value) : Good P rs (Builtin.firstCells s n v) := by
  unfold Builtin.firstCells stuck
  repeat' (first
    | with_reducible exact good_pure _ _
    | with_reducible exact good_halt _ trivial
    | with_reducible exact good_program _
    | with_reducible exact good_load _ _ _
    | with_reducible exact good_store _ _ _ _
    | with_reducible exact good_shape _ _
    | with_reducible exact good_choose _ _
    | with_reducible exact g_loadCells _ _ _
    | assumption
    | exact good_new _ _ trivial
    | (with_reducible refine good_bind ?_ fun _ => ?_)
    | split
    | dsimp only
    | exact good_pure _ _
    | exact good_halt _ trivial)
theorem g_askRoom (n : Nat) : Good P rs (askRoom n) := by
  unfold askRoom
  repeat' (first
    | with_reducible exact good_pure _ _
    | with_reducible exact good_halt _ trivial
    | with_reducible exact good_program _
    | with_reducible exact good_load _ _ _
    | with_reducible exact good_store _ _ _ _
    | with_reducible exact good_shape _ _
    | with_reducible exact good_choose _ _
    | with_reducible exact good_mark _ _ rfl
    | assumption
    | exact good_new _ _ trivial
    | (with_reducible refine good_bind ?_ fun _ => ?_)
    | split
    | dsimp only
    | exact good_pure _ _
    | exact good_halt _ trivial)

set_option maxHeartbeats 1000000 in
theorem g_append {t e : TypeId} (ht : P.underlying t = some (.slice e)) (ty : TypeId) (s x : Value) : Good P rs (Builtin.append_ #[t, t] ty #[s, x]) := by
  unfold Builtin.append_ stuck
  simp only [List.getElem?_toArray, List.getElem?_cons_zero, List.getElem?_cons_succ]
  refine good_underlying ht ?_
  dsimp only
  cases s <;> try (exact good_halt _ trivial)
  refine good_bind (g_sizeOf _ _) fun n => ?_
  refine good_underlying ht ?_
  dsimp only
  refine good_known (a := false) (fun w => rfl) (fun w es => by simp) ?_
  simp only [Bool.false_eq_true, ↓reduceIte, Bool.not_false, false_or]
  repeat' (first
    | with_reducible exact good_pure _ _
    | with_reducible exact good_halt _ trivial
    | with_reducible exact good_program _
    | with_reducible exact good_load _ _ _
    | with_reducible exact good_store _ _ _ _
    | with_reducible exact good_shape _ _
    | with_reducible exact good_choose _ _
    | with_reducible exact g_underlying _ _
    | with_reducible exact g_sizeOf _ _
    | with_reducible exact g_asInt _ _
    | with_reducible exact g_runtimePanic _ _
    | with_reducible exact g_typeInfo _ _
    | with_reducible exact g_lenOf _ _
    | with_reducible exact g_firstCells _ _ _ _
    | with_reducible exact g_askRoom _ _
    | with_reducible exact g_zeroValue _ _
    | with_reducible exact g_newRow _ _ _
    | with_reducible exact g_storeCells _ _ _ _
    | assumption
    | exact good_new _ _ trivial
    | (with_reducible refine g_mayShareThen _ _ _ _ _ _ fun b v => ?_)
    | (cases ‹Bool› <;> (simp [Sem.run_bind, mark, Sem.run, unsupported, lives, calmR, Calm]; done))
    | (with_reducible refine good_bind ?_ fun _ => ?_)
    | split
    | dsimp only
    | exact good_pure _ _
    | exact good_halt _ trivial)
theorem g_len (t ty : TypeId) (x : Value) : Good P rs (Builtin.len_ #[t] ty #[x]) := by
  unfold Builtin.len_ stuck
  repeat' (first
    | with_reducible exact good_pure _ _
    | with_reducible exact good_halt _ trivial
    | with_reducible exact good_program _
    | with_reducible exact good_load _ _ _
    | with_reducible exact good_store _ _ _ _
    | with_reducible exact good_shape _ _
    | with_reducible exact good_choose _ _
    | with_reducible exact g_underlying _ _
    | assumption
    | exact good_new _ _ trivial
    | (refine good_getObj _ (fun _ _ => ⟨_, rfl, trivial, by intro x h; cases h⟩) (fun _ _ _ _ _ _ => ?_) (fun _ _ => ?_))
    | (with_reducible refine good_bind ?_ fun _ => ?_)
    | split
    | dsimp only
    | exact good_pure _ _
    | exact good_halt _ trivial)
theorem g_cap (t ty : TypeId) (x : Value) : Good P rs (Builtin.cap_ #[t] ty #[x]) := by
  unfold Builtin.cap_ stuck
  repeat' (first
    | with_reducible exact good_pure _ _
    | with_reducible exact good_halt _ trivial
    | with_reducible exact good_program _
    | with_reducible exact good_load _ _ _
    | with_reducible exact good_store _ _ _ _
    | with_reducible exact good_shape _ _
    | with_reducible exact good_choose _ _
    | with_reducible exact g_underlying _ _
    | assumption
    | exact good_new _ _ trivial
    | (refine good_getObj _ (fun _ _ => ⟨_, rfl, trivial, by intro x h; cases h⟩) (fun _ _ _ _ _ _ => ?_) (fun _ _ => ?_))
    | (with_reducible refine good_bind ?_ fun _ => ?_)
    | split
    | dsimp only
    | exact good_pure _ _
    | exact good_halt _ trivial)
theorem g_max2 (x y : Value) : Good P rs (Builtin.max2 x y) := by
  unfold Builtin.max2 stuck unsupported
  repeat' (first
    | with_reducible exact good_pure _ _
    | with_reducible exact good_halt _ trivial
    | with_reducible exact good_program _
    | with_reducible exact good_load _ _ _
    | with_reducible exact good_store _ _ _ _
    | with_reducible exact good_shape _ _
    | with_reducible exact good_choose _ _
    | with_reducible exact g_stringOp _ _ _ _
    | with_reducible exact g_asBool _ _
    | assumption
    | exact good_new _ _ trivial
    | (with_reducible refine good_bind ?_ fun _ => ?_)
    | split
    | dsimp only
    | exact good_pure _ _
    | exact good_halt _ trivial)
theorem g_min2 (x y : Value) : Good P rs (Builtin.min2 x y) := by
  unfold Builtin.min2 stuck unsupported
  repeat' (first
    | with_reducible exact good_pure _ _
    | with_reducible exact good_halt _ trivial
    | with_reducible exact good_program _
    | with_reducible exact good_load _ _ _
    | with_reducible exact good_store _ _ _ _
    | with_reducible exact good_shape _ _
    | with_reducible exact good_choose _ _
    | with_reducible exact g_stringOp _ _ _ _
    | with_reducible exact g_asBool _ _
    | assumption
    | exact good_new _ _ trivial
    | (with_reducible refine good_bind ?_ fun _ => ?_)
    | split
    | dsimp only
    | exact good_pure _ _
    | exact good_halt _ trivial)
theorem g_foldlM {β γ : Type} (f : γ → β → Sem γ) (h : ∀ a b, Good P rs (f a b)) : ∀ (l : List β) (x : γ), Good P rs (l.foldlM f x)
  | [], _ => good_pure _ _
  | y :: l, x => good_bind (h x y) fun z => g_foldlM f h l z
theorem g_max (a : Array TypeId) (t : TypeId) (x : Array Value) : Good P rs (Builtin.max_ a t x) := by
  unfold Builtin.max_
  split
  · exact good_halt _ trivial
  · exact g_foldlM _ _ (g_max2 _) _ _
theorem g_min (a : Array TypeId) (t : TypeId) (x : Array Value) : Good P rs (Builtin.min_ a t x) := by
  unfold Builtin.min_
  split
  · exact good_halt _ trivial
  · exact g_foldlM _ _ (g_min2 _) _ _
theorem g_checkKey {t : TypeId} {k : IntKind} (ht : P.underlying t = some (.int k)) (b : Bool) (v : Value) : Good P rs (Instr.checkKey b 10000 t v) := by
  show Good P rs (Instr.checkKey b (9999 + 1) t v)
  unfold Instr.checkKey
  exact good_underlying ht (good_pure _ _)
theorem g_findAsking {t : TypeId} {k : IntKind} (ht : P.underlying t = some (.int k)) (v : Value) : ∀ (es : List MapEntry) (i : Nat), Good P rs (Instr.findAsking t v es i)
  | [], _ => good_pure _ _
  | e :: es, i => by
    unfold Instr.findAsking
    refine good_bind (g_equal_int _ ht _ _) fun b => ?_
    split
    · exact good_pure _ _
    · exact g_findAsking ht v es (i + 1)
theorem g_findKey {t : TypeId} {k : IntKind} (ht : P.underlying t = some (.int k)) (v : Value) (es : List MapEntry) : Good P rs (Instr.findKey t v es) := by
  unfold Instr.findKey
  refine good_bind (g_underlying _ _) fun d => ?_
  split
  · exact good_pure _ _
  · exact g_findAsking _ ht v es 0
theorem g_keyThatStays (x y : Value) : Good P rs (Instr.keyThatStays x y) := by
  unfold Instr.keyThatStays
  repeat' (first
    | with_reducible exact good_pure _ _
    | with_reducible exact good_halt _ trivial
    | with_reducible exact good_program _
    | with_reducible exact good_load _ _ _
    | with_reducible exact good_store _ _ _ _
    | with_reducible exact good_shape _ _
    | with_reducible exact good_choose _ _
    | assumption
    | exact good_new _ _ trivial
    | (with_reducible refine good_bind ?_ fun _ => ?_)
    | split
    | dsimp only
    | exact good_pure _ _
    | exact good_halt _ trivial)

theorem g_mapUpdate {t k e : TypeId} {i : IntKind} (ht : P.underlying t = some (.map k e)) (hk : P.underlying k = some (.int i)) (m x v : Value) : Good P rs (Instr.mapUpdate t m x v) := by
  unfold Instr.mapUpdate stuck
  refine good_underlying ht ?_
  dsimp only
  repeat' (first
    | with_reducible exact good_pure _ _
    | with_reducible exact good_halt _ trivial
    | with_reducible exact good_program _
    | with_reducible exact good_load _ _ _
    | with_reducible exact good_store _ _ _ _
    | with_reducible exact good_shape _ _
    | with_reducible exact good_choose _ _
    | with_reducible exact g_checkKey _ hk _ _
    | with_reducible exact g_findKey _ hk _ _
    | with_reducible exact g_keyThatStays _ _ _
    | with_reducible exact g_runtimePanic _ _
    | with_reducible exact g_zeroValue _ _
    | with_reducible exact g_typeInfo _ _
    | assumption
    | exact good_new _ _ trivial
    | (refine good_getObj _ (fun _ _ => ⟨_, rfl, trivial, by intro x h; cases h⟩) (fun _ _ _ _ _ _ => ?_) (fun _ _ => ?_))
    | contradiction
    | exact good_setObj (List.mem_cons_self) (by intros; simp) trivial
    | (with_reducible refine good_bind ?_ fun _ => ?_)
    | split
    | dsimp only
    | exact good_pure _ _
    | exact good_halt _ trivial)

theorem g_lookup {t k e : TypeId} {i : IntKind} (ht : P.underlying t = some (.map k e)) (hk : P.underlying k = some (.int i)) (m x : Value) (ok : Bool) : Good P rs (Instr.lookup t m x ok) := by
  unfold Instr.lookup stuck
  refine good_underlying ht ?_
  dsimp only
  repeat' (first
    | with_reducible exact good_pure _ _
    | with_reducible exact good_halt _ trivial
    | with_reducible exact good_program _
    | with_reducible exact good_load _ _ _
    | with_reducible exact good_store _ _ _ _
    | with_reducible exact good_shape _ _
    | with_reducible exact good_choose _ _
    | with_reducible exact g_checkKey _ hk _ _
    | with_reducible exact g_findKey _ hk _ _
    | with_reducible exact g_keyThatStays _ _ _
    | with_reducible exact g_runtimePanic _ _
    | with_reducible exact g_zeroValue _ _
    | with_reducible exact g_typeInfo _ _
    | assumption
    | exact good_new _ _ trivial
    | (refine good_getObj _ (fun _ _ => ⟨_, rfl, trivial, by intro x h; cases h⟩) (fun _ _ _ _ _ _ => ?_) (fun _ _ => ?_))
    | contradiction
    | exact good_setObj (List.mem_cons_self) (by intros; simp) trivial
    | (with_reducible refine good_bind ?_ fun _ => ?_)
    | split
    | dsimp only
    | exact good_pure _ _
    | exact good_halt _ trivial)

theorem g_delete {t k e u ty : TypeId} {i : IntKind} (ht : P.underlying t = some (.map k e)) (hk : P.underlying k = some (.int i)) (m x : Value) : Good P rs (Builtin.delete_ #[t, u] ty #[m, x]) := by
  unfold Builtin.delete_ stuck
  simp only [List.getElem?_toArray, List.getElem?_cons_zero, List.getElem?_cons_succ]
  refine good_underlying ht ?_
  dsimp only
  repeat' (first
    | with_reducible exact good_pure _ _
    | with_reducible exact good_halt _ trivial
    | with_reducible exact good_program _
    | with_reducible exact good_load _ _ _
    | with_reducible exact good_store _ _ _ _
    | with_reducible exact good_shape _ _
    | with_reducible exact good_choose _ _
    | with_reducible exact g_checkKey _ hk _ _
    | with_reducible exact g_findKey _ hk _ _
    | with_reducible exact g_keyThatStays _ _ _
    | with_reducible exact g_runtimePanic _ _
    | with_reducible exact g_zeroValue _ _
    | with_reducible exact g_typeInfo _ _
    | assumption
    | exact good_new _ _ trivial
    | (refine good_getObj _ (fun _ _ => ⟨_, rfl, trivial, by intro x h; cases h⟩) (fun _ _ _ _ _ _ => ?_) (fun _ _ => ?_))
    | contradiction
    | exact good_setObj (List.mem_cons_self) (by intros; simp) trivial
    | (with_reducible refine good_bind ?_ fun _ => ?_)
    | split
    | dsimp only
    | exact good_pure _ _
    | exact good_halt _ trivial)

/-- Types whose values are compared without a loop. -/
def plainD : TypeDesc → Bool
  | .bool | .int _ | .string | .pointer _ | .interface _ => true
  | _ => false
theorem g_eqGuardIn {t : TypeId} {d : TypeDesc} (ht : P.underlying t = some d) (hd : plainD d = true) (x y : Value) : Good P rs (Op.eqGuardIn Op.maxDepth t x y) := by
  show Good P rs (Op.eqGuardIn (9999 + 1) t x y)
  unfold Op.eqGuardIn
  refine good_underlying ht ?_
  cases d <;> first | (cases hd; done) | skip
  all_goals (cases x <;> first | exact good_pure _ _ | (cases y <;> exact good_pure _ _))
theorem g_eqGuard {t : TypeId} {d : TypeDesc} (ht : P.underlying t = some d) (hd : plainD d = true) (op : BinOp) (x y : Operand) (a b : Value) : Good P rs (eqGuard op t x y a b) := by
  unfold eqGuard unsupported
  repeat' (first
    | with_reducible exact good_pure _ _
    | with_reducible exact good_halt _ trivial
    | with_reducible exact good_program _
    | with_reducible exact good_load _ _ _
    | with_reducible exact good_store _ _ _ _
    | with_reducible exact good_shape _ _
    | with_reducible exact good_choose _ _
    | with_reducible exact g_eqGuardIn _ ht hd _ _
    | assumption
    | exact good_new _ _ trivial
    | (with_reducible refine good_bind ?_ fun _ => ?_)
    | split
    | dsimp only
    | exact good_pure _ _
    | exact good_halt _ trivial)

theorem g_eqGuard_ne {op : BinOp} (h1 : op ≠ .eql) (h2 : op ≠ .neq) (t : TypeId) (x y : Operand) (a b : Value) : Good P rs (eqGuard op t x y a b) := by
  unfold eqGuard
  cases op <;> first | exact good_pure _ _ | exact absurd rfl h1 | exact absurd rfl h2
theorem g_followBlind : ∀ (l : List FieldStep) (t : TypeId) (x : Option Value), Good P rs (followBlind l t x)
  | [], _, _ => good_pure _ _
  | s :: rest, t, x => by
    unfold followBlind stuck
    repeat' (first
      | with_reducible exact good_pure _ _
      | with_reducible exact good_halt _ trivial
      | with_reducible exact good_program _
      | with_reducible exact good_load _ _ _
      | with_reducible exact good_store _ _ _ _
      | with_reducible exact good_shape _ _
      | with_reducible exact good_choose _ _
      | with_reducible exact g_underlying _ _
      | with_reducible exact g_followBlind _ _ _
      | with_reducible exact g_part _ _ _ _
      | assumption
      | exact good_new _ _ trivial
      | (with_reducible refine good_bind ?_ fun _ => ?_)
      | split
      | dsimp only
      | exact good_pure _ _
      | exact good_halt _ trivial)

theorem g_nilAhead : ∀ (n : Nat) (t : TypeId) (x : Value) (s : String), Good P rs (nilAhead n t x s)
  | 0, _, _, _ => good_pure _ _
  | n + 1, t, x, s => by
    unfold nilAhead stuck
    repeat' (first
      | with_reducible exact good_pure _ _
      | with_reducible exact good_halt _ trivial
      | with_reducible exact good_program _
      | with_reducible exact good_load _ _ _
      | with_reducible exact good_store _ _ _ _
      | with_reducible exact good_shape _ _
      | with_reducible exact good_choose _ _
      | with_reducible exact g_typeInfo _ _
      | with_reducible exact g_underlying _ _
      | with_reducible exact g_followBlind _ _ _ _
      | with_reducible exact g_nilAhead _ _ _ _
      | assumption
      | exact good_new _ _ trivial
      | (with_reducible refine good_bind ?_ fun _ => ?_)
      | split
      | dsimp only
      | exact good_pure _ _
      | exact good_halt _ trivial)
theorem g_floatToInt (s : FloatKind) (x : Nat) (k : IntKind) : Good P rs (Conv.floatToInt s x k) := by
  unfold Conv.floatToInt
  repeat' (first
    | with_reducible exact good_pure _ _
    | with_reducible exact good_halt _ trivial
    | with_reducible exact good_program _
    | with_reducible exact good_load _ _ _
    | with_reducible exact good_store _ _ _ _
    | with_reducible exact good_shape _ _
    | with_reducible exact good_choose _ _
    | assumption
    | exact good_new _ _ trivial
    | (with_reducible refine good_bind ?_ fun _ => ?_)
    | split
    | dsimp only
    | exact good_pure _ _
    | exact good_halt _ trivial)

theorem g_convert {s d : TypeId} {k k' : IntKind} (hs : P.underlying s = some (.int k')) (hd : P.underlying d = some (.int k)) (x : Value) : Good P rs (convert s d x) := by
  unfold convert unsupported
  refine good_underlying hs ?_
  refine good_underlying hd ?_
  cases x <;> first
    | exact good_halt _ trivial
    | exact good_pure _ _
    | exact g_floatToInt _ _ _ _
    | (rename_i a; cases a <;> exact good_halt _ trivial)
end
end Go.Proofs.Ytolnmdanlggmhaa
