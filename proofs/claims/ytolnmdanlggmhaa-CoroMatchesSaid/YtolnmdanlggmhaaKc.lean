/- Which operations a lone contract may use in company: a check that is reckoned (okOp), and what it yields. -/
import Derived.Test.YtolnmdanlggmhaaKb
import Derived.Conc.Own4
import Derived.Conc.Listed
import Derived.CallsIn
namespace Go.Proofs.Ytolnmdanlggmhaa

/-- What an operation of ours yields: a value, nothing, or a call of a function of the list. -/
def nextOk (L : List FuncId) : Next → Prop
  | .value _ | .skip => True
  | .enter f _ => f ∈ L
  | _ => False
def Nexts (P : Program) (L : List FuncId) (e : Sem Next) : Prop := ∀ v x v', e.run P v = .ok x v' → nextOk L x

section
variable (P : Program) (L : List FuncId)
def isInt (t : TypeId) : Bool := match P.underlying t with | some (.int _) => true | _ => false
def isSlice (t : TypeId) : Bool := match P.underlying t with | some (.slice _) => true | _ => false
def isIntMap (t : TypeId) : Bool := match P.underlying t with | some (.map k _) => isInt P k | _ => false
def okEq (t : TypeId) (y : Operand) : Bool :=
  match P.underlying t with
  | some (.int _) | some .string | some .bool => true
  | some (.pointer _) => match y with | .const (.pointer none) => true | _ => false
  | some (.interface _) => match y with | .const .nilIface => true | _ => false
  | _ => false
def okBuiltin (b : Builtin) (n : Nat) (ts : List TypeId) : Bool :=
  match b, ts with
  | .append, [t, u] => n == 2 && isSlice P t && (t == u || isInt P u)
  | .len, [_] => n == 1
  | .cap, [_] => n == 1
  | .max, _ => true
  | .min, _ => true
  | .delete, [t, _] => n == 2 && isIntMap P t
  | _, _ => false
def okCallee (f : FuncId) : Bool := L.contains f && ((P.funcs[f]?).any fun fn => fn.body.isSome && fn.name != "runtime.NumGoroutine")
def okOp (o : Op) : Bool :=
  match o with
  | .move _ | .assign _ | .pick _ _ _ | .alloc _ | .box _ _ | .build _ _ | .buildSlice _ _ _ | .load _ _ | .store _ _ _ | .nilCheck _ | .unOp _ _ _ | .makeInterface _ _ | .makeFunc _ _ _ | .makeMap _ _ | .makeChan _ _
  | .panic _ | .slice _ _ _ _ _ | .fieldAddr _ _ _ | .field _ _ _ | .indexAddr _ _ _ | .index _ _ _ | .typeAssert _ _ _ _ | .extract _ _ => true
  | .binOp op t _ y _ => match op with | .eql | .neq => okEq P t y | _ => true
  | .convert s d _ => isInt P s && isInt P d
  | .lookup t _ _ _ => isIntMap P t
  | .mapUpdate t _ _ _ => isIntMap P t
  | .call c => match c.callee with
    | .value (.func f) => okCallee P L f
    | .builtin b => okBuiltin P b c.args.size c.argTypes.toList
    | _ => false
  | _ => false
end

section
variable {P : Program} {L : List FuncId} {rs : List Nat}
theorem v_good {s : Sem Value} (h : Good P rs s) : Good P rs (do pure (Next.value (← s))) := good_bind h fun _ => good_pure _ _
theorem u_good {s : Sem Unit} (h : Good P rs s) : Good P rs (do s; pure Next.skip) := good_bind h fun _ => good_pure _ _
theorem v_next (s : Sem Value) : Nexts P L (do pure (Next.value (← s))) := by
  intro v x v' h
  rw [Sem.run_bind] at h
  cases hs : s.run P v with
  | ok a v1 => rw [hs] at h; simp only [Result.andThen_ok, Sem.run_pure, Result.ok.injEq] at h; rw [← h.1]; trivial
  | halt a v1 => rw [hs] at h; cases h
theorem u_next (s : Sem Unit) : Nexts P L (do s; pure Next.skip) := by
  intro v x v' h
  rw [Sem.run_bind] at h
  cases hs : s.run P v with
  | ok a v1 => rw [hs] at h; simp only [Result.andThen_ok, Sem.run_pure, Result.ok.injEq] at h; rw [← h.1]; trivial
  | halt a v1 => rw [hs] at h; cases h
theorem isInt_of {t : TypeId} (h : isInt P t = true) : ∃ k, P.underlying t = some (.int k) := by
  unfold isInt at h
  split at h
  · exact ⟨_, ‹_›⟩
  · cases h
theorem isSlice_of {t : TypeId} (h : isSlice P t = true) : ∃ k, P.underlying t = some (.slice k) := by
  unfold isSlice at h
  split at h
  · exact ⟨_, ‹_›⟩
  · cases h
theorem isIntMap_of {t : TypeId} (h : isIntMap P t = true) : ∃ k e i, P.underlying t = some (.map k e) ∧ P.underlying k = some (.int i) := by
  unfold isIntMap at h
  split at h
  · obtain ⟨i, hi⟩ := isInt_of h
    exact ⟨_, _, i, ‹_›, hi⟩
  · cases h

theorem g_binop_op {ρ : Operand → Value} (hc : ∀ c, ρ (.const c) = c) (op : BinOp) (t : TypeId) (x y : Operand) (h : (match op with | .eql | .neq => okEq P t y | _ => true) = true) :
    Good P rs (do eqGuard op t x y (ρ x) (ρ y); binOp op t (ρ x) (ρ y)) := by
  by_cases he : op = .eql ∨ op = .neq
  · have hk : okEq P t y = true := by rcases he with rfl | rfl <;> exact h
    have hd : ∃ d, P.underlying t = some d ∧ plainD d = true ∧ Good P rs (Op.equal t (ρ x) (ρ y)) := by
      unfold okEq at hk
      split at hk
      · exact ⟨_, ‹_›, rfl, g_equal_int _ ‹_› _ _⟩
      · exact ⟨_, ‹_›, rfl, g_equal_string _ ‹_› _ _⟩
      · exact ⟨_, ‹_›, rfl, g_equal_bool _ ‹_› _ _⟩
      · split at hk
        · rw [hc]; exact ⟨_, ‹_›, rfl, g_equal_nil _ ‹_› _⟩
        · cases hk
      · split at hk
        · rw [hc]; exact ⟨_, ‹_›, rfl, g_equal_nilIface _ ‹_› _⟩
        · cases hk
      · cases hk
    obtain ⟨d, hd1, hd2, hd3⟩ := hd
    exact good_bind (g_eqGuard _ hd1 hd2 _ _ _ _ _) fun _ => g_binOp _ _ _ _ _ fun _ => hd3
  · exact good_bind (g_eqGuard_ne _ (fun e => he (.inl e)) (fun e => he (.inr e)) _ _ _ _ _) fun _ => g_binOp _ _ _ _ _ fun e => absurd e he

theorem g_nilCheck {ρ : Operand → Value} (o : Oper) (x : Operand) (ho : o.op = .nilCheck x) : Good P rs (execOp ρ o) := by
  unfold execOp
  simp only [ho]
  unfold unsupported
  repeat' (first
    | exact g_runtimePanic _ _
    | with_reducible exact good_pure _ _
    | with_reducible exact good_halt _ trivial
    | with_reducible exact good_program _
    | with_reducible exact g_nilAhead _ _ _ _ _
    | (with_reducible refine good_bind ?_ fun _ => ?_)
    | split
    | dsimp only
    | exact good_halt _ trivial)
theorem n_pure {x : Next} (h : nextOk L x) : Nexts P L (pure x) := fun v y v' hx => by simp only [Sem.run_pure, Result.ok.injEq] at hx; rw [← hx.1]; exact h
theorem n_halt (h : Halt) : Nexts P L (.halt h) := fun v y v' hx => by simp [Sem.run] at hx
theorem n_bind {α : Type} {e : Sem α} {f : α → Sem Next} (h : ∀ a, Nexts P L (f a)) : Nexts P L (e >>= f) := by
  intro v x v' hx
  rw [Sem.run_bind] at hx
  cases hs : e.run P v with
  | ok a v1 => rw [hs] at hx; exact h a v1 x v' hx
  | halt a v1 => rw [hs] at hx; cases hx
theorem n_panic (e : RuntimeError) : Nexts P L (runtimePanic e) := by
  unfold runtimePanic goPanic
  repeat' (first
    | exact n_halt _
    | (with_reducible refine n_bind fun _ => ?_)
    | split
    | dsimp only)
theorem n_nilCheck {ρ : Operand → Value} (o : Oper) (x : Operand) (ho : o.op = .nilCheck x) : Nexts P L (execOp ρ o) := by
  unfold execOp
  simp only [ho]
  unfold unsupported
  repeat' (first
    | exact n_panic _
    | with_reducible exact n_pure trivial
    | with_reducible exact n_halt _
    | (with_reducible refine n_bind fun _ => ?_)
    | split
    | dsimp only
    | exact n_halt _
    | exact n_pure trivial)

theorem list_one {α : Type} {l : Array α} (h : (l.size == 1) = true) : ∃ x, l = #[x] := by
  obtain ⟨l⟩ := l
  rcases l with _ | ⟨x, _ | ⟨y, l⟩⟩
  · cases h
  · exact ⟨x, rfl⟩
  · simp at h
theorem list_two {α : Type} {l : Array α} (h : (l.size == 2) = true) : ∃ x y, l = #[x, y] := by
  obtain ⟨l⟩ := l
  rcases l with _ | ⟨x, _ | ⟨y, _ | ⟨z, l⟩⟩⟩
  · cases h
  · cases h
  · exact ⟨x, y, rfl⟩
  · simp at h

set_option maxHeartbeats 1000000 in
theorem g_appendZ {t u e : TypeId} {k : IntKind} (ht : P.underlying t = some (.slice e)) (hu : P.underlying u = some (.int k)) (ty : TypeId) (s x : Value) : Good P rs (Builtin.append_ #[t, u] ty #[s, x]) := by
  unfold Builtin.append_ stuck
  simp only [List.getElem?_toArray, List.getElem?_cons_zero, List.getElem?_cons_succ]
  refine good_underlying ht ?_
  dsimp only
  cases s <;> try (exact good_halt _ trivial)
  refine good_bind (g_sizeOf _ _) fun n => ?_
  refine good_underlying hu ?_
  dsimp only
  refine good_known (a := true) (fun w => rfl) (fun w es => by simp) ?_
  simp only [↓reduceIte, Bool.not_true, Bool.false_eq_true, true_or]
  repeat' (first
    | with_reducible exact good_pure _ _
    | with_reducible exact good_halt _ trivial
    | with_reducible exact good_program _
    | with_reducible exact good_load _ _ _
    | with_reducible exact good_store _ _ _ _
    | with_reducible exact good_shape _ _
    | with_reducible exact good_choose _ _
    | with_reducible exact g_underlying _ _
    | with_reducible exact g_sizeOf _ _
    | with_reducible exact g_asInt _ _
    | with_reducible exact g_runtimePanic _ _
    | with_reducible exact g_typeInfo _ _
    | with_reducible exact g_lenOf _ _
    | with_reducible exact g_firstCells _ _ _ _
    | with_reducible exact g_askRoom _ _
    | with_reducible exact g_zeroValue _ _
    | with_reducible exact g_newRow _ _ _
    | with_reducible exact g_storeCells _ _ _ _
    | with_reducible exact good_mark _ _ rfl
    | assumption
    | (with_reducible refine g_mayShareThen _ _ _ _ _ _ fun b v => ?_)
    | (cases ‹Bool› <;> (simp [Sem.run_bind, mark, Sem.run, unsupported, lives, calmR, Calm]; done))
    | (with_reducible refine good_bind ?_ fun _ => ?_)
    | split
    | dsimp only
    | exact good_pure _ _
    | exact good_halt _ trivial)
theorem g_builtin {b : Builtin} {ts : Array TypeId} {vs : Array Value} (h : okBuiltin P b vs.size ts.toList = true) (ty : TypeId) (cs : Array Bool) : Good P rs (builtin b ts ty cs vs) ∧ Nexts P L (builtin b ts ty cs vs) := by
  obtain ⟨ts⟩ := ts
  unfold okBuiltin at h
  simp only at h
  split at h
  · simp only [Bool.and_eq_true, beq_iff_eq] at h
    obtain ⟨⟨h1, h2⟩, h3⟩ := h
    obtain ⟨x, y, rfl⟩ := list_two (l := vs) (by simpa using h1)
    obtain ⟨e, he⟩ := isSlice_of h2
    rw [Bool.or_eq_true] at h3
    rcases h3 with h3 | h3
    · obtain rfl := by simpa using h3
      exact ⟨v_good (g_append _ he _ _ _), v_next _⟩
    · obtain ⟨k, hk⟩ := isInt_of h3
      exact ⟨v_good (g_appendZ he hk _ _ _), v_next _⟩
  · obtain ⟨x, rfl⟩ := list_one h
    exact ⟨v_good (g_len _ _ _ _), v_next _⟩
  · obtain ⟨x, rfl⟩ := list_one h
    exact ⟨v_good (g_cap _ _ _ _), v_next _⟩
  · exact ⟨v_good (g_max _ _ _ _), v_next _⟩
  · exact ⟨v_good (g_min _ _ _ _), v_next _⟩
  · simp only [Bool.and_eq_true] at h
    obtain ⟨h1, h2⟩ := h
    obtain ⟨x, y, rfl⟩ := list_two h1
    obtain ⟨k, e, i, hk, hi⟩ := isIntMap_of h2
    exact ⟨v_good (g_delete _ hk hi _ _), v_next _⟩
  · cases h

theorem g_callFunc {f : FuncId} (h : okCallee P L f = true) (args : Array Value) : Good P rs (callFunc f args) ∧ Nexts P L (callFunc f args) := by
  unfold okCallee at h
  simp only [Bool.and_eq_true, Option.any_eq_true, bne_iff_ne, ne_eq] at h
  obtain ⟨hL, fn, hfn, hb, hn⟩ := h
  have hL' : f ∈ L := by simpa using hL
  have hrun : ∀ w, (callFunc f args).run P w = .ok (.enter f args) w := by
    intro w
    unfold callFunc
    rw [Sem.run_bind]
    simp only [program, Sem.run, Result.andThen_ok, hfn]
    have : fn.body.isNone = false := by cases hh : fn.body <;> simp_all
    simp [hn, this, Sem.run_pure]
  have hev : ∀ w es, (callFunc f args).events P w es = es := by
    intro w es
    unfold callFunc
    rw [Sem.events_bind]
    simp only [program, Sem.run, Result.evThen_ok, hfn]
    have : fn.body.isNone = false := by cases hh : fn.body <;> simp_all
    simp [hn, this]
    rfl
  refine ⟨good_read (fun v _ => .inl ⟨_, hrun v⟩) fun X Z v w x _ hx => ?_, fun v x v' hx => ?_⟩
  · rw [hrun] at hx; injection hx with hx; subst hx
    exact ⟨hrun w, #[], fun es => by rw [hev]; simp, by simp⟩
  · rw [hrun] at hx; injection hx with hx; subst hx; exact hL'

theorem good_env (rs : List Nat) : Good P rs (sys .env) := by
  have hr : ∀ w, (sys .env).run P w = .ok (.strings w.os.env) w := fun w => rfl
  have he : ∀ (w : World) es, (sys .env).events P w es = es ++ #[⟨.output, true, false⟩] := fun w es => rfl
  refine ⟨fun v hn v' hv => ?_, fun v hn => ?_, fun X Z v w hs _ v' hv _ => ?_⟩
  · rw [hr] at hv
    simp only [lives, Option.some.injEq] at hv
    subst hv
    exact ⟨Nat.le_refl _, rfl, hn⟩
  · rw [hr]; trivial
  · rw [hr] at hv
    simp only [lives, Option.some.injEq] at hv
    subst hv
    refine ⟨w, #[⟨.output, true, false⟩], by rw [hr, hr, hs.os]; rfl, fun es => he w es, hs, rfl, by simp, Kept.refl _ _, fun x hx => ?_⟩
    simp at hx
    subst hx
    refine ⟨⟨fun x a h1 h2 => ?_, by simp, by simp⟩, by simp [MemAct.ofEvent, MemAct.low, Loc.low]⟩
    simp [MemAct.ofEvent, MemAct.touch?] at h1
    rw [← h1] at h2
    cases h2
theorem g_panic (x : Value) : Good P rs (Instr.panic x) := by
  unfold Instr.panic
  cases x with
  | iface t y => exact g_goPanic _ _
  | nilIface =>
    unfold Instr.panicnil
    refine good_bind (good_bind (good_env _) fun r => ?_) fun z => ?_
    · cases r with
      | strings env => exact good_bind (good_program _) fun _ => good_pure _ _
      | _ => exact good_halt _ trivial
    · split
      · exact g_goPanic _ _
      · exact g_runtimePanic _ _
  | _ => exact good_halt _ trivial
theorem okOp_good {ρ : Operand → Value} (hc : ∀ c, ρ (.const c) = c) (hf : ∀ f, ρ (.func f) = .func (.func f) #[] #[]) (o : Oper) (h : okOp P L o.op = true) : Good P rs (execOp ρ o) ∧ Nexts P L (execOp ρ o) := by
  cases ho : o.op with
  | nilCheck x => exact ⟨g_nilCheck o x ho, n_nilCheck o x ho⟩
  | move x => unfold execOp; simp only [ho]; exact ⟨good_pure _ _, fun v x v' hx => by simp only [Sem.run_pure, Result.ok.injEq] at hx; rw [← hx.1]; trivial⟩
  | assign x => unfold execOp; simp only [ho]; exact ⟨good_pure _ _, fun v x v' hx => by simp only [Sem.run_pure, Result.ok.injEq] at hx; rw [← hx.1]; trivial⟩
  | pick c a b =>
    unfold execOp; simp only [ho]
    refine ⟨good_bind (g_asBool _ _) fun _ => good_pure _ _, fun v x v' hx => ?_⟩
    rw [Sem.run_bind] at hx
    cases hs : (asBool (ρ c)).run P v with
    | ok t v1 => rw [hs] at hx; simp only [Result.andThen_ok, Sem.run_pure, Result.ok.injEq] at hx; rw [← hx.1]; trivial
    | halt a v1 => rw [hs] at hx; cases hx
  | panic x => unfold execOp; simp only [ho]; exact ⟨v_good (g_panic _), v_next _⟩
  | alloc t => unfold execOp; simp only [ho]; exact ⟨v_good (g_alloc _ _ _ _), v_next _⟩
  | box t x => unfold execOp; simp only [ho]; exact ⟨v_good (g_box _ _ _), v_next _⟩
  | build t x => unfold execOp; simp only [ho]; exact ⟨v_good (g_build _ _ _), v_next _⟩
  | buildSlice t n x => unfold execOp; simp only [ho]; exact ⟨v_good (g_buildSlice _ _ _ _), v_next _⟩
  | load t x => unfold execOp; simp only [ho]; exact ⟨v_good (g_loadAt _ _ _), v_next _⟩
  | store t x y => unfold execOp; simp only [ho]; exact ⟨u_good (g_storeAt _ _ _ _), u_next _⟩
  | unOp op t x => unfold execOp; simp only [ho]; exact ⟨v_good (g_unary _ _ _), v_next _⟩
  | makeInterface t x => unfold execOp; simp only [ho]; exact ⟨v_good (g_makeInterface _ _ _), v_next _⟩
  | makeFunc f a b => unfold execOp; simp only [ho]; exact ⟨v_good (g_makeFunc _ _ _ _), v_next _⟩
  | makeMap t r => unfold execOp; simp only [ho]; exact ⟨v_good (g_makeMap _ _ _), v_next _⟩
  | makeChan t r => unfold execOp; simp only [ho]; exact ⟨v_good (g_makeChan _ _ _), v_next _⟩
  | slice t x a b c => unfold execOp; simp only [ho]; exact ⟨v_good (g_sliceAt _ _ _ _ _ _), v_next _⟩
  | fieldAddr t x f => unfold execOp; simp only [ho]; exact ⟨v_good (g_fieldAt _ _ _ _), v_next _⟩
  | field t x f => unfold execOp; simp only [ho]; exact ⟨v_good (g_field _ _ _ _), v_next _⟩
  | indexAddr t x i => unfold execOp; simp only [ho]; exact ⟨v_good (g_indexAt _ _ _ _), v_next _⟩
  | index t x i => unfold execOp; simp only [ho]; exact ⟨v_good (g_index _ _ _ _), v_next _⟩
  | typeAssert x s t ok => unfold execOp; simp only [ho]; exact ⟨v_good (g_typeAssert _ _ _ _ _), v_next _⟩
  | extract t i => unfold execOp; simp only [ho]; exact ⟨v_good (g_extract _ _ _), v_next _⟩
  | binOp op t x y t' => unfold execOp; simp only [ho]; rw [ho] at h; exact ⟨v_good (g_binop_op hc op t x y h), v_next _⟩
  | convert s d x =>
    rw [ho] at h; simp only [okOp, Bool.and_eq_true] at h
    obtain ⟨k, hk⟩ := isInt_of h.1
    obtain ⟨k', hk'⟩ := isInt_of h.2
    unfold execOp; simp only [ho]; exact ⟨v_good (g_convert _ hk hk' _), v_next _⟩
  | lookup t x i ok =>
    rw [ho] at h; obtain ⟨k, e, i', hk, hi⟩ := isIntMap_of h
    unfold execOp; simp only [ho]; exact ⟨v_good (g_lookup _ hk hi _ _ _), v_next _⟩
  | mapUpdate t m k x =>
    rw [ho] at h; obtain ⟨k', e, i', hk, hi⟩ := isIntMap_of h
    unfold execOp; simp only [ho]; exact ⟨u_good (g_mapUpdate _ hk hi _ _ _), u_next _⟩
  | call c =>
    rw [ho] at h
    simp only [okOp] at h
    unfold execOp; simp only [ho]
    unfold resolve
    split at h
    · rename_i f hcal
      simp only [hcal, hf, Deferred.ofValue]
      exact g_callFunc h _
    · rename_i b hcal
      simp only [hcal]
      exact g_builtin (by simpa using h) _ _
    · cases h
  | _ => rw [ho] at h; simp [okOp] at h
end
end Go.Proofs.Ytolnmdanlggmhaa

/- One step of a stack of frames whose code is ours (okL), in two worlds. -/
namespace Go.Proofs.Ytolnmdanlggmhaa
open Go.Conc

section
variable (P : Program) (L : List FuncId)
def okCode : Code → Bool
  | .skip | .exit _ | .ret => true
  | .region _ ops _ => ops.all fun o => okOp P L o.op
  | .seq a b => okCode a && okCode b
  | .cond _ a b => okCode a && okCode b
  | .block _ c => okCode c
  | .loop c => okCode c
  | _ => false
def okItem : Item → Bool
  | .code c => okCode P L c
  | .inBlock _ => true
  | .inLoop c => okCode P L c
  | .inRegion ops l => l.all fun i => match ops[i]? with
    | some o => okOp P L o.op
    | none => true
  | _ => false
def okFn (f : FuncId) : Bool :=
  match P.funcs[f]? with
  | some fn => match fn.body with
    | some c => okCode P L c
    | none => false
  | none => false
def okL : Bool := L.all fun f => okFn P L f

structure okFr (fr : Frame) : Prop where
  fn : ∃ fn, P.funcs[fr.fn]? = some fn
  todo : ∀ x ∈ fr.todo, okItem P L x = true
  kind : fr.kind = .normal
  round : fr.roundOf = none
  defers : fr.defers = []
end

abbrev Stack := Frame × List Frame
/-- It waits for what an operation's call yields. -/
def Waits (fr : Frame) : Prop := ∃ ops i rest k, fr.todo = .inRegion ops (i :: rest) :: k
def okS (P : Program) (L : List FuncId) (s : Stack) : Prop := okFr P L s.1 ∧ ∀ c ∈ s.2, okFr P L c ∧ Waits c
/-- THE LAST FRAME AS IT IS IN COMPANY: of another kind, with more to do behind, and with deferred calls. -/
def up (κ : CallKind) (k : List Item) (ds : List Deferred) (fr : Frame) : Frame := { fr with kind := κ, todo := fr.todo ++ k, defers := fr.defers ++ ds }
def upL (U : Frame → Frame) : List Frame → List Frame
  | [] => []
  | [c] => [U c]
  | c :: d :: cs => c :: upL U (d :: cs)
def top (U : Frame → Frame) (s : Stack) : Frame := match s.2 with
  | [] => U s.1
  | _ :: _ => s.1
/-- 'seg': a stretch of code in a frame that goes on behind it; else a frame of a whole call. -/
def Lifts (seg : Bool) (U : Frame → Frame) : Prop := ∃ κ k ds, U = up κ k ds ∧ κ ≠ .early ∧ (seg = false → κ = .normal ∧ k = [] ∧ ds = [])
def Leaf (seg : Bool) (s : Stack) : Prop := s.2 = [] ∧ (s.1.mode ≠ .run ∨ (seg = true ∧ s.1.todo = []))
/-- The step, whatever lies beneath and behind. -/
def Stk (P : Program) (seg : Bool) (s : Stack) (v : World) (s' : Stack) (v' : World) (es : Array Event) : Prop :=
  ∀ main bs U, Lifts seg U → stepG P main (G (top U s) (upL U s.2 ++ bs)) v = .go (G (top U s') (upL U s'.2 ++ bs)) v' es
def Dead (P : Program) (s : Stack) (v : World) : Prop := ∀ main bs, ∃ o w es, stepG P main (G s.1 (s.2 ++ bs)) v = .ended o w es

theorem up_self (fr : Frame) : up fr.kind [] [] fr = fr := by simp [up]
theorem lifts_self : Lifts false (up .normal [] []) := ⟨_, _, _, rfl, by simp, fun _ => ⟨rfl, rfl, rfl⟩⟩
theorem exitTo_app {id : Nat} (k : List Item) : ∀ {t t' : List Item}, exitTo id t = some t' → exitTo id (t ++ k) = some (t' ++ k) := by
  intro t
  induction t with
  | nil => intro t' h; simp [exitTo] at h
  | cons y t ih =>
    intro t' h
    cases y with
    | inBlock id' =>
      simp only [exitTo] at h
      simp only [List.cons_append, exitTo]
      split at h
      · rename_i he; injection h with h; subst h; rw [if_pos he]
      · rename_i he; rw [if_neg he]; exact ih h
    | _ => simp only [exitTo] at h; simp only [List.cons_append, exitTo]; exact ih h
theorem up_finish {κ : CallKind} {k : List Item} {ds : List Deferred} {fr : Frame} (h : Waits fr) (z : Value) : (up κ k ds fr).finish z = up κ k ds (fr.finish z) := by
  obtain ⟨ops, i, rest, k', he⟩ := h
  simp [up, Frame.finish, he]
theorem up_raise {κ : CallKind} {k : List Item} {ds : List Deferred} {fr : Frame} (z : List PanicEntry) : (up κ k ds fr).raise z = up κ k ds (fr.raise z) := by
  unfold Frame.raise up
  cases fr.mode <;> rfl

section
variable {P : Program} {L : List FuncId} {Z : Addr → Prop} {fr : Frame} {cs : List Frame} {main : Bool} {v w : World}

theorem okL_fn (hL : okL P L = true) {f : FuncId} (hf : f ∈ L) : ∃ fn c, P.funcs[f]? = some fn ∧ fn.body = some c ∧ okCode P L c = true := by
  have h := List.all_eq_true.1 hL f hf
  unfold okFn at h
  split at h
  · split at h
    · exact ⟨_, _, ‹_›, ‹_›, h⟩
    · cases h
  · cases h

theorem okFr_enter (hL : okL P L = true) {f : FuncId} (hf : f ∈ L) (args : Array Value) : okFr P L (Frame.enter P f args .normal) := by
  obtain ⟨fn, c, h1, h2, h3⟩ := okL_fn hL hf
  refine ⟨⟨fn, h1⟩, fun x hx => ?_, rfl, rfl, rfl⟩
  simp only [Frame.enter, h1, Option.bind_some, h2, Option.getD_some, List.mem_cons, List.not_mem_nil, or_false] at hx
  subst hx
  exact h3

theorem okFr.with {fr : Frame} (h : okFr P L fr) {todo : List Item} (ht : ∀ x ∈ todo, okItem P L x = true) {tmps : Array Value} {mode : FrameMode} : okFr P L { fr with tmps, todo, mode } := ⟨h.fn, ht, h.kind, h.round, h.defers⟩
theorem okFr.finish {fr : Frame} (h : okFr P L fr) (x : Value) : okFr P L (fr.finish x) := by
  unfold Frame.finish
  split
  · rename_i ops i rest k he
    refine ⟨h.fn, fun y hy => ?_, h.kind, h.round, h.defers⟩
    rcases List.mem_cons.1 hy with rfl | hy
    · have := h.todo (.inRegion ops (i :: rest)) (by rw [he]; exact List.mem_cons_self)
      simp only [okItem, List.all_cons, Bool.and_eq_true] at this ⊢
      exact this.2
    · exact h.todo y (by rw [he]; exact List.mem_cons_of_mem _ hy)
  · rename_i l k he
    have := h.todo (.inRangeFunc l) (by rw [he]; exact List.mem_cons_self)
    cases this
  · rename_i k he
    have := h.todo .beginRound (by rw [he]; exact List.mem_cons_self)
    cases this
  · rename_i a b c d k he
    have := h.todo (.call a b c d) (by rw [he]; exact List.mem_cons_self)
    cases this
  · rename_i a b k he
    have := h.todo _ (by rw [he]; exact List.mem_cons_self)
    cases this
  · exact h
theorem okFr.raise {fr : Frame} (h : okFr P L fr) (x : List PanicEntry) : okFr P L (fr.raise x) := by
  unfold Frame.raise
  split <;> exact ⟨h.fn, h.todo, h.kind, h.round, h.defers⟩

theorem exitTo_sub {id : Nat} : ∀ {k k' : List Item}, exitTo id k = some k' → ∀ x ∈ k', x ∈ k := by
  intro k
  induction k with
  | nil => intro k' h; simp [exitTo] at h
  | cons y k ih =>
    intro k' h x hx
    cases y with
    | inBlock id' =>
      simp only [exitTo] at h
      split at h
      · injection h with h; subst h; exact List.mem_cons_of_mem _ hx
      · exact List.mem_cons_of_mem _ (ih h x hx)
    | _ => simp only [exitTo] at h; exact List.mem_cons_of_mem _ (ih h x hx)

theorem stepG_run (h : fr.mode = .run) : stepG P main (G fr cs) w = stepG.exec P main true fr cs none w := by
  simp [G, stepG, h]
theorem stepG_unw (h : fr.mode ≠ .run) : stepG P main (G fr cs) w = unwind P main fr cs none w := by
  cases hm : fr.mode with
  | run => exact absurd hm h
  | _ => simp [G, stepG, hm]

/-- The step is one in both worlds. -/
structure Sims (P : Program) (L : List FuncId) (seg : Bool) (s : Stack) (v : World) (s' : Stack) (v' : World) : Prop where
  drawn : v.drawn ≤ v'.drawn
  tape : v'.tape = v.tape
  noview : NoView v'
  ok : okS P L s'
  lone : ∃ es, Stk P seg s v s' v' es
  both : ∀ X Z w, Sim X Z v w → Win v w (v'.drawn - v.drawn) → ∃ w' es, Stk P seg s w s' w' es ∧ Sim X Z v' w' ∧ w'.tape = w.tape ∧ w'.drawn = w.drawn + (v'.drawn - v.drawn) ∧ Kept Z w w' ∧ ∀ x ∈ es, EvIn Z w'.heap.size x

/-- A step of the top frame alone. -/
theorem stk_top {seg : Bool} {fr' : Frame} {v' : World} {es : Array Event} (hk : fr.kind = .normal) (hk' : fr'.kind = .normal) (h : ∀ main bs κ k ds, κ ≠ .early → ((seg = false ∨ cs ≠ []) → k = []) → stepG P main (G (up κ k ds fr) bs) v = .go (G (up κ k ds fr') bs) v' es) : Stk P seg (fr, cs) v (fr', cs) v' es := by
  intro main bs U ⟨κ, k, ds, hU, hκ, hs⟩
  cases cs with
  | nil => subst hU; exact h main bs κ k ds hκ fun e => e.elim (fun e => (hs e).2.1) (fun e => absurd rfl e)
  | cons c cs =>
    have := h main (upL U (c :: cs) ++ bs) .normal [] [] (by simp) (fun _ => rfl)
    rw [show up .normal [] [] fr = fr by rw [← hk]; exact up_self fr, show up .normal [] [] fr' = fr' by rw [← hk']; exact up_self fr'] at this
    exact this
/-- A step that lays a frame on the top. -/
theorem stk_push {seg : Bool} {en : Frame} {v' : World} {es : Array Event} (hk : fr.kind = .normal) (h : ∀ main bs κ k ds, κ ≠ .early → stepG P main (G (up κ k ds fr) bs) v = .go (G en (up κ k ds fr :: bs)) v' es) : Stk P seg (fr, cs) v (en, fr :: cs) v' es := by
  intro main bs U ⟨κ, k, ds, hU, hκ, hs⟩
  cases cs with
  | nil => subst hU; exact h main bs κ k ds hκ
  | cons c cs =>
    have := h main (upL U (c :: cs) ++ bs) .normal [] [] (by simp)
    rw [show up .normal [] [] fr = fr by rw [← hk]; exact up_self fr] at this
    exact this
/-- A step that takes the top frame away. -/
theorem stk_pop {seg : Bool} {c c' : Frame} {v' : World} {es : Array Event} (hc : c.kind = .normal) (hc' : c'.kind = .normal) (h : ∀ main bs κ k ds, κ ≠ .early → stepG P main (G fr (up κ k ds c :: bs)) v = .go (G (up κ k ds c') bs) v' es) : Stk P seg (fr, c :: cs) v (c', cs) v' es := by
  intro main bs U ⟨κ, k, ds, hU, hκ, hs⟩
  cases cs with
  | nil => subst hU; exact h main bs κ k ds hκ
  | cons d cs =>
    have := h main (upL U (d :: cs) ++ bs) .normal [] [] (by simp)
    rw [show up .normal [] [] c = c by rw [← hc]; exact up_self c, show up .normal [] [] c' = c' by rw [← hc']; exact up_self c'] at this
    exact this

theorem sims_still {seg : Bool} {s s' : Stack} (hn : NoView v) (hs : okS P L s') (h : ∀ u, Stk P seg s u s' u #[]) : Sims P L seg s v s' v :=
  ⟨Nat.le_refl _, rfl, hn, hs, ⟨_, h v⟩, fun X Z w hw _ => ⟨w, _, h w, hw, rfl, by simp, Kept.refl _ _, by simp⟩⟩

theorem sims_term {α : Type} {seg : Bool} {e : Sem α} {s s' : Stack} {v' : World} {f : FuncId} {r : World → Result α} (hg : Good P [] e) (hn : NoView v) (hs : okS P L s') (hl : lives (e.run P v) = some v') (hr : e.run P v = r v') (hrw : ∀ w', rwith (r v') w' = r w')
    (h : ∀ u u', e.run P u = r u' → Stk P seg s u s' u' (seen P f (e.events P u #[]))) : Sims P L seg s v s' v' := by
  obtain ⟨d, t, n⟩ := hg.lone v hn v' hl
  refine ⟨d, t, n, hs, ⟨_, h v v' hr⟩, fun X Z w hw hwin => ?_⟩
  obtain ⟨w', new, r1, e1, s1, t1, d1, k1, o1⟩ := hg.both X Z v w hw (by simp) v' hl hwin
  refine ⟨w', _, h w w' (by rw [r1, hr, hrw]), s1, t1, d1, k1, fun x hx => ?_⟩
  have := mem_seen hx
  rw [e1] at this
  exact o1 x (by simpa using this)

theorem results_good (fn : Func) (tmps : Array Value) : Good P [] (results fn tmps) := by
  unfold results
  refine good_bind (g_mapM _ _ (fun x => ?_) _) fun _ => ?_
  · cases x with
    | tmp t => exact good_pure _ _
    | cell a t => exact good_bind (g_asAddr _ _) fun _ => g_loadVar _ _ _
  · exact good_pure _ _

/-- The step of an operation. -/
theorem op_step {seg : Bool} {ops : Array Oper} {i : Nat} {rest : List Nat} {k : List Item} {cs : List Frame} {o : Oper} (hL : okL P L = true) (hm : fr.mode = .run) (hfr : okFr P L fr) (hcs : ∀ c ∈ cs, okFr P L c ∧ Waits c) (ht : fr.todo = .inRegion ops (i :: rest) :: k) (ho : ops[i]? = some o) (hw : Region.wanted o (yielded ops fr.tmps) = true) (hn : NoView v) :
    Dead P (fr, cs) v ∨ ∃ s' v', Sims P L seg (fr, cs) v s' v' := by
  have hok : okOp P L o.op = true := by
    have := hfr.todo _ (by rw [ht]; exact List.mem_cons_self)
    simp only [okItem, List.all_cons, Bool.and_eq_true, ho] at this
    exact this.1
  have hwt : Waits fr := ⟨_, _, _, _, ht⟩
  obtain ⟨hg, hnx⟩ := okOp_good (P := P) (L := L) (rs := []) (ρ := fr.eval) (fun _ => rfl) (fun _ => rfl) o hok
  have hstep : ∀ u main bs κ k' ds, stepG P main (G (up κ k' ds fr) bs) u = stepG.apply P true (up κ k' ds fr) bs none (execOp fr.eval o) u := by
    intro u main bs κ k' ds
    have hm' : (up κ k' ds fr).mode = .run := hm
    have he : (up κ k' ds fr).eval = fr.eval := by funext x; cases x <;> rfl
    have ht' : (up κ k' ds fr).todo = .inRegion ops (i :: rest) :: (k ++ k') := by simp [up, ht]
    have hr' : (up κ k' ds fr).roundOf = none := hfr.round
    have hw' : Region.wanted o (yielded ops (up κ k' ds fr).tmps) = true := hw
    rw [stepG_run hm']
    simp [stepG.exec, ht', ho, hw', stepG.oper, Frame.oper?, hr', he]
  have hc := hg.calm v hn
  cases hr : (execOp fr.eval o).run P v with
  | ok x v' =>
    have hx := hnx v x v' hr
    cases x with
    | value z =>
      refine .inr ⟨(fr.finish z, cs), v', sims_term (f := fr.fn) (r := fun w => .ok (.value z) w) hg hn ⟨hfr.finish z, hcs⟩ (by rw [hr]; rfl) hr (fun _ => rfl) fun u u' hu => stk_top hfr.kind (hfr.finish z).kind fun main bs κ k' ds hκ _ => ?_⟩
      have hkind : ((up κ k' ds fr).kind == CallKind.early) = false := by simpa [up] using hκ
      rw [hstep, ← up_finish hwt]
      simp [stepG.apply, hu, hkind, GStep.after, G]
      rfl
    | skip =>
      refine .inr ⟨(fr.finish undef, cs), v', sims_term (f := fr.fn) (r := fun w => .ok .skip w) hg hn ⟨hfr.finish undef, hcs⟩ (by rw [hr]; rfl) hr (fun _ => rfl) fun u u' hu => stk_top hfr.kind (hfr.finish undef).kind fun main bs κ k' ds hκ _ => ?_⟩
      have hkind : ((up κ k' ds fr).kind == CallKind.early) = false := by simpa [up] using hκ
      rw [hstep, ← up_finish hwt]
      simp [stepG.apply, hu, hkind, GStep.after, G]
      rfl
    | enter f args =>
      refine .inr ⟨(Frame.enter P f args .normal, fr :: cs), v', sims_term (f := fr.fn) (r := fun w => .ok (.enter f args) w) hg hn ⟨okFr_enter hL hx args, fun c hc => ?_⟩ (by rw [hr]; rfl) hr (fun _ => rfl) fun u u' hu => stk_push hfr.kind fun main bs κ k' ds hκ => ?_⟩
      · rcases List.mem_cons.1 hc with rfl | hc
        · exact ⟨hfr, hwt⟩
        · exact hcs c hc
      have hkind : ((up κ k' ds fr).kind == CallKind.early) = false := by simpa [up] using hκ
      have ht' : (up κ k' ds fr).todo = .inRegion ops (i :: rest) :: (k ++ k') := by simp [up, ht]
      rw [hstep]
      simp [stepG.apply, hu, hkind, GStep.after, G, ht']
      rfl
    | _ => exact hx.elim
  | halt x v' =>
    rw [hr] at hc
    have hstep0 : ∀ main bs, stepG P main (G fr (cs ++ bs)) v = stepG.apply P true fr (cs ++ bs) none (execOp fr.eval o) v := fun main bs => by
      have := hstep v main (cs ++ bs) fr.kind [] []
      rwa [up_self] at this
    have hkind : (fr.kind == CallKind.early) = false := by rw [hfr.kind]; rfl
    cases x with
    | panic z =>
      refine .inr ⟨(fr.raise [{ v := z, recovered := false }], cs), v', sims_term (f := fr.fn) (r := fun w => .halt (.panic z) w) hg hn ⟨hfr.raise _, hcs⟩ (by rw [hr]; rfl) hr (fun _ => rfl) fun u u' hu => stk_top hfr.kind (hfr.raise _).kind fun main bs κ k' ds hκ _ => ?_⟩
      have hkind : ((up κ k' ds fr).kind == CallKind.early) = false := by simpa [up] using hκ
      rw [hstep, ← up_raise]
      simp [stepG.apply, hu, hkind, GStep.after, G]
      rfl
    | stuck z =>
      refine .inl fun main bs => ⟨.stuck z (fr.pos P), v', seen P fr.fn ((execOp fr.eval o).events P v #[]), ?_⟩
      rw [hstep0]
      simp [stepG.apply, hr, hkind, GStep.after]
    | unsupported z =>
      cases z with
      | initOrder g => exact hc.elim
      | _ =>
        refine .inl fun main bs => ?_
        rw [hstep0]
        simp [stepG.apply, hr, hkind, GStep.after]
    | _ => exact hc.elim

/-- ONE STEP OF A STACK OF OURS: it is about to leave its last frame (or, of a stretch, has come to its end), or it ends the run, or it steps in both worlds. -/
theorem step_tri {seg : Bool} (hL : okL P L = true) {s : Stack} (hs : okS P L s) (hn : NoView v) : Leaf seg s ∨ Dead P s v ∨ ∃ s' v', Sims P L seg s v s' v' := by
  obtain ⟨fr, cs⟩ := s
  obtain ⟨hfr, hcs⟩ := hs
  simp only at hfr hcs
  have items : ∀ {x : Item} {k : List Item}, fr.todo = x :: k → okItem P L x = true ∧ ∀ y ∈ k, okItem P L y = true := fun ht =>
    ⟨hfr.todo _ (by rw [ht]; exact List.mem_cons_self), fun y hy => hfr.todo y (by rw [ht]; exact List.mem_cons_of_mem _ hy)⟩
  by_cases hm : fr.mode = .run
  · have hm' : ∀ κ k ds, (up κ k ds fr).mode = .run := fun _ _ _ => hm
    have hr' : ∀ κ k ds, (up κ k ds fr).roundOf = none := fun _ _ _ => hfr.round
    have he' : ∀ κ k ds, (up κ k ds fr).eval = fr.eval := fun _ _ _ => by funext x; cases x <;> rfl
    have htm : ∀ κ k ds, (up κ k ds fr).tmps = fr.tmps := fun _ _ _ => rfl
    -- a step of control
    have ctl : ∀ todo : List Item, (∀ y ∈ todo, okItem P L y = true) → (∀ main bs u κ k ds, κ ≠ .early → stepG.exec P main true (up κ k ds fr) bs none u = .go (G (up κ k ds { fr with todo }) bs) u) → Dead P (fr, cs) v ∨ ∃ s' v', Sims P L seg (fr, cs) v s' v' := fun todo hto h =>
      .inr ⟨({ fr with todo }, cs), v, sims_still hn ⟨⟨hfr.fn, hto, hfr.kind, hfr.round, hfr.defers⟩, hcs⟩ fun u => stk_top hfr.kind hfr.kind fun main bs κ k ds hκ _ => by rw [stepG_run (hm' _ _ _), h _ _ _ _ _ _ hκ]⟩
    have dead : (∀ main bs u, ∃ o w es, stepG.exec P main true fr bs none u = .ended o w es) → Dead P (fr, cs) v ∨ ∃ s' v', Sims P L seg (fr, cs) v s' v' := fun h => .inl fun main bs => by rw [stepG_run hm]; exact h main _ v
    cases ht : fr.todo with
    | nil =>
      by_cases hseg : seg = true ∧ cs = []
      · exact .inl ⟨hseg.2, .inr ⟨hseg.1, ht⟩⟩
      · refine .inr (.inr ⟨({ fr with mode := .returning }, cs), v, sims_still hn ⟨⟨hfr.fn, hfr.todo, hfr.kind, hfr.round, hfr.defers⟩, hcs⟩ fun u => stk_top hfr.kind hfr.kind fun main bs κ k ds hκ hk => ?_⟩)
        have hk0 : k = [] := hk (by
          by_cases h1 : seg = true
          · exact .inr fun h2 => hseg ⟨h1, h2⟩
          · exact .inl (by simpa using h1))
        subst hk0
        have ht' : (up κ [] ds fr).todo = [] := by simp [up, ht]
        rw [stepG_run (hm' _ _ _)]
        simp [stepG.exec, ht', hr', G]
        simp [up, ht, hfr.round]
    | cons x k =>
      have ht' : ∀ κ k' ds, (up κ k' ds fr).todo = x :: (k ++ k') := fun _ _ _ => by simp [up, ht]
      obtain ⟨hx, hk⟩ := items ht
      right
      cases x with
      | code c =>
        cases c with
        | ret =>
          refine .inr ⟨({ fr with mode := .returning }, cs), v, sims_still hn ⟨⟨hfr.fn, hfr.todo, hfr.kind, hfr.round, hfr.defers⟩, hcs⟩ fun u => stk_top hfr.kind hfr.kind fun main bs κ k ds hκ _ => ?_⟩
          rw [stepG_run (hm' _ _ _)]
          simp [stepG.exec, ht', hr', G]
          simp [up, ht, hfr.round]
        | skip => exact ctl k hk fun main bs u κ k ds _ => by simp [stepG.exec, ht', G]; rfl
        | seq a b =>
          simp only [okItem, okCode, Bool.and_eq_true] at hx
          exact ctl (.code a :: .code b :: k) (fun y hy => by
            rcases List.mem_cons.1 hy with rfl | hy
            · exact hx.1
            · rcases List.mem_cons.1 hy with rfl | hy
              · exact hx.2
              · exact hk y hy) fun main bs u κ k ds _ => by simp [stepG.exec, ht', G]; rfl
        | cond c a b =>
          simp only [okItem, okCode, Bool.and_eq_true] at hx
          cases hc : fr.eval c with
          | bool t =>
            exact ctl (.code (if t then a else b) :: k) (fun y hy => by
              rcases List.mem_cons.1 hy with rfl | hy
              · cases t
                · exact hx.2
                · exact hx.1
              · exact hk y hy) fun main bs u κ k ds _ => by simp [stepG.exec, ht', he', hc, G]; rfl
          | _ => exact dead fun main bs u => by simp [stepG.exec, ht, hc]
        | block id c =>
          exact ctl (.code c :: .inBlock id :: k) (fun y hy => by
            rcases List.mem_cons.1 hy with rfl | hy
            · exact hx
            · rcases List.mem_cons.1 hy with rfl | hy
              · rfl
              · exact hk y hy) fun main bs u κ k ds _ => by simp [stepG.exec, ht', G]; rfl
        | loop c =>
          exact ctl (.code c :: .inLoop c :: k) (fun y hy => by
            rcases List.mem_cons.1 hy with rfl | hy
            · exact hx
            · rcases List.mem_cons.1 hy with rfl | hy
              · exact hx
              · exact hk y hy) fun main bs u κ k ds _ => by simp [stepG.exec, ht', G]; rfl
        | exit id =>
          cases he : exitTo id k with
          | some k' => exact ctl k' (fun y hy => hk y (exitTo_sub he y hy)) fun main bs u κ k ds _ => by simp [stepG.exec, ht', exitTo_app k he, G]; rfl
          | none => exact dead fun main bs u => by simp [stepG.exec, ht, he, hfr.round]
        | region id ops draw =>
          have hall : ∀ (i : Nat) (o : Oper), ops[i]? = some o → okOp P L o.op = true := fun i o ho => by
            simp only [okItem, okCode, Array.all_eq_true_iff_forall_mem] at hx
            exact hx o (Array.mem_of_getElem? ho)
          have hin : ∀ l : List Nat, okItem P L (.inRegion ops l) = true := fun l => by
            simp only [okItem, List.all_eq_true]
            intro i _
            cases ho : ops[i]? with
            | none => rfl
            | some o => exact hall i o ho
          cases draw with
          | false =>
            exact ctl (.inRegion ops (List.range ops.size) :: k) (fun y hy => by
              rcases List.mem_cons.1 hy with rfl | hy
              · exact hin _
              · exact hk y hy) fun main bs u κ k ds _ => by simp [stepG.exec, ht', G]; rfl
          | true =>
            have hch : ∀ u : World, (choose (.order fr.fn id)).run P u = .ok (u.tape u.drawn (.order fr.fn id)) { u with drawn := u.drawn + 1 } := fun u => by
              simp [choose, Sem.run, Question.forced, Question.cut]
            refine .inr ⟨({ fr with todo := .inRegion ops (Region.schedule (P.follows .mixedOrders) ops (v.tape v.drawn (.order fr.fn id))) :: k }, cs), { v with drawn := v.drawn + 1 },
              sims_term (e := choose (.order fr.fn id)) (f := fr.fn) (r := fun w => .ok (v.tape v.drawn (.order fr.fn id)) w) (good_choose _ _) hn ⟨⟨hfr.fn, fun y hy => ?_, hfr.kind, hfr.round, hfr.defers⟩, hcs⟩ (by rw [hch]; rfl) (hch v) (fun _ => rfl) fun u u' hu => stk_top hfr.kind hfr.kind fun main bs κ k' ds _ _ => ?_⟩
            · rcases List.mem_cons.1 hy with rfl | hy
              · exact hin _
              · exact hk y hy
            · have hev : (choose (.order fr.fn id)).events P u #[] = #[] := by simp [choose, Sem.events, Sem.runT, -Sem.runT_eq, Question.forced]
              have hfn : (up κ k' ds fr).fn = fr.fn := rfl
              rw [stepG_run (hm' _ _ _)]
              simp [stepG.exec, ht', hfn, hu, hev, seen_none, G]
              rfl
        | _ => simp [okItem, okCode] at hx
      | inBlock id => exact ctl k hk fun main bs u κ k ds _ => by simp [stepG.exec, ht', G]; rfl
      | inLoop c =>
        exact ctl (.code c :: .inLoop c :: k) (fun y hy => by
          rcases List.mem_cons.1 hy with rfl | hy
          · exact hx
          · rcases List.mem_cons.1 hy with rfl | hy
            · exact hx
            · exact hk y hy) fun main bs u κ k ds _ => by simp [stepG.exec, ht', G]; rfl
      | inRegion ops todo =>
        cases todo with
        | nil => exact ctl k hk fun main bs u κ k ds _ => by simp [stepG.exec, ht', G]; rfl
        | cons i rest =>
          by_cases hw : ((ops[i]?).map (Region.wanted · (yielded ops fr.tmps))).getD false = true
          · cases ho : ops[i]? with
            | none => rw [ho] at hw; cases hw
            | some o =>
              rw [ho] at hw
              exact op_step hL hm hfr hcs ht ho hw hn
          · refine .inr ⟨(fr.finish undef, cs), v, sims_still hn ⟨hfr.finish _, hcs⟩ fun u => stk_top hfr.kind (hfr.finish _).kind fun main bs κ k' ds _ _ => ?_⟩
            rw [stepG_run (hm' _ _ _), ← up_finish ⟨_, _, _, _, ht⟩]
            simp [stepG.exec, ht', htm, hw, G]
      | _ => simp [okItem] at hx
  · -- it leaves
    cases cs with
    | nil => exact .inl ⟨rfl, .inl hm⟩
    | cons c cs =>
      right
      obtain ⟨fn, hfn⟩ := hfr.fn
      obtain ⟨hc, hwt⟩ := hcs c List.mem_cons_self
      have hcs' : ∀ c ∈ cs, okFr P L c ∧ Waits c := fun x hx => hcs x (List.mem_cons_of_mem _ hx)
      cases hmode : fr.mode with
      | run => exact absurd hmode hm
      | panicking chain =>
        refine .inr ⟨(c.raise chain, cs), v, sims_still hn ⟨hc.raise _, hcs'⟩ fun u => stk_pop hc.kind (hc.raise _).kind fun main bs κ k ds _ => ?_⟩
        rw [stepG_unw hm, ← up_raise]
        simp [unwind, hfr.defers, hmode, Frame.catches, hfn, G]
      | returning =>
        have hg := results_good (P := P) fn fr.tmps
        have hcalm := hg.calm v hn
        cases hr : (results fn fr.tmps).run P v with
        | ok z v' =>
          refine .inr ⟨(c.finish z, cs), v', sims_term (f := fr.fn) (r := fun w => .ok z w) hg hn ⟨hc.finish z, hcs'⟩ (by rw [hr]; rfl) hr (fun _ => rfl) fun u u' hu => stk_pop hc.kind (hc.finish _).kind fun main bs κ k ds _ => ?_⟩
          rw [stepG_unw hm, ← up_finish hwt]
          simp [unwind, hfr.defers, hmode, hfn, hu, doReturn, hfr.kind, GStep.after, G]
        | halt x v' =>
          refine .inl fun main bs => ?_
          rw [stepG_unw hm]
          cases x <;> simp [unwind, hfr.defers, hmode, hfn, hr, GStep.after]
end
end Go.Proofs.Ytolnmdanlggmhaa

/- From 'the lone run ends, on whatever tape' to a well-founded tree of steps. -/
namespace Go.Proofs.Ytolnmdanlggmhaa
open Go.Conc

/-- The frame beneath: coming back to it ends the run. -/
def dead (P : Program) : Frame := { fn := P.funcs.size, tmps := #[undef], todo := [.code (.refuse "no")], defers := [{ target := .nil, args := #[] }], mode := .run, kind := .normal }
def LM (P : Program) (s : Stack) (w : World) : Machine := lone s.1 (s.2 ++ [dead P]) w
def tp (w : World) (A : Nat → Question → Nat) (d : Nat) : World := { w with tape := A, drawn := d }

section
variable {P : Program} {L : List FuncId} {s s' : Stack} {u v w w' : World}

theorem upL_id : ∀ {cs : List Frame}, (∀ c ∈ cs, c.kind = .normal) → upL (up .normal [] []) cs = cs
  | [], _ => rfl
  | [c], h => by
    show [up .normal [] [] c] = [c]
    rw [← h c (by simp), up_self]
  | c :: d :: cs, h => by
    show c :: upL _ (d :: cs) = _
    rw [upL_id fun x hx => h x (List.mem_cons_of_mem _ hx)]
theorem top_id {s : Stack} (h : s.1.kind = .normal) : top (up .normal [] []) s = s.1 := by
  unfold top
  split
  · rw [← h, up_self]
  · rfl
theorem lifts_id {seg : Bool} : Lifts seg (up .normal [] []) := ⟨_, _, _, rfl, by simp, fun _ => ⟨rfl, rfl, rfl⟩⟩
theorem lm_step {seg : Bool} {es : Array Event} (hs : okS P L s) (hs' : okS P L s') (h : Stk P seg s w s' w' es) : step P (LM P s w) = .next (LM P s' w') := by
  refine step_lone_go ?_
  have := h true [dead P] _ lifts_id
  rw [top_id hs.1.kind, top_id hs'.1.kind, upL_id fun c hc => (hs.2 c hc).1.kind, upL_id fun c hc => (hs'.2 c hc).1.kind] at this
  unfold G at this
  rw [this]
  rfl
theorem lm_dead (h : Dead P s w) : ∃ o w', step P (LM P s w) = .ended o w' := by
  obtain ⟨o, w', es, h⟩ := h true [dead P]
  refine ⟨o, w', step_lone_ended ?_⟩
  unfold G at h
  rw [h]
  rfl

theorem dead_finish (z : Value) (w : World) : ∃ o w', step P (lone ((dead P).finish z) [] w) = .ended o w' := by
  have hm : ((dead P).finish z).mode = .run := rfl
  have hu : ∃ o w' es, stepG P true (G ((dead P).finish z) []) w = .ended o w' es := by
    rw [stepG_run (P := P) (main := true) (cs := []) (w := w) hm]
    simp [stepG.exec, dead, Frame.finish]
  obtain ⟨o, w', es, hu⟩ := hu
  refine ⟨o, w', step_lone_ended ?_⟩
  unfold G at hu
  rw [hu]
  rfl
theorem dead_raise (c : List PanicEntry) (w : World) : ∃ o w', step P (lone ((dead P).raise c) [] w) = .ended o w' := by
  have hm : ((dead P).raise c).mode ≠ .run := by simp [dead, Frame.raise]
  have := stepG_unw (P := P) (main := true) (cs := []) (w := w) hm
  unfold G at this
  have hu : ∃ o w' es, unwind P true ((dead P).raise c) [] none w = .ended o w' es := by
    simp only [unwind, dead, Frame.raise, callDeferred]
    exact ⟨_, _, _, rfl⟩
  obtain ⟨o, w', es, hu⟩ := hu
  refine ⟨o, w', step_lone_ended ?_⟩
  rw [this, hu]
  rfl

theorem lone_inj {a a' : Frame} {c c' : List Frame} (h : lone a c v = lone a' c' w) : a = a' ∧ c = c' ∧ v = w := by
  simp only [lone, Machine.mk.injEq, Array.mk.injEq, List.cons.injEq, Goroutine.mk.injEq] at h
  obtain ⟨h1, ⟨⟨h2, h3, _⟩, _⟩, _⟩ := h
  exact ⟨h2, h3, h1⟩
theorem lm_inj (h : LM P s v = LM P s' w) : s = s' ∧ v = w := by
  obtain ⟨h1, h2, h3⟩ := lone_inj h
  exact ⟨Prod.ext h1 (List.append_cancel_right h2), h3⟩

/-- A last frame that leaves. -/
theorem leave_run {fr₀ : Frame} (hfr : okFr P L fr₀) (hm : fr₀.mode ≠ .run) {n : Nat} {w' : World} (h : runN P n (LM P (fr₀, []) w) = .next (LM P s' w')) : n = 0 := by
  rcases n with _ | n
  · rfl
  exfalso
  obtain ⟨fn, hfn⟩ := hfr.fn
  have key : (∃ o w₁, step P (LM P (fr₀, []) w) = .ended o w₁) ∨ ∃ x w₁, step P (LM P (fr₀, []) w) = .next (lone x [] w₁) ∧ ∃ o w₂, step P (lone x [] w₁) = .ended o w₂ := by
    have hst := stepG_unw (P := P) (main := true) (cs := [dead P]) (w := w) hm
    unfold G at hst
    cases hmode : fr₀.mode with
    | run => exact absurd hmode hm
    | panicking chain =>
      refine .inr ⟨_, _, step_lone_go (fr' := (dead P).raise chain) (cs' := []) (w' := w) ?_, dead_raise chain w⟩
      show (stepG P true { frame := fr₀, callers := [] ++ [dead P], status := .running, dying := none } w).bare = _
      rw [List.nil_append, hst]
      simp [unwind, hfr.defers, hmode, Frame.catches, hfn]
    | returning =>
      cases hr : (results fn fr₀.tmps).run P w with
      | ok z w₁ =>
        refine .inr ⟨_, _, step_lone_go (fr' := (dead P).finish z) (cs' := []) (w' := w₁) ?_, dead_finish z w₁⟩
        show (stepG P true { frame := fr₀, callers := [] ++ [dead P], status := .running, dying := none } w).bare = _
        rw [List.nil_append, hst]
        simp [unwind, hfr.defers, hmode, hfn, hr, doReturn, hfr.kind, GStep.after]
      | halt x w₁ =>
        have : ∃ o, (stepG P true { frame := fr₀, callers := [] ++ [dead P], status := .running, dying := none } w).bare = .ended o w₁ := by
          rw [List.nil_append, hst]
          cases x <;> simp [unwind, hfr.defers, hmode, hfn, hr, GStep.after]
        obtain ⟨o, ho⟩ := this
        exact .inl ⟨o, w₁, step_lone_ended ho⟩
  rcases key with ⟨o, w₁, e⟩ | ⟨x, w₁, e, o, w₂, e2⟩
  · simp [runN, e] at h
  · rcases n with _ | n
    · simp only [runN, e, Stepped.next.injEq] at h
      obtain ⟨_, h, _⟩ := lone_inj (by unfold LM at h; exact h)
      simp at h
    · simp [runN, e, e2] at h

/-- From a leaf the lone run comes to no stack of ours again. -/
theorem leaf_run {seg : Bool} (hs : okS P L s) (hl : Leaf seg s) {n : Nat} {w' : World} (h : runN P n (LM P s w) = .next (LM P s' w')) : n = 0 ∨ (seg = true ∧ s'.2 = [] ∧ s'.1.mode ≠ .run ∧ s'.1.todo = []) := by
  obtain ⟨fr₀, cs⟩ := s
  obtain ⟨he, hm⟩ := hl
  simp only at he hm
  subst he
  have hfr : okFr P L fr₀ := hs.1
  by_cases hm' : fr₀.mode = .run
  · rcases hm with hm | ⟨hseg, ht⟩
    · exact absurd hm' hm
    rcases n with _ | n
    · exact .inl rfl
    have hst := stepG_run (P := P) (main := true) (cs := [dead P]) (w := w) hm'
    unfold G at hst
    have e1 : step P (LM P (fr₀, []) w) = .next (LM P ({ fr₀ with mode := .returning }, []) w) := by
      refine step_lone_go ?_
      show (stepG P true { frame := fr₀, callers := [] ++ [dead P], status := .running, dying := none } w).bare = _
      rw [List.nil_append, hst]
      simp [stepG.exec, ht, hfr.round]
    have hfr' : okFr P L { fr₀ with mode := .returning } := ⟨hfr.fn, hfr.todo, hfr.kind, hfr.round, hfr.defers⟩
    simp only [runN, e1] at h
    have h0 := leave_run hfr' (by simp) h
    subst h0
    simp only [runN, Stepped.next.injEq] at h
    obtain ⟨rfl, _⟩ := lm_inj h
    exact .inr ⟨hseg, rfl, by simp, ht⟩
  · exact .inl (leave_run hfr hm' h)

theorem retape (hn : NoView u) (A A' : Nat → Question → Nat) (d d' : Nat) : Sim True (fun _ => False) (tp u A d) (tp u A' d') := ⟨rfl, fun _ => .inl rfl, hn, fun _ h => h.elim, rfl, rfl, fun _ => rfl⟩
theorem tp_of (h : Sim True (fun _ => False) v w) : w = tp v w.tape w.drawn := by
  obtain ⟨h1, h2, h3, h4, h5⟩ := w
  have e1 := h.exact trivial
  have e2 := h.os
  have e3 := h.output
  simp only at e1 e2 e3
  simp only [tp, e1, e2, e3]

/-- The step on another tape that answers alike. -/
theorem Sims.retaped {seg : Bool} {A A' : Nat → Question → Nat} {d d' : Nat} (hn : NoView u) (hs : okS P L s) (h : Sims P L seg s (tp u A d) s' v) (ha : ∀ j, j < v.drawn - d → ∀ q, A (d + j) q = A' (d' + j) q) :
    step P (LM P s (tp u A' d')) = .next (LM P s' (tp v A' (d' + (v.drawn - d)))) := by
  obtain ⟨w', es, h1, h2, h3, h4, _⟩ := h.both True (fun _ => False) (tp u A' d') (retape hn A A' d d') (fun j hj q => ha j hj q)
  have := tp_of h2
  rw [h3, h4] at this
  rw [this] at h1
  exact lm_step hs h.ok h1
end

/-- 'On whatever tape the lone run comes to a stack at which the target holds.' -/
def Ends (P : Program) (Tgt : Stack → World → Prop) (s : Stack) (u : World) : Prop :=
  ∃ D, ∀ (A : Nat → Question → Nat) (d : Nat), D ≤ d → ∃ A₁ : Nat → Question → Nat, (∀ i, d ≤ i → A₁ i = A i) ∧ ∃ n s' w, runN P n (LM P s (tp u A₁ d)) = .next (LM P s' w) ∧ Tgt s' w

/-- THE TREE. -/
inductive Bar (P : Program) (L : List FuncId) (seg : Bool) (Tgt : Stack → World → Prop) : Stack → World → Prop
  | leaf (s : Stack) (u : World) (A : Nat → Question → Nat) (d : Nat) : okS P L s → NoView u → Tgt s (tp u A d) → Bar P L seg Tgt s u
  | step (s : Stack) (u : World) (f : (Nat → Question → Nat) → Nat → Stack) (g : (Nat → Question → Nat) → Nat → World) : (∀ A d, Sims P L seg s (tp u A d) (f A d) (g A d)) → (∀ A d, Bar P L seg Tgt (f A d) (g A d)) → Bar P L seg Tgt s u

section
variable {P : Program} {L : List FuncId} {seg : Bool} {Tgt : Stack → World → Prop} {s s' : Stack} {u v : World}

theorem ends_next (hs : okS P L s) (hn : NoView u) (hE : Ends P Tgt s u) (hB : ¬ Bar P L seg Tgt s u) {A : Nat → Question → Nat} {d : Nat} (h : Sims P L seg s (tp u A d) s' v) : Ends P Tgt s' v := by
  obtain ⟨D, hD⟩ := hE
  refine ⟨D + (v.drawn - d), fun A' d' hd' => ?_⟩
  obtain ⟨A₁, h1, n, t, w, hr, ht⟩ := hD (fun i => if i < d' then A (d + (i - (d' - (v.drawn - d)))) else A' i) (d' - (v.drawn - d)) (by omega)
  refine ⟨A₁, fun i hi => by rw [h1 i (by omega), if_neg (by omega)], ?_⟩
  rcases n with _ | n
  · simp only [runN, Stepped.next.injEq] at hr
    obtain ⟨rfl, rfl⟩ := lm_inj hr
    exact absurd (.leaf _ _ _ _ hs hn ht) hB
  · have hst := h.retaped (A' := A₁) (d' := d' - (v.drawn - d)) hn hs fun j hj q => by
      rw [h1 _ (by omega), if_pos (by omega)]
      congr 2
      omega
    rw [show d' - (v.drawn - d) + (v.drawn - d) = d' by omega] at hst
    refine ⟨n, t, w, ?_, ht⟩
    simpa [runN, hst] using hr

theorem not_bar (hL : okL P L = true) (hT : seg = true → ∀ s w, Tgt s w → s.2 = [] → s.1.mode ≠ .run → s.1.todo ≠ []) (hs : okS P L s) (hn : NoView u) (hE : Ends P Tgt s u) (hB : ¬ Bar P L seg Tgt s u) :
    ∃ A d s' u', Sims P L seg s (tp u A d) s' u' ∧ Ends P Tgt s' u' ∧ ¬ Bar P L seg Tgt s' u' := by
  have hnl : ¬ Leaf seg s := by
    intro hl
    obtain ⟨D, hD⟩ := hE
    obtain ⟨A₁, _, n, t, w, hr, ht⟩ := hD (fun _ _ => 0) D (Nat.le_refl _)
    rcases leaf_run hs hl hr with rfl | ⟨h1, h2, h3, h4⟩
    · simp only [runN, Stepped.next.injEq] at hr
      obtain ⟨rfl, rfl⟩ := lm_inj hr
      exact hB (.leaf _ _ _ _ hs hn ht)
    · exact hT h1 _ _ ht h2 h3 h4
  have hstep : ∀ A d, ∃ s' u', Sims P L seg s (tp u A d) s' u' := by
    intro A d
    rcases step_tri (v := tp u A d) hL hs hn with h | h | h
    · exact absurd h hnl
    · exfalso
      obtain ⟨D, hD⟩ := hE
      obtain ⟨A₁, ha, n, t, w, hr, ht⟩ := hD (fun i => A (d + (i - D))) D (Nat.le_refl _)
      rcases step_tri (seg := seg) (v := tp u A₁ D) hL hs hn with h' | h' | ⟨s', u', h'⟩
      · exact hnl h'
      · obtain ⟨o, w', e⟩ := lm_dead h'
        rcases n with _ | n
        · simp only [runN, Stepped.next.injEq] at hr
          obtain ⟨rfl, rfl⟩ := lm_inj hr
          exact hB (.leaf _ _ _ _ hs hn ht)
        · simp [runN, e] at hr
      · have e1 := h'.retaped (A' := A) (d' := d) hn hs fun j hj q => by
          rw [ha _ (by omega)]
          congr 2
          omega
        obtain ⟨o, w', e⟩ := lm_dead h
        rw [e1] at e
        cases e
    · exact h
  refine Classical.byContradiction fun hno => hB ?_
  refine .step s u (fun A d => (hstep A d).choose) (fun A d => (hstep A d).choose_spec.choose) (fun A d => (hstep A d).choose_spec.choose_spec) fun A d => ?_
  refine Classical.byContradiction fun hb => hno ?_
  exact ⟨A, d, _, _, (hstep A d).choose_spec.choose_spec, ends_next hs hn hE hB (hstep A d).choose_spec.choose_spec, hb⟩

/-- A state on a path that never comes to the tree's leaves. -/
structure Lost (P : Program) (L : List FuncId) (seg : Bool) (Tgt : Stack → World → Prop) where
  s : Stack
  u : World
  ok : okS P L s
  nv : NoView u
  en : Ends P Tgt s u
  nb : ¬ Bar P L seg Tgt s u

theorem lost_next (hL : okL P L = true) (hT : seg = true → ∀ s w, Tgt s w → s.2 = [] → s.1.mode ≠ .run → s.1.todo ≠ []) (x : Lost P L seg Tgt) : ∃ (A : Nat → Question → Nat) (d : Nat) (y : Lost P L seg Tgt), Sims P L seg x.s (tp x.u A d) y.s y.u := by
  obtain ⟨A, d, s', u', h1, h2, h3⟩ := not_bar hL hT x.ok x.nv x.en x.nb
  exact ⟨A, d, ⟨s', u', h1.ok, h1.noview, h2, h3⟩, h1⟩

/-- ████ THE BAR: what ends on whatever tape has a well-founded tree of steps. ████ -/
theorem bar_of (hL : okL P L = true) (hT : seg = true → ∀ s w, Tgt s w → s.2 = [] → s.1.mode ≠ .run → s.1.todo ≠ []) (hs : okS P L s) (hn : NoView u)
    (hE : ∀ (A : Nat → Question → Nat) (d : Nat), ∃ n s' w, runN P n (LM P s (tp u A d)) = .next (LM P s' w) ∧ Tgt s' w) : Bar P L seg Tgt s u := by
  have hE' : Ends P Tgt s u := ⟨0, fun A d _ => ⟨A, fun _ _ => rfl, hE A d⟩⟩
  refine Classical.byContradiction fun hB => ?_
  let nx : Lost P L seg Tgt → Lost P L seg Tgt := fun x => (lost_next hL hT x).choose_spec.choose_spec.choose
  let tA : Lost P L seg Tgt → Nat → Question → Nat := fun x => (lost_next hL hT x).choose
  let tD : Lost P L seg Tgt → Nat := fun x => (lost_next hL hT x).choose_spec.choose
  have hnx : ∀ x, Sims P L seg x.s (tp x.u (tA x) (tD x)) (nx x).s (nx x).u := fun x => (lost_next hL hT x).choose_spec.choose_spec.choose_spec
  let x₀ : Lost P L seg Tgt := ⟨s, u, hs, hn, hE', hB⟩
  let sq : Nat → Lost P L seg Tgt := fun k => Nat.rec x₀ (fun _ x => nx x) k
  have sq0 : sq 0 = x₀ := rfl
  have sqs : ∀ k, sq (k + 1) = nx (sq k) := fun _ => rfl
  let len : Nat → Nat := fun k => (sq (k + 1)).u.drawn - tD (sq k)
  let N : Nat → Nat := fun k => Nat.rec 0 (fun k a => a + len k) k
  have N0 : N 0 = 0 := rfl
  have Ns : ∀ k, N (k + 1) = N k + len k := fun _ => rfl
  have mono : ∀ j k, j ≤ k → N j ≤ N k := by
    intro j k h
    induction h with
    | refl => exact Nat.le_refl _
    | step _ ih => rw [Ns]; omega
  have uniq : ∀ j k i, N j ≤ i → i < N (j + 1) → N k ≤ i → i < N (k + 1) → j = k := by
    intro j k i h1 h2 h3 h4
    rcases Nat.lt_trichotomy j k with h | h | h
    · have := mono (j + 1) k h; omega
    · exact h
    · have := mono (k + 1) j h; omega
  let T : Nat → Question → Nat := fun i => open Classical in if h : ∃ k, N k ≤ i ∧ i < N (k + 1) then tA (sq h.choose) (tD (sq h.choose) + (i - N h.choose)) else fun _ => 0
  have hT' : ∀ k i, N k ≤ i → i < N (k + 1) → T i = tA (sq k) (tD (sq k) + (i - N k)) := by
    intro k i h1 h2
    have h : ∃ k, N k ≤ i ∧ i < N (k + 1) := ⟨k, h1, h2⟩
    have e : h.choose = k := uniq _ _ i h.choose_spec.1 h.choose_spec.2 h1 h2
    show (open Classical in if h : ∃ k, N k ≤ i ∧ i < N (k + 1) then tA (sq h.choose) (tD (sq h.choose) + (i - N h.choose)) else fun _ => 0) = _
    rw [dif_pos h, e]
  have hrun : ∀ k, runN P k (LM P s (tp u T 0)) = .next (LM P (sq k).s (tp (sq k).u T (N k))) := by
    intro k
    induction k with
    | zero => rfl
    | succ k ih =>
      have hst := (hnx (sq k)).retaped (A' := T) (d' := N k) (sq k).nv (sq k).ok fun j hj q => by
        rw [hT' k (N k + j) (by omega) (by rw [Ns]; exact Nat.add_lt_add_left hj _)]
        congr 2
        omega
      have : runN P (k + 1) (LM P s (tp u T 0)) = .next (LM P (sq (k + 1)).s (tp (sq (k + 1)).u T (N (k + 1)))) := by
        rw [runN_add, ih]
        simp only [runN]
        rw [hst]
      exact this
  obtain ⟨n, t, w, hr, ht⟩ := hE T 0
  rw [hrun n] at hr
  simp only [Stepped.next.injEq] at hr
  obtain ⟨rfl, rfl⟩ := lm_inj hr
  exact (sq n).nb (.leaf _ _ T (N n) (sq n).ok (sq n).nv ht)
end
end Go.Proofs.Ytolnmdanlggmhaa

/- One goroutine's own run, in company: a well-founded tree; lone contracts and lone walks serve in it. -/
namespace Go.Proofs.Ytolnmdanlggmhaa
open Go.Conc

/-- THE OWN RUN: ahead of each step the scheduler may have drawn. -/
inductive Own (P : Program) (main : Bool) (Z : Addr → Prop) (Stop : Goroutine → World → Prop) : Goroutine → World → Prop
  | stop (g : Goroutine) (w : World) : (∀ d, Stop g (w.at d)) → Own P main Z Stop g w
  | step (g : Goroutine) (w : World) (g' : Nat → Goroutine) (w' : Nat → World) (es : Nat → Array Event) : g.status = .running → (∀ d, stepG P main g (w.at d) = .go (g' d) (w' d) (es d)) → (∀ d, Kept Z (w.at d) (w' d)) →
      (∀ d, ∀ e ∈ es d, EvIn Z (w' d).heap.size e) → (∀ d, Own P main Z Stop (g' d) (w' d)) → Own P main Z Stop g w

/-- .. whatever the real world is like, if it is like the lone one. -/
def OwnU (P : Program) (main : Bool) (Z : Addr → Prop) (Stop : Goroutine → World → Prop) (w₀ : World) (g : Goroutine) (u : World) : Prop :=
  ∀ w, Sim False Z u w → Kept Z w₀ w → Own P main Z Stop g w

section
variable {P : Program} {L : List FuncId} {main : Bool} {X : Prop} {Z : Addr → Prop} {Stop : Goroutine → World → Prop} {w₀ u v w : World}

theorem sim_tp (h : Sim X Z u w) (A : Nat → Question → Nat) (d d' : Nat) : Sim X Z (tp u A d) (w.at d') := ⟨h.size, h.blk, h.noview, h.guard, h.os, h.output, h.exact⟩
theorem sim_untp {A : Nat → Question → Nat} {d : Nat} (h : Sim X Z (tp u A d) w) : Sim X Z u w := ⟨h.size, h.blk, h.noview, h.guard, h.os, h.output, h.exact⟩
theorem kept_at (h : Kept Z v w) (d : Nat) : Kept Z v (w.at d) := ⟨h.cells, h.chans, h.notch, h.grow, h.odd, h.same, h.tape, h.os, h.output⟩
theorem kept_of_at {d : Nat} (h : Kept Z (v.at d) w) : Kept Z v w := ⟨h.cells, h.chans, h.notch, h.grow, h.odd, h.same, h.tape, h.os, h.output⟩

/-- THE TREE OF THE LONE RUN IS ONE IN COMPANY. -/
theorem own_of_bar {seg : Bool} {Tgt : Stack → World → Prop} {s : Stack} (hB : Bar P L seg Tgt s u) {U : Frame → Frame} (hU : Lifts seg U) {cs : List Frame}
    (hk : ∀ s' u' A d, okS P L s' → NoView u' → Tgt s' (tp u' A d) → OwnU P main Z Stop w₀ (G (top U s') (upL U s'.2 ++ cs)) u') : OwnU P main Z Stop w₀ (G (top U s) (upL U s.2 ++ cs)) u := by
  induction hB with
  | leaf s u A d h1 h2 h3 => exact hk s u A d h1 h2 h3
  | step s u f g hf _ ih =>
    intro w hs hkept
    have hb : ∀ d, ∃ w' es, Stk P seg s (w.at d) (f w.tape d) w' es ∧ Sim False Z (g w.tape d) w' ∧ Kept Z (w.at d) w' ∧ ∀ x ∈ es, EvIn Z w'.heap.size x := by
      intro d
      obtain ⟨w', es, h1, h2, _, _, h3, h4⟩ := (hf w.tape d).both False Z (w.at d) (sim_tp hs _ _ _) (fun _ _ _ => rfl)
      exact ⟨w', es, h1, h2, h3, h4⟩
    refine .step _ _ (fun d => G (top U (f w.tape d)) (upL U (f w.tape d).2 ++ cs)) (fun d => (hb d).choose) (fun d => (hb d).choose_spec.choose) rfl (fun d => ?_) (fun d => ?_) (fun d => ?_) (fun d => ?_)
    · exact (hb d).choose_spec.choose_spec.1 main cs U hU
    · exact (hb d).choose_spec.choose_spec.2.2.1
    · exact (hb d).choose_spec.choose_spec.2.2.2
    · exact ih w.tape d _ (hb d).choose_spec.choose_spec.2.1 (hkept.trans (kept_of_at (hb d).choose_spec.choose_spec.2.2.1))

theorem ownU_run {seg : Bool} {Tgt : Stack → World → Prop} {s : Stack} (hL : okL P L = true) (hT : seg = true → ∀ s w, Tgt s w → s.2 = [] → s.1.mode ≠ .run → s.1.todo ≠ []) (hs : okS P L s) (hn : NoView u)
    (hE : ∀ (A : Nat → Question → Nat) (d : Nat), ∃ n s' w, runN P n (LM P s (tp u A d)) = .next (LM P s' w) ∧ Tgt s' w) {U : Frame → Frame} (hU : Lifts seg U) {cs : List Frame}
    (hk : ∀ s' u' A d, okS P L s' → NoView u' → Tgt s' (tp u' A d) → OwnU P main Z Stop w₀ (G (top U s') (upL U s'.2 ++ cs)) u') : OwnU P main Z Stop w₀ (G (top U s) (upL U s.2 ++ cs)) u :=
  own_of_bar (bar_of hL hT hs hn hE) hU hk

/-- A step that leaves the world as it is, and lists nothing. -/
theorem ownU_still {g g' : Goroutine} (hs : g.status = .running) (h : ∀ w, stepG P main g w = .go g' w) (hk : OwnU P main Z Stop w₀ g' u) : OwnU P main Z Stop w₀ g u := by
  intro w hw hkept
  refine .step _ _ (fun _ => g') (fun d => w.at d) (fun _ => #[]) hs (fun d => h _) (fun d => Kept.refl _ _) (fun _ e he => by simp at he) (fun d => ?_)
  exact hk _ (sim_untp (A := w.tape) (d := w.drawn) (sim_tp hw _ _ d)) (kept_at hkept d)

/-- A step that carries out a term. -/
theorem ownU_term {α : Type} {e : Sem α} {g : Goroutine} {f : FuncId} (hg : Good P [] e) (hs : g.status = .running)
    (hk : ∀ A d, ∃ a u' g', e.run P (tp u A d) = .ok a u' ∧ (∀ w w', e.run P w = .ok a w' → stepG P main g w = .go g' w' (seen P f (e.events P w #[]))) ∧ OwnU P main Z Stop w₀ g' u') : OwnU P main Z Stop w₀ g u := by
  intro w hw hkept
  have hb : ∀ d, ∃ g' w' es, stepG P main g (w.at d) = .go g' w' es ∧ Kept Z (w.at d) w' ∧ (∀ x ∈ es, EvIn Z w'.heap.size x) ∧ Own P main Z Stop g' w' := by
    intro d
    obtain ⟨a, u', g', hr, h, hown⟩ := hk w.tape d
    obtain ⟨w', new, r1, e1, s1, _, _, k1, o1⟩ := hg.both False Z _ (w.at d) (sim_tp hw w.tape d d) (by simp) u' (by rw [hr]; rfl) (fun _ _ _ => rfl)
    rw [hr] at r1
    refine ⟨_, w', _, h _ w' r1, k1, fun x hx => ?_, hown _ s1 (hkept.trans (kept_of_at k1))⟩
    have := mem_seen hx
    rw [e1] at this
    exact o1 x (by simpa using this)
  exact .step _ _ (fun d => (hb d).choose) (fun d => (hb d).choose_spec.choose) (fun d => (hb d).choose_spec.choose_spec.choose) hs (fun d => (hb d).choose_spec.choose_spec.choose_spec.1) (fun d => (hb d).choose_spec.choose_spec.choose_spec.2.1)
    (fun d => (hb d).choose_spec.choose_spec.choose_spec.2.2.1) (fun d => (hb d).choose_spec.choose_spec.choose_spec.2.2.2)

section
variable {b : Frame} {a : Act} {k : List Item} {cs : List Frame} {ops : Array Oper} {i : Nat} {rest : List Nat} {o : Oper}

/-- What is asked once an operation has been carried out. -/
def ResK (a : Act) (o : Oper) (K : Act → World → Prop) : Result Next → Prop
  | .ok (.value z) u' => K (a.put o.dst z) u'
  | .ok .skip u' => K (a.put o.dst undef) u'
  | _ => False

/-- ONE OPERATION that yields a value, or nothing. -/
theorem ownU_op (ho : ops[i]? = some o) (hok : okOp P L o.op = true) (hw : Region.wanted o (yielded ops a.tmps) = true) (hb : b.kind ≠ .early)
    (hk : ∀ A d, ResK a o (fun a' u' => OwnU P main Z Stop w₀ (G (b.at a' (.inRegion ops rest :: k)) cs) u') ((execOp a.eval o).run P (tp u A d))) :
    OwnU P main Z Stop w₀ (G (b.at a (.inRegion ops (i :: rest) :: k)) cs) u := by
  obtain ⟨hg, _⟩ := okOp_good (P := P) (L := L) (rs := []) (ρ := a.eval) (fun _ => rfl) (fun _ => rfl) o hok
  refine ownU_term (e := execOp a.eval o) (f := b.fn) hg rfl fun A d => ?_
  have h := hk A d
  cases hr : (execOp a.eval o).run P (tp u A d) with
  | ok x u' =>
    rw [hr] at h
    cases x with
    | value z => exact ⟨_, u', _, rfl, fun w w' h' => stepG_value ho hw hb h', h⟩
    | skip => exact ⟨_, u', _, rfl, fun w w' h' => stepG_none ho hw hb h', h⟩
    | _ => exact h.elim
  | halt x u' => rw [hr] at h; exact h.elim

/-- An operation that is not asked for. -/
theorem ownU_unwanted (ho : ops[i]? = some o) (hw : Region.wanted o (yielded ops a.tmps) = false) (hk : OwnU P main Z Stop w₀ (G (b.at (a.put o.dst undef) (.inRegion ops rest :: k)) cs) u) :
    OwnU P main Z Stop w₀ (G (b.at a (.inRegion ops (i :: rest) :: k)) cs) u := by
  refine ownU_still rfl (fun w => ?_) hk
  have : (b.at (a.put o.dst undef) (.inRegion ops rest :: k)) = (b.at a (.inRegion ops (i :: rest) :: k)).finish undef := by rw [Frame.finish_at, ho]; rfl
  rw [this]
  simp [G, stepG, stepG.exec, Frame.at, ho, hw]

/-- A LONE CONTRACT SERVES IN COMPANY. -/
theorem ownU_call {f : FuncId} {args : Array Operand} {ats : Array TypeId} {R : Ending → World → Prop} (hL : okL P L = true) (hf : f ∈ L) (ho : ops[i]? = some o) (hop : o.op = .call { callee := .value (.func f), args, argTypes := ats })
    (hok : okCallee P L f = true) (hw : Region.wanted o (yielded ops a.tmps) = true) (hb : b.kind ≠ .early) (hn : NoView u)
    (hc : ∀ A d, Calls P f (args.map a.eval) (tp u A d) R) (hR : ∀ e w, R e w → ∃ z, e = .returned z)
    (hk : ∀ z u' A d, NoView u' → R (.returned z) (tp u' A d) → OwnU P main Z Stop w₀ (G (b.at (a.put o.dst z) (.inRegion ops rest :: k)) cs) u') :
    OwnU P main Z Stop w₀ (G (b.at a (.inRegion ops (i :: rest) :: k)) cs) u := by
  obtain ⟨hg, _⟩ := okOp_good (P := P) (L := L) (rs := []) (ρ := a.eval) (fun _ => rfl) (fun _ => rfl) o (by rw [hop]; exact hok)
  have hrun : ∀ w, (execOp a.eval o).run P w = .ok (.enter f (args.map a.eval)) w := by
    intro w
    unfold execOp
    simp only [hop, resolve]
    have h1 : Deferred.ofValue (a.eval (.func f)) (args.map a.eval) = pure { target := .fn (.func f) #[], args := #[] ++ args.map a.eval } := rfl
    rw [h1]
    show (invoke (.fn (.func f) #[]) (#[] ++ args.map a.eval)).run P w = _
    unfold invoke
    simp only [Array.empty_append, Array.append_empty]
    unfold okCallee at hok
    simp only [Bool.and_eq_true, Option.any_eq_true, bne_iff_ne, ne_eq] at hok
    obtain ⟨_, fn, hfn, hbd, hnm⟩ := hok
    unfold callFunc
    rw [Sem.run_bind]
    simp only [program, Sem.run, Result.andThen_ok, hfn]
    have : fn.body.isNone = false := by cases hh : fn.body <;> simp_all
    simp [hnm, this, Sem.run_pure]
  -- the callee's frame is laid on the top
  refine ownU_term (e := execOp a.eval o) (f := b.fn) hg rfl fun A d => ⟨_, _, G (Frame.enter P f (args.map a.eval) .normal) (b.at a (.inRegion ops (i :: rest) :: k) :: cs), hrun _, fun w w' h' => ?_, ?_⟩
  · rw [stepG_oper ho hw]
    have hk' : (b.kind == CallKind.early) = false := by simpa using hb
    simp [stepG.apply, h', Frame.at, hk', GStep.after, G]
  -- it runs as it does alone
  have hS : okS P L (Frame.enter P f (args.map a.eval) .normal, []) := ⟨okFr_enter hL hf _, by simp⟩
  have := ownU_run (P := P) (L := L) (main := main) (Z := Z) (Stop := Stop) (w₀ := w₀) (u := tp u A d) (seg := false) (U := up .normal [] []) (cs := b.at a (.inRegion ops (i :: rest) :: k) :: cs)
    (Tgt := fun s w => s.2 = [] ∧ ∃ z, R (.returned z) w ∧ s.1.leaving P w (.returned z)) hL (fun h => by cases h) hS hn (fun A' d' => ?_) lifts_self (fun s' u' A' d' h1 h2 h3 => ?_)
  · rwa [top_id (by rfl), show upL (up .normal [] []) (Frame.enter P f (args.map a.eval) .normal, ([] : List Frame)).2 = [] from rfl, List.nil_append] at this
  · obtain ⟨e, w', fr, hr, hcm, _, hlv⟩ := hc A' d' [dead P]
    obtain ⟨z, rfl⟩ := hR e w' hr
    obtain ⟨n, hn'⟩ := hcm
    exact ⟨n, (fr, []), w', hn', rfl, z, hr, hlv⟩
  · -- and leaves
    obtain ⟨fr', cs'⟩ := s'
    obtain ⟨hcs, z, hr, hlv⟩ := h3
    simp only at hcs
    subst hcs
    have hfr : okFr P L fr' := h1.1
    rw [top_id hfr.kind]
    obtain ⟨hm, hd, hkd, fn, hfn, hres⟩ := hlv
    simp only at hm hd hkd hfn hres
    intro w hw' hkept
    have hg' := results_good (P := P) fn fr'.tmps
    have hpop : ∀ w w', (results fn fr'.tmps).run P w = .ok z w' → stepG P main (G fr' (b.at a (.inRegion ops (i :: rest) :: k) :: cs)) w = .go (G ((b.at a (.inRegion ops (i :: rest) :: k)).finish z) cs) w' (seen P fr'.fn ((results fn fr'.tmps).events P w #[])) := by
      intro w w' h'
      rw [stepG_unw (by rw [hm]; simp)]
      simp [unwind, hd, hm, hfn, h', doReturn, hkd, GStep.after, G]
    have hfin : (b.at a (.inRegion ops (i :: rest) :: k)).finish z = b.at (a.put o.dst z) (.inRegion ops rest :: k) := by rw [Frame.finish_at, ho]; rfl
    have hb' : ∀ dd, ∃ w' es, stepG P main (G fr' (b.at a (.inRegion ops (i :: rest) :: k) :: cs)) (w.at dd) = .go (G (b.at (a.put o.dst z) (.inRegion ops rest :: k)) cs) w' es ∧ Sim False Z u' w' ∧ Kept Z (w.at dd) w' ∧ ∀ x ∈ es, EvIn Z w'.heap.size x := by
      intro dd
      obtain ⟨w', new, r1, e1, s1, _, _, k1, o1⟩ := hg'.both False Z (tp u' A' d') (w.at dd) (sim_tp hw' _ _ _) (by simp) (tp u' A' d') (by rw [hres]; rfl) (fun j hj => by omega)
      rw [hres] at r1
      refine ⟨w', _, by rw [← hfin]; exact hpop _ _ r1, sim_untp s1, k1, fun x hx => ?_⟩
      have := mem_seen hx
      rw [e1] at this
      exact o1 x (by simpa using this)
    refine .step _ _ (fun _ => G (b.at (a.put o.dst z) (.inRegion ops rest :: k)) cs) (fun dd => (hb' dd).choose) (fun dd => (hb' dd).choose_spec.choose) rfl (fun dd => ?_) (fun dd => (hb' dd).choose_spec.choose_spec.2.2.1) (fun dd => (hb' dd).choose_spec.choose_spec.2.2.2) (fun dd => ?_)
    · exact (hb' dd).choose_spec.choose_spec.1
    · exact hk z u' A' d' h2 hr _ (hb' dd).choose_spec.choose_spec.2.1 (hkept.trans (kept_of_at (hb' dd).choose_spec.choose_spec.2.2.1))

/-- A LONE WALK OF A PIECE OF CODE SERVES IN COMPANY. -/
theorem ownU_code {c : Code} {Q : Exit → Act → World → Prop} (hL : okL P L = true) (hc : okCode P L c = true) (hb : b.kind ≠ .early) (hfn : ∃ fn, P.funcs[b.fn]? = some fn) (hn : NoView u)
    (hwp : ∀ A d, c.wp P Q ⟨a.tmps, []⟩ (tp u A d)) (hQ : ∀ e a w, Q e a w → e = .normal)
    (hk : ∀ tmps u' A d, NoView u' → Q .normal ⟨tmps, []⟩ (tp u' A d) → OwnU P main Z Stop w₀ (G (b.at ⟨tmps, a.defers⟩ k) cs) u') :
    OwnU P main Z Stop w₀ (G (b.at a (.code c :: k)) cs) u := by
  let b' : Frame := { b with kind := .normal }
  let U := up b.kind k a.defers
  have hU : Lifts true U := ⟨_, _, _, rfl, hb, by simp⟩
  have hat : ∀ tmps todo, U (b'.at ⟨tmps, []⟩ todo) = b.at ⟨tmps, a.defers⟩ (todo ++ k) := fun tmps todo => by simp [U, up, b', Frame.at]
  have hS : okS P L (b'.at ⟨a.tmps, []⟩ [.code c], []) := ⟨⟨hfn, fun x hx => by simp only [Frame.at, List.mem_cons, List.not_mem_nil, or_false] at hx; subst hx; exact hc, rfl, rfl, rfl⟩, by simp⟩
  have := ownU_run (P := P) (L := L) (main := main) (Z := Z) (Stop := Stop) (w₀ := w₀) (u := u) (seg := true) (U := U) (cs := cs) (s := (b'.at ⟨a.tmps, []⟩ [.code c], []))
    (Tgt := fun s w => ∃ tmps ds, s = (b'.at ⟨tmps, ds⟩ [], []) ∧ Q .normal ⟨tmps, ds⟩ w) hL (fun _ s w ht _ hm => ?_) hS hn (fun A d => ?_) hU (fun s' u' A d h1 h2 h3 => ?_)
  · rw [show top U (b'.at ⟨a.tmps, []⟩ [.code c], ([] : List Frame)) = b.at ⟨a.tmps, a.defers⟩ ([.code c] ++ k) from hat _ _] at this
    exact this
  · obtain ⟨tmps, ds, rfl, _⟩ := ht
    exact absurd rfl hm
  · obtain ⟨e, a', w', hq, harr⟩ := hwp A d b' [] [dead P]
    obtain rfl := hQ e a' w' hq
    obtain ⟨n, hn'⟩ := harr
    exact ⟨n, (b'.at a' [], []), w', hn', a'.tmps, a'.defers, rfl, hq⟩
  · obtain ⟨tmps, ds, rfl, hq⟩ := h3
    have hd : ds = [] := h1.1.defers
    subst hd
    show OwnU P main Z Stop w₀ (G (U (b'.at ⟨tmps, []⟩ [])) ([] ++ cs)) u'
    rw [hat]
    exact hk tmps u' A d h2 hq
end
end
end Go.Proofs.Ytolnmdanlggmhaa
