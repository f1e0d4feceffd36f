/-
  A range over a function, in two halves: the statement itself (the loop's record is laid, the iterator is called) and one round (the iterator calls yield). The iterator's state and the body's state stay concrete.
-/
import Derived.RangeFuncBox
import Derived.RangeFuncLeaves
import Derived.RangeFuncCalls
import Derived.Shelf.Abstract
import Derived.OwnWalkIn
import Derived.TacticsInMore
import Derived.LoopNIn
import Derived.LoopIn
import Derived.Test.YthddhcodlmlaiaaBase
namespace Go.Proofs.Ythddhcodlmlaiaa
open Go.RowKit Go.Shelf

variable {F : Fence} {n : Nat} {P : Program}

/-- The loop's record. -/
abbrev lrec (fn : FuncId) (tmps : Array Value) (ps : Array Tmp) (assign body : Code) (D : Nat) (st : LoopState) (pe : Option Code) : Loop :=
  { state := st, pending := pe, fn := fn, tmps := tmps, params := ps, assign := assign, body := body, defers := D }

/-- The block for the deferred calls of the rounds lies at 'D', the loop's record behind it. -/
structure LoopAt (W : World) (D : Nat) (r : Loop) : Prop where
  rec_ : W.heap[D + 1]? = some (.loop r)
  dfr : W.heap[D]? = some (.deferred (some []))

theorem LoopAt.lt {W : World} {D : Nat} {r : Loop} (h : LoopAt W D r) : D + 1 < W.heap.size := (Array.getElem?_eq_some_iff.1 h.rec_).1
theorem LoopAt.put {W : World} {D : Nat} {r r' : Loop} (h : LoopAt W D r) : LoopAt (W.putObj (D + 1) (.loop r')) D r' :=
  ⟨World.putObj_heap_same h.lt, (World.putObj_heap_other (by omega)).trans h.dfr⟩
theorem LoopAt.same {W W' : World} {D : Nat} {r : Loop} (h : LoopAt W D r) (h1 : W'.heap[D + 1]? = W.heap[D + 1]?) (h2 : W'.heap[D]? = W.heap[D]?) : LoopAt W' D r :=
  ⟨h1.trans h.rec_, h2.trans h.dfr⟩
theorem LoopAt.alloc {W : World} {D : Nat} {r : Loop} (h : LoopAt W D r) (o : Obj) : LoopAt (W.alloc o) D r :=
  h.same (Below.heap_alloc _ _ _ h.lt) (Below.heap_alloc _ _ _ (by have := h.lt; omega))
theorem LoopAt.drew {W : World} {D : Nat} {r : Loop} (h : LoopAt W D r) : LoopAt W.drew D r := ⟨h.rec_, h.dfr⟩
theorem LoopAt.drewN {W : World} {D : Nat} {r : Loop} (h : LoopAt W D r) (k : Nat) : LoopAt (W.drewN k) D r := ⟨h.rec_, h.dfr⟩
theorem LoopAt.setCell {W : World} {D : Nat} {r : Loop} (h : LoopAt W D r) (p : Addr) (v : Value) : LoopAt (W.setCell p v) D r :=
  ⟨(KeepsOthers.setCell W p v).same _ _ h.rec_ rfl, (KeepsOthers.setCell W p v).same _ _ h.dfr rfl⟩
theorem LoopAt.grown {W W' : World} {D : Nat} {r : Loop} {row : Option Nat} (h : LoopAt W D r) (hg : W.grownBy W' row) (hr : row ≠ some D ∧ row ≠ some (D + 1)) : LoopAt W' D r :=
  h.same (hg.block _ h.lt (fun e => hr.2 e.symm)) (hg.block _ (by have := h.lt; omega) (fun e => hr.1 e.symm))
theorem LoopAt.below {W W' : World} {D B : Nat} {r : Loop} (h : LoopAt W D r) (hb : Below B W W') (hB : D + 1 < B) : LoopAt W' D r :=
  h.same (hb.block _ hB) (hb.block _ (by omega))

/-- The statement. Behind the iterator the record is at rest: the walk goes on; or a jump is pending: it is taken. -/
theorem rangeFunc_start {g : Operand} {ps : Array Tmp} {assign body : Code} {Q : Exit → Act → World → Prop} {a : Act} {w : World}
    (hro : F.round = none) (h1 : 1 ≤ n) {gf : Nat} {lb : Array Value} (hg : a.eval g = .func (.func gf) #[] lb) (hFg : F.fn gf) (eg : ∀ args w, (callFunc gf args).run P w = .ok (.enter gf args) w)
    (hcall : ∀ fn, F.fn fn → ∀ rec, rec = lrec fn a.tmps ps assign body w.heap.size → ∀ W1, W1 = (w.alloc (.deferred (some []))).alloc (.loop (rec .ready none)) →
      LoopAt W1 w.heap.size (rec .ready none) →
      CallsIn F (n - 1) P gf (#[.func (.yield (w.heap.size + 1)) #[] #[]] ++ lb) W1 fun e W => (∃ v, e = .returned v) ∧
        ((LoopAt W w.heap.size (rec .ready none) ∧
            ∀ r, Q .normal { a with defers := { target := .collected w.heap.size, args := #[] } :: a.defers } (W.putObj (w.heap.size + 1) (.loop r))) ∨
         (∃ c, LoopAt W w.heap.size (rec .done (some c)) ∧
            ∀ r, c.wpIn F n P Q { a with defers := { target := .collected w.heap.size, args := #[] } :: a.defers } (W.putObj (w.heap.size + 1) (.loop r))))) :
    (Code.rangeFunc g ps assign body).wpIn F n P Q a w := by
  refine wpIn_rangeFunc ?_
  intro fn hfn
  rw [hro]
  obtain ⟨W1, hW1⟩ : ∃ W1, (w.alloc (.deferred (some []))).alloc (.loop (lrec fn a.tmps ps assign body w.heap.size .ready none)) = W1 := ⟨_, rfl⟩
  have hL1 : W1.heap[w.heap.size + 1]? = some (.loop (lrec fn a.tmps ps assign body w.heap.size .ready none)) := by
    rw [← hW1]; have := World.alloc_heap_new (w.alloc (.deferred (some []))) (.loop (lrec fn a.tmps ps assign body w.heap.size .ready none)); rwa [World.size_alloc] at this
  have hK1 : W1.heap[w.heap.size]? = some (.deferred (some [])) := by
    rw [← hW1]; exact (Below.heap_alloc _ _ _ (by simp)).trans (World.alloc_heap_new w _)
  refine ⟨w.heap.size + 1, [{ target := .collected w.heap.size, args := #[] }], W1, { target := .fn (.func gf) lb, args := #[.func (.yield (w.heap.size + 1)) #[] #[]] }, W1, gf,
    #[.func (.yield (w.heap.size + 1)) #[] #[]] ++ lb, W1, ?_, ?_, ?_, ?_, fun _ => h1, ?_⟩
  · rw [← hW1]; exact run_enterLoop_outer _ _ _ _ _
  · simp only [resolve, hg]
    simp [go_sem]
  · intro f' hf'; simp [Target.leads] at hf'; subst hf'; exact hFg
  · simp [invoke, go_sem, eg]
  · refine (hcall fn hfn _ rfl _ hW1.symm ⟨hL1, hK1⟩).mono ?_
    rintro e W2 ⟨⟨v, rfl⟩, (⟨hl, hq⟩ | ⟨c, hl, hq⟩)⟩
    · exact ⟨none, _, run_endLoop (P := P) hl.rec_ (by simp), hq _⟩
    · exact ⟨some c, _, run_endLoop (P := P) hl.rec_ (by simp), hq _⟩

/-- How a round's body may be left. -/
def roundEnd (D : Nat) (rec : LoopState → Option Code → Loop) (R : Ending → World → Prop) : Exit → Act → World → Prop
  | .normal, _, W => LoopAt W D (rec .busy none) ∧ R (.returned (.bool true)) (W.putObj (D + 1) (.loop (rec .ready none)))
  | .ret, _, W => LoopAt W D (rec .busy none) ∧ R (.returned (.bool false)) (W.putObj (D + 1) (.loop (rec .done (some .ret))))
  | .exit id, _, W => LoopAt W D (rec .busy none) ∧ R (.returned (.bool false)) (W.putObj (D + 1) (.loop (rec .done (some (.exit id)))))
  | .goto t, _, W => LoopAt W D (rec .busy none) ∧ R (.returned (.bool false)) (W.putObj (D + 1) (.loop (rec .done (some (.goto t)))))
  | .panic _, _, _ => False
  | .outgrown, _, _ => False

/-- One round: the iterator calls yield. -/
theorem yield_round {m : Nat} {fn : FuncId} {tmps : Array Value} {ps : Array Tmp} {assign body : Code} {D : Nat} {W : World} {args : Array Value} {R : Ending → World → Prop} {a₁ : Act}
    {rec : LoopState → Option Code → Loop} (hrec : rec = lrec fn tmps ps assign body D) (hfn : F.fn fn) (hl : LoopAt W D (rec .ready none)) (hps : args.size = ps.size)
    (hassign : ∀ (K : Act → World → Prop), K a₁ W →
      assign.wpIn (F.inRound (D + 1)) m P (Exit.then K (fun _ _ _ => False)) { tmps := (ps.zip args).foldl (fun t (p, v) => t.setIfInBounds p v) tmps, defers := [] } W)
    (hbody : ∀ W2, W2 = W.putObj (D + 1) (.loop (rec .busy none)) → LoopAt W2 D (rec .busy none) →
      body.wpIn (F.inRound (D + 1)) m P (roundEnd D rec R) a₁ W2) :
    YieldAt F m P (D + 1) args W R := by
  subst hrec
  have hy := run_yield (P := P) (args := args) hl.rec_ hps
  refine ⟨fn, _, assign, body, hy, roundIn_of_wpIn hfn (hassign _ ⟨_, run_beginRound hl.rec_ rfl, ?_⟩)⟩
  refine wpIn_mono (hbody _ rfl hl.put) ?_
  rintro e a3 W3 hp
  cases e with
  | normal => exact ⟨_, _, run_endRound (P := P) none hp.1.rec_, hp.2⟩
  | ret => exact ⟨_, _, run_endRound (P := P) (some .ret) hp.1.rec_, hp.2⟩
  | exit id => exact ⟨_, _, run_endRound (P := P) (some (.exit id)) hp.1.rec_, hp.2⟩
  | goto t => exact ⟨_, _, run_endRound (P := P) (some (.goto t)) hp.1.rec_, hp.2⟩
  | panic ch => exact hp.elim
  | outgrown => exact hp.elim

theorem LoopAt.keeps {W W' : World} {D : Nat} {r : Loop} (h : LoopAt W D r) (hk : KeepsOthers W W') : LoopAt W' D r :=
  ⟨hk.same _ _ h.rec_ rfl, hk.same _ _ h.dfr rfl⟩
/-- The record's turn changes no other block. -/
theorem putObj_grown (W : World) (l : Nat) (o : Obj) : W.grownBy (W.putObj l o) (some l) := grownBy_putObj' W l o
theorem putObj_cell {W : World} {D : Nat} {r r' : Loop} (h : LoopAt W D r) (p : Addr) : (W.putObj (D + 1) (.loop r')).cell? p = W.cell? p := by
  by_cases hp : p.block = D + 1
  · have h1 : W.heap[p.block]? = some (.loop r) := by rw [hp]; exact h.rec_
    have h2 : (W.putObj (D + 1) (.loop r')).heap[p.block]? = some (.loop r') := by rw [hp]; exact World.putObj_heap_same h.lt
    simp [World.cell?, h1, h2]
  · exact World.cell?_of_block (World.putObj_heap_other hp)
theorem putObj_frozen {W : World} {D : Nat} {r r' : Loop} (h : LoopAt W D r) (p : Addr) : (W.putObj (D + 1) (.loop r')).frozen? p = W.frozen? p := by
  by_cases hp : p.block = D + 1
  · have h1 : W.heap[p.block]? = some (.loop r) := by rw [hp]; exact h.rec_
    have h2 : (W.putObj (D + 1) (.loop r')).heap[p.block]? = some (.loop r') := by rw [hp]; exact World.putObj_heap_same h.lt
    simp [World.frozen?, h1, h2]
  · exact World.frozen?_of_block (World.putObj_heap_other hp)
end Go.Proofs.Ythddhcodlmlaiaa
