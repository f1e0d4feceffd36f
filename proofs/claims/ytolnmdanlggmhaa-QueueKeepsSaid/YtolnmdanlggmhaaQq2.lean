/- What pushing and popping make of a queue in memory. No program in sight. -/
import Derived.Test.YtolnmdanlggmhaaQq
namespace Go.Proofs.Ytolnmdanlggmhaa
open Go.RowKit Go.Maps

section
variable {α : Type} [DecidableEq α] {val : α → Value} {lit : α → Lit} {P : Program} {k E : TypeId} {w w1 w2 w3 w4 : World} {fp : Nat → Prop} {b f : Nat} {xs : List α} {v v' : Value} {bm : Nat} {D : DataW Unit} {t : TypeId}

theorem QOf.push (h : QOf val lit P k E w fp b f xs v bm D t) (K : Keyed P k) (inj : ∀ a b, lit a = lit b → a = b) {x : α} (hx : x ∉ xs) (hk : WideAt.IsKeyLit (lit x)) {n : Nat}
    (own1 : w1.ownsMap P k (plainElem P E) bm n (D.put (lit x) (.lit (.int .i64 ((f + xs.length : Nat) : Int))))) (g1 : w.grownBy w1 (some bm)) (s1 : w1.heap.size ≤ w2.heap.size) (e2 : ∀ i, i < w1.heap.size → w2.heap[i]? = w1.heap[i]?)
    (i2 : w2.os = w1.os ∧ w2.tape = w1.tape ∧ w2.output = w1.output)
    (row3 : QRow w3 v' (xs.map val ++ [val x])) (g3 : w2.grownBy w3 v.ownBlock) (n3 : v'.ownBlock = v.ownBlock ∨ ∀ g, v'.ownBlock = some g → w2.heap.size ≤ g) :
    QOf val lit P k E (w3.setCell ⟨b, 0, none⟩ v') (fun i => fp i ∨ w.heap.size ≤ i) b f (xs ++ [x]) v' bm (D.put (lit x) (.lit (.int .i64 ((f + xs.length : Nat) : Int)))) t ∧
      QStep fp (fun i => fp i ∨ w.heap.size ≤ i) w (w3.setCell ⟨b, 0, none⟩ v') := by
  have hblt := h.blt
  have hbm := h.own.lt
  have hnhas : Maps.has D (lit x) = false := by
    cases e : Maps.has D (lit x) with
    | false => rfl
    | true => exact absurd ((h.has x).1 e) hx
  have e3 : ∀ i, i < w.heap.size → i ≠ bm → some i ≠ v.ownBlock → w3.heap[i]? = w.heap[i]? := fun i hi h1 h2 =>
    (g3.block i (by have := g1.size; omega) h2).trans ((e2 i (by have := g1.size; omega)).trans (g1.block i hi (fun e => h1 (by injection e))))
  have hb3 := (e3 b hblt (fun e => h.mne e.symm) (fun e => h.ng b e.symm rfl)).trans h.box
  have hng' : ∀ g, v'.ownBlock = some g → g ≠ b := fun g hg => by
    rcases n3 with n3 | n3
    · exact h.ng g (n3 ▸ hg)
    · have := n3 g hg; have := g1.size; omega
  have hs3 := g3.size
  have hs1 := g1.size
  have own3 : w3.ownsMap P k (plainElem P E) bm n (D.put (lit x) (.lit (.int .i64 ((f + xs.length : Nat) : Int)))) := by
    obtain ⟨es, clock, hb, r⟩ := own1
    exact ⟨es, clock, (g3.block bm (by omega) (fun e => h.mng bm e.symm rfl)).trans ((e2 bm (by omega)).trans hb), r⟩
  have hbs := heap_setCell_same w3 b 0 _ t v' hb3
  refine ⟨⟨hbs, by rw [List.map_append]; exact row3.keep fun g hg => heap_setCell_other w3 _ g v' (hng' g hg), own_tight (own3.setCell (fun e => h.mne e) v'), ?_, ?_, ?_, ?_, .inl h.fb, .inl h.fm, ?_, hng'⟩, ?_⟩
  · rw [Maps.size_put (h.own.tidy K), hnhas, h.size]; simp
  · intro y
    by_cases hy : y = x
    · subst hy
      simp [Maps.has_put_same h.own.isMap hk]
    · rw [Maps.has_put_other (fun e => hy (inj _ _ e)), h.has]
      simp [hy]
  · intro i y hi
    by_cases hlt : i < xs.length
    · rw [List.getElem?_append_left hlt] at hi
      have hy : y ≠ x := fun e => hx (e ▸ List.mem_of_getElem? hi)
      rw [Maps.atKey_put_other (fun e => hy (inj _ _ e))]
      exact h.atk i y hi
    · rw [List.getElem?_append_right (by omega)] at hi
      have h0 : i = xs.length := by
        have := (List.getElem?_eq_some_iff.1 hi).1
        simp at this; omega
      subst h0
      simp at hi
      subst hi
      exact Maps.atKey_put_same h.own.isMap hk _ _
  · rw [List.nodup_append]
    exact ⟨h.nodup, by simp, fun a ha b hb e => by simp at hb; subst hb; subst e; exact hx ha⟩
  · intro g hg
    rcases n3 with n3 | n3
    · exact .inl (h.fg g (n3 ▸ hg))
    · have := n3 g hg; exact .inr (by omega)
  · refine ⟨g3.os.trans (i2.1.trans g1.os), g3.tape.trans (i2.2.1.trans g1.tape), g3.output.trans (i2.2.2.trans g1.output), by show w.heap.size ≤ (w3.setCell _ _).heap.size; simp only [World.setCell, Array.size_modify]; omega, fun i hi hn => ?_, fun i hi => hi⟩
    rw [heap_setCell_other w3 _ i v' (fun e => hn (by rw [e]; exact h.fb))]
    exact e3 i hi (fun e => hn (by rw [e]; exact h.fm)) (fun e => hn (h.fg i e.symm))

theorem QOf.pop {x : α} (h : QOf val lit P k E w fp b f (x :: xs) v bm D t) (K : Keyed P k) (inj : ∀ a b, lit a = lit b → a = b) {n : Nat}
    (own1 : w1.ownsMap P k (plainElem P E) bm n (D.del (lit x))) (g1 : w.grownBy w1 (some bm)) (row : QRow w v' (xs.map val)) (hv : v'.ownBlock = v.ownBlock)
    (hb4 : w4.heap[b]? = some (.cells #[v', .int .i64 ((f + 1 : Nat) : Int), .map (some bm)] t (0, 0))) (e4 : ∀ i, i ≠ b → w4.heap[i]? = w1.heap[i]?) (s4 : w1.heap.size ≤ w4.heap.size) (i4 : w4.os = w1.os ∧ w4.tape = w1.tape ∧ w4.output = w1.output) :
    QOf val lit P k E w4 fp b (f + 1) xs v' bm (D.del (lit x)) t ∧ QStep fp fp w w4 := by
  have hbm := h.own.lt
  have hnd := List.nodup_cons.1 h.nodup
  have hhas : Maps.has D (lit x) = true := (h.has x).2 (by simp)
  have hs1 := g1.size
  have own4 : w4.ownsMap P k (plainElem P E) bm n (D.del (lit x)) := by
    obtain ⟨es, clock, hb, r⟩ := own1
    exact ⟨es, clock, (e4 bm h.mne).trans hb, r⟩
  refine ⟨⟨hb4, ?_, own_tight own4, ?_, ?_, ?_, hnd.2, h.fb, h.fm, fun g hg => h.fg g (hv ▸ hg), fun g hg => h.ng g (hv ▸ hg)⟩, ?_⟩
  · refine row.keep fun g hg => ?_
    have hgv : v.ownBlock = some g := hv ▸ hg
    rw [e4 g (h.ng g hgv)]
    exact g1.block g (row.lt g hg) (fun e => h.mng g hgv (by injection e))
  · have := Maps.size_del (k := lit x) (h.own.tidy K)
    rw [hhas, h.size] at this
    simp at this
    exact this
  · intro y
    by_cases hy : y = x
    · subst hy
      rw [Maps.has_del_same]
      simp [hnd.1]
    · rw [Maps.has_del_other (fun e => hy (inj _ _ e)), h.has]
      simp [hy]
  · intro i y hi
    have hy : y ≠ x := fun e => hnd.1 (e ▸ List.mem_of_getElem? hi)
    rw [Maps.atKey_del_other (fun e => hy (inj _ _ e)), h.atk (i + 1) y (by simpa using hi)]
    congr 3
    omega
  · refine ⟨i4.1.trans g1.os, i4.2.1.trans g1.tape, i4.2.2.trans g1.output, by omega, fun i hi hn => ?_, fun i hi => .inl hi⟩
    rw [e4 i (fun e => hn (e ▸ h.fb))]
    exact g1.block i hi (fun e => hn (by injection e with e; rw [e]; exact h.fm))
end

theorem QRow.addr {w : World} {A : Option Addr} {n c : Nat} {x : Value} {xs : List Value} (h : QRow w (.slice A n c) (x :: xs)) : ∃ g off, A = some ⟨g, off, none⟩ := by
  rcases h with ⟨_, e⟩ | ⟨g, off, n', c', cs, t, h, _⟩
  · cases e
  · injection h with e1 _ _
    exact ⟨g, off, e1⟩

/-- What both stores leave. -/
structure QStored (w : World) (b : Nat) (v' f' m : Value) (t : TypeId) (w' : World) : Prop where
  box : w'.heap[b]? = some (.cells #[v', f', m] t (0, 0))
  other : ∀ i, i ≠ b → w'.heap[i]? = w.heap[i]?
  size : w.heap.size ≤ w'.heap.size
  info : w'.os = w.os ∧ w'.tape = w.tape ∧ w'.output = w.output
theorem q_stores {w : World} {b : Nat} {v f m : Value} {t : TypeId} (v' f' : Value) (hb : w.heap[b]? = some (.cells #[v, f, m] t (0, 0))) :
    QStored w b v' f' m t ((w.setCell ⟨b, 0, none⟩ v').setCell ⟨b, 1, none⟩ f').drew :=
  ⟨heap_setCell_same _ b 1 _ t f' (heap_setCell_same w b 0 _ t v' hb), fun i hi => (heap_setCell_other _ _ i f' hi).trans (heap_setCell_other w _ i v' hi),
    by show _ ≤ ((w.setCell _ _).setCell _ _).heap.size; simp [World.setCell], rfl, rfl, rfl⟩
theorem q_stores' {w : World} {b : Nat} {v f m : Value} {t : TypeId} (v' f' : Value) (hb : w.heap[b]? = some (.cells #[v, f, m] t (0, 0))) :
    QStored w b v' f' m t ((w.setCell ⟨b, 1, none⟩ f').setCell ⟨b, 0, none⟩ v').drew :=
  ⟨heap_setCell_same _ b 0 _ t v' (heap_setCell_same w b 1 _ t f' hb), fun i hi => (heap_setCell_other _ _ i v' hi).trans (heap_setCell_other w _ i f' hi),
    by show _ ≤ ((w.setCell _ _).setCell _ _).heap.size; simp [World.setCell], rfl, rfl, rfl⟩

/-! ### The numbers and the strings -/
def intV (x : Int) : Value := .int .i64 x
def intL (x : Int) : Lit := .int .i64 x
def strV (l : List UInt8) : Value := .string ⟨l.toArray⟩
def strL (l : List UInt8) : Lit := .string l
theorem intL_inj : ∀ a b, intL a = intL b → a = b := fun a b h => by unfold intL at h; injection h
theorem strL_inj : ∀ a b, strL a = strL b → a = b := fun a b h => by unfold strL at h; injection h
theorem int_wf {x : Int} (h1 : -9223372036854775808 ≤ x) (h2 : x < 9223372036854775808) : (Lit.int .i64 x).wf = true := by
  simp [Lit.wf, IntKind.min, IntKind.max, IntKind.signed, IntKind.bits]
  omega
theorem placeOf_lt {α : Type} [DecidableEq α] {xs : List α} {x : α} (h : x ∈ xs) : xs.idxOf x < xs.length := List.idxOf_lt_length_of_mem h
theorem placeOf_get {α : Type} [DecidableEq α] {xs : List α} {x : α} (h : x ∈ xs) : xs[xs.idxOf x]? = some x := by
  rw [List.getElem?_eq_getElem (List.idxOf_lt_length_of_mem h)]
  simp
/-- Is it on the list? (one word, whatever the instances) -/
def memB {α : Type} [DecidableEq α] (x : α) (xs : List α) : Bool := decide (x ∈ xs)
/-- Added if it is not there. -/
def addX {α : Type} [DecidableEq α] (xs : List α) (x : α) : List α := if x ∈ xs then xs else xs ++ [x]
/-- What a list makes of a queue: each element once. -/
def newL {α : Type} [DecidableEq α] (l : List α) : List α := l.foldl addX []
section
variable {α : Type} [DecidableEq α]
theorem memB_in {x : α} {xs : List α} (h : x ∈ xs) : memB x xs = true := decide_eq_true h
theorem memB_out {x : α} {xs : List α} (h : x ∉ xs) : memB x xs = false := decide_eq_false h
theorem addX_in {x : α} {xs : List α} (h : x ∈ xs) : addX xs x = xs := if_pos h
theorem addX_out {x : α} {xs : List α} (h : x ∉ xs) : addX xs x = xs ++ [x] := if_neg h
theorem placeOf_in {x : α} {xs : List α} (h : x ∈ xs) : placeOf xs x = (xs.idxOf x : Int) := if_pos h
theorem placeOf_out {x : α} {xs : List α} (h : x ∉ xs) : placeOf xs x = -1 := if_neg h
theorem placeOf_ge (xs : List α) (x : α) : decide (0 ≤ placeOf xs x) = memB x xs := by
  by_cases h : x ∈ xs
  · rw [placeOf_in h, memB_in h, decide_eq_true (by omega)]
  · rw [placeOf_out h, memB_out h, decide_eq_false (by omega)]
theorem newL_take {l : List α} {k : Nat} {x : α} (h : l[k]? = some x) : newL (l.take (k + 1)) = addX (newL (l.take k)) x := by
  unfold newL
  rw [List.take_add_one, h]
  simp
theorem newL_len (l : List α) : (newL l).length ≤ l.length := by
  suffices ∀ (l acc : List α), (l.foldl addX acc).length ≤ acc.length + l.length by simpa [newL] using this l []
  intro l
  induction l with
  | nil => intro acc; simp
  | cons y l ih =>
    intro acc
    rw [List.foldl_cons]
    refine Nat.le_trans (ih _) ?_
    by_cases h : y ∈ acc
    · rw [addX_in h]; simp only [List.length_cons]; omega
    · rw [addX_out h]; simp only [List.length_cons, List.length_append, List.length_nil]; omega
theorem idx_lt {xs : List α} {x : α} (h : x ∈ xs) : ∃ i : Nat, placeOf xs x = (i : Int) ∧ i < xs.length ∧ xs[i]? = some x :=
  ⟨_, placeOf_in h, placeOf_lt h, placeOf_get h⟩
end
end Go.Proofs.Ytolnmdanlggmhaa
