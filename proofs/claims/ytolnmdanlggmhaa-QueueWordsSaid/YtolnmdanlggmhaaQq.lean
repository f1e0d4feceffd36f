/- A queue in memory: a struct of a slice, a number and a map, told by its blocks. No program in sight. -/
import Derived.Test.YtolnmdanlggmhaaBase
import Derived.Maps.OwnSet
import Derived.Maps.OwnOps
import Derived.ArgAppend
namespace Go.Proofs.Ytolnmdanlggmhaa
open Go.RowKit Go.Maps

/-! ### A slice whose array is the call's own, wherever in it the slice begins (one cell an element) -/
def QRow (w : World) (v : Value) (xs : List Value) : Prop :=
  (v = .slice none 0 0 ∧ xs = []) ∨
  ∃ g off n c cs t, v = .slice (some ⟨g, off, none⟩) n c ∧ w.heap[g]? = some (.cells cs t (0, 0)) ∧ xs.length = n ∧ n ≤ c ∧ c ≤ maxLen ∧ off + c ≤ cs.size ∧ ∀ j : Nat, j < n → cs[off + j]? = xs[j]?

theorem QRow.nil (w : World) : QRow w (.slice none 0 0) [] := .inl ⟨rfl, rfl⟩

theorem QRow.keep {w w' : World} {v : Value} {xs : List Value} (h : QRow w v xs) (hk : ∀ g, v.ownBlock = some g → w'.heap[g]? = w.heap[g]?) : QRow w' v xs := by
  rcases h with h | ⟨g, off, n, c, cs, t, rfl, hg, h1, h2, h3, h4, h5⟩
  · exact .inl h
  · exact .inr ⟨g, off, n, c, cs, t, rfl, (hk g rfl).trans hg, h1, h2, h3, h4, h5⟩

theorem QRow.lt {w : World} {v : Value} {xs : List Value} (h : QRow w v xs) : ∀ g, v.ownBlock = some g → g < w.heap.size := by
  intro g hg
  rcases h with ⟨rfl, _⟩ | ⟨g', off, n, c, cs, t, rfl, hb, _⟩
  · cases hg
  · injection hg with e
    subst e
    exact (Array.getElem?_eq_some_iff.1 hb).1

theorem QRow.slice {w : World} {v : Value} {xs : List Value} (h : QRow w v xs) : ∃ A c, v = .slice A xs.length c ∧ xs.length ≤ c ∧ c ≤ maxLen := by
  rcases h with ⟨rfl, rfl⟩ | ⟨g, off, n, c, cs, t, rfl, hg, rfl, h2, h3, _⟩
  · exact ⟨none, 0, rfl, Nat.le_refl _, by simp [maxLen]⟩
  · exact ⟨_, c, rfl, h2, h3⟩

theorem addN (g off j : Nat) : (⟨g, off, none⟩ : Addr).add j = ⟨g, off + j, none⟩ := by
  unfold Addr.add; split <;> simp_all

theorem QRow.rd {w : World} {A : Option Addr} {n c : Nat} {xs : List Value} (h : QRow w (.slice A n c) xs) : Rd w w.heap.size A n xs := by
  have hl := h.lt
  rcases h with ⟨h, rfl⟩ | ⟨g, off, n', c', cs, t, h, hg, h1, h2, h3, h4, h5⟩
  · injection h with _ e _; subst e; exact Rd.nil _ _ _
  · injection h with e1 e2 e3
    subst e1; subst e2; subst e3
    refine ⟨h1, fun j u hu => ⟨_, rfl, hl g rfl, ?_⟩⟩
    have hj : j < n := by
      have := (List.getElem?_eq_some_iff.1 hu).1
      omega
    rw [addN, cell_of_row w g (off + j) cs t (0, 0) hg, h5 j hj, hu]

theorem QRow.of_own {w : World} {base : Nat} {e : TypeId} {v : Value} {n : Nat} {xs : List Value} (h : w.ownsRow base e 1 v n xs) : QRow w v xs := by
  obtain ⟨hl, h⟩ := h
  rw [Nat.mul_one] at hl
  rcases h with ⟨rfl, rfl⟩ | ⟨g, cap, cur, rfl, _, hg, h1, h2, h3, h4⟩
  · exact .inl ⟨rfl, List.eq_nil_of_length_eq_zero hl⟩
  · rw [Nat.mul_one] at h3 h4
    refine .inr ⟨g, 0, n, cap, cur, e, rfl, hg, hl, h1, h2, by omega, fun j hj => ?_⟩
    rw [Nat.zero_add, ← h4, List.getElem?_take, if_pos hj]
    simp

/-- 'v[1:]'. -/
theorem QRow.tail {w : World} {A : Option Addr} {n c : Nat} {x : Value} {xs : List Value} (h : QRow w (.slice A n c) (x :: xs)) :
    QRow w (.slice (if c = 1 then A else A.map (·.add 1)) (n - 1) (c - 1)) xs ∧ (Value.slice (if c = 1 then A else A.map (·.add 1)) (n - 1) (c - 1)).ownBlock = (Value.slice A n c).ownBlock := by
  rcases h with ⟨h, e⟩ | ⟨g, off, n', c', cs, t, h, hg, h1, h2, h3, h4, h5⟩
  · cases e
  · injection h with e1 e2 e3
    subst e1; subst e2; subst e3
    simp only [List.length_cons] at h1
    by_cases hc : c = 1
    · subst hc
      have hxs : xs = [] := List.eq_nil_of_length_eq_zero (by omega)
      subst hxs
      refine ⟨.inr ⟨g, off, 0, 0, cs, t, ?_, hg, rfl, Nat.le_refl _, by omega, by omega, fun j hj => by omega⟩, rfl⟩
      simp only [List.length_nil] at h1
      rw [if_pos rfl, ← h1]
    · refine ⟨.inr ⟨g, off + 1, n - 1, c - 1, cs, t, ?_, hg, by omega, by omega, by omega, by omega, fun j hj => ?_⟩, ?_⟩
      · rw [if_neg hc]; simp [addN]
      · have := h5 (j + 1) (by omega)
        rw [show off + 1 + j = off + (j + 1) by omega, this]; rfl
      · rw [if_neg hc]; simp [Value.ownBlock, addN]

/-- 'v[:i:i]'. -/
theorem QRow.front {w : World} {A : Option Addr} {n c : Nat} {xs : List Value} (h : QRow w (.slice A n c) xs) {i : Nat} (hi : i ≤ n) : QRow w (.slice A i i) (xs.take i) := by
  rcases h with ⟨h, rfl⟩ | ⟨g, off, n', c', cs, t, h, hg, h1, h2, h3, h4, h5⟩
  · injection h with e1 e2 e3
    subst e1; subst e2
    obtain rfl : i = 0 := by omega
    exact .inl ⟨rfl, rfl⟩
  · injection h with e1 e2 e3
    subst e1; subst e2; subst e3
    refine .inr ⟨g, off, i, i, cs, t, rfl, hg, by rw [List.length_take]; omega, Nat.le_refl _, by omega, by omega, fun j hj => ?_⟩
    rw [h5 j (by omega), List.getElem?_take, if_pos hj]

section
variable {P : Program} (w : World)
/-- Elements appended to it. -/
theorem run_append_q (t ty e : TypeId) (i : TypeInfo) (z : Value) (bytes : Nat) (ht : P.underlying t = some (.slice e)) (hi : P.info? e = some i) (hz : i.zero = some z)
    (hsize : i.size = 1) (hby : i.bytes = bytes) (hzs : z.cells.size = 1)
    (v : Value) (xs : List Value) (hq : QRow w v xs)
    (ad : Addr) (m c : Nat) (x : Value) (news : List Value) (hl : (x :: news).length = m) (hnews : ∀ j u, (x :: news)[j]? = some u → w.cell? (ad.add j) = some u) (h1 : ∀ u ∈ x :: news, u.oneCell' = true)
    (hone : news = [] ∨ ∃ A, v = .slice A xs.length xs.length)
    (h63 : xs.length + m ≤ maxLen) (hbytes : (xs.length + m) * bytes ≤ 140737488355328) :
    ∃ v' w', (Builtin.append_ #[t, t] ty #[v, .slice (some ad) m c]).run P w = .ok v' w' ∧ QRow w' v' (xs ++ x :: news) ∧ w.grownBy w' v.ownBlock ∧
      (v'.ownBlock = v.ownBlock ∨ ∀ g, v'.ownBlock = some g → w.heap.size ≤ g) := by
  rcases hq with ⟨rfl, rfl⟩ | ⟨g, off, n, cap, cs, t0, rfl, hg, hn, hnc, hcm, hoc, hcs⟩
  · obtain ⟨v', w', hrun, r1, r2, _⟩ := run_append_own (P := P) w w.heap.size t ty e i z 1 bytes ht hi hz hsize hby hzs (by omega) (.slice none 0 0) 0 [] (World.ownsRow_nil w _ e 1) ad m c (x :: news) (by omega) hnews h1 (by simpa using h63) (by simpa using hbytes) (Nat.le_refl _)
    refine ⟨v', w', hrun, QRow.of_own (n := m) (by simpa using r1), r2, .inr fun g hg => ?_⟩
    rcases r1.2 with ⟨rfl, _⟩ | ⟨g'', cap', cur, rfl, hb, _⟩
    · cases hg
    · injection hg with hg; subst hg; exact hb
  · subst hn
    by_cases hr : xs.length + m ≤ cap
    · have hnl : news = [] := by
        rcases hone with h | h
        · exact h
        · obtain ⟨A, h⟩ := h
          injection h with _ _ h
          simp at hl
          exact List.eq_nil_of_length_eq_zero (by omega)
      subst hnl
      have hm1 : m = 1 := by simpa using hl.symm
      subst hm1
      have hcell : w.cell? ⟨g, off + xs.length * i.size + 0, none⟩ = cs[off + xs.length]? := by
        rw [hsize]; simp [cell_of_row w g (off + xs.length) cs t0 (0, 0) hg]
      have hrun := run_append_room_cells (P := P) w t ty e i ht hi g off xs.length cap ad 1 c [x] (by simp [hsize]) hnews h1 hr
        (fun j hj => by
          obtain rfl : j = 0 := by simpa using hj
          rw [hcell, Array.getElem?_eq_getElem (by omega)]; rfl)
        (fun j hj => frozen_of_row w g _ cs t0 hg)
      rw [hsize, Nat.mul_one] at hrun
      have hh := heap_setCell_same w g (off + xs.length) cs t0 x hg
      refine ⟨_, _, hrun, .inr ⟨g, off, xs.length + 1, cap, cs.setIfInBounds (off + xs.length) x, t0, rfl, hh, by simp, hr, hcm, by simpa using hoc, fun j hj => ?_⟩, ?_, .inl rfl⟩
      · by_cases hjn : j < xs.length
        · rw [List.getElem?_append_left hjn, ← hcs j hjn, Array.getElem?_setIfInBounds_ne (by omega)]
        · obtain rfl : j = xs.length := by omega
          rw [List.getElem?_append_right (Nat.le_refl _), Nat.sub_self, Array.getElem?_setIfInBounds_self_of_lt (by omega)]; rfl
      · exact ⟨rfl, rfl, rfl, by simp [World.setCells, World.setCell], fun k hk hne => heap_setCell_other w _ k x (fun e => hne (by rw [e]; rfl))⟩
    · obtain ⟨v', w', hrun, r1, r2⟩ := run_append_arg_grows (P := P) w t ty e i z 1 bytes ht hi hz hsize hby hzs (by omega) ⟨g, off, none⟩ xs.length cap xs (by omega)
        (fun j u hj => by
          have hlt := (List.getElem?_eq_some_iff.1 hj).1
          rw [addN, cell_of_row w g (off + j) cs t0 (0, 0) hg, hcs j hlt, hj]) ad m c (x :: news) (by omega) hnews (by omega) h63 hbytes
      refine ⟨v', w', hrun, QRow.of_own r1, ⟨r2.os, r2.tape, r2.output, r2.size, fun k hk _ => r2.block k hk (by simp)⟩, ?_⟩
      right
      intro g' hg'
      rcases r1.2 with ⟨rfl, _⟩ | ⟨g'', cap', cur, rfl, hb, _⟩
      · cases hg'
      · injection hg' with hg'; subst hg'; exact hb
theorem wpList_append_q {ops : Array Oper} {rest : List Oper} {o : Oper} {a : Act} {Q : Exit → Act → World → Prop} (hgd : o.guard = none) (s x : Operand) (t : TypeId)
    (ho : o.op = .call { callee := .builtin .append, args := #[s, x], argTypes := #[t, t] })
    (e : TypeId) (i : TypeInfo) (z : Value) (bytes : Nat) (ht : P.underlying t = some (.slice e)) (hi : P.info? e = some i) (hz : i.zero = some z)
    (hsize : i.size = 1) (hby : i.bytes = bytes) (hzs : z.cells.size = 1)
    (v : Value) (xs : List Value) (hs : a.eval s = v) (hq : QRow w v xs)
    (ad : Addr) (c : Nat) (u : Value) (hx : a.eval x = .slice (some ad) 1 c) (hu : w.cell? ad = some u) (h1 : u.oneCell' = true)
    (h63 : xs.length + 1 ≤ maxLen) (hbytes : (xs.length + 1) * bytes ≤ 140737488355328)
    (h : ∀ v' w', QRow w' v' (xs ++ [u]) → w.grownBy w' v.ownBlock → (v'.ownBlock = v.ownBlock ∨ ∀ g, v'.ownBlock = some g → w.heap.size ≤ g) → wpList P ops Q rest (a.put o.dst v') w') : wpList P ops Q (o :: rest) a w := by
  refine wpList_plain hgd fun K hK => ?_
  obtain ⟨v', w', hrun, h2, h3, h4⟩ := run_append_q (P := P) w t o.type e i z bytes ht hi hz hsize hby hzs v xs hq ad 1 c u [] rfl (fun j u' hj => by
    rcases j with _ | j
    · simp at hj; subst hj
      have e : ad.add 0 = ad := by unfold Addr.add; simp
      rw [e]; exact hu
    · simp at hj) (by simpa using h1) (.inl rfl) h63 hbytes
  unfold Oper.wp execOp
  simp only [ho, resolve, invoke, builtin, Sem.run_bind, Sem.run_pure, Result.andThen_ok, List.map_toArray, List.map_cons, List.map_nil, hs, hx, hrun]
  exact hK _ _ (h v' w' h2 h3 h4)
end

/-! ### The queue -/
/-- Block b holds a queue: its slice reads as xs, its map says of each of them where it stands (f: the number of the first one). All its blocks lie in fp. -/
structure QOf {α : Type} (val : α → Value) (lit : α → Lit) (P : Program) (k E : TypeId) (w : World) (fp : Nat → Prop) (b f : Nat) (xs : List α) (v : Value) (bm : Nat) (D : DataW Unit) (t : TypeId) : Prop where
  box : w.heap[b]? = some (.cells #[v, .int .i64 f, .map (some bm)] t (0, 0))
  row : QRow w v (xs.map val)
  own : w.ownsMap P k (plainElem P E) bm (Maps.size D) D
  size : Maps.size D = xs.length
  has : ∀ x, Maps.has D (lit x) = true ↔ x ∈ xs
  atk : ∀ (i : Nat) x, xs[i]? = some x → D.atKey (lit x) (.lit (.int .i64 0)) = .lit (.int .i64 ((f + i : Nat) : Int))
  nodup : xs.Nodup
  fb : fp b
  fm : fp bm
  fg : ∀ g, v.ownBlock = some g → fp g
  ng : ∀ g, v.ownBlock = some g → g ≠ b

/-- What a step that works on a queue may do: only the queue's blocks turn, and its new blocks are new. -/
structure QStep (fp fp' : Nat → Prop) (w w' : World) : Prop where
  os : w'.os = w.os
  tape : w'.tape = w.tape
  output : w'.output = w.output
  size : w.heap.size ≤ w'.heap.size
  block : ∀ i, i < w.heap.size → ¬ fp i → w'.heap[i]? = w.heap[i]?
  foot : ∀ i, fp' i → fp i ∨ w.heap.size ≤ i

theorem QStep.refl (fp : Nat → Prop) (w : World) : QStep fp fp w w := ⟨rfl, rfl, rfl, Nat.le_refl _, fun _ _ _ => rfl, fun _ h => .inl h⟩
theorem QStep.trans {fp fp' fp'' : Nat → Prop} {w w' w'' : World} (h : QStep fp fp' w w') (k : QStep fp' fp'' w' w'') : QStep fp fp'' w w'' :=
  ⟨k.os.trans h.os, k.tape.trans h.tape, k.output.trans h.output, Nat.le_trans h.size k.size,
    fun i hi hn => (k.block i (Nat.lt_of_lt_of_le hi h.size) (fun hf => by rcases h.foot i hf with h1 | h1; exact hn h1; omega)).trans (h.block i hi hn),
    fun i hf => by
      rcases k.foot i hf with h1 | h1
      · exact h.foot i h1
      · exact .inr (Nat.le_trans h.size h1)⟩
theorem QStep.below {fp fp' : Nat → Prop} {w w' : World} {B : Nat} (h : QStep fp fp' w w') (hfp : ∀ i, fp i → B ≤ i) (hB : B ≤ w.heap.size) : Below B w w' :=
  ⟨h.os, h.tape, h.output, h.size, fun i hi => h.block i (by omega) (fun hf => by have := hfp i hf; omega)⟩
theorem QStep.low {fp fp' : Nat → Prop} {w w' : World} {B : Nat} (h : QStep fp fp' w w') (hfp : ∀ i, fp i → B ≤ i) (hB : B ≤ w.heap.size) : ∀ i, fp' i → B ≤ i := fun i hi => by
  rcases h.foot i hi with h1 | h1
  · exact hfp i h1
  · omega
theorem QStep.off {fp fp' : Nat → Prop} {w w' : World} (h : QStep fp fp' w w') {g : Nat} (hg : g < w.heap.size) (hn : ¬ fp g) : ¬ fp' g := fun hf => by
  rcases h.foot g hf with h1 | h1
  · exact hn h1
  · omega

section
variable {P : Program} {k E : TypeId} {w w' : World} {fp fp' : Nat → Prop} {b f : Nat} {α : Type} {val : α → Value} {lit : α → Lit} {xs : List α} {v : Value} {bm : Nat} {D : DataW Unit} {t : TypeId}

theorem QOf.keep (h : QOf val lit P k E w fp b f xs v bm D t) (hk : ∀ i, fp i → i < w.heap.size → w'.heap[i]? = w.heap[i]?) : QOf val lit P k E w' fp b f xs v bm D t := by
  have h1 : b < w.heap.size := (Array.getElem?_eq_some_iff.1 h.box).1
  have h2 := h.own.lt
  refine ⟨(hk b h.fb h1).trans h.box, h.row.keep fun g hg => hk g (h.fg g hg) (h.row.lt g hg), ?_, h.size, h.has, h.atk, h.nodup, h.fb, h.fm, h.fg, h.ng⟩
  obtain ⟨es, clock, hb, r⟩ := h.own
  exact ⟨es, clock, (hk bm h.fm h2).trans hb, r⟩
theorem QOf.mono (h : QOf val lit P k E w fp b f xs v bm D t) (hf : ∀ i, fp i → fp' i) : QOf val lit P k E w fp' b f xs v bm D t :=
  ⟨h.box, h.row, h.own, h.size, h.has, h.atk, h.nodup, hf _ h.fb, hf _ h.fm, fun g hg => hf _ (h.fg g hg), h.ng⟩
theorem QOf.alloc (h : QOf val lit P k E w fp b f xs v bm D t) (o : Obj) : QOf val lit P k E (w.alloc o) fp b f xs v bm D t :=
  h.keep fun i _ hi => Below.heap_alloc w o i hi
theorem QOf.drewN (h : QOf val lit P k E w fp b f xs v bm D t) (n : Nat) : QOf val lit P k E (w.drewN n) fp b f xs v bm D t := h.keep fun _ _ _ => rfl
theorem QOf.blt (h : QOf val lit P k E w fp b f xs v bm D t) : b < w.heap.size := (Array.getElem?_eq_some_iff.1 h.box).1
theorem QOf.cell0 (h : QOf val lit P k E w fp b f xs v bm D t) : w.cell? ⟨b, 0, none⟩ = some v := blk_cell h.box 0 _ rfl
theorem QOf.cell1 (h : QOf val lit P k E w fp b f xs v bm D t) : w.cell? ⟨b, 1, none⟩ = some (.int .i64 f) := blk_cell h.box 1 _ rfl
theorem QOf.cell2 (h : QOf val lit P k E w fp b f xs v bm D t) : w.cell? ⟨b, 2, none⟩ = some (.map (some bm)) := blk_cell h.box 2 _ rfl
theorem QOf.mne (h : QOf val lit P k E w fp b f xs v bm D t) : bm ≠ b := fun e => by
  obtain ⟨es, clock, hb, _⟩ := h.own
  rw [e, h.box] at hb
  injection hb with hb
  cases hb
theorem QOf.mng (h : QOf val lit P k E w fp b f xs v bm D t) : ∀ g, v.ownBlock = some g → g ≠ bm := fun g hg e => by
  obtain ⟨es, clock, hb, _⟩ := h.own
  rcases h.row with ⟨rfl, _⟩ | ⟨g', off, n, c, cs, t', rfl, hg', _⟩
  · cases hg
  · injection hg with hg
    have e3 : g' = bm := hg.trans e
    rw [e3, hb] at hg'
    injection hg' with hg'
    cases hg'
end

/-- A map's bound may be taken as its size. -/
theorem own_tight {H : Type} {P : Program} {k : TypeId} {R : Value → Option (DataW H × List MemPlace)} {w : World} {b n : Nat} {D : DataW H} (h : w.ownsMap P k R b n D) : w.ownsMap P k R b (Maps.size D) D := by
  obtain ⟨es, clock, hb, F, hs, rfl⟩ := h
  exact ⟨es, clock, hb, F, by rw [Maps.size_eq, length_read]; exact Nat.le_refl _, rfl⟩

/-- Where a key stands on a list, or -1. -/
def placeOf {α : Type} [DecidableEq α] (xs : List α) (x : α) : Int := if x ∈ xs then (xs.idxOf x : Int) else -1
end Go.Proofs.Ytolnmdanlggmhaa
