/- Removing: the queue's and the reference's. -/
import Derived.Test.YtolnmdanlggmhaaRef
import Derived.Deep.RegionLaw
import Derived.Deep.AppendSrc
namespace Go.Proofs.Ytolnmdanlggmhaa
open Go.RowKit Go.Maps

section
variable {P : Program} (w : World)
/-- Elements appended to a full row, at a step of a region that draws its order. -/
theorem step_append_q {ops : Array Oper} {o : Oper} {a : Act} {K : Act → World → Prop} {Q : Exit → Act → World → Prop} {E : Prop} (hgd : o.guard = none) (s x : Operand) (t : TypeId)
    (ho : o.op = .call { callee := .builtin .append, args := #[s, x], argTypes := #[t, t] })
    (e : TypeId) (i : TypeInfo) (z : Value) (bytes : Nat) (ht : P.underlying t = some (.slice e)) (hi : P.info? e = some i) (hz : i.zero = some z)
    (hsize : i.size = 1) (hby : i.bytes = bytes) (hzs : z.cells.size = 1)
    (v : Value) (xs : List Value) (hs : a.eval s = v) (hq : QRow w v xs) (hfull : ∃ A, v = .slice A xs.length xs.length)
    (ad : Addr) (m c : Nat) (u : Value) (news : List Value) (hx : a.eval x = .slice (some ad) m c) (hl : (u :: news).length = m) (hnews : ∀ j u', (u :: news)[j]? = some u' → w.cell? (ad.add j) = some u') (h1 : ∀ u' ∈ u :: news, u'.oneCell' = true)
    (h63 : xs.length + m ≤ maxLen) (hbytes : (xs.length + m) * bytes ≤ 140737488355328)
    (h : ∀ v' w', QRow w' v' (xs ++ u :: news) → w.grownBy w' v.ownBlock → (v'.ownBlock = v.ownBlock ∨ ∀ g, v'.ownBlock = some g → w.heap.size ≤ g) → K (a.put o.dst v') w') :
    if Region.wanted o (yielded ops a.tmps) = true then Oper.wp P o a w K Q else E := by
  have hw : Region.wanted o (yielded ops a.tmps) = true := by simp [Region.wanted, hgd]
  rw [if_pos hw]
  obtain ⟨v', w', hrun, h2, h3, h4⟩ := run_append_q (P := P) w t o.type e i z bytes ht hi hz hsize hby hzs v xs hq ad m c u news hl hnews h1 (.inr hfull) h63 hbytes
  unfold Oper.wp execOp
  simp only [ho, resolve, invoke, builtin, Sem.run_bind, Sem.run_pure, Result.andThen_ok, List.map_toArray, List.map_cons, List.map_nil, hs, hx, hrun]
  exact h v' w' h2 h3 h4

/-- A source that may be nil, onto a row of the call's own, at a step of a region that draws its order. -/
theorem step_app {ops : Array Oper} {o : Oper} {a : Act} {K : Act → World → Prop} {Q : Exit → Act → World → Prop} {E : Prop} (hgd : o.guard = none) (s x : Operand) (t : TypeId)
    (ho : o.op = .call { callee := .builtin .append, args := #[s, x], argTypes := #[t, t] })
    (base : Nat) (e : TypeId) (i : TypeInfo) (z : Value) (bytes : Nat) (ht : P.underlying t = some (.slice e)) (hi : P.info? e = some i) (hz : i.zero = some z)
    (hsize : i.size = 1) (hby : i.bytes = bytes) (hzs : z.cells.size = 1)
    (v : Value) (n : Nat) (xs : List Value) (hs : a.eval s = v) (hown : w.ownsRow base e 1 v n xs)
    (B : Nat) (A : Option Addr) (m c : Nat) (news : List Value) (hx : a.eval x = .slice A m c) (hr : Rd w B A m news) (h1 : ∀ u ∈ news, u.oneCell' = true)
    (h63 : n + m ≤ maxLen) (hbytes : (n + m) * bytes ≤ 140737488355328) (hbase : base ≤ w.heap.size)
    (h : ∀ v' w', w'.ownsRow base e 1 v' (n + m) (xs ++ news) → w.grownBy w' v.ownBlock → (v'.ownBlock = v.ownBlock ∨ v'.ownBlock = some w.heap.size) → K (a.put o.dst v') w') :
    if Region.wanted o (yielded ops a.tmps) = true then Oper.wp P o a w K Q else E := by
  have hw : Region.wanted o (yielded ops a.tmps) = true := by simp [Region.wanted, hgd]
  rw [if_pos hw]
  obtain ⟨v', w', hrun, h2, h3, h4⟩ := run_app (P := P) w base t o.type e i z bytes ht hi hz hsize hby hzs v n xs hown B A m c news hr h1 h63 hbytes hbase
  unfold Oper.wp execOp
  simp only [ho, resolve, invoke, builtin, Sem.run_bind, Sem.run_pure, Result.andThen_ok, List.map_toArray, List.map_cons, List.map_nil, hs, hx, hrun]
  exact h v' w' h2 h3 h4
end

/-- The list without its i-th element. -/
def cutAt {α : Type} (xs : List α) (i : Nat) : List α := xs.take i ++ xs.drop (i + 1)
/-- The list without the element x. -/
def remX (xs : List Int) (x : Int) : List Int := if x ∈ xs then cutAt xs (xs.idxOf x) else xs
theorem remX_out {xs : List Int} {x : Int} (h : x ∉ xs) : remX xs x = xs := if_neg h
theorem remX_in {xs : List Int} {x : Int} (h : x ∈ xs) : ∃ i : Nat, placeOf xs x = (i : Int) ∧ i < xs.length ∧ xs[i]? = some x ∧ remX xs x = cutAt xs i :=
  ⟨_, placeOf_in h, placeOf_lt h, placeOf_get h, if_pos h⟩
theorem cutAt_len {α : Type} (xs : List α) {i : Nat} (h : i < xs.length) : (cutAt xs i).length = xs.length - 1 := by
  unfold cutAt
  rw [List.length_append, List.length_take, List.length_drop]
  omega
theorem cutAt_map {α β : Type} (f : α → β) (xs : List α) (i : Nat) : (cutAt xs i).map f = cutAt (xs.map f) i := by
  unfold cutAt
  rw [List.map_append, List.map_take, List.map_drop]
theorem cutAt_get {α : Type} {xs : List α} {i j : Nat} {y : α} (hi : i < xs.length) (h : (cutAt xs i)[j]? = some y) : xs[if j < i then j else j + 1]? = some y := by
  unfold cutAt at h
  by_cases hj : j < i
  · rw [if_pos hj]
    rw [List.getElem?_append_left (by rw [List.length_take]; omega), List.getElem?_take, if_pos hj] at h
    exact h
  · rw [if_neg hj]
    rw [List.getElem?_append_right (by rw [List.length_take]; omega), List.length_take, List.getElem?_drop] at h
    rwa [show i + 1 + (j - min i xs.length) = j + 1 by omega] at h
theorem cutAt_nodup {α : Type} {xs : List α} (h : xs.Nodup) (i : Nat) : (cutAt xs i).Nodup := by
  unfold cutAt
  have hs : (xs.take i ++ xs.drop (i + 1)).Sublist (xs.take i ++ xs.drop i) := List.Sublist.append (List.Sublist.refl _) (List.drop_sublist_drop_left xs (by omega))
  rw [List.take_append_drop] at hs
  exact h.sublist hs
theorem cutAt_mem {xs : List Int} {i : Nat} {x : Int} (hn : xs.Nodup) (hi : xs[i]? = some x) (y : Int) : y ∈ cutAt xs i ↔ y ∈ xs ∧ y ≠ x := by
  have hlt : i < xs.length := (List.getElem?_eq_some_iff.1 hi).1
  have e : xs = xs.take i ++ x :: xs.drop (i + 1) := by
    have h1 := List.take_append_drop i xs
    rw [List.drop_eq_getElem_cons hlt] at h1
    have h2 : xs[i] = x := by rw [List.getElem?_eq_getElem hlt] at hi; injection hi
    rw [h2] at h1
    exact h1.symm
  have hn2 := hn
  rw [e, List.nodup_append] at hn2
  obtain ⟨h1, h2, h3⟩ := hn2
  rw [List.nodup_cons] at h2
  constructor
  · intro h
    unfold cutAt at h
    rcases List.mem_append.1 h with h | h
    · refine ⟨List.mem_of_mem_take h, fun ex => ?_⟩
      exact h3 y h x (by simp) ex
    · refine ⟨List.mem_of_mem_drop h, fun ex => ?_⟩
      exact h2.1 (ex ▸ h)
  · rintro ⟨h, hne⟩
    rw [e] at h
    unfold cutAt
    rcases List.mem_append.1 h with h | h
    · exact List.mem_append.2 (.inl h)
    · rcases List.mem_cons.1 h with h | h
      · exact absurd h hne
      · exact List.mem_append.2 (.inr h)

/-- The map while the numbers behind the removed element are lowered: those from k on still stand one too high. -/
structure RemAt (D : DataW Unit) (f k : Nat) (ys : List Int) : Prop where
  size : Maps.size D = ys.length
  has : ∀ y, Maps.has D (intL y) = true ↔ y ∈ ys
  atk : ∀ (j : Nat) y, ys[j]? = some y → D.atKey (intL y) (.lit (.int .i64 0)) = .lit (.int .i64 ((f + j + (if k ≤ j then 1 else 0) : Nat) : Int))

theorem RemAt.start {P : Program} {k E : TypeId} {w : World} {fp : Nat → Prop} {b f : Nat} {xs : List Int} {v : Value} {bm : Nat} {D : DataW Unit} {t : TypeId} (h : QOf intV intL P k E w fp b f xs v bm D t) (K : Keyed P k) {i : Nat} {x : Int} (hi : xs[i]? = some x) :
    RemAt (D.del (intL x)) f i (cutAt xs i) := by
  have hlt : i < xs.length := (List.getElem?_eq_some_iff.1 hi).1
  have hm : x ∈ xs := List.mem_of_getElem? hi
  refine ⟨?_, ?_, ?_⟩
  · have := Maps.size_del (k := intL x) (h.own.tidy K)
    rw [(h.has x).2 hm, h.size] at this
    rw [cutAt_len xs hlt]
    simp at this
    omega
  · intro y
    rw [cutAt_mem h.nodup hi]
    by_cases hy : y = x
    · subst hy
      rw [Maps.has_del_same]; simp
    · rw [Maps.has_del_other (fun e => hy (intL_inj _ _ e)), h.has]
      simp [hy]
  · intro j y hj
    have hy : y ≠ x := ((cutAt_mem h.nodup hi y).1 (List.mem_of_getElem? hj)).2
    rw [Maps.atKey_del_other (fun e => hy (intL_inj _ _ e)), h.atk _ y (cutAt_get hlt hj)]
    by_cases hji : j < i
    · rw [if_pos hji, if_neg (by omega)]; rfl
    · rw [if_neg hji, if_pos (by omega)]; rfl

theorem RemAt.next {P : Program} {K E : TypeId} {w : World} {bm n : Nat} {D : DataW Unit} {f k : Nat} {ys : List Int} {y : Int} (h : RemAt D f k ys) (hown : w.ownsMap P K (plainElem P E) bm n D) (hK : Keyed P K) (hy : ys[k]? = some y) (hn : ys.Nodup) :
    RemAt (D.put (intL y) (.lit (.int .i64 ((f + k : Nat) : Int)))) f (k + 1) ys := by
  have hm : y ∈ ys := List.mem_of_getElem? hy
  have hh := (h.has y).2 hm
  refine ⟨?_, ?_, ?_⟩
  · rw [Maps.size_put (hown.tidy hK), hh, h.size]; simp
  · intro z
    by_cases hz : z = y
    · subst hz
      rw [Maps.has_put_same hown.isMap (show WideAt.IsKeyLit (intL z) from trivial)]
      simp [hm]
    · rw [Maps.has_put_other (fun e => hz (intL_inj _ _ e)), h.has]
  · intro j z hj
    by_cases hz : z = y
    · subst hz
      have hjk : j = k := (List.getElem?_inj (List.getElem?_eq_some_iff.1 hj).1 hn).1 (hj.trans hy.symm)
      subst hjk
      rw [if_neg (by omega)]
      exact Maps.atKey_put_same hown.isMap (show WideAt.IsKeyLit (intL z) from trivial) _ _
    · have hjk : j ≠ k := fun e => hz (by rw [e, hy] at hj; injection hj with hj; exact hj.symm)
      rw [Maps.atKey_put_other (fun e => hz (intL_inj _ _ e)), h.atk j z hj]
      by_cases hkj : k ≤ j
      · rw [if_pos hkj, if_pos (by omega)]
      · rw [if_neg hkj, if_neg (by omega)]

set_option maxRecDepth 1000000 in
set_option maxHeartbeats 4000000 in
theorem refremove (v : Value) (xs : List Int) (x : Int) (w : World) (hs : ISl w v xs) (hn : xs.length < 1000000) :
    Calls Try.prog 29 #[v, .int .i64 x] w fun e w' => ∃ v', e = .returned (.tuple #[v', .bool (memB x xs)]) ∧ ISl w' v' (remX xs x) ∧ Below w.heap.size w w' ∧ NewOr w.heap.size w' v v' := by
  obtain ⟨i0, hi, hz0, hz1, hz2⟩ := info_parts infoQi
  have HS := Lib.hid hs
  obtain ⟨A, c, rfl, h1, h2, hr⟩ := hs
  obtain ⟨n, hl⟩ : ∃ n, xs.length = n := ⟨_, rfl⟩
  rw [hl] at hr hn h1 HS ⊢
  have HL := Lib.hid hl; clear hl
  have hp := refplace A n c xs x w _ hr (by omega)
  unfold maxLen at h2
  by_cases hm : x ∈ xs
  · rw [memB_in hm]
    obtain ⟨i, hpi, hlt, hget, hrem⟩ := remX_in hm
    rw [hrem]
    rw [hpi] at hp
    rw [HL.out] at hlt
    have HG := Lib.hid hget
    have hown := World.ownsRow_lit (e := 3) (size := 1) (base := w.heap.size) w.drew #[] 0 (Nat.le_refl _) (by simp [maxLen]) (by simp)
    have hr1 := (hr.take (k := i) (by omega)).drew.alloc (Nat.le_refl _) (.cells #[] 3)
    obtain ⟨A2, hA2, hr2⟩ : ∃ A2, (if c = i + 1 then A else Option.map (fun x => (⟨x.block, x.off + (i + 1), none⟩ : Addr)) A) = A2 ∧ Rd w w.heap.size A2 (n - (i + 1)) ((ivs xs).drop (i + 1)) := by
      refine ⟨_, rfl, ?_⟩
      have h := hr.drop (k := i + 1) (by omega) h1
      by_cases hc : c = i + 1
      · rw [if_pos hc] at h ⊢; exact h
      · rw [if_neg hc] at h ⊢
        cases A with
        | none => exact h
        | some ad => exact h
    have e1 : ((i : Int) + 1).toNat = i + 1 := by omega
    have i1 : (i : Int) ≤ (n : Int) := by omega
    have i2 : (0 : Int) ≤ (i : Int) + 1 := by omega
    have i3 : (i : Int) + 1 ≤ (n : Int) := by omega
    have i4 : (n : Int) ≤ (c : Int) := by omega
    have i5 : i ≤ c := by omega
    have hwr : IntKind.i64.wrap ((i : Int) + 1) = (i : Int) + 1 := by rw [IntKind.wrap_i64]; omega
    clear hget hrem hpi HS
    go_enter Try.func29, Try.ntmps29
    go_wp2_with fail
    refine hp.mono ?_
    rintro e w1 ⟨rfl, rfl⟩
    go_wp2_with fail
    have o1 : ∀ u ∈ (ivs xs).take i, u.oneCell' = true := fun u hu => ivs_one xs u (List.mem_of_mem_take hu)
    have o2 : ∀ u ∈ (ivs xs).drop (i + 1), u.oneCell' = true := fun u hu => ivs_one xs u (List.mem_of_mem_drop hu)
    go_region_law (first | (refine step_app _ rfl (.tmp 13) (.tmp 16) 22 rfl w1.heap.size 3 i0 _ 8 Try.underlying22 hi hz0 hz1 hz2 rfl _ _ _ (by simp [Act.eval]) hown w1.heap.size _ i _ _ (by simp [Act.eval]; rfl) hr1 o1 (by unfold maxLen; omega) (by omega) (by simp) ?_; intro v2 w2 hown2 hg2 hat2) | (refine step_app _ rfl (.tmp 17) (.tmp 21) 22 rfl w1.heap.size 3 i0 _ 8 Try.underlying22 hi hz0 hz1 hz2 rfl _ _ _ (by simp [Act.eval]) hown2 w1.heap.size _ (n - (i + 1)) _ _ (by simp [Act.eval]; rfl) (hr2.keep fun p hp => (World.cell?_of_block (hg2.block p.block (by simp; omega) (fun e => by injection e with e; have e' : p.block = w1.heap.size := e; omega))).trans (World.cell?_alloc_lt w1 _ p hp)) o2 (by unfold maxLen; omega) (by omega) (by have := hg2.size; simp at this; omega) ?_; intro v3 w3 hown3 hg3 hat3))
    clear hA2 hr1 hr2 hr hp e1 i2 i3 i5 hwr o1 o2 hown
    go_wp2_with fail
    go_ret2
    have hg2' : (w1.alloc (.cells #[] 3)).grownBy w2 (some w1.heap.size) := ⟨hg2.os, hg2.tape, hg2.output, hg2.size, hg2.block⟩
    have hb2 : Below w1.heap.size w1 w2 := ((Below.refl _ _).alloc (Nat.le_refl _) (.cells #[] 3)).grown hg2' (by simp) fun k hk => by injection hk with hk; exact Nat.le_of_eq hk
    have hb3 := hb2.grown hg3 hb2.size fun k hk => (hown2.lt k hk).1
    refine ⟨v3, rfl, ISl.of_own (base := w1.heap.size) (e := 3) (n := 0 + i + (n - (i + 1))) ?_, hb3, .inr fun g hg => own_blk hown3 g hg⟩
    have e : ivs (cutAt xs i) = [] ++ (ivs xs).take i ++ (ivs xs).drop (i + 1) := by
      unfold ivs; rw [cutAt_map]; rfl
    rw [e]
    exact hown3
  · rw [memB_out hm, remX_out hm]
    rw [placeOf_out hm] at hp
    go_enter Try.func29, Try.ntmps29
    go_wp2_with fail
    refine hp.mono ?_
    rintro e w1 ⟨rfl, rfl⟩
    go_wp2_with fail
    go_ret2
    exact ⟨_, rfl, HS.out, Below.refl _ _, .inl rfl⟩
end Go.Proofs.Ytolnmdanlggmhaa
