/- Words that several laws of the coroutines share. -/
import Derived.Test.YtolnmdanlggmhaaKi
import Derived.Test.YtolnmdanlggmhaaKpan
import Derived.Test.YtolnmdanlggmhaaKd
namespace Go.Proofs.Ytolnmdanlggmhaa
open Go.RowKit Go.Maps Go.Conc
open Go.ConcN (upd upd_ne upd_same)

set_option maxRecDepth 100000
set_option maxHeartbeats 2000000

/-- The blocks of a law's own tags are as they were. -/
def Same8 (own : Nat → Nat) (w w' : World) : Prop := ∀ b, 8 ≤ own b → w'.heap[b]? = w.heap[b]?
theorem Same8.refl (own : Nat → Nat) (w : World) : Same8 own w w := fun _ _ => rfl
theorem Same6.s8 {own : Nat → Nat} {w w' : World} (h : Same6 own w w') : Same8 own w w' := fun b hb => h b (by omega)
theorem Same8.trans {own own' : Nat → Nat} {a b c : World} (h : Same8 own a b) (k : Same8 own' b c) (le : OLe own own') : Same8 own a c := fun x hx => by
  rw [k x (by rw [le x (by omega)]; exact hx), h x hx]
theorem same8_step {T : Nat → Prop} {own own' : Nat → Nat} {S S' : Sch} {FC : List Row} {u w w1 : World} (a : Agr own' FC u w1) (f' : FI own' S' FC) (st : Stp T own own' (guardW FC w) u) (hT : ∀ t, T t → t < 8) (lw : LW own w) (f : FI own S FC) : Same8 own w w1 := fun b hb => by
  have hb0 : own b ≠ 0 := by omega
  have e : own' b = own b := st.le b hb0
  rw [a.eq b (by omega) (f'.ne (by omega) (by omega) (by omega)), st.block b (by simpa [guardW] using (lw b hb0).1) (fun ht => by have := hT _ ht; omega), (agr_guard f.wf lw).eq b hb0 (f.ne (by omega) (by omega) (by omega))]

/-- The variable k of a coroutine. -/
def KbAt (own : Nat → Nat) (kb : Nat) (z : Int) (w : World) : Prop := own kb = 8 ∧ w.heap[kb]? = some (.cells #[.int .u8 z] 5 (0, 0))
theorem KbAt.keep {own own' : Nat → Nat} {kb : Nat} {z : Int} {w w' : World} (h : KbAt own kb z w) (le : OLe own own') (s : Same8 own w w') : KbAt own' kb z w' := ⟨le.tag h.1 (by omega), (s kb (by rw [h.1]; omega)).trans h.2⟩

theorem eql_v {a : Act} {o : Oper} {x y : Operand} {p q : Int} {w : World} (ho : o.op = .binOp .eql 3 x y 3) (hx : a.eval x = .int .i64 p) (hy : a.eval y = .int .i64 q) (hr : p = q) : (execOp a.eval o).run Try.prog w = .ok (.value (.bool true)) w := by
  subst hr
  unfold execOp
  simp only [ho, hx, hy]
  simp [go_sem]
theorem ground_zero (W : World) : Ground [] 1 (fun _ => none) W := ⟨⟨by simp, fun r hr => (by cases hr)⟩, fun r hr => (by cases hr), fun x s h => (by cases h), fun x s r h => (by cases h), by omega, rfl⟩
theorem cell_same {w w' : World} {a : Addr} (h : w'.heap[a.block]? = w.heap[a.block]?) : w'.cell? a = w.cell? a := by
  unfold World.cell?
  rw [h]
theorem cell_notOdd {w : World} {a : Addr} {x : Value} (h : w.cell? a = some x) : ¬ Odd w.heap[a.block]? := by
  unfold World.cell? at h
  rintro (⟨_, _, e⟩ | ⟨_, _, e⟩) <;> rw [e] at h <;> cases h

section
variable {E : Env} {h : Nat} {own own' : Nat → Nat} {S S' : Sch} {ks ks' : List Kid} {FC FC' : List Row} {n : Nat} {Inb : Nat → Option Seat} {w w' : World}
/-- What was there before all is as it was. -/
theorem CI.old (C : CI E h own S ks FC n Inb w) (hF : E.FC0 = []) {a : Addr} {x : Value} (hx : E.W0.cell? a = some x) : (guardW FC w).cell? a = some x := by
  have hl := cell_lt hx
  have hr : ∀ r ∈ FC, r.b ≠ a.block := fun r hr e => by
    rcases C.sup r hr with h | h
    · rw [hF] at h; cases h
    · omega
  have e1 : w.heap[a.block]? = E.W0.heap[a.block]? := C.base.eq a.block hl (fun h => by have h' : E.W0.heap.size ≤ a.block := h; omega) (fun r hr' => by rw [hF] at hr'; cases hr')
  have hx1 : w.cell? a = some x := (cell_same e1).trans hx
  rw [cell_same (guard_same hr (cell_notOdd hx1)), hx1]
/-- A new block gets a tag. -/
theorem stp_new {u u' : World} {t b : Nat} (hlt : ∀ b, own b ≠ 0 → b < u.heap.size) (ho : u'.os = u.os) (hu : u'.output = u.output) (hs : u.heap.size ≤ u'.heap.size) (hb : ∀ i, i < u.heap.size → u'.heap[i]? = u.heap[i]?) (h1 : u.heap.size ≤ b) (h2 : b < u'.heap.size) : Stp (fun _ => False) own (retagC own t (· = b)) u u' := by
  refine ⟨ho, hu, hs, fun i hi _ => hb i hi, fun i hi => tag_ne fun e => ?_, fun i hz hn => ?_, fun i hn => ?_⟩
  · subst e; have := hlt _ hi; omega
  · by_cases e : i = b
    · omega
    · rw [tag_ne e] at hn; exact absurd hz hn
  · by_cases e : i = b
    · omega
    · rw [tag_ne e] at hn; have := hlt i hn; omega
end
/-- What is known of the argument. -/
def ArgAt (u : World) (A : Option Addr) (zs : List Int) : Prop := ∀ (i : Nat) z, zs[i]? = some z → ∃ ad, A = some ad ∧ u.cell? (ad.add i) = some (.int .u8 z)

theorem eql_f {a : Act} {o : Oper} {x y : Operand} {p q : Int} {r : Bool} {w : World} (ho : o.op = .binOp .eql 3 x y 3) (hx : a.eval x = .int .i64 p) (hy : a.eval y = .int .i64 q) (hr : decide (p = q) = r) : (execOp a.eval o).run Try.prog w = .ok (.value (.bool r)) w := by
  unfold execOp
  simp only [ho, hx, hy]
  by_cases h : p = q <;> simp [go_sem, ← hr, h]
/-- New blocks get tags. -/
theorem stp_fresh {own own' : Nat → Nat} {u u' : World} (hlt : ∀ b, own b ≠ 0 → b < u.heap.size) (h : New u u') (h1 : ∀ b, b < u.heap.size → own' b = own b) (h2 : ∀ b, own' b ≠ 0 → b < u'.heap.size) : Stp (fun _ => False) own own' u u' :=
  ⟨h.os, h.output, h.size, fun b hb _ => h.block b hb, fun b hb => h1 b (hlt b hb), fun b hz hn => Classical.byContradiction fun hc => hn ((h1 b (by omega)).trans hz), h2⟩

/-- Main gives up its seat. -/
theorem CI.unseat {E : Env} {own : Nat → Nat} {S : Sch} {ks : List Kid} {FC : List Row} {n : Nat} {Inb : Nat → Option Seat} {w : World} (C : CI E 0 own S ks FC n Inb w) : CI E 0 own S ks FC n (upd Inb 0 none) w := by
  refine ⟨C.si, C.fi, C.lw, C.rows, C.base, C.low, C.sub, C.sup, C.len, fun i c k hc hk => ?_, fun x s hx => ?_, fun x s hx => ?_, C.chs, fun x s hx => ?_, fun s hs r hr => ?_, C.hn, C.uniq⟩
  · have := C.kid i c k hc hk
    refine ⟨this.1, this.2.1, fun ht => ?_, this.2.2.2.1, this.2.2.2.2⟩
    obtain ⟨h1, h2, h3, h4, h5⟩ := this.2.2.1 ht
    exact ⟨h1, h2, h3, h4, by rw [upd_ne _ _ h2]; exact h5⟩
  · obtain ⟨h1, h2, h3⟩ := C.keep x s hx
    exact ⟨by rw [upd_ne _ _ h2]; exact h1, h2, h3⟩
  · by_cases e : x = 0
    · exact .inl e
    · rw [upd_ne _ _ e] at hx; exact C.only x s hx
  · by_cases e : x = 0
    · subst e; exact C.hn
    · rw [upd_ne _ _ e] at hx; exact C.top x s hx
  · rw [upd_same] at hs; cases hs

end Go.Proofs.Ytolnmdanlggmhaa

/- What is there besides main. -/
namespace Go.Proofs.Ytolnmdanlggmhaa
open Go.RowKit Go.Maps Go.Conc
open Go.ConcN (upd upd_ne upd_same)

set_option maxRecDepth 100000
set_option maxHeartbeats 2000000

/-- What is there besides main, whoever waits. -/
theorem CI.ground {E : Env} {own : Nat → Nat} {S : Sch} {ks : List Kid} {FC : List Row} {n : Nat} {Inb : Nat → Option Seat} {w : World} (C : CI E 0 own S ks FC n Inb w) : Ground FC n (upd Inb 0 none) w := by
  refine ⟨C.fi.wf, C.rows, fun x s hx => ?_, fun x s r hx hr => ?_, C.hn, upd_same _ _ _⟩
  · by_cases e : x = 0
    · subst e; exact C.hn
    · rw [upd_ne _ _ e] at hx; exact C.top x s hx
  · by_cases e : x = 0
    · subst e; rw [upd_same] at hx; cases hx
    · rw [upd_ne _ _ e] at hx
      rcases C.only x s hx with h | h | h | ⟨i, k, h1, h2, h3⟩
      · exact absurd h e
      · exact absurd h e
      · exact Nat.lt_of_lt_of_le (C.chs x s r h hr) C.base.size
      · obtain ⟨c, hc, hk⟩ := C.coAt h1
        obtain ⟨_, _, _, _, h5⟩ := hk.2.2.1 h2
        rw [h3, hx] at h5
        obtain rfl := Option.some.inj h5
        rw [Seat.one_has] at hr
        subst hr
        exact C.lt _ (by rw [C.si.och c (List.mem_of_getElem? hc)]; omega)
end Go.Proofs.Ytolnmdanlggmhaa

/- A region in a drawn order whose operations, but for the last, only reckon: whatever the order, they come to the same slots. -/
namespace Go.Proofs.Ytolnmdanlggmhaa
open Go.Conc

def dstOf (ops : Array Oper) (i : Nat) : Option Tmp := (ops[i]?).bind (·.dst)
/-- The slots, with the values of the first n operations. -/
def fillAll (ops : Array Oper) (val : Nat → Value) : Nat → Act → Act
  | 0, a => a
  | i + 1, a => (fillAll ops val i a).put (dstOf ops i) (val i)
/-- Edges lead back; each operation but the last fills a slot of its own, which only those behind it read. N: how many slots. -/
def pureOk (ops : Array Oper) (n N : Nat) : Bool :=
  ops.size == n + 1 && ((List.range (n + 1)).all fun i => match ops[i]? with
    | none => false
    | some o => (o.after.all fun e => decide (e.on < i)) && (o.op.operands.all fun x => match x with
      | .tmp t => (List.range n).all fun j => dstOf ops j != some t || o.after.any fun e => Region.binds .any e && e.on == j
      | _ => true)) &&
  ((List.range n).all fun i => (match dstOf ops i with | none => false | some t => decide (t < N)) && (List.range n).all fun j => i == j || dstOf ops i != dstOf ops j)

section
variable {P : Program} {main : Bool} {Z : Addr → Prop} {Stop : Goroutine → World → Prop} {w₀ u : World} {b : Frame} {a aI : Act} {k : List Item} {cs : List Frame} {ops : Array Oper} {n N : Nat} {val : Nat → Value}

theorem put_get (a : Act) (d : Option Tmp) (v : Value) (t : Nat) : (a.put d v).tmps.getD t undef = if d = some t ∧ t < a.tmps.size then v else a.tmps.getD t undef := by
  cases d with
  | none => simp [Act.put]
  | some d =>
    simp only [Act.put, Option.some.injEq]
    by_cases h : d = t
    · subst h
      by_cases hl : d < a.tmps.size
      · simp [hl]
      · simp [hl]
    · simp [h]
theorem put_size (a : Act) (d : Option Tmp) (v : Value) : (a.put d v).tmps.size = a.tmps.size := by cases d <;> simp [Act.put]
theorem put_defers (a : Act) (d : Option Tmp) (v : Value) : (a.put d v).defers = a.defers := by cases d <;> rfl
theorem fill_size : ∀ n, (fillAll ops val n aI).tmps.size = aI.tmps.size
  | 0 => rfl
  | n + 1 => by unfold fillAll; rw [put_size, fill_size n]
theorem fill_defers : ∀ n, (fillAll ops val n aI).defers = aI.defers
  | 0 => rfl
  | n + 1 => by unfold fillAll; rw [put_defers, fill_defers n]
theorem fill_out {t : Nat} : ∀ n, (∀ j, j < n → dstOf ops j ≠ some t) → (fillAll ops val n aI).tmps.getD t undef = aI.tmps.getD t undef
  | 0, _ => rfl
  | n + 1, h => by
    unfold fillAll
    rw [put_get, if_neg (fun e => h n (by omega) e.1), fill_out n fun j hj => h j (by omega)]
theorem fill_in {t j : Nat} (ht : t < aI.tmps.size) (hd : dstOf ops j = some t) : ∀ n, j < n → (∀ j', j' < n → j' ≠ j → dstOf ops j' ≠ some t) → (fillAll ops val n aI).tmps.getD t undef = val j
  | 0, h, _ => by omega
  | n + 1, h, hu => by
    unfold fillAll
    rw [put_get]
    by_cases e : j = n
    · subst e
      rw [if_pos ⟨hd, by rw [fill_size]; exact ht⟩]
    · rw [if_neg (fun h' => hu n (by omega) (fun h => e h.symm) h'.1)]
      exact fill_in ht hd n (by omega) fun j' hj hn => hu j' (by omega) hn

theorem pureOk_use (h : pureOk ops n N = true) : ops.size = n + 1 ∧ (∀ (i : Nat) (o : Oper), ops[i]? = some o → (∀ e ∈ o.after, e.on < i) ∧ ∀ t, Operand.tmp t ∈ o.op.operands → ∀ j, j < n → dstOf ops j = some t → ∃ e ∈ o.after, Region.binds .any e = true ∧ e.on = j) ∧
    (∀ i, i < n → ∃ t : Nat, dstOf ops i = some t ∧ t < N) ∧ ∀ i j, i < n → j < n → i ≠ j → dstOf ops i ≠ dstOf ops j := by
  unfold pureOk at h
  simp only [Bool.and_eq_true, beq_iff_eq, List.all_eq_true, List.mem_range] at h
  obtain ⟨⟨h1, h2⟩, h3⟩ := h
  refine ⟨h1, fun i o ho => ?_, fun i hi => ?_, fun i j hi hj hne e => ?_⟩
  · have hi : i < n + 1 := by have := (Array.getElem?_eq_some_iff.1 ho).1; omega
    have h4 := h2 i hi
    simp only [ho, Bool.and_eq_true] at h4
    refine ⟨fun e he => ?_, fun t ht j hj hd => ?_⟩
    · have := Array.all_eq_true_iff_forall_mem.1 h4.1 e he
      simpa using this
    · have h5 := Array.all_eq_true_iff_forall_mem.1 h4.2 _ ht
      simp only [List.all_eq_true, List.mem_range, Bool.or_eq_true, bne_iff_ne, ne_eq] at h5
      rcases h5 j hj with h6 | h6
      · exact absurd hd h6
      · obtain ⟨e, he, h7⟩ := Array.any_eq_true'.1 h6
        simp only [Bool.and_eq_true, beq_iff_eq] at h7
        exact ⟨e, he, h7.1, h7.2⟩
  · have h4 := (h3 i hi).1
    cases hd : dstOf ops i with
    | none => simp [hd] at h4
    | some t => exact ⟨t, rfl, by simpa [hd] using h4⟩
  · have h4 := (h3 i hi).2 j hj
    simp only [Bool.or_eq_true, beq_iff_eq, bne_iff_ne, ne_eq] at h4
    rcases h4 with h4 | h4
    · exact hne h4
    · exact h4 e

/-- What is listed has filled its slot. -/
structure Filled (ops : Array Oper) (n : Nat) (aF : Act) (l : Array Bool) (a : Act) : Prop where
  defers : a.defers = aF.defers
  size : a.tmps.size = aF.tmps.size
  slot : ∀ t, (∀ j, j < n → dstOf ops j = some t → l.getD j true = true) → a.tmps.getD t undef = aF.tmps.getD t undef
theorem act_ext {a a' : Act} (h1 : a.defers = a'.defers) (h2 : a.tmps.size = a'.tmps.size) (h3 : ∀ t, a.tmps.getD t undef = a'.tmps.getD t undef) : a = a' := by
  obtain ⟨x, d⟩ := a
  obtain ⟨y, d'⟩ := a'
  simp only at h1 h2 h3
  subst h1
  congr 1
  refine Array.ext h2 fun i h4 h5 => ?_
  have := h3 i
  simpa [h4, h5] using this

theorem least_of {p : Nat → Prop} (h : ∃ n, p n) : ∃ n, p n ∧ ∀ m, p m → n ≤ m := by
  obtain ⟨n, hn⟩ := h
  induction n using Nat.strongRecOn with
  | _ n ih =>
    by_cases hm : ∃ m, m < n ∧ p m
    · obtain ⟨m, hlt, hp⟩ := hm
      exact ih m hlt hp
    · exact ⟨n, hn, fun m hp => Nat.le_of_not_lt fun hlt => hm ⟨m, hlt, hp⟩⟩
theorem countP_lt' {α : Type} {p q : α → Bool} {a : α} : ∀ {l : List α}, a ∈ l → (∀ x, q x = true → p x = true) → p a = true → q a = false → l.countP q < l.countP p
  | [], h, _, _, _ => by cases h
  | x :: l, h, hs, hp, hq => by
    have hle : l.countP q ≤ l.countP p := List.countP_mono_left fun y _ hy => hs y hy
    rw [List.countP_cons, List.countP_cons]
    rcases List.mem_cons.1 h with rfl | h
    · rw [hp, hq]; simp; omega
    · have := countP_lt' h hs hp hq
      cases hqx : q x with
      | true => rw [hs x hqx]; simp; omega
      | false => simp only [Bool.false_eq_true, if_false]; split <;> omega
/-- THE RULE. -/
theorem ownU_pure {id : Nat} (val : Nat → Value) (hm : P.follows .mixedOrders = true) (hok : pureOk ops n N = true) (hN : aI.tmps.size = N)
    (hop : ∀ i, i < n → ∀ o : Oper, ops[i]? = some o → ∀ (a : Act) (rest : List Nat), (∀ x ∈ o.op.operands, a.eval x = (fillAll ops val n aI).eval x) → OwnU P main Z Stop w₀ (G (b.at (a.put o.dst (val i)) (.inRegion ops rest :: k)) cs) u → OwnU P main Z Stop w₀ (G (b.at a (.inRegion ops (i :: rest) :: k)) cs) u)
    (hlast : ∀ l : Nat → Bool, (∀ (i : Nat) (o : Oper), ops[i]? = some o → l i = true → ∀ e ∈ o.after, Region.binds .any e = true → l e.on = true) → (∀ o : Oper, ops[n]? = some o → ∀ e ∈ o.after, Region.binds .any e = true → l e.on = true) → ∀ i, i < n → l i = true)
    (hk : OwnU P main Z Stop w₀ (G (b.at (fillAll ops val n aI) (.inRegion ops [n] :: k)) cs) u) : OwnU P main Z Stop w₀ (G (b.at aI (.code (.region id ops true) :: k)) cs) u := by
  obtain ⟨hsz, hdep, hdst, hdis⟩ := pureOk_use hok
  have key : ∀ (fuel : Nat) (t : Nat) (l : Array Bool) (a : Act), l.size = n + 1 → l.getD n true = false → Filled ops n (fillAll ops val n aI) l a → (∀ (i : Nat) (o : Oper), ops[i]? = some o → l.getD i false = true → ∀ e ∈ o.after, Region.binds .any e = true → l.getD e.on false = true) →
      ((List.range (n + 1)).countP fun i => l.getD i true == false) ≤ fuel → OwnU P main Z Stop w₀ (G (b.at a (.inRegion ops (Region.linearise.go .any ops fuel t l []) :: k)) cs) u := by
    intro fuel
    induction fuel with
    | zero =>
      intro t l a hls hln _ _ hc
      exact absurd hc (by
        have : 0 < (List.range (n + 1)).countP fun i => l.getD i true == false := List.countP_pos_iff.2 ⟨n, by simp, by simp [hln]⟩
        omega)
    | succ fuel ih =>
      intro t l a hls hln hf hcl hc
      have hmem : ∀ j, j < n + 1 → l.getD j true = l.getD j false := fun j hj => by simp [hls, hj]
      have hne : Region.ready .any ops l ≠ [] := by
        obtain ⟨i, hi, hmin⟩ := least_of (p := fun i => l.getD i true = false) ⟨n, hln⟩
        have hin : i < n + 1 := by
          have := hmin n hln
          omega
        have hio : i < ops.size := by omega
        intro h0
        have : i ∈ Region.ready .any ops l := mem_ready.2 ⟨hi, ops[i], Array.getElem?_eq_getElem hio, fun e he _ => by
          have h1 := (hdep i _ (Array.getElem?_eq_getElem hio)).1 e he
          cases h2 : l.getD e.on false with
          | true => rfl
          | false =>
            rw [← hmem e.on (by omega)] at h2
            have := hmin e.on h2
            omega⟩
        rw [h0] at this
        cases this
      obtain ⟨i, hi, hgo⟩ := go_step (fuel := fuel) rfl hne t
      rw [hgo]
      obtain ⟨hun, o, ho, hall⟩ := mem_ready.1 hi
      have hin : i < n + 1 := by have := (Array.getElem?_eq_some_iff.1 ho).1; omega
      by_cases he : i = n
      · subst he
        have hall' := hlast (fun j => l.getD j false) hcl (fun o' ho' e he' hb => by
          rw [ho] at ho'
          obtain rfl := Option.some.inj ho'
          exact hall e he' hb)
        have ha : a = fillAll ops val i aI := act_ext hf.defers hf.size fun t => hf.slot t fun j hj _ => by rw [hmem j (by omega)]; exact hall' j hj
        have hz : Region.linearise.go .any ops fuel (t / (Region.ready .any ops l).length) (l.setIfInBounds i true) [] = [] := by
          have hr : Region.ready .any ops (l.setIfInBounds i true) = [] := by
            rw [List.eq_nil_iff_forall_not_mem]
            intro j hj
            obtain ⟨h1, o', ho', _⟩ := mem_ready.1 hj
            have hjn : j < i + 1 := by have := (Array.getElem?_eq_some_iff.1 ho').1; omega
            by_cases hji : j = i
            · subst hji
              simp [hls] at h1
            · have h2 := hall' j (by omega)
              have h3 : i ≠ j := fun h => hji h.symm
              simp [hls, hjn, h3] at h1 h2
              rw [h1] at h2; cases h2
          cases fuel with
          | zero => rfl
          | succ f =>
            have hr' : ((List.range ops.size).filter fun i_1 => !(l.setIfInBounds i true).getD i_1 true && ((ops[i_1]?).map (·.after.all fun e => !Region.binds .any e || (l.setIfInBounds i true).getD e.on false)).getD false) = [] := hr
            simp only [Region.linearise.go]
            rw [hr']
            rfl
        rw [hz, ha]
        exact hk
      · have hin' : i < n := by omega
        have hov : ∀ x ∈ o.op.operands, a.eval x = (fillAll ops val n aI).eval x := fun x hx => by
          cases x with
          | tmp t =>
            refine hf.slot t fun j hj hd => ?_
            obtain ⟨e, he', hb, rfl⟩ := (hdep i o ho).2 t hx j hj hd
            rw [hmem _ (by omega)]
            exact hall e he' hb
          | _ => rfl
        obtain ⟨ti, hti, htN⟩ := hdst i hin'
        have hod : o.dst = some ti := by unfold dstOf at hti; rw [ho] at hti; exact hti
        refine hop i hin' o ho a _ hov (ih _ _ _ (by simp [hls]) ?_ ⟨?_, ?_, fun t ht => ?_⟩ (fun j o' ho' hj e he' hb => ?_) ?_)
        · have : i ≠ n := he
          simp only [Array.getD_eq_getD_getElem?, Array.getElem?_setIfInBounds] at hln ⊢
          rw [if_neg this]
          exact hln
        · rw [put_defers]; exact hf.defers
        · rw [put_size]; exact hf.size
        · rw [put_get]
          have hsz' : a.tmps.size = N := by rw [hf.size, fill_size, hN]
          split
          · next h =>
            obtain ⟨h1, _⟩ := h
            rw [hod] at h1
            obtain rfl := Option.some.inj h1
            refine (fill_in (by omega) hti n hin' fun j' hj' hne' h' => ?_).symm
            exact hdis j' i hj' hin' hne' (h'.trans hti.symm)
          · next h =>
            refine hf.slot t fun j hj hd => ?_
            have h5 := ht j hj hd
            have hji : i ≠ j := fun e => by
              subst e
              rw [hti] at hd
              exact h ⟨by rw [hod]; exact hd, by obtain rfl := Option.some.inj hd; omega⟩
            simp only [Array.getD_eq_getD_getElem?, Array.getElem?_setIfInBounds] at h5 ⊢
            rw [if_neg hji] at h5
            exact h5
        · have hon : e.on < j := (hdep j o' ho').1 e he'
          have hjn : j < n + 1 := by have := (Array.getElem?_eq_some_iff.1 ho').1; omega
          have hset : ∀ x, x < n + 1 → (l.getD x false = true ∨ i = x) → (l.setIfInBounds i true).getD x false = true := fun x hx h => by
            simp only [Array.getD_eq_getD_getElem?, Array.getElem?_setIfInBounds]
            by_cases hix : i = x
            · subst hix; simp [hls, hx]
            · rcases h with h | h
              · rw [if_neg hix]
                simpa [Array.getD_eq_getD_getElem?] using h
              · exact absurd h hix
          by_cases hij : i = j
          · subst hij
            rw [ho] at ho'
            obtain rfl := Option.some.inj ho'
            exact hset _ (by omega) (.inl (hall e he' hb))
          · refine hset _ (by omega) (.inl (hcl j o' ho' ?_ e he' hb))
            simp only [Array.getD_eq_getD_getElem?, Array.getElem?_setIfInBounds] at hj ⊢
            rw [if_neg hij] at hj
            exact hj
        · have hlt : ((List.range (n + 1)).countP fun x => (l.setIfInBounds i true).getD x true == false) < (List.range (n + 1)).countP fun x => l.getD x true == false := by
            refine countP_lt' (a := i) (by simp [hin]) (fun x h => ?_) (by simp [hun]) (by simp [hls, hin])
            simp only [Array.getD_eq_getD_getElem?, Array.getElem?_setIfInBounds] at h ⊢
            by_cases hix : i = x
            · subst hix; simp [hls, hin] at h
            · rw [if_neg hix] at h
              exact h
          omega
  refine ownU_draw fun t A d => ?_
  simp only [Region.schedule, hm, Bool.true_or, if_true]
  refine (ownU_tp (A := A) (d := d + 1)).2 (ownU_tp.2 ?_)
  unfold Region.linearise
  refine key ops.size t (Array.replicate ops.size false) aI (by simp [hsz]) (by simp [hsz]) ⟨(fill_defers n).symm, (fill_size n).symm, fun t ht => ?_⟩ (fun i o ho h => ?_) ?_
  · refine (fill_out n fun j hj hd => ?_).symm
    have := ht j hj hd
    rw [Array.getD_eq_getD_getElem?, Array.getElem?_replicate, if_pos (by omega)] at this
    cases this
  · have hi : i < n + 1 := by have := (Array.getElem?_eq_some_iff.1 ho).1; omega
    simp [hsz, hi] at h
  · refine Nat.le_trans List.countP_le_length ?_
    simp [hsz]
end
end Go.Proofs.Ytolnmdanlggmhaa
