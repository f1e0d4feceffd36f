/-
  Plain words for memory, used by the walks of this seat. No program in sight.
-/
import Derived.WalkKit
import Derived.Maps.AppendAt
import Derived.Deep.AppendLies
import Derived.Deep.Draws
import Derived.RegionTactic
import Derived.Lib.Hide
import Derived.Laws.BytesArg
import Derived.Laws.IdiomStrings
import Derived.Maps.OwnSet
import Derived.Maps.OwnOps
import Derived.ArgAppend
import Derived.Test.YtolnmdanlggmhaaProg
import Derived.LoopTactic
import Derived.IntWalk
import Derived.Deep.QuietTactic
import Derived.Deep.RegionLaw
import Derived.BigQuiet
import Derived.BigRegion
import Derived.Outline
import Derived.WalkSpells
namespace Go.Proofs.Ytolnmdanlggmhaa
open Go.RowKit

theorem add_block (a : Addr) (n : Nat) : (a.add n).block = a.block := by unfold Addr.add; split <;> rfl
theorem add_add' (a : Addr) (i j : Nat) : (a.add i).add j = a.add (i + j) := by
  unfold Addr.add
  by_cases hi : i = 0 <;> by_cases hj : j = 0 <;> simp [hi, hj, Nat.add_assoc]

/-- The slice value with address 'A' and 'n' one-cell elements reads as 'xs', all of it below block number 'B'. -/
structure Rd (w : World) (B : Nat) (A : Option Addr) (n : Nat) (xs : List Value) : Prop where
  len : xs.length = n
  at' : ∀ j u, xs[j]? = some u → ∃ ad, A = some ad ∧ ad.block < B ∧ w.cell? (ad.add j) = some u

section
variable {w w' : World} {B B' n : Nat} {A : Option Addr} {xs : List Value}
theorem Rd.nil (w : World) (B : Nat) (A : Option Addr) : Rd w B A 0 [] := ⟨rfl, fun j u h => by simp at h⟩
theorem Rd.at (h : Rd w B A n xs) {k : Nat} (hk : k < n) : ∃ ad u, A = some ad ∧ ad.block < B ∧ xs[k]? = some u ∧ w.cell? (ad.add k) = some u := by
  have hl : k < xs.length := by have := h.len; omega
  obtain ⟨ad, e, hb, hc⟩ := h.at' k _ (List.getElem?_eq_getElem hl)
  exact ⟨ad, _, e, hb, List.getElem?_eq_getElem hl, hc⟩
theorem Rd.keep (h : Rd w B A n xs) (hk : ∀ p : Addr, p.block < B → w'.cell? p = w.cell? p) : Rd w' B A n xs :=
  ⟨h.len, fun j u hu => by
    obtain ⟨ad, e, hb, hc⟩ := h.at' j u hu
    exact ⟨ad, e, hb, (hk _ (by rw [add_block]; exact hb)).trans hc⟩⟩
theorem Rd.more (h : Rd w B A n xs) (hB : B ≤ B') : Rd w B' A n xs :=
  ⟨h.len, fun j u hu => by
    obtain ⟨ad, e, hb, hc⟩ := h.at' j u hu
    exact ⟨ad, e, Nat.lt_of_lt_of_le hb hB, hc⟩⟩
theorem Rd.below (h : Rd w B A n xs) (hb : Below B w w') : Rd w' B A n xs := h.keep fun _ hp => hb.cell hp
theorem Rd.drew (h : Rd w B A n xs) : Rd w.drew B A n xs := h.keep fun _ _ => rfl
theorem Rd.drewN (h : Rd w B A n xs) (k : Nat) : Rd (w.drewN k) B A n xs := h.keep fun _ _ => rfl
theorem Rd.alloc (h : Rd w B A n xs) (hB : B ≤ w.heap.size) (o : Obj) : Rd (w.alloc o) B A n xs := h.keep fun p hp => World.cell?_alloc_lt w o p (by omega)
theorem Rd.setCell (h : Rd w B A n xs) {p : Addr} (hB : B ≤ p.block) (u : Value) : Rd (w.setCell p u) B A n xs :=
  h.keep fun q hq => World.cell?_setCell_other w p q u (fun e => by subst e; omega)
theorem Rd.grown (h : Rd w B A n xs) {row : Option Nat} (hg : w.grownBy w' row) (hB : B ≤ w.heap.size) (hr : ∀ g, row = some g → B ≤ g) : Rd w' B A n xs :=
  h.keep fun p hp => World.cell?_of_block (hg.block p.block (by omega) (fun e => by have := hr _ e.symm; omega))
/-- The part from 'k' on. -/
theorem Rd.drop (h : Rd w B A n xs) {k cap : Nat} (hk : k ≤ n) (hc : n ≤ cap) : Rd w B (if cap = k then A else A.map (·.add k)) (n - k) (xs.drop k) := by
  refine ⟨by rw [List.length_drop, h.len], fun j u hu => ?_⟩
  rw [List.getElem?_drop] at hu
  obtain ⟨ad, rfl, hb, hcell⟩ := h.at' _ u hu
  have hlt : k + j < xs.length := by
    rcases Nat.lt_or_ge (k + j) xs.length with h1 | h1
    · exact h1
    · rw [List.getElem?_eq_none h1] at hu; cases hu
  have := h.len
  rw [if_neg (by omega)]
  exact ⟨ad.add k, rfl, by rw [add_block]; exact hb, by rw [add_add']; exact hcell⟩
theorem Rd.take (h : Rd w B A n xs) {k : Nat} (hk : k ≤ n) : Rd w B A k (xs.take k) := by
  refine ⟨by rw [List.length_take, h.len]; omega, fun j u hu => ?_⟩
  rw [List.getElem?_take] at hu
  split at hu
  · exact h.at' j u hu
  · cases hu
theorem Rd.of_own {base : Nat} {e : TypeId} {c : Nat} (h : w.ownsRow base e 1 (.slice A n c) n xs) : Rd w w.heap.size A n xs := by
  refine ⟨by simpa using h.1, fun j u hu => ?_⟩
  have hn : 0 < n := by
    have h1 := h.1
    rcases Nat.eq_zero_or_pos n with h0 | h0
    · subst h0
      have : xs = [] := List.eq_nil_of_length_eq_zero (by simpa using h1)
      subst this; simp at hu
    · exact h0
  obtain ⟨g, cap, hv, _, hlt⟩ := h.form hn
  have hA : A = some ⟨g, 0, none⟩ := by injection hv
  subst hA
  exact ⟨_, rfl, hlt, h.cells (g := g) rfl j u hu⟩
end

/-- An owned row's value is a slice. -/
theorem own_slice {w : World} {base : Nat} {e : TypeId} {v : Value} {n : Nat} {xs : List Value} (h : w.ownsRow base e 1 v n xs) :
    ∃ A c, v = .slice A n c ∧ n ≤ c ∧ c ≤ maxLen := by
  rcases h.2 with ⟨rfl, rfl⟩ | ⟨g, cap, cur, rfl, _, _, hc, hm, _⟩
  · exact ⟨_, _, rfl, Nat.le_refl _, by simp [maxLen]⟩
  · exact ⟨_, _, rfl, hc, hm⟩

theorem ret_eq {a b : Value} (h : a = b) : Ending.returned a = .returned b := by rw [h]

section
variable {P : Program} (w : World)

/-- append of a source that may be nil, empty or not, onto a row of the call's own. -/
theorem run_app (base : Nat) (t ty e : TypeId) (i : TypeInfo) (z : Value) (bytes : Nat) (ht : P.underlying t = some (.slice e)) (hi : P.info? e = some i) (hz : i.zero = some z)
    (hsize : i.size = 1) (hby : i.bytes = bytes) (hzs : z.cells.size = 1)
    (v : Value) (n : Nat) (xs : List Value) (hown : w.ownsRow base e 1 v n xs)
    (B : Nat) (A : Option Addr) (m c : Nat) (news : List Value) (hr : Rd w B A m news) (h1 : ∀ u ∈ news, u.oneCell' = true)
    (h63 : n + m ≤ maxLen) (hbytes : (n + m) * bytes ≤ 140737488355328) (hbase : base ≤ w.heap.size) :
    ∃ v' w', (Builtin.append_ #[t, t] ty #[v, .slice A m c]).run P w = .ok v' w' ∧ w'.ownsRow base e 1 v' (n + m) (xs ++ news) ∧ w.grownBy w' v.ownBlock ∧
      (v'.ownBlock = v.ownBlock ∨ v'.ownBlock = some w.heap.size) := by
  rcases A with _ | ad
  · have hn : news = [] := by
      cases news with
      | nil => rfl
      | cons x l => obtain ⟨ad, h, _⟩ := hr.at' 0 x rfl; cases h
    subst hn
    have hm : m = 0 := by have := hr.len; simpa using this.symm
    subst hm
    refine ⟨v, w, ?_, by simpa using hown, World.grownBy.refl w _, .inl rfl⟩
    rcases hown.2 with ⟨rfl, rfl⟩ | ⟨g, cap, cur, rfl, _, _, hnc, _⟩
    · simp [Builtin.append_, run_underlying ht, sizeOf, typeInfo, hi, Builtin.lenOf, Builtin.firstCells]
    · simp [Builtin.append_, run_underlying ht, sizeOf, typeInfo, hi, Builtin.lenOf, Builtin.firstCells, hnc, storeCells]
  · have hcells : ∀ j u, news[j]? = some u → w.cell? (ad.add j) = some u := by
      intro j u hu
      obtain ⟨ad', h, _, hc⟩ := hr.at' j u hu
      injection h with h
      subst h
      exact hc
    obtain ⟨v', w', hrun, h2, h3, _, h5⟩ := run_append_own_at (P := P) w base t ty e i z 1 bytes ht hi hz hsize hby hzs (by omega) v n xs hown ad m c news (by rw [hr.len, Nat.mul_one]) hcells h1 h63 hbytes hbase
    exact ⟨v', w', hrun, h2, h3, h5⟩

theorem wpList_app {ops : Array Oper} {rest : List Oper} {o : Oper} {a : Act} {Q : Exit → Act → World → Prop} (hgd : o.guard = none) (s x : Operand) (t : TypeId)
    (ho : o.op = .call { callee := .builtin .append, args := #[s, x], argTypes := #[t, t] })
    (base : Nat) (e : TypeId) (i : TypeInfo) (z : Value) (bytes : Nat) (ht : P.underlying t = some (.slice e)) (hi : P.info? e = some i) (hz : i.zero = some z)
    (hsize : i.size = 1) (hby : i.bytes = bytes) (hzs : z.cells.size = 1)
    (v : Value) (n : Nat) (xs : List Value) (hs : a.eval s = v) (hown : w.ownsRow base e 1 v n xs)
    (B : Nat) (A : Option Addr) (m c : Nat) (news : List Value) (hx : a.eval x = .slice A m c) (hr : Rd w B A m news) (h1 : ∀ u ∈ news, u.oneCell' = true)
    (h63 : n + m ≤ maxLen) (hbytes : (n + m) * bytes ≤ 140737488355328) (hbase : base ≤ w.heap.size)
    (h : ∀ v' w', w'.ownsRow base e 1 v' (n + m) (xs ++ news) → w.grownBy w' v.ownBlock → (v'.ownBlock = v.ownBlock ∨ v'.ownBlock = some w.heap.size) → wpList P ops Q rest (a.put o.dst v') w') : wpList P ops Q (o :: rest) a w := by
  refine wpList_plain hgd fun K hK => ?_
  obtain ⟨v', w', hrun, h2, h3, h4⟩ := run_app (P := P) w base t o.type e i z bytes ht hi hz hsize hby hzs v n xs hown B A m c news hr h1 h63 hbytes hbase
  unfold Oper.wp execOp
  simp only [ho, resolve, invoke, builtin, Sem.run_bind, Sem.run_pure, Result.andThen_ok, List.map_toArray, List.map_cons, List.map_nil, hs, hx, hrun]
  exact hK _ _ (h v' w' h2 h3 h4)
end

theorem blk_cell {w : World} {g : Nat} {cs : Array Value} {t : TypeId} (h : w.heap[g]? = some (.cells cs t (0, 0))) (i : Nat) (v : Value) (hv : cs[i]? = some v) : w.cell? ⟨g, i, none⟩ = some v := by
  rw [← hv]; exact cell_of_row w g i cs t (0, 0) h
theorem blk_frozen {w : World} {g : Nat} {cs : Array Value} {t : TypeId} (h : w.heap[g]? = some (.cells cs t (0, 0))) (i : Nat) : w.frozen? ⟨g, i, none⟩ = false := by
  simp [World.frozen?, h]
theorem blk_lt {w : World} {g : Nat} {o : Obj} (h : w.heap[g]? = some o) : g < w.heap.size := (Array.getElem?_eq_some_iff.1 h).1

/-- A slice of slices: each element is a slice that reads as its list. -/
def Rds (w : World) (B : Nat) (A : Option Addr) (L : List (List Value)) : Prop :=
  ∃ vs : List Value, Rd w B A L.length vs ∧ ∀ (i : Nat) (l : List Value), L[i]? = some l → ∃ (A' : Option Addr) (c' : Nat), vs[i]? = some (Value.slice A' l.length c') ∧ Rd w B A' l.length l

theorem Rds.below {w w' : World} {B : Nat} {A : Option Addr} {L : List (List Value)} (h : Rds w B A L) (hb : Below B w w') : Rds w' B A L := by
  obtain ⟨vs, h1, h2⟩ := h
  refine ⟨vs, h1.below hb, fun i l hl => ?_⟩
  obtain ⟨A', c', h3, h4⟩ := h2 i l hl
  exact ⟨A', c', h3, h4.below hb⟩
theorem Rds.drewN {w : World} {B : Nat} {A : Option Addr} {L : List (List Value)} (h : Rds w B A L) (k : Nat) : Rds (w.drewN k) B A L := by
  obtain ⟨vs, h1, h2⟩ := h
  refine ⟨vs, h1.drewN k, fun i l hl => ?_⟩
  obtain ⟨A', c', h3, h4⟩ := h2 i l hl
  exact ⟨A', c', h3, h4.drewN k⟩
theorem Rds.more {w : World} {B B' : Nat} {A : Option Addr} {L : List (List Value)} (h : Rds w B A L) (hB : B ≤ B') : Rds w B' A L := by
  obtain ⟨vs, h1, h2⟩ := h
  refine ⟨vs, h1.more hB, fun i l hl => ?_⟩
  obtain ⟨A', c', h3, h4⟩ := h2 i l hl
  exact ⟨A', c', h3, h4.more hB⟩
theorem Rds.at {w : World} {B : Nat} {A : Option Addr} {L : List (List Value)} (h : Rds w B A L) {k : Nat} (hk : k < L.length) :
    ∃ ad l A' c', A = some ad ∧ L[k]? = some l ∧ w.cell? (ad.add k) = some (.slice A' l.length c') ∧ Rd w B A' l.length l := by
  obtain ⟨vs, h1, h2⟩ := h
  obtain ⟨ad, u, rfl, _, hu, hc⟩ := h1.at hk
  obtain ⟨A', c', h3, h4⟩ := h2 k L[k] (List.getElem?_eq_getElem hk)
  rw [hu] at h3; injection h3 with h3; subst h3
  exact ⟨ad, L[k], A', c', rfl, List.getElem?_eq_getElem hk, hc, h4⟩



/-- The bytes as the model's values. -/
def bv (b : UInt8) : Value := .int .u8 (b.toNat : Int)
def bvs (l : List UInt8) : List Value := l.map bv
@[simp] theorem bvs_length (l : List UInt8) : (bvs l).length = l.length := by simp [bvs]
@[simp] theorem bvs_nil : bvs [] = [] := rfl



/-- What a walk is told of a slice of integers that came in. -/
def IsRow (k : IntKind) (w : World) (a : Option Addr) (len cap : Nat) (zs : List Int) : Prop :=
  (a = none ∧ len = 0 ∧ cap = 0 ∧ zs = []) ∨
  ∃ x, a = some x ∧ len ≤ cap ∧ cap ≤ maxLen ∧ zs.length = cap ∧ (∀ i, i < zs.length → w.cell? (x.add i) = some (.int k (zs.getD i 0))) ∧ ∀ n ∈ zs, (Lit.int k n).wf = true

theorem bytes_of_ints : ∀ (zs : List Int), (∀ n ∈ zs, (Lit.int .u8 n).wf = true) → ∃ bs : List UInt8, bvs bs = zs.map (Value.int .u8)
  | [], _ => ⟨[], rfl⟩
  | z :: zs, h => by
    obtain ⟨bs, hbs⟩ := bytes_of_ints zs fun n hn => h n (List.mem_cons_of_mem _ hn)
    have hz := h z (List.mem_cons_self ..)
    have hb : 0 ≤ z ∧ z ≤ 255 := by
      simp [Lit.wf, IntKind.min, IntKind.max, IntKind.signed, IntKind.bits] at hz
      omega
    refine ⟨UInt8.ofNat z.toNat :: bs, ?_⟩
    have e : ((UInt8.ofNat z.toNat).toNat : Int) = z := by
      rw [UInt8.toNat_ofNat']; omega
    show bv _ :: bvs bs = _
    rw [hbs, List.map_cons]
    simp only [bv, e]

/-- A slice of bytes that came in reads as a list of bytes. -/
theorem IsRow.bytes {w : World} {a : Option Addr} {len cap : Nat} {zs : List Int} (h : IsRow .u8 w a len cap zs) :
    ∃ bs : List UInt8, bs.length = len ∧ Rd w w.heap.size a len (bvs bs) ∧ len ≤ cap ∧ cap ≤ maxLen := by
  rcases h with ⟨rfl, rfl, rfl, rfl⟩ | ⟨x, rfl, hl, hm, hz, hc, hw⟩
  · exact ⟨[], rfl, Rd.nil _ _ _, Nat.le_refl _, by simp [maxLen]⟩
  · obtain ⟨bs, hbs⟩ := bytes_of_ints zs hw
    have hbl : bs.length = cap := by
      have := congrArg List.length hbs
      simp at this; omega
    refine ⟨bs.take len, by rw [List.length_take]; omega, ⟨by simp; omega, fun j u hu => ?_⟩, hl, hm⟩
    have hj : j < len := by
      have := (List.getElem?_eq_some_iff.1 hu).1
      simp at this; omega
    have hu2 : (zs.map (Value.int .u8))[j]? = some u := by
      rw [← hbs]
      simp only [bvs, List.map_take, List.getElem?_take] at hu ⊢
      rw [if_pos hj] at hu
      exact hu
    have hcj := hc j (by omega)
    rw [List.getElem?_map] at hu2
    rw [List.getD_eq_getElem?_getD] at hcj
    cases hz : zs[j]? with
    | none => rw [hz] at hu2; cases hu2
    | some z =>
      rw [hz] at hu2 hcj
      simp only [Option.map_some, Option.some.injEq] at hu2
      subst hu2
      refine ⟨x, rfl, ?_, hcj⟩
      have := World.block_lt_of_cell? _ _ hcj
      rwa [add_block] at this
end Go.Proofs.Ytolnmdanlggmhaa

/- A queue in memory: a struct of a slice, a number and a map, told by its blocks. No program in sight. -/
namespace Go.Proofs.Ytolnmdanlggmhaa
open Go.RowKit Go.Maps

/-! ### A slice whose array is the call's own, wherever in it the slice begins (one cell an element) -/
def QRow (w : World) (v : Value) (xs : List Value) : Prop :=
  (v = .slice none 0 0 ∧ xs = []) ∨
  ∃ g off n c cs t, v = .slice (some ⟨g, off, none⟩) n c ∧ w.heap[g]? = some (.cells cs t (0, 0)) ∧ xs.length = n ∧ n ≤ c ∧ c ≤ maxLen ∧ off + c ≤ cs.size ∧ ∀ j : Nat, j < n → cs[off + j]? = xs[j]?

theorem QRow.nil (w : World) : QRow w (.slice none 0 0) [] := .inl ⟨rfl, rfl⟩

theorem QRow.keep {w w' : World} {v : Value} {xs : List Value} (h : QRow w v xs) (hk : ∀ g, v.ownBlock = some g → w'.heap[g]? = w.heap[g]?) : QRow w' v xs := by
  rcases h with h | ⟨g, off, n, c, cs, t, rfl, hg, h1, h2, h3, h4, h5⟩
  · exact .inl h
  · exact .inr ⟨g, off, n, c, cs, t, rfl, (hk g rfl).trans hg, h1, h2, h3, h4, h5⟩

theorem QRow.lt {w : World} {v : Value} {xs : List Value} (h : QRow w v xs) : ∀ g, v.ownBlock = some g → g < w.heap.size := by
  intro g hg
  rcases h with ⟨rfl, _⟩ | ⟨g', off, n, c, cs, t, rfl, hb, _⟩
  · cases hg
  · injection hg with e
    subst e
    exact (Array.getElem?_eq_some_iff.1 hb).1

theorem QRow.slice {w : World} {v : Value} {xs : List Value} (h : QRow w v xs) : ∃ A c, v = .slice A xs.length c ∧ xs.length ≤ c ∧ c ≤ maxLen := by
  rcases h with ⟨rfl, rfl⟩ | ⟨g, off, n, c, cs, t, rfl, hg, rfl, h2, h3, _⟩
  · exact ⟨none, 0, rfl, Nat.le_refl _, by simp [maxLen]⟩
  · exact ⟨_, c, rfl, h2, h3⟩

theorem addN (g off j : Nat) : (⟨g, off, none⟩ : Addr).add j = ⟨g, off + j, none⟩ := by
  unfold Addr.add; split <;> simp_all

theorem QRow.rd {w : World} {A : Option Addr} {n c : Nat} {xs : List Value} (h : QRow w (.slice A n c) xs) : Rd w w.heap.size A n xs := by
  have hl := h.lt
  rcases h with ⟨h, rfl⟩ | ⟨g, off, n', c', cs, t, h, hg, h1, h2, h3, h4, h5⟩
  · injection h with _ e _; subst e; exact Rd.nil _ _ _
  · injection h with e1 e2 e3
    subst e1; subst e2; subst e3
    refine ⟨h1, fun j u hu => ⟨_, rfl, hl g rfl, ?_⟩⟩
    have hj : j < n := by
      have := (List.getElem?_eq_some_iff.1 hu).1
      omega
    rw [addN, cell_of_row w g (off + j) cs t (0, 0) hg, h5 j hj, hu]

theorem QRow.of_own {w : World} {base : Nat} {e : TypeId} {v : Value} {n : Nat} {xs : List Value} (h : w.ownsRow base e 1 v n xs) : QRow w v xs := by
  obtain ⟨hl, h⟩ := h
  rw [Nat.mul_one] at hl
  rcases h with ⟨rfl, rfl⟩ | ⟨g, cap, cur, rfl, _, hg, h1, h2, h3, h4⟩
  · exact .inl ⟨rfl, List.eq_nil_of_length_eq_zero hl⟩
  · rw [Nat.mul_one] at h3 h4
    refine .inr ⟨g, 0, n, cap, cur, e, rfl, hg, hl, h1, h2, by omega, fun j hj => ?_⟩
    rw [Nat.zero_add, ← h4, List.getElem?_take, if_pos hj]
    simp

/-- 'v[1:]'. -/
theorem QRow.tail {w : World} {A : Option Addr} {n c : Nat} {x : Value} {xs : List Value} (h : QRow w (.slice A n c) (x :: xs)) :
    QRow w (.slice (if c = 1 then A else A.map (·.add 1)) (n - 1) (c - 1)) xs ∧ (Value.slice (if c = 1 then A else A.map (·.add 1)) (n - 1) (c - 1)).ownBlock = (Value.slice A n c).ownBlock := by
  rcases h with ⟨h, e⟩ | ⟨g, off, n', c', cs, t, h, hg, h1, h2, h3, h4, h5⟩
  · cases e
  · injection h with e1 e2 e3
    subst e1; subst e2; subst e3
    simp only [List.length_cons] at h1
    by_cases hc : c = 1
    · subst hc
      have hxs : xs = [] := List.eq_nil_of_length_eq_zero (by omega)
      subst hxs
      refine ⟨.inr ⟨g, off, 0, 0, cs, t, ?_, hg, rfl, Nat.le_refl _, by omega, by omega, fun j hj => by omega⟩, rfl⟩
      simp only [List.length_nil] at h1
      rw [if_pos rfl, ← h1]
    · refine ⟨.inr ⟨g, off + 1, n - 1, c - 1, cs, t, ?_, hg, by omega, by omega, by omega, by omega, fun j hj => ?_⟩, ?_⟩
      · rw [if_neg hc]; simp [addN]
      · have := h5 (j + 1) (by omega)
        rw [show off + 1 + j = off + (j + 1) by omega, this]; rfl
      · rw [if_neg hc]; simp [Value.ownBlock, addN]


section
variable {P : Program} (w : World)
/-- Elements appended to it. -/
theorem run_append_q (t ty e : TypeId) (i : TypeInfo) (z : Value) (bytes : Nat) (ht : P.underlying t = some (.slice e)) (hi : P.info? e = some i) (hz : i.zero = some z)
    (hsize : i.size = 1) (hby : i.bytes = bytes) (hzs : z.cells.size = 1)
    (v : Value) (xs : List Value) (hq : QRow w v xs)
    (ad : Addr) (m c : Nat) (x : Value) (news : List Value) (hl : (x :: news).length = m) (hnews : ∀ j u, (x :: news)[j]? = some u → w.cell? (ad.add j) = some u) (h1 : ∀ u ∈ x :: news, u.oneCell' = true)
    (hone : news = [] ∨ ∃ A, v = .slice A xs.length xs.length)
    (h63 : xs.length + m ≤ maxLen) (hbytes : (xs.length + m) * bytes ≤ 140737488355328) :
    ∃ v' w', (Builtin.append_ #[t, t] ty #[v, .slice (some ad) m c]).run P w = .ok v' w' ∧ QRow w' v' (xs ++ x :: news) ∧ w.grownBy w' v.ownBlock ∧
      (v'.ownBlock = v.ownBlock ∨ ∀ g, v'.ownBlock = some g → w.heap.size ≤ g) := by
  rcases hq with ⟨rfl, rfl⟩ | ⟨g, off, n, cap, cs, t0, rfl, hg, hn, hnc, hcm, hoc, hcs⟩
  · obtain ⟨v', w', hrun, r1, r2, _⟩ := run_append_own (P := P) w w.heap.size t ty e i z 1 bytes ht hi hz hsize hby hzs (by omega) (.slice none 0 0) 0 [] (World.ownsRow_nil w _ e 1) ad m c (x :: news) (by omega) hnews h1 (by simpa using h63) (by simpa using hbytes) (Nat.le_refl _)
    refine ⟨v', w', hrun, QRow.of_own (n := m) (by simpa using r1), r2, .inr fun g hg => ?_⟩
    rcases r1.2 with ⟨rfl, _⟩ | ⟨g'', cap', cur, rfl, hb, _⟩
    · cases hg
    · injection hg with hg; subst hg; exact hb
  · subst hn
    by_cases hr : xs.length + m ≤ cap
    · have hnl : news = [] := by
        rcases hone with h | h
        · exact h
        · obtain ⟨A, h⟩ := h
          injection h with _ _ h
          simp at hl
          exact List.eq_nil_of_length_eq_zero (by omega)
      subst hnl
      have hm1 : m = 1 := by simpa using hl.symm
      subst hm1
      have hcell : w.cell? ⟨g, off + xs.length * i.size + 0, none⟩ = cs[off + xs.length]? := by
        rw [hsize]; simp [cell_of_row w g (off + xs.length) cs t0 (0, 0) hg]
      have hrun := run_append_room_cells (P := P) w t ty e i ht hi g off xs.length cap ad 1 c [x] (by simp [hsize]) hnews h1 hr
        (fun j hj => by
          obtain rfl : j = 0 := by simpa using hj
          rw [hcell, Array.getElem?_eq_getElem (by omega)]; rfl)
        (fun j hj => frozen_of_row w g _ cs t0 hg)
      rw [hsize, Nat.mul_one] at hrun
      have hh := heap_setCell_same w g (off + xs.length) cs t0 x hg
      refine ⟨_, _, hrun, .inr ⟨g, off, xs.length + 1, cap, cs.setIfInBounds (off + xs.length) x, t0, rfl, hh, by simp, hr, hcm, by simpa using hoc, fun j hj => ?_⟩, ?_, .inl rfl⟩
      · by_cases hjn : j < xs.length
        · rw [List.getElem?_append_left hjn, ← hcs j hjn, Array.getElem?_setIfInBounds_ne (by omega)]
        · obtain rfl : j = xs.length := by omega
          rw [List.getElem?_append_right (Nat.le_refl _), Nat.sub_self, Array.getElem?_setIfInBounds_self_of_lt (by omega)]; rfl
      · exact ⟨rfl, rfl, rfl, by simp [World.setCells, World.setCell], fun k hk hne => heap_setCell_other w _ k x (fun e => hne (by rw [e]; rfl))⟩
    · obtain ⟨v', w', hrun, r1, r2⟩ := run_append_arg_grows (P := P) w t ty e i z 1 bytes ht hi hz hsize hby hzs (by omega) ⟨g, off, none⟩ xs.length cap xs (by omega)
        (fun j u hj => by
          have hlt := (List.getElem?_eq_some_iff.1 hj).1
          rw [addN, cell_of_row w g (off + j) cs t0 (0, 0) hg, hcs j hlt, hj]) ad m c (x :: news) (by omega) hnews (by omega) h63 hbytes
      refine ⟨v', w', hrun, QRow.of_own r1, ⟨r2.os, r2.tape, r2.output, r2.size, fun k hk _ => r2.block k hk (by simp)⟩, ?_⟩
      right
      intro g' hg'
      rcases r1.2 with ⟨rfl, _⟩ | ⟨g'', cap', cur, rfl, hb, _⟩
      · cases hg'
      · injection hg' with hg'; subst hg'; exact hb
theorem wpList_append_q {ops : Array Oper} {rest : List Oper} {o : Oper} {a : Act} {Q : Exit → Act → World → Prop} (hgd : o.guard = none) (s x : Operand) (t : TypeId)
    (ho : o.op = .call { callee := .builtin .append, args := #[s, x], argTypes := #[t, t] })
    (e : TypeId) (i : TypeInfo) (z : Value) (bytes : Nat) (ht : P.underlying t = some (.slice e)) (hi : P.info? e = some i) (hz : i.zero = some z)
    (hsize : i.size = 1) (hby : i.bytes = bytes) (hzs : z.cells.size = 1)
    (v : Value) (xs : List Value) (hs : a.eval s = v) (hq : QRow w v xs)
    (ad : Addr) (c : Nat) (u : Value) (hx : a.eval x = .slice (some ad) 1 c) (hu : w.cell? ad = some u) (h1 : u.oneCell' = true)
    (h63 : xs.length + 1 ≤ maxLen) (hbytes : (xs.length + 1) * bytes ≤ 140737488355328)
    (h : ∀ v' w', QRow w' v' (xs ++ [u]) → w.grownBy w' v.ownBlock → (v'.ownBlock = v.ownBlock ∨ ∀ g, v'.ownBlock = some g → w.heap.size ≤ g) → wpList P ops Q rest (a.put o.dst v') w') : wpList P ops Q (o :: rest) a w := by
  refine wpList_plain hgd fun K hK => ?_
  obtain ⟨v', w', hrun, h2, h3, h4⟩ := run_append_q (P := P) w t o.type e i z bytes ht hi hz hsize hby hzs v xs hq ad 1 c u [] rfl (fun j u' hj => by
    rcases j with _ | j
    · simp at hj; subst hj
      have e : ad.add 0 = ad := by unfold Addr.add; simp
      rw [e]; exact hu
    · simp at hj) (by simpa using h1) (.inl rfl) h63 hbytes
  unfold Oper.wp execOp
  simp only [ho, resolve, invoke, builtin, Sem.run_bind, Sem.run_pure, Result.andThen_ok, List.map_toArray, List.map_cons, List.map_nil, hs, hx, hrun]
  exact hK _ _ (h v' w' h2 h3 h4)
end

/-! ### The queue -/
/-- Block b holds a queue: its slice reads as xs, its map says of each of them where it stands (f: the number of the first one). All its blocks lie in fp. -/
structure QOf {α : Type} (val : α → Value) (lit : α → Lit) (P : Program) (k E : TypeId) (w : World) (fp : Nat → Prop) (b f : Nat) (xs : List α) (v : Value) (bm : Nat) (D : DataW Unit) (t : TypeId) : Prop where
  box : w.heap[b]? = some (.cells #[v, .int .i64 f, .map (some bm)] t (0, 0))
  row : QRow w v (xs.map val)
  own : w.ownsMap P k (plainElem P E) bm (Maps.size D) D
  size : Maps.size D = xs.length
  has : ∀ x, Maps.has D (lit x) = true ↔ x ∈ xs
  atk : ∀ (i : Nat) x, xs[i]? = some x → D.atKey (lit x) (.lit (.int .i64 0)) = .lit (.int .i64 ((f + i : Nat) : Int))
  nodup : xs.Nodup
  fb : fp b
  fm : fp bm
  fg : ∀ g, v.ownBlock = some g → fp g
  ng : ∀ g, v.ownBlock = some g → g ≠ b

/-- What a step that works on a queue may do: only the queue's blocks turn, and its new blocks are new. -/
structure QStep (fp fp' : Nat → Prop) (w w' : World) : Prop where
  os : w'.os = w.os
  tape : w'.tape = w.tape
  output : w'.output = w.output
  size : w.heap.size ≤ w'.heap.size
  block : ∀ i, i < w.heap.size → ¬ fp i → w'.heap[i]? = w.heap[i]?
  foot : ∀ i, fp' i → fp i ∨ w.heap.size ≤ i

theorem QStep.refl (fp : Nat → Prop) (w : World) : QStep fp fp w w := ⟨rfl, rfl, rfl, Nat.le_refl _, fun _ _ _ => rfl, fun _ h => .inl h⟩
theorem QStep.trans {fp fp' fp'' : Nat → Prop} {w w' w'' : World} (h : QStep fp fp' w w') (k : QStep fp' fp'' w' w'') : QStep fp fp'' w w'' :=
  ⟨k.os.trans h.os, k.tape.trans h.tape, k.output.trans h.output, Nat.le_trans h.size k.size,
    fun i hi hn => (k.block i (Nat.lt_of_lt_of_le hi h.size) (fun hf => by rcases h.foot i hf with h1 | h1; exact hn h1; omega)).trans (h.block i hi hn),
    fun i hf => by
      rcases k.foot i hf with h1 | h1
      · exact h.foot i h1
      · exact .inr (Nat.le_trans h.size h1)⟩
theorem QStep.below {fp fp' : Nat → Prop} {w w' : World} {B : Nat} (h : QStep fp fp' w w') (hfp : ∀ i, fp i → B ≤ i) (hB : B ≤ w.heap.size) : Below B w w' :=
  ⟨h.os, h.tape, h.output, h.size, fun i hi => h.block i (by omega) (fun hf => by have := hfp i hf; omega)⟩
theorem QStep.low {fp fp' : Nat → Prop} {w w' : World} {B : Nat} (h : QStep fp fp' w w') (hfp : ∀ i, fp i → B ≤ i) (hB : B ≤ w.heap.size) : ∀ i, fp' i → B ≤ i := fun i hi => by
  rcases h.foot i hi with h1 | h1
  · exact hfp i h1
  · omega
theorem QStep.off {fp fp' : Nat → Prop} {w w' : World} (h : QStep fp fp' w w') {g : Nat} (hg : g < w.heap.size) (hn : ¬ fp g) : ¬ fp' g := fun hf => by
  rcases h.foot g hf with h1 | h1
  · exact hn h1
  · omega

section
variable {P : Program} {k E : TypeId} {w w' : World} {fp fp' : Nat → Prop} {b f : Nat} {α : Type} {val : α → Value} {lit : α → Lit} {xs : List α} {v : Value} {bm : Nat} {D : DataW Unit} {t : TypeId}

theorem QOf.keep (h : QOf val lit P k E w fp b f xs v bm D t) (hk : ∀ i, fp i → i < w.heap.size → w'.heap[i]? = w.heap[i]?) : QOf val lit P k E w' fp b f xs v bm D t := by
  have h1 : b < w.heap.size := (Array.getElem?_eq_some_iff.1 h.box).1
  have h2 := h.own.lt
  refine ⟨(hk b h.fb h1).trans h.box, h.row.keep fun g hg => hk g (h.fg g hg) (h.row.lt g hg), ?_, h.size, h.has, h.atk, h.nodup, h.fb, h.fm, h.fg, h.ng⟩
  obtain ⟨es, clock, hb, r⟩ := h.own
  exact ⟨es, clock, (hk bm h.fm h2).trans hb, r⟩
theorem QOf.mono (h : QOf val lit P k E w fp b f xs v bm D t) (hf : ∀ i, fp i → fp' i) : QOf val lit P k E w fp' b f xs v bm D t :=
  ⟨h.box, h.row, h.own, h.size, h.has, h.atk, h.nodup, hf _ h.fb, hf _ h.fm, fun g hg => hf _ (h.fg g hg), h.ng⟩
theorem QOf.alloc (h : QOf val lit P k E w fp b f xs v bm D t) (o : Obj) : QOf val lit P k E (w.alloc o) fp b f xs v bm D t :=
  h.keep fun i _ hi => Below.heap_alloc w o i hi
theorem QOf.drewN (h : QOf val lit P k E w fp b f xs v bm D t) (n : Nat) : QOf val lit P k E (w.drewN n) fp b f xs v bm D t := h.keep fun _ _ _ => rfl
theorem QOf.blt (h : QOf val lit P k E w fp b f xs v bm D t) : b < w.heap.size := (Array.getElem?_eq_some_iff.1 h.box).1
theorem QOf.cell0 (h : QOf val lit P k E w fp b f xs v bm D t) : w.cell? ⟨b, 0, none⟩ = some v := blk_cell h.box 0 _ rfl
theorem QOf.cell1 (h : QOf val lit P k E w fp b f xs v bm D t) : w.cell? ⟨b, 1, none⟩ = some (.int .i64 f) := blk_cell h.box 1 _ rfl
theorem QOf.cell2 (h : QOf val lit P k E w fp b f xs v bm D t) : w.cell? ⟨b, 2, none⟩ = some (.map (some bm)) := blk_cell h.box 2 _ rfl
theorem QOf.mne (h : QOf val lit P k E w fp b f xs v bm D t) : bm ≠ b := fun e => by
  obtain ⟨es, clock, hb, _⟩ := h.own
  rw [e, h.box] at hb
  injection hb with hb
  cases hb
theorem QOf.mng (h : QOf val lit P k E w fp b f xs v bm D t) : ∀ g, v.ownBlock = some g → g ≠ bm := fun g hg e => by
  obtain ⟨es, clock, hb, _⟩ := h.own
  rcases h.row with ⟨rfl, _⟩ | ⟨g', off, n, c, cs, t', rfl, hg', _⟩
  · cases hg
  · injection hg with hg
    have e3 : g' = bm := hg.trans e
    rw [e3, hb] at hg'
    injection hg' with hg'
    cases hg'
end

/-- A map's bound may be taken as its size. -/
theorem own_tight {H : Type} {P : Program} {k : TypeId} {R : Value → Option (DataW H × List MemPlace)} {w : World} {b n : Nat} {D : DataW H} (h : w.ownsMap P k R b n D) : w.ownsMap P k R b (Maps.size D) D := by
  obtain ⟨es, clock, hb, F, hs, rfl⟩ := h
  exact ⟨es, clock, hb, F, by rw [Maps.size_eq, length_read]; exact Nat.le_refl _, rfl⟩

/-- Where a key stands on a list, or -1. -/
def placeOf {α : Type} [DecidableEq α] (xs : List α) (x : α) : Int := if x ∈ xs then (xs.idxOf x : Int) else -1
end Go.Proofs.Ytolnmdanlggmhaa

/- What pushing and popping make of a queue in memory. No program in sight. -/
namespace Go.Proofs.Ytolnmdanlggmhaa
open Go.RowKit Go.Maps

section
variable {α : Type} [DecidableEq α] {val : α → Value} {lit : α → Lit} {P : Program} {k E : TypeId} {w w1 w2 w3 w4 : World} {fp : Nat → Prop} {b f : Nat} {xs : List α} {v v' : Value} {bm : Nat} {D : DataW Unit} {t : TypeId}

theorem QOf.push (h : QOf val lit P k E w fp b f xs v bm D t) (K : Keyed P k) (inj : ∀ a b, lit a = lit b → a = b) {x : α} (hx : x ∉ xs) (hk : WideAt.IsKeyLit (lit x)) {n : Nat}
    (own1 : w1.ownsMap P k (plainElem P E) bm n (D.put (lit x) (.lit (.int .i64 ((f + xs.length : Nat) : Int))))) (g1 : w.grownBy w1 (some bm)) (s1 : w1.heap.size ≤ w2.heap.size) (e2 : ∀ i, i < w1.heap.size → w2.heap[i]? = w1.heap[i]?)
    (i2 : w2.os = w1.os ∧ w2.tape = w1.tape ∧ w2.output = w1.output)
    (row3 : QRow w3 v' (xs.map val ++ [val x])) (g3 : w2.grownBy w3 v.ownBlock) (n3 : v'.ownBlock = v.ownBlock ∨ ∀ g, v'.ownBlock = some g → w2.heap.size ≤ g) :
    QOf val lit P k E (w3.setCell ⟨b, 0, none⟩ v') (fun i => fp i ∨ w.heap.size ≤ i) b f (xs ++ [x]) v' bm (D.put (lit x) (.lit (.int .i64 ((f + xs.length : Nat) : Int)))) t ∧
      QStep fp (fun i => fp i ∨ w.heap.size ≤ i) w (w3.setCell ⟨b, 0, none⟩ v') := by
  have hblt := h.blt
  have hbm := h.own.lt
  have hnhas : Maps.has D (lit x) = false := by
    cases e : Maps.has D (lit x) with
    | false => rfl
    | true => exact absurd ((h.has x).1 e) hx
  have e3 : ∀ i, i < w.heap.size → i ≠ bm → some i ≠ v.ownBlock → w3.heap[i]? = w.heap[i]? := fun i hi h1 h2 =>
    (g3.block i (by have := g1.size; omega) h2).trans ((e2 i (by have := g1.size; omega)).trans (g1.block i hi (fun e => h1 (by injection e))))
  have hb3 := (e3 b hblt (fun e => h.mne e.symm) (fun e => h.ng b e.symm rfl)).trans h.box
  have hng' : ∀ g, v'.ownBlock = some g → g ≠ b := fun g hg => by
    rcases n3 with n3 | n3
    · exact h.ng g (n3 ▸ hg)
    · have := n3 g hg; have := g1.size; omega
  have hs3 := g3.size
  have hs1 := g1.size
  have own3 : w3.ownsMap P k (plainElem P E) bm n (D.put (lit x) (.lit (.int .i64 ((f + xs.length : Nat) : Int)))) := by
    obtain ⟨es, clock, hb, r⟩ := own1
    exact ⟨es, clock, (g3.block bm (by omega) (fun e => h.mng bm e.symm rfl)).trans ((e2 bm (by omega)).trans hb), r⟩
  have hbs := heap_setCell_same w3 b 0 _ t v' hb3
  refine ⟨⟨hbs, by rw [List.map_append]; exact row3.keep fun g hg => heap_setCell_other w3 _ g v' (hng' g hg), own_tight (own3.setCell (fun e => h.mne e) v'), ?_, ?_, ?_, ?_, .inl h.fb, .inl h.fm, ?_, hng'⟩, ?_⟩
  · rw [Maps.size_put (h.own.tidy K), hnhas, h.size]; simp
  · intro y
    by_cases hy : y = x
    · subst hy
      simp [Maps.has_put_same h.own.isMap hk]
    · rw [Maps.has_put_other (fun e => hy (inj _ _ e)), h.has]
      simp [hy]
  · intro i y hi
    by_cases hlt : i < xs.length
    · rw [List.getElem?_append_left hlt] at hi
      have hy : y ≠ x := fun e => hx (e ▸ List.mem_of_getElem? hi)
      rw [Maps.atKey_put_other (fun e => hy (inj _ _ e))]
      exact h.atk i y hi
    · rw [List.getElem?_append_right (by omega)] at hi
      have h0 : i = xs.length := by
        have := (List.getElem?_eq_some_iff.1 hi).1
        simp at this; omega
      subst h0
      simp at hi
      subst hi
      exact Maps.atKey_put_same h.own.isMap hk _ _
  · rw [List.nodup_append]
    exact ⟨h.nodup, by simp, fun a ha b hb e => by simp at hb; subst hb; subst e; exact hx ha⟩
  · intro g hg
    rcases n3 with n3 | n3
    · exact .inl (h.fg g (n3 ▸ hg))
    · have := n3 g hg; exact .inr (by omega)
  · refine ⟨g3.os.trans (i2.1.trans g1.os), g3.tape.trans (i2.2.1.trans g1.tape), g3.output.trans (i2.2.2.trans g1.output), by show w.heap.size ≤ (w3.setCell _ _).heap.size; simp only [World.setCell, Array.size_modify]; omega, fun i hi hn => ?_, fun i hi => hi⟩
    rw [heap_setCell_other w3 _ i v' (fun e => hn (by rw [e]; exact h.fb))]
    exact e3 i hi (fun e => hn (by rw [e]; exact h.fm)) (fun e => hn (h.fg i e.symm))

theorem QOf.pop {x : α} (h : QOf val lit P k E w fp b f (x :: xs) v bm D t) (K : Keyed P k) (inj : ∀ a b, lit a = lit b → a = b) {n : Nat}
    (own1 : w1.ownsMap P k (plainElem P E) bm n (D.del (lit x))) (g1 : w.grownBy w1 (some bm)) (row : QRow w v' (xs.map val)) (hv : v'.ownBlock = v.ownBlock)
    (hb4 : w4.heap[b]? = some (.cells #[v', .int .i64 ((f + 1 : Nat) : Int), .map (some bm)] t (0, 0))) (e4 : ∀ i, i ≠ b → w4.heap[i]? = w1.heap[i]?) (s4 : w1.heap.size ≤ w4.heap.size) (i4 : w4.os = w1.os ∧ w4.tape = w1.tape ∧ w4.output = w1.output) :
    QOf val lit P k E w4 fp b (f + 1) xs v' bm (D.del (lit x)) t ∧ QStep fp fp w w4 := by
  have hbm := h.own.lt
  have hnd := List.nodup_cons.1 h.nodup
  have hhas : Maps.has D (lit x) = true := (h.has x).2 (by simp)
  have hs1 := g1.size
  have own4 : w4.ownsMap P k (plainElem P E) bm n (D.del (lit x)) := by
    obtain ⟨es, clock, hb, r⟩ := own1
    exact ⟨es, clock, (e4 bm h.mne).trans hb, r⟩
  refine ⟨⟨hb4, ?_, own_tight own4, ?_, ?_, ?_, hnd.2, h.fb, h.fm, fun g hg => h.fg g (hv ▸ hg), fun g hg => h.ng g (hv ▸ hg)⟩, ?_⟩
  · refine row.keep fun g hg => ?_
    have hgv : v.ownBlock = some g := hv ▸ hg
    rw [e4 g (h.ng g hgv)]
    exact g1.block g (row.lt g hg) (fun e => h.mng g hgv (by injection e))
  · have := Maps.size_del (k := lit x) (h.own.tidy K)
    rw [hhas, h.size] at this
    simp at this
    exact this
  · intro y
    by_cases hy : y = x
    · subst hy
      rw [Maps.has_del_same]
      simp [hnd.1]
    · rw [Maps.has_del_other (fun e => hy (inj _ _ e)), h.has]
      simp [hy]
  · intro i y hi
    have hy : y ≠ x := fun e => hnd.1 (e ▸ List.mem_of_getElem? hi)
    rw [Maps.atKey_del_other (fun e => hy (inj _ _ e)), h.atk (i + 1) y (by simpa using hi)]
    congr 3
    omega
  · refine ⟨i4.1.trans g1.os, i4.2.1.trans g1.tape, i4.2.2.trans g1.output, by omega, fun i hi hn => ?_, fun i hi => .inl hi⟩
    rw [e4 i (fun e => hn (e ▸ h.fb))]
    exact g1.block i hi (fun e => hn (by injection e with e; rw [e]; exact h.fm))
end

theorem QRow.addr {w : World} {A : Option Addr} {n c : Nat} {x : Value} {xs : List Value} (h : QRow w (.slice A n c) (x :: xs)) : ∃ g off, A = some ⟨g, off, none⟩ := by
  rcases h with ⟨_, e⟩ | ⟨g, off, n', c', cs, t, h, _⟩
  · cases e
  · injection h with e1 _ _
    exact ⟨g, off, e1⟩

/-- What both stores leave. -/
structure QStored (w : World) (b : Nat) (v' f' m : Value) (t : TypeId) (w' : World) : Prop where
  box : w'.heap[b]? = some (.cells #[v', f', m] t (0, 0))
  other : ∀ i, i ≠ b → w'.heap[i]? = w.heap[i]?
  size : w.heap.size ≤ w'.heap.size
  info : w'.os = w.os ∧ w'.tape = w.tape ∧ w'.output = w.output
theorem q_stores {w : World} {b : Nat} {v f m : Value} {t : TypeId} (v' f' : Value) (hb : w.heap[b]? = some (.cells #[v, f, m] t (0, 0))) :
    QStored w b v' f' m t ((w.setCell ⟨b, 0, none⟩ v').setCell ⟨b, 1, none⟩ f').drew :=
  ⟨heap_setCell_same _ b 1 _ t f' (heap_setCell_same w b 0 _ t v' hb), fun i hi => (heap_setCell_other _ _ i f' hi).trans (heap_setCell_other w _ i v' hi),
    by show _ ≤ ((w.setCell _ _).setCell _ _).heap.size; simp [World.setCell], rfl, rfl, rfl⟩
theorem q_stores' {w : World} {b : Nat} {v f m : Value} {t : TypeId} (v' f' : Value) (hb : w.heap[b]? = some (.cells #[v, f, m] t (0, 0))) :
    QStored w b v' f' m t ((w.setCell ⟨b, 1, none⟩ f').setCell ⟨b, 0, none⟩ v').drew :=
  ⟨heap_setCell_same _ b 0 _ t v' (heap_setCell_same w b 1 _ t f' hb), fun i hi => (heap_setCell_other _ _ i v' hi).trans (heap_setCell_other w _ i f' hi),
    by show _ ≤ ((w.setCell _ _).setCell _ _).heap.size; simp [World.setCell], rfl, rfl, rfl⟩

/-! ### The numbers and the strings -/
def intV (x : Int) : Value := .int .i64 x
def intL (x : Int) : Lit := .int .i64 x
theorem intL_inj : ∀ a b, intL a = intL b → a = b := fun a b h => by unfold intL at h; injection h
theorem int_wf {x : Int} (h1 : -9223372036854775808 ≤ x) (h2 : x < 9223372036854775808) : (Lit.int .i64 x).wf = true := by
  simp [Lit.wf, IntKind.min, IntKind.max, IntKind.signed, IntKind.bits]
  omega
theorem placeOf_lt {α : Type} [DecidableEq α] {xs : List α} {x : α} (h : x ∈ xs) : xs.idxOf x < xs.length := List.idxOf_lt_length_of_mem h
theorem placeOf_get {α : Type} [DecidableEq α] {xs : List α} {x : α} (h : x ∈ xs) : xs[xs.idxOf x]? = some x := by
  rw [List.getElem?_eq_getElem (List.idxOf_lt_length_of_mem h)]
  simp
/-- Is it on the list? (one word, whatever the instances) -/
def memB {α : Type} [DecidableEq α] (x : α) (xs : List α) : Bool := decide (x ∈ xs)
/-- Added if it is not there. -/
def addX {α : Type} [DecidableEq α] (xs : List α) (x : α) : List α := if x ∈ xs then xs else xs ++ [x]
/-- What a list makes of a queue: each element once. -/
def newL {α : Type} [DecidableEq α] (l : List α) : List α := l.foldl addX []
section
variable {α : Type} [DecidableEq α]
theorem memB_in {x : α} {xs : List α} (h : x ∈ xs) : memB x xs = true := decide_eq_true h
theorem memB_out {x : α} {xs : List α} (h : x ∉ xs) : memB x xs = false := decide_eq_false h
theorem addX_in {x : α} {xs : List α} (h : x ∈ xs) : addX xs x = xs := if_pos h
theorem addX_out {x : α} {xs : List α} (h : x ∉ xs) : addX xs x = xs ++ [x] := if_neg h
theorem placeOf_in {x : α} {xs : List α} (h : x ∈ xs) : placeOf xs x = (xs.idxOf x : Int) := if_pos h
theorem placeOf_out {x : α} {xs : List α} (h : x ∉ xs) : placeOf xs x = -1 := if_neg h
theorem placeOf_ge (xs : List α) (x : α) : decide (0 ≤ placeOf xs x) = memB x xs := by
  by_cases h : x ∈ xs
  · rw [placeOf_in h, memB_in h, decide_eq_true (by omega)]
  · rw [placeOf_out h, memB_out h, decide_eq_false (by omega)]
theorem newL_take {l : List α} {k : Nat} {x : α} (h : l[k]? = some x) : newL (l.take (k + 1)) = addX (newL (l.take k)) x := by
  unfold newL
  rw [List.take_add_one, h]
  simp
theorem newL_len (l : List α) : (newL l).length ≤ l.length := by
  suffices ∀ (l acc : List α), (l.foldl addX acc).length ≤ acc.length + l.length by simpa [newL] using this l []
  intro l
  induction l with
  | nil => intro acc; simp
  | cons y l ih =>
    intro acc
    rw [List.foldl_cons]
    refine Nat.le_trans (ih _) ?_
    by_cases h : y ∈ acc
    · rw [addX_in h]; simp only [List.length_cons]; omega
    · rw [addX_out h]; simp only [List.length_cons, List.length_append, List.length_nil]; omega
theorem idx_lt {xs : List α} {x : α} (h : x ∈ xs) : ∃ i : Nat, placeOf xs x = (i : Int) ∧ i < xs.length ∧ xs[i]? = some x :=
  ⟨_, placeOf_in h, placeOf_lt h, placeOf_get h⟩
end
end Go.Proofs.Ytolnmdanlggmhaa

/- The queue's functions, for elements of type int. -/
namespace Go.Proofs.Ytolnmdanlggmhaa
open Go.RowKit Go.Maps

theorem keyedi : Keyed Try.prog 3 := int_keyed Try.underlying3
theorem zeroIi (w : World) : (zeroValue 3).run Try.prog w = .ok (.int .i64 0) w := by kernel_rfl
theorem infoQi : (Try.prog.info? 3).map (fun i => (i.zero, i.size, i.bytes)) = some (some (.int .i64 0), 1, 8) := by kernel_rfl

/-- A queue, in the world w, at block b. -/
def Qui (w : World) (fp : Nat → Prop) (b f : Nat) (xs : List (Int)) : Prop :=
  ∃ v bm D, QOf intV intL Try.prog 3 3 w fp b f xs v bm D 83

set_option maxRecDepth 100000 in
set_option maxHeartbeats 1000000 in
theorem place_i {fp : Nat → Prop} (b f : Nat) (xs : List (Int)) (x : Int) (w : World) (h : Qui w fp b f xs) (hx : (Lit.int .i64 x).wf = true) (hf : f + xs.length ≤ 1152921504606846976) :
    Calls Try.prog 31 #[.pointer (some ⟨b, 0, none⟩), .int .i64 x] w fun e w' => e = .returned (.int .i64 (placeOf xs x)) ∧ w' = w := by
  obtain ⟨v, bm, D, h⟩ := h
  have hkey := keyOf_int_mk Try.underlying3 hx
  have c1 := h.cell1
  have c2 := h.cell2
  have hown := h.own
  by_cases hm : x ∈ xs
  · have h1 : Maps.has D (Lit.int .i64 x) = true := (h.has x).2 hm
    obtain ⟨i, hp, h3, hi⟩ := idx_lt hm
    have h2 : D.atKey (Lit.int .i64 x) (.lit (.int .i64 0)) = .lit (.int .i64 ((f + i : Nat) : Int)) := h.atk i x hi
    rw [hp]
    have hc : ∀ c : Int, D.atKey (Lit.int .i64 x) (.lit (.int .i64 0)) = .lit (.int .i64 c) → c = (f : Int) + i := fun c hat => by
      rw [h2] at hat
      injection hat with hat
      injection hat with _ hat
      omega
    have hsub : (f : Int) + i - f = i := by omega
    have hi0 : (i : Int) < 1152921504606846976 := by omega
    clear h h2 hp hm hi
    go_enter Try.func31, Try.ntmps31
    go_wp2_with (first | (at_lookup; refine wpList_lookup_own_ok_int _ rfl _ _ 81 rfl 3 3 .i64 keyedi Try.underlying81 Try.underlying3 (zeroIi _) bm _ D rfl hown _ _ rfl hkey ?_; intro c hat hwc; have hce := hc c hat; subst hce; clear hc hat) | fail)
    go_ret
    exact ⟨rfl, rfl⟩
  · have h1 : Maps.has D (Lit.int .i64 x) = false := by
      cases e : Maps.has D (Lit.int .i64 x) with
      | false => rfl
      | true => exact absurd ((h.has x).1 e) hm
    have hp : placeOf xs x = -1 := placeOf_out hm
    rw [hp]
    clear h hp hm
    go_enter Try.func31, Try.ntmps31
    go_wp2_with (first | (at_lookup; refine wpList_lookup_own_ok_int _ rfl _ _ 81 rfl 3 3 .i64 keyedi Try.underlying81 Try.underlying3 (zeroIi _) bm _ D rfl hown _ _ rfl hkey ?_; intro c hat hwc) | fail)
    go_ret
    exact ⟨rfl, rfl⟩

set_option maxRecDepth 100000 in
set_option maxHeartbeats 1000000 in
theorem has_i {fp : Nat → Prop} (b f : Nat) (xs : List (Int)) (x : Int) (w : World) (h : Qui w fp b f xs) (hx : (Lit.int .i64 x).wf = true) (hf : f + xs.length ≤ 1152921504606846976) :
    Calls Try.prog 33 #[.pointer (some ⟨b, 0, none⟩), .int .i64 x] w fun e w' => e = .returned (.bool (memB x xs)) ∧ w' = w := by
  have hc := place_i b f xs x w h hx hf
  have hd := placeOf_ge xs x
  obtain ⟨t, ht⟩ : ∃ t, memB x xs = t := ⟨_, rfl⟩
  obtain ⟨p, hp⟩ : ∃ p, placeOf xs x = p := ⟨_, rfl⟩
  rw [ht] at hd ⊢
  rw [hp] at hc hd
  clear ht hp h
  go_enter Try.func33, Try.ntmps33
  go_wp2_with fail
  refine hc.mono ?_
  rintro e w1 ⟨rfl, rfl⟩
  go_wp2_with fail
  go_ret
  exact ⟨rfl, rfl⟩

set_option maxRecDepth 100000 in
set_option maxHeartbeats 1000000 in
theorem len_i {fp : Nat → Prop} (b f : Nat) (xs : List (Int)) (w : World) (h : Qui w fp b f xs) :
    Calls Try.prog 19 #[.pointer (some ⟨b, 0, none⟩)] w fun e w' => e = .returned (.int .i64 xs.length) ∧ w' = w := by
  obtain ⟨v, bm, D, h⟩ := h
  have c0 := h.cell0
  obtain ⟨A, c, rfl, h1, h2⟩ := h.row.slice
  rw [List.length_map] at c0
  obtain ⟨n, hn⟩ : ∃ n, xs.length = n := ⟨_, rfl⟩
  rw [hn] at c0 ⊢
  clear h hn h1 h2
  go_enter Try.func19, Try.ntmps19
  go_wp2_with fail
  go_ret
  exact ⟨rfl, rfl⟩

set_option maxRecDepth 100000 in
set_option maxHeartbeats 1000000 in
theorem push_i {fp : Nat → Prop} (b f : Nat) (xs : List (Int)) (x : Int) (w : World) (h : Qui w fp b f xs) (hx : (Lit.int .i64 x).wf = true) (hf : f + xs.length ≤ 1152921504606846975) (hb : (xs.length + 1) * 8 ≤ 140737488355328) :
    Calls Try.prog 25 #[.pointer (some ⟨b, 0, none⟩), .int .i64 x] w fun e w' => e = .returned (.bool (!memB x xs)) ∧
      ∃ fp', Qui w' fp' b f (addX xs x) ∧ QStep fp fp' w w' := by
  have hhas := has_i b f xs x w h hx (by omega)
  obtain ⟨i0, hi, hz0, hz1, hz2⟩ := info_parts infoQi
  by_cases hm : x ∈ xs
  · rw [memB_in hm] at hhas
    rw [addX_in hm, memB_in hm]
    have h := Lib.hid h
    go_enter Try.func25, Try.ntmps25
    go_wp2_with fail
    refine hhas.mono ?_
    rintro e w1 ⟨rfl, rfl⟩
    go_wp2_with fail
    go_ret
    exact ⟨rfl, fp, h.out, QStep.refl _ _⟩
  · rw [memB_out hm] at hhas
    rw [addX_out hm, memB_out hm]
    obtain ⟨v, bm, D, h⟩ := h
    have c0 := h.cell0
    have c1 := h.cell1
    have c2 := h.cell2
    obtain ⟨A, c, rfl, hc1, hc2⟩ := h.row.slice
    have hlm : (xs.map intV).length = xs.length := List.length_map ..
    rw [hlm] at c0 h
    have hkey := keyOf_int_mk Try.underlying3 hx
    have hms : Maps.size D < maxLen := by rw [h.size]; unfold maxLen; omega
    obtain ⟨w1, hrun, hown1, hg1⟩ := (h.own.drew).update keyedi Try.underlying81 hms hkey (plainElem_int Try.underlying3 (int_wf (x := (f : Int) + xs.length) (by omega) (by omega)))
    have hown2 : w1.ownsMap Try.prog 3 (plainElem Try.prog 3) bm (Maps.size D + 1) (D.put (intL x) (.lit (.int .i64 ((f + xs.length : Nat) : Int)))) := by rw [Int.natCast_add]; exact hown1
    have hg2 : w.grownBy w1 (some bm) := ⟨hg1.os, hg1.tape, hg1.output, hg1.size, hg1.block⟩
    have hb1 : w1.heap[b]? = some (.cells #[.slice A xs.length c, .int .i64 f, .map (some bm)] 83 (0, 0)) :=
      (hg1.block b h.blt (fun e => h.mne (by injection e with e; exact e.symm))).trans h.box
    have d0 := blk_cell hb1 0 _ rfl
    have hrow1 : QRow (w1.alloc (.cells #[.int .i64 x] 3)) (.slice A xs.length c) (xs.map intV) := by
      exact (h.row.keep fun g hg => hg1.block g (h.row.lt g hg) (fun e => h.mng g hg (by injection e))).keep fun g hg => Below.heap_alloc w1 _ g (Nat.lt_of_lt_of_le (h.row.lt g hg) hg1.size)
    have hx0 : (f : Int) + xs.length ≤ 1152921504606846975 := by omega
    have hb3 : ∀ w3, (w1.alloc (.cells #[.int .i64 x] 3)).grownBy w3 (Value.slice A xs.length c).ownBlock → w3.heap[b]? = some (.cells #[.slice A xs.length c, .int .i64 f, .map (some bm)] 83 (0, 0)) := fun w3 hg3 =>
      (hg3.block b (by simp only [World.size_alloc]; exact Nat.lt_of_lt_of_le h.blt (Nat.le_succ_of_le hg1.size)) (fun e => h.ng b e.symm rfl)).trans ((Below.heap_alloc w1 _ b (Nat.lt_of_lt_of_le h.blt hg1.size)).trans hb1)
    have H := Lib.hid h; clear h
    go_enter Try.func25, Try.ntmps25
    go_wp2_with fail
    refine hhas.mono ?_
    rintro e w2 ⟨rfl, rfl⟩
    go_wp2_with fail
    go_region
    go_wp2_with (first | (at_builtin; refine wpList_append_q _ rfl (.tmp 31) (.tmp 33) 22 rfl 3 i0 _ 8 Try.underlying22 hi hz0 hz1 hz2 rfl _ _ rfl hrow1 _ _ (.int .i64 x) rfl (by simp) rfl (by simp; unfold maxLen; omega) (by simp; omega) ?_; intro v' w3 hrow3 hg3 hn3; have hbox := hb3 w3 hg3; have k0 := blk_cell hbox 0 _ rfl; have l0 := blk_frozen hbox 0; obtain ⟨A', c', hv', _, _⟩ := hrow3.slice; simp only [List.length_append, List.length_map, List.length_singleton] at hv'; subst hv') | fail)
    go_ret
    have r := H.out.push keyedi intL_inj (x := x) hm trivial hown2 hg2 (w2 := w1.alloc (.cells #[.int .i64 x] 3)) (by simp) (fun i hi => Below.heap_alloc w1 _ i hi) ⟨rfl, rfl, rfl⟩ hrow3 hg3 hn3
    exact ⟨rfl, _, ⟨_, _, _, r.1⟩, r.2⟩

theorem Qui.mono {w : World} {fp fp' : Nat → Prop} {b f : Nat} {xs : List (Int)} (h : Qui w fp b f xs) (hf : ∀ i, fp i → fp' i) : Qui w fp' b f xs := by
  obtain ⟨v, bm, D, h⟩ := h
  exact ⟨v, bm, D, h.mono hf⟩
theorem Qui.tight {w : World} {fp : Nat → Prop} {b f : Nat} {xs : List (Int)} (h : Qui w fp b f xs) : Qui w (fun i => fp i ∧ i < w.heap.size) b f xs := by
  obtain ⟨v, bm, D, h⟩ := h
  exact ⟨v, bm, D, { h with fb := ⟨h.fb, h.blt⟩, fm := ⟨h.fm, h.own.lt⟩, fg := fun g hg => ⟨h.fg g hg, h.row.lt g hg⟩ }⟩
theorem Qui.keep {w w' : World} {fp : Nat → Prop} {b f : Nat} {xs : List (Int)} (h : Qui w fp b f xs) (hk : ∀ i, fp i → i < w.heap.size → w'.heap[i]? = w.heap[i]?) : Qui w' fp b f xs := by
  obtain ⟨v, bm, D, h⟩ := h
  exact ⟨v, bm, D, h.keep hk⟩


set_option maxRecDepth 100000 in
set_option maxHeartbeats 1000000 in
theorem peek_nil_i {fp : Nat → Prop} (b f : Nat) (w : World) (h : Qui w fp b f []) :
    Calls Try.prog 30 #[.pointer (some ⟨b, 0, none⟩)] w fun e w' => e = .returned (.tuple #[.int .i64 0, .bool false]) ∧ w' = w := by
  have hc := len_i b f [] w h
  go_enter Try.func30, Try.ntmps30
  go_wp2_with fail
  refine hc.mono ?_
  rintro e w1 ⟨rfl, rfl⟩
  go_wp2_with fail
  go_ret2
  exact ⟨rfl, rfl⟩

set_option maxRecDepth 100000 in
set_option maxHeartbeats 1000000 in
theorem peek_i {fp : Nat → Prop} (b f : Nat) (x : Int) (xs : List (Int)) (w : World) (h : Qui w fp b f (x :: xs)) :
    Calls Try.prog 30 #[.pointer (some ⟨b, 0, none⟩)] w fun e w' => e = .returned (.tuple #[.int .i64 x, .bool true]) ∧ w' = w := by
  have hc := len_i b f (x :: xs) w h
  obtain ⟨v, bm, D, h⟩ := h
  have c0 := h.cell0
  obtain ⟨A, c, rfl, h1, h2⟩ := h.row.slice
  have hlm : ((x :: xs).map intV).length = xs.length + 1 := by simp
  rw [hlm] at c0 h
  obtain ⟨ad, u, rfl, _, hu, hcu⟩ := h.row.rd.at (k := 0) (by omega)
  simp at hu
  subst hu
  have e0 : ad.add 0 = ad := by unfold Addr.add; simp
  rw [e0] at hcu
  have hcx : w.cell? ad = some (.int .i64 x) := hcu
  have hpos : (0 : Int) < (xs.length : Int) + 1 := by omega
  have hne : ¬ ((xs.length : Int) + 1 = 0) := by omega
  clear h h1 h2 hlm hcu e0
  go_enter Try.func30, Try.ntmps30
  go_wp2_with fail
  refine hc.mono ?_
  rintro e w1 ⟨rfl, rfl⟩
  go_wp2_with fail
  go_ret2
  exact ⟨rfl, rfl⟩

set_option maxRecDepth 100000 in
set_option maxHeartbeats 1000000 in
theorem pop_nil_i {fp : Nat → Prop} (b f : Nat) (w : World) (h : Qui w fp b f []) :
    Calls Try.prog 16 #[.pointer (some ⟨b, 0, none⟩)] w fun e w' => e = .returned (.tuple #[.int .i64 0, .bool false]) ∧ w' = w := by
  have hc := peek_nil_i b f w h
  go_enter Try.func16, Try.ntmps16
  go_wp2_with fail
  refine hc.mono ?_
  rintro e w1 ⟨rfl, rfl⟩
  go_wp2_with fail
  go_ret2
  exact ⟨rfl, rfl⟩

set_option maxRecDepth 1000000 in
set_option maxHeartbeats 2000000 in
theorem pop_i {fp : Nat → Prop} (b f : Nat) (x : Int) (xs : List (Int)) (w : World) (h : Qui w fp b f (x :: xs)) (hx : (Lit.int .i64 x).wf = true) (hf : f + xs.length ≤ 1152921504606846975) :
    Calls Try.prog 16 #[.pointer (some ⟨b, 0, none⟩)] w fun e w' => e = .returned (.tuple #[.int .i64 x, .bool true]) ∧ Qui w' fp b (f + 1) xs ∧ QStep fp fp w w' := by
  have hc := peek_i b f x xs w h
  obtain ⟨v, bm, D, h⟩ := h
  obtain ⟨A, c, rfl, h1, h2⟩ := h.row.slice
  have hlm : ((x :: xs).map intV).length = xs.length + 1 := by simp
  rw [hlm] at h h1
  have c2 := h.cell2
  have hkey := keyOf_int_mk Try.underlying3 hx
  have hown := h.own
  obtain ⟨g, off, rfl⟩ := h.row.addr
  have hrow := h.row.tail
  simp only [Nat.add_sub_cancel, Option.map_some, addN] at hrow
  obtain ⟨off', hoff⟩ : ∃ off', (if c = 1 then some (⟨g, off, none⟩ : Addr) else some ⟨g, off + 1, none⟩) = some ⟨g, off', none⟩ := by
    by_cases hc : c = 1
    · exact ⟨off, if_pos hc⟩
    · exact ⟨off + 1, if_neg hc⟩
  rw [hoff] at hrow
  have HR := Lib.hid hrow; clear hrow
  have hbox : ∀ w1, w.mapTurned w1 bm → w1.heap[b]? = some (.cells #[.slice (some ⟨g, off, none⟩) (xs.length + 1) c, .int .i64 f, .map (some bm)] 83 (0, 0)) := fun w1 ht =>
    (ht.grown.block b h.blt (fun e => h.mne (by injection e with e; exact e.symm))).trans h.box
  have H := Lib.hid h; clear h
  have hc1 : (1 : Int) ≤ (xs.length : Int) + 1 := by omega
  have hc2 : (xs.length : Int) + 1 ≤ (c : Int) := by omega
  have hf2 : (f : Int) < 1152921504606846976 := by omega
  have hx2 : (xs.length : Int) < 1152921504606846976 := by omega
  unfold maxLen at h2
  go_enter Try.func16, Try.ntmps16
  go_wp2_with fail
  refine hc.mono ?_
  rintro e w1 ⟨rfl, rfl⟩
  clear hc
  go_wp2_with (first | (at_delete; refine wpList_delete_own _ rfl _ _ 81 3 rfl 3 keyedi Try.underlying81 _ bm _ D rfl hown _ _ rfl hkey ?_; intro w2 hown2 hturn2; have hb2 := hbox w2 hturn2; have k0 := blk_cell hb2 0 _ rfl; have k1 := blk_cell hb2 1 _ rfl; have l0 := blk_frozen hb2 0; have l1 := blk_frozen hb2 1) | fail)
  have hwr : IntKind.i64.wrap ((f : Int) + 1) = (f : Int) + 1 := by rw [IntKind.wrap_i64]; omega
  go_region
  all_goals clear hbox hkey hown c2 k0 k1 l0 l1 h1 h2 hc1 hc2 hlm hoff
  all_goals have HB := Lib.hid hb2; clear hb2
  all_goals go_wp2_with fail
  all_goals go_ret2
  all_goals
    first
    | (have st := q_stores (Value.slice (some ⟨g, off', none⟩) xs.length (c - 1)) (.int .i64 ((f + 1 : Nat) : Int)) HB.out
       have r := H.out.pop keyedi intL_inj hown2 hturn2.grown HR.out.1 HR.out.2 st.box st.other st.size st.info
       exact ⟨rfl, ⟨_, _, _, r.1⟩, r.2⟩)
    | (have st := q_stores' (Value.slice (some ⟨g, off', none⟩) xs.length (c - 1)) (.int .i64 ((f + 1 : Nat) : Int)) HB.out
       have r := H.out.pop keyedi intL_inj hown2 hturn2.grown HR.out.1 HR.out.2 st.box st.other st.size st.info
       exact ⟨rfl, ⟨_, _, _, r.1⟩, r.2⟩)

theorem qu_madei (w : World) : Qui ((w.alloc (.map #[] 0)).alloc (.cells #[.slice none 0 0, .int .i64 0, .map (some w.heap.size)] 83)) (fun i => w.heap.size ≤ i) (w.heap.size + 1) 0 [] := by
  have hown := (World.ownsMap_made (H := Unit) w Try.prog 3 (plainElem Try.prog 3)).alloc (.cells #[.slice none 0 0, .int .i64 0, .map (some w.heap.size)] 83)
  have hh := heap_alloc_new (w.alloc (.map #[] 0)) (.cells #[.slice none 0 0, .int .i64 0, .map (some w.heap.size)] 83)
  rw [World.size_alloc] at hh
  refine ⟨.slice none 0 0, w.heap.size, .map [], ?_⟩
  exact { box := hh, row := QRow.nil _, own := hown, size := rfl, has := fun x => by simp [Maps.has_eq], atk := fun i x hi => by simp at hi, nodup := List.nodup_nil, fb := Nat.le_succ _, fm := Nat.le_refl _, fg := fun g hg => (by cases hg), ng := fun g hg => (by cases hg) }

set_option maxRecDepth 100000 in
set_option maxHeartbeats 2000000 in
theorem new_i (A : Option Addr) (n c : Nat) (l : List (Int)) (w : World) (B : Nat) (hr : Rd w B A n (l.map intV)) (hB : B ≤ w.heap.size) (hw : ∀ x ∈ l, (Lit.int .i64 x).wf = true) (hn : n * 8 ≤ 140737488355328) :
    Calls Try.prog 14 #[.slice A n c] w fun e w' => e = .returned (.pointer (some ⟨w.heap.size + 1, 0, none⟩)) ∧ Qui w' (fun i => w.heap.size ≤ i) (w.heap.size + 1) 0 (newL l) ∧ Below w.heap.size w w' := by
  have hl : l.length = n := by simpa using hr.len
  have HL := Lib.hid hl; clear hl
  have hmm := @run_makeMap Try.prog
  have hq0 := qu_madei w
  have hb0 : Below w.heap.size w ((w.alloc (.map #[] 0)).alloc (.cells #[.slice none 0 0, .int .i64 0, .map (some w.heap.size)] 83)) := ((Below.refl _ _).alloc (Nat.le_refl _) _).alloc (by simp) _
  go_enter Try.func14, Try.ntmps14
  go_wp2_with fail
  go_loopw [5, 11] (fun _ i wr => ∃ k : Nat, k ≤ n ∧ i = .int .i64 k ∧ Qui wr (fun i => w.heap.size ≤ i) (w.heap.size + 1) 0 (newL (l.take k)) ∧ Below w.heap.size w wr) (fun _ i _ => n - (intOf i).toNat)
  case atStart => exact ⟨0, Nat.zero_le _, rfl, hq0, hb0⟩
  case round =>
    obtain ⟨k, hk, rfl, hq, hb⟩ := hrel
    by_cases hlt : k < n
    · have hki : (k : Int) < (n : Int) := by omega
      obtain ⟨ad, u, rfl, _, hu, hcu⟩ := (hr.below (hb.mono hB)).at hlt
      rw [List.getElem?_map, Option.map_eq_some_iff] at hu
      obtain ⟨x, hx, rfl⟩ := hu
      have hwx := hw x (List.mem_of_getElem? hx)
      have hcx : _ = some (.int .i64 x : Value) := hcu
      have hlen := newL_len (l.take k)
      rw [List.length_take, HL.out] at hlen
      have hp := push_i (w.heap.size + 1) 0 _ x _ hq hwx (by omega) (by omega)
      rw [← newL_take hx] at hp
      clear hcu hlen
      go_wp2_with fail
      refine hp.mono ?_
      rintro e w1 ⟨rfl, fp', hq1, hst⟩
      have hb1 := hb.trans (hst.below (fun i hi => hi) hb.size)
      have hq2 := hq1.mono (hst.low (B := w.heap.size) (fun i hi => hi) hb.size)
      clear hp hq1 hst
      go_wp2_with fail
      go_roundw
      case rel => exact ⟨k + 1, by omega, by go_num, hq2, hb1⟩
      case measure => simp [intOf]; omega
    · have hki : ¬ (k : Int) < (n : Int) := by omega
      have e : l.take k = l := List.take_of_length_le (by have := HL.out; omega)
      rw [e] at hq
      go_wp2_with fail
      go_ret
      exact ⟨rfl, hq, hb⟩
end Go.Proofs.Ytolnmdanlggmhaa

/- The reference's queue (a slice of numbers); slices.Equal at numbers. -/
namespace Go.Proofs.Ytolnmdanlggmhaa
open Go.RowKit

/-- Numbers as cells. -/
def ivs (l : List Int) : List Value := l.map intV
@[simp] theorem ivs_length (l : List Int) : (ivs l).length = l.length := by simp [ivs]
theorem ivs_one (l : List Int) : ∀ u ∈ ivs l, u.oneCell' = true := by
  intro u hu
  simp only [ivs, List.mem_map] at hu
  obtain ⟨b, _, rfl⟩ := hu
  rfl
theorem ivs_get {l : List Int} {k : Nat} {u : Value} (h : (ivs l)[k]? = some u) : ∃ x, l[k]? = some x ∧ u = .int .i64 x := by
  simp only [ivs, List.getElem?_map, Option.map_eq_some_iff] at h
  obtain ⟨b, hb, rfl⟩ := h
  exact ⟨b, hb, rfl⟩

/-- A slice value that reads as these numbers. -/
def ISl (w : World) (v : Value) (xs : List Int) : Prop := ∃ A c, v = .slice A xs.length c ∧ xs.length ≤ c ∧ c ≤ maxLen ∧ Rd w w.heap.size A xs.length (ivs xs)
theorem ISl.of_own {w : World} {base e n : Nat} {v : Value} {xs : List Int} (h : w.ownsRow base e 1 v n (ivs xs)) : ISl w v xs := by
  have hl : xs.length = n := by have := h.1; simpa using this
  obtain ⟨A, c, rfl, h1, h2⟩ := own_slice h
  subst hl
  exact ⟨A, c, rfl, h1, h2, Rd.of_own h⟩
theorem ISl.below {w w' : World} {v : Value} {xs : List Int} (h : ISl w v xs) (hb : Below w.heap.size w w') : ISl w' v xs := by
  obtain ⟨A, c, rfl, h1, h2, hr⟩ := h
  exact ⟨A, c, rfl, h1, h2, (hr.below hb).more hb.size⟩
theorem ISl.nil (w : World) : ISl w (.slice none 0 0) [] := ⟨none, 0, rfl, Nat.le_refl _, by simp [maxLen], Rd.nil _ _ _⟩
theorem own_keep {w w' : World} {base e n : Nat} {v : Value} {xs : List Value} (h : w.ownsRow base e 1 v n xs) (hk : ∀ g, v.ownBlock = some g → w'.heap[g]? = w.heap[g]?) : w'.ownsRow base e 1 v n xs := by
  obtain ⟨hl, h⟩ := h
  refine ⟨hl, ?_⟩
  rcases h with h | ⟨g, cap, cur, rfl, hb, hg, r⟩
  · exact .inl h
  · exact .inr ⟨g, cap, cur, rfl, hb, (hk g rfl).trans hg, r⟩
theorem own_blk {w : World} {base e n : Nat} {v : Value} {xs : List Value} (h : w.ownsRow base e 1 v n xs) : ∀ g, v.ownBlock = some g → base ≤ g ∧ g < w.heap.size := by
  intro g hg
  rcases h.2 with ⟨rfl, _⟩ | ⟨g', cap, cur, rfl, hb, hg', _⟩
  · cases hg
  · injection hg with hg
    subst hg
    exact ⟨hb, (Array.getElem?_eq_some_iff.1 hg').1⟩




/-! ### Pop, New -/
theorem ISl.tail {w : World} {A : Option Addr} {n c : Nat} {x : Int} {xs : List Int} (h : ISl w (.slice A n c) (x :: xs)) : ISl w (.slice (if c = 1 then A else A.map (·.add 1)) xs.length (c - 1)) xs := by
  obtain ⟨A', c', e, h1, h2, hr⟩ := h
  injection e with e1 e2 e3
  subst e1; subst e2; subst e3
  have := hr.drop (k := 1) (by simp) h1
  simp only [List.length_cons] at h1 this
  exact ⟨_, _, rfl, by omega, by omega, this⟩



end Go.Proofs.Ytolnmdanlggmhaa

/- slices.Equal at numbers; the example of the chapter; the law QueueOrders, walked. -/
namespace Go.Proofs.Ytolnmdanlggmhaa
open Go.RowKit


theorem len_ne {α : Type} {xs ys : List α} (h : ¬ xs.length = ys.length) : ¬ xs = ys := fun e => h (by rw [e])

set_option maxRecDepth 100000 in
set_option maxHeartbeats 1000000 in
theorem equalI (A A' : Option Addr) (n c n' c' : Nat) (xs ys : List Int) (w : World) (B : Nat) (hx : Rd w B A n (ivs xs)) (hy : Rd w B A' n' (ivs ys)) (hn : n ≤ 9223372036854775807) (hn' : n' ≤ 9223372036854775807) :
    Calls Try.prog 17 #[.slice A n c, .slice A' n' c'] w fun e w' => e = .returned (.bool (decide (xs = ys))) ∧ ∃ k, w' = w.drewN k := by
  have hlx := hx.len; have hly := hy.len
  simp only [ivs_length] at hlx hly
  have HX := Lib.hid hlx; have HY := Lib.hid hly; clear hlx hly
  by_cases hl : n = n'
  · subst hl
    go_enter Try.func17, Try.ntmps17
    go_wp2_with fail
    go_loopw [5, 13] (fun _ i wr => ∃ k : Nat, k ≤ n ∧ i = .int .i64 k ∧ Hid (xs.take k = ys.take k) ∧ ∃ q, wr = w.drewN q) (fun _ i _ => n - (intOf i).toNat)
    case atStart => exact ⟨0, Nat.zero_le _, rfl, rfl, 0, rfl⟩
    case round =>
      obtain ⟨k, hk, rfl, ht, q, rfl⟩ := hrel
      by_cases hlt : k < n
      · obtain ⟨ax, ux, rfl, hbx, hux, hcx⟩ := hx.at hlt
        obtain ⟨ay, uy, rfl, hby, huy, hcy⟩ := hy.at hlt
        obtain ⟨bx, hbx2, rfl⟩ := ivs_get hux
        obtain ⟨by_, hby2, rfl⟩ := ivs_get huy
        have hkn : (k : Int) < (n : Int) := by omega
        go_wp2_with fail
        go_quiet (fail)
        go_wp2_with fail
        · have hne : (bx != by_) = true := by assumption
          go_ret
          refine ⟨ret_eq (congrArg Value.bool ?_), q + nq, World.drewN_drewN ..⟩
          refine (decide_eq_false fun e => ?_).symm
          rw [e, hby2] at hbx2
          injection hbx2 with hbx2
          rw [hbx2] at hne
          simp at hne
        · have heq : (bx != by_) = false := by assumption
          go_roundw
          case rel =>
            refine ⟨k + 1, by omega, by go_num, ?_, _, rfl⟩
            show _ = _
            have hb : bx = by_ := by
              rw [bne_eq_false_iff_eq] at heq
              exact heq
            rw [List.take_add_one, List.take_add_one, ht.out, hbx2, hby2, hb]
          case measure => simp [intOf]; omega
      · go_wp2
        go_ret
        refine ⟨ret_eq (congrArg Value.bool ?_), q, rfl⟩
        refine (decide_eq_true ?_).symm
        have h := ht.out
        rwa [List.take_of_length_le (by rw [HX.out]; omega), List.take_of_length_le (by rw [HY.out]; omega)] at h
  · have hne : ((n : Int) == (n' : Int)) = false := by rw [beq_eq_false_iff_ne]; omega
    have hne2 : ((n : Int) != (n' : Int)) = true := by rw [bne_iff_ne]; omega
    have hd : decide (xs = ys) = false := by rw [decide_eq_false]; exact len_ne (by rw [HX.out, HY.out]; exact hl)
    have Hd := Lib.hid hd; clear hd
    go_enter Try.func17, Try.ntmps17
    go_wp2
    go_ret
    exact ⟨ret_eq (congrArg Value.bool Hd.out.symm), 0, rfl⟩




/-- A queue beside a row of the call's own. -/
structure Beside (B : Nat) (w : World) (fp : Nat → Prop) (b f : Nat) (xs : List Int) (got : Value) (m : Nat) (ys : List Int) : Prop where
  q : Qui w fp b f xs
  low : ∀ i, fp i → B ≤ i ∧ i < w.heap.size
  own : w.ownsRow B 3 1 got m (ivs ys)
  ng : ∀ g, got.ownBlock = some g → ¬ fp g

theorem Beside.step {B : Nat} {w w' : World} {fp : Nat → Prop} {b f f' : Nat} {xs xs' : List Int} {got : Value} {m : Nat} {ys : List Int} (h : Beside B w fp b f xs got m ys) (hq : Qui w' fp b f' xs') (hs : QStep fp fp w w') : Beside B w' fp b f' xs' got m ys :=
  ⟨hq, fun i hi => ⟨(h.low i hi).1, by have := (h.low i hi).2; have := hs.size; omega⟩, own_keep h.own fun g hg => hs.block g (own_blk h.own g hg).2 (h.ng g hg), h.ng⟩

theorem Beside.app {B : Nat} {w w' : World} {fp : Nat → Prop} {b f : Nat} {xs : List Int} {got got' : Value} {m : Nat} {ys ys' : List Int} {o : Obj} {m' : Nat} (h : Beside B w fp b f xs got m ys)
    (hown : w'.ownsRow B 3 1 got' m' (ivs ys')) (hg : (w.alloc o).grownBy w' got.ownBlock) (hat : got'.ownBlock = got.ownBlock ∨ got'.ownBlock = some (w.alloc o).heap.size) : Beside B w' fp b f xs got' m' ys' := by
  have hs := hg.size
  simp only [World.size_alloc] at hs
  refine ⟨h.q.keep fun i hi hlt => ?_, fun i hi => ⟨(h.low i hi).1, by have := (h.low i hi).2; omega⟩, hown, fun g hg' hf => ?_⟩
  · exact (hg.block i (by simp; omega) (fun e => h.ng i e.symm hi)).trans (Below.heap_alloc w o i hlt)
  · rcases hat with e | e
    · exact h.ng g (e ▸ hg') hf
    · rw [e] at hg'
      injection hg' with hg'
      have := (h.low g hf).2
      simp at hg'; omega


end Go.Proofs.Ytolnmdanlggmhaa

/- The functions of a queue at a nil queue. -/
namespace Go.Proofs.Ytolnmdanlggmhaa
open Go.RowKit Go.Maps

set_option maxRecDepth 100000
set_option maxHeartbeats 1000000

end Go.Proofs.Ytolnmdanlggmhaa
