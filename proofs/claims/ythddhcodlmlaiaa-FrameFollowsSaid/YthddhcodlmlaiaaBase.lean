/-
  Plain words for memory, used by the walks of this seat. No program in sight.
-/
import Derived.WalkKit
import Derived.Maps.AppendAt
import Derived.Deep.AppendLies
import Derived.Deep.Draws
import Derived.RegionTactic
import Derived.Lib.Hide
import Derived.Laws.BytesArg
import Derived.Laws.IdiomStrings
namespace Go.Proofs.Ythddhcodlmlaiaa
open Go.RowKit

theorem add_block (a : Addr) (n : Nat) : (a.add n).block = a.block := by unfold Addr.add; split <;> rfl
theorem add_add' (a : Addr) (i j : Nat) : (a.add i).add j = a.add (i + j) := by
  unfold Addr.add
  by_cases hi : i = 0 <;> by_cases hj : j = 0 <;> simp [hi, hj, Nat.add_assoc]

/-- The slice value with address 'A' and 'n' one-cell elements reads as 'xs', all of it below block number 'B'. -/
structure Rd (w : World) (B : Nat) (A : Option Addr) (n : Nat) (xs : List Value) : Prop where
  len : xs.length = n
  at' : ∀ j u, xs[j]? = some u → ∃ ad, A = some ad ∧ ad.block < B ∧ w.cell? (ad.add j) = some u

section
variable {w w' : World} {B B' n : Nat} {A : Option Addr} {xs : List Value}
theorem Rd.nil (w : World) (B : Nat) (A : Option Addr) : Rd w B A 0 [] := ⟨rfl, fun j u h => by simp at h⟩
theorem Rd.at (h : Rd w B A n xs) {k : Nat} (hk : k < n) : ∃ ad u, A = some ad ∧ ad.block < B ∧ xs[k]? = some u ∧ w.cell? (ad.add k) = some u := by
  have hl : k < xs.length := by have := h.len; omega
  obtain ⟨ad, e, hb, hc⟩ := h.at' k _ (List.getElem?_eq_getElem hl)
  exact ⟨ad, _, e, hb, List.getElem?_eq_getElem hl, hc⟩
theorem Rd.keep (h : Rd w B A n xs) (hk : ∀ p : Addr, p.block < B → w'.cell? p = w.cell? p) : Rd w' B A n xs :=
  ⟨h.len, fun j u hu => by
    obtain ⟨ad, e, hb, hc⟩ := h.at' j u hu
    exact ⟨ad, e, hb, (hk _ (by rw [add_block]; exact hb)).trans hc⟩⟩
theorem Rd.more (h : Rd w B A n xs) (hB : B ≤ B') : Rd w B' A n xs :=
  ⟨h.len, fun j u hu => by
    obtain ⟨ad, e, hb, hc⟩ := h.at' j u hu
    exact ⟨ad, e, Nat.lt_of_lt_of_le hb hB, hc⟩⟩
theorem Rd.below (h : Rd w B A n xs) (hb : Below B w w') : Rd w' B A n xs := h.keep fun _ hp => hb.cell hp
theorem Rd.drew (h : Rd w B A n xs) : Rd w.drew B A n xs := h.keep fun _ _ => rfl
theorem Rd.drewN (h : Rd w B A n xs) (k : Nat) : Rd (w.drewN k) B A n xs := h.keep fun _ _ => rfl
theorem Rd.alloc (h : Rd w B A n xs) (hB : B ≤ w.heap.size) (o : Obj) : Rd (w.alloc o) B A n xs := h.keep fun p hp => World.cell?_alloc_lt w o p (by omega)
theorem Rd.setCell (h : Rd w B A n xs) {p : Addr} (hB : B ≤ p.block) (u : Value) : Rd (w.setCell p u) B A n xs :=
  h.keep fun q hq => World.cell?_setCell_other w p q u (fun e => by subst e; omega)
theorem Rd.grown (h : Rd w B A n xs) {row : Option Nat} (hg : w.grownBy w' row) (hB : B ≤ w.heap.size) (hr : ∀ g, row = some g → B ≤ g) : Rd w' B A n xs :=
  h.keep fun p hp => World.cell?_of_block (hg.block p.block (by omega) (fun e => by have := hr _ e.symm; omega))
/-- The part from 'k' on. -/
theorem Rd.drop (h : Rd w B A n xs) {k cap : Nat} (hk : k ≤ n) (hc : n ≤ cap) : Rd w B (if cap = k then A else A.map (·.add k)) (n - k) (xs.drop k) := by
  refine ⟨by rw [List.length_drop, h.len], fun j u hu => ?_⟩
  rw [List.getElem?_drop] at hu
  obtain ⟨ad, rfl, hb, hcell⟩ := h.at' _ u hu
  have hlt : k + j < xs.length := by
    rcases Nat.lt_or_ge (k + j) xs.length with h1 | h1
    · exact h1
    · rw [List.getElem?_eq_none h1] at hu; cases hu
  have := h.len
  rw [if_neg (by omega)]
  exact ⟨ad.add k, rfl, by rw [add_block]; exact hb, by rw [add_add']; exact hcell⟩
theorem Rd.take (h : Rd w B A n xs) {k : Nat} (hk : k ≤ n) : Rd w B A k (xs.take k) := by
  refine ⟨by rw [List.length_take, h.len]; omega, fun j u hu => ?_⟩
  rw [List.getElem?_take] at hu
  split at hu
  · exact h.at' j u hu
  · cases hu
theorem Rd.of_own {base : Nat} {e : TypeId} {c : Nat} (h : w.ownsRow base e 1 (.slice A n c) n xs) : Rd w w.heap.size A n xs := by
  refine ⟨by simpa using h.1, fun j u hu => ?_⟩
  have hn : 0 < n := by
    have h1 := h.1
    rcases Nat.eq_zero_or_pos n with h0 | h0
    · subst h0
      have : xs = [] := List.eq_nil_of_length_eq_zero (by simpa using h1)
      subst this; simp at hu
    · exact h0
  obtain ⟨g, cap, hv, _, hlt⟩ := h.form hn
  have hA : A = some ⟨g, 0, none⟩ := by injection hv
  subst hA
  exact ⟨_, rfl, hlt, h.cells (g := g) rfl j u hu⟩
end

/-- An owned row's value is a slice. -/
theorem own_slice {w : World} {base : Nat} {e : TypeId} {v : Value} {n : Nat} {xs : List Value} (h : w.ownsRow base e 1 v n xs) :
    ∃ A c, v = .slice A n c ∧ n ≤ c ∧ c ≤ maxLen := by
  rcases h.2 with ⟨rfl, rfl⟩ | ⟨g, cap, cur, rfl, _, _, hc, hm, _⟩
  · exact ⟨_, _, rfl, Nat.le_refl _, by simp [maxLen]⟩
  · exact ⟨_, _, rfl, hc, hm⟩

theorem ret_eq {a b : Value} (h : a = b) : Ending.returned a = .returned b := by rw [h]

section
variable {P : Program} (w : World)

/-- append of a source that may be nil, empty or not, onto a row of the call's own. -/
theorem run_app (base : Nat) (t ty e : TypeId) (i : TypeInfo) (z : Value) (bytes : Nat) (ht : P.underlying t = some (.slice e)) (hi : P.info? e = some i) (hz : i.zero = some z)
    (hsize : i.size = 1) (hby : i.bytes = bytes) (hzs : z.cells.size = 1)
    (v : Value) (n : Nat) (xs : List Value) (hown : w.ownsRow base e 1 v n xs)
    (B : Nat) (A : Option Addr) (m c : Nat) (news : List Value) (hr : Rd w B A m news) (h1 : ∀ u ∈ news, u.oneCell' = true)
    (h63 : n + m ≤ maxLen) (hbytes : (n + m) * bytes ≤ 140737488355328) (hbase : base ≤ w.heap.size) :
    ∃ v' w', (Builtin.append_ #[t, t] ty #[v, .slice A m c]).run P w = .ok v' w' ∧ w'.ownsRow base e 1 v' (n + m) (xs ++ news) ∧ w.grownBy w' v.ownBlock ∧
      (v'.ownBlock = v.ownBlock ∨ v'.ownBlock = some w.heap.size) := by
  rcases A with _ | ad
  · have hn : news = [] := by
      cases news with
      | nil => rfl
      | cons x l => obtain ⟨ad, h, _⟩ := hr.at' 0 x rfl; cases h
    subst hn
    have hm : m = 0 := by have := hr.len; simpa using this.symm
    subst hm
    refine ⟨v, w, ?_, by simpa using hown, World.grownBy.refl w _, .inl rfl⟩
    rcases hown.2 with ⟨rfl, rfl⟩ | ⟨g, cap, cur, rfl, _, _, hnc, _⟩
    · simp [Builtin.append_, run_underlying ht, sizeOf, typeInfo, hi, Builtin.lenOf, Builtin.firstCells]
    · simp [Builtin.append_, run_underlying ht, sizeOf, typeInfo, hi, Builtin.lenOf, Builtin.firstCells, hnc, storeCells]
  · have hcells : ∀ j u, news[j]? = some u → w.cell? (ad.add j) = some u := by
      intro j u hu
      obtain ⟨ad', h, _, hc⟩ := hr.at' j u hu
      injection h with h
      subst h
      exact hc
    obtain ⟨v', w', hrun, h2, h3, _, h5⟩ := run_append_own_at (P := P) w base t ty e i z 1 bytes ht hi hz hsize hby hzs (by omega) v n xs hown ad m c news (by rw [hr.len, Nat.mul_one]) hcells h1 h63 hbytes hbase
    exact ⟨v', w', hrun, h2, h3, h5⟩

theorem wpList_app {ops : Array Oper} {rest : List Oper} {o : Oper} {a : Act} {Q : Exit → Act → World → Prop} (hgd : o.guard = none) (s x : Operand) (t : TypeId)
    (ho : o.op = .call { callee := .builtin .append, args := #[s, x], argTypes := #[t, t] })
    (base : Nat) (e : TypeId) (i : TypeInfo) (z : Value) (bytes : Nat) (ht : P.underlying t = some (.slice e)) (hi : P.info? e = some i) (hz : i.zero = some z)
    (hsize : i.size = 1) (hby : i.bytes = bytes) (hzs : z.cells.size = 1)
    (v : Value) (n : Nat) (xs : List Value) (hs : a.eval s = v) (hown : w.ownsRow base e 1 v n xs)
    (B : Nat) (A : Option Addr) (m c : Nat) (news : List Value) (hx : a.eval x = .slice A m c) (hr : Rd w B A m news) (h1 : ∀ u ∈ news, u.oneCell' = true)
    (h63 : n + m ≤ maxLen) (hbytes : (n + m) * bytes ≤ 140737488355328) (hbase : base ≤ w.heap.size)
    (h : ∀ v' w', w'.ownsRow base e 1 v' (n + m) (xs ++ news) → w.grownBy w' v.ownBlock → (v'.ownBlock = v.ownBlock ∨ v'.ownBlock = some w.heap.size) → wpList P ops Q rest (a.put o.dst v') w') : wpList P ops Q (o :: rest) a w := by
  refine wpList_plain hgd fun K hK => ?_
  obtain ⟨v', w', hrun, h2, h3, h4⟩ := run_app (P := P) w base t o.type e i z bytes ht hi hz hsize hby hzs v n xs hown B A m c news hr h1 h63 hbytes hbase
  unfold Oper.wp execOp
  simp only [ho, resolve, invoke, builtin, Sem.run_bind, Sem.run_pure, Result.andThen_ok, List.map_toArray, List.map_cons, List.map_nil, hs, hx, hrun]
  exact hK _ _ (h v' w' h2 h3 h4)
end

theorem blk_cell {w : World} {g : Nat} {cs : Array Value} {t : TypeId} (h : w.heap[g]? = some (.cells cs t (0, 0))) (i : Nat) (v : Value) (hv : cs[i]? = some v) : w.cell? ⟨g, i, none⟩ = some v := by
  rw [← hv]; exact cell_of_row w g i cs t (0, 0) h
theorem blk_frozen {w : World} {g : Nat} {cs : Array Value} {t : TypeId} (h : w.heap[g]? = some (.cells cs t (0, 0))) (i : Nat) : w.frozen? ⟨g, i, none⟩ = false := by
  simp [World.frozen?, h]
theorem blk_lt {w : World} {g : Nat} {o : Obj} (h : w.heap[g]? = some o) : g < w.heap.size := (Array.getElem?_eq_some_iff.1 h).1

/-- A slice of slices: each element is a slice that reads as its list. -/
def Rds (w : World) (B : Nat) (A : Option Addr) (L : List (List Value)) : Prop :=
  ∃ vs : List Value, Rd w B A L.length vs ∧ ∀ (i : Nat) (l : List Value), L[i]? = some l → ∃ (A' : Option Addr) (c' : Nat), vs[i]? = some (Value.slice A' l.length c') ∧ Rd w B A' l.length l

theorem Rds.below {w w' : World} {B : Nat} {A : Option Addr} {L : List (List Value)} (h : Rds w B A L) (hb : Below B w w') : Rds w' B A L := by
  obtain ⟨vs, h1, h2⟩ := h
  refine ⟨vs, h1.below hb, fun i l hl => ?_⟩
  obtain ⟨A', c', h3, h4⟩ := h2 i l hl
  exact ⟨A', c', h3, h4.below hb⟩
theorem Rds.drewN {w : World} {B : Nat} {A : Option Addr} {L : List (List Value)} (h : Rds w B A L) (k : Nat) : Rds (w.drewN k) B A L := by
  obtain ⟨vs, h1, h2⟩ := h
  refine ⟨vs, h1.drewN k, fun i l hl => ?_⟩
  obtain ⟨A', c', h3, h4⟩ := h2 i l hl
  exact ⟨A', c', h3, h4.drewN k⟩
theorem Rds.more {w : World} {B B' : Nat} {A : Option Addr} {L : List (List Value)} (h : Rds w B A L) (hB : B ≤ B') : Rds w B' A L := by
  obtain ⟨vs, h1, h2⟩ := h
  refine ⟨vs, h1.more hB, fun i l hl => ?_⟩
  obtain ⟨A', c', h3, h4⟩ := h2 i l hl
  exact ⟨A', c', h3, h4.more hB⟩
theorem Rds.at {w : World} {B : Nat} {A : Option Addr} {L : List (List Value)} (h : Rds w B A L) {k : Nat} (hk : k < L.length) :
    ∃ ad l A' c', A = some ad ∧ L[k]? = some l ∧ w.cell? (ad.add k) = some (.slice A' l.length c') ∧ Rd w B A' l.length l := by
  obtain ⟨vs, h1, h2⟩ := h
  obtain ⟨ad, u, rfl, _, hu, hc⟩ := h1.at hk
  obtain ⟨A', c', h3, h4⟩ := h2 k L[k] (List.getElem?_eq_getElem hk)
  rw [hu] at h3; injection h3 with h3; subst h3
  exact ⟨ad, L[k], A', c', rfl, List.getElem?_eq_getElem hk, hc, h4⟩

/-- The value is a slice that reads as the list. -/
def SliceOf (w : World) (B : Nat) (v : Value) (l : List Value) : Prop := ∃ (A' : Option Addr) (c' : Nat), v = .slice A' l.length c' ∧ Rd w B A' l.length l
theorem SliceOf.mk' {w : World} {B n c : Nat} {A : Option Addr} {l : List Value} (h : Rd w B A n l) : SliceOf w B (.slice A n c) l := by
  have := h.len; subst this; exact ⟨A, c, rfl, h⟩
theorem rds_blk {w : World} {B g : Nat} {cs : Array Value} {t : TypeId} {L : List (List Value)} (hg : w.heap[g]? = some (.cells cs t (0, 0))) (hB : g < B) (hl : cs.size = L.length)
    (h : ∀ (i : Nat) (l : List Value), L[i]? = some l → ∃ v, cs[i]? = some v ∧ SliceOf w B v l) : Rds w B (some ⟨g, 0, none⟩) L := by
  refine ⟨cs.toList, ⟨by simpa using hl, fun j u hu => ⟨_, rfl, hB, ?_⟩⟩, fun i l hi => ?_⟩
  · have hadd : (⟨g, 0, none⟩ : Addr).add j = ⟨g, j, none⟩ := by unfold Addr.add; split <;> simp_all
    rw [hadd]; exact blk_cell hg j u (by simpa using hu)
  · obtain ⟨v, hv, A', c', rfl, hr⟩ := h i l hi
    exact ⟨A', c', by simpa using hv, hr⟩

theorem flat_succ {α : Type} {L : List (List α)} {k : Nat} {l : List α} (h : L[k]? = some l) : (L.take (k + 1)).flatten = (L.take k).flatten ++ l := by
  rw [List.take_add_one, h]; simp
theorem flat_le {α : Type} (L : List (List α)) (k : Nat) : (L.take k).flatten.length ≤ L.flatten.length := by
  have h := congrArg List.length (congrArg List.flatten (List.take_append_drop k L))
  rw [List.flatten_append, List.length_append] at h
  omega

/-- The bytes as the model's values. -/
def bv (b : UInt8) : Value := .int .u8 (b.toNat : Int)
def bvs (l : List UInt8) : List Value := l.map bv
@[simp] theorem bvs_length (l : List UInt8) : (bvs l).length = l.length := by simp [bvs]
@[simp] theorem bvs_nil : bvs [] = [] := rfl
theorem bvs_append (l m : List UInt8) : bvs (l ++ m) = bvs l ++ bvs m := by simp [bvs]
theorem bvs_one (l : List UInt8) : ∀ u ∈ bvs l, u.oneCell' = true := by
  intro u hu
  simp only [bvs, List.mem_map] at hu
  obtain ⟨b, _, rfl⟩ := hu
  rfl
theorem bvs_get {l : List UInt8} {k : Nat} {u : Value} (h : (bvs l)[k]? = some u) : ∃ b, l[k]? = some b ∧ u = bv b := by
  simp only [bvs, List.getElem?_map, Option.map_eq_some_iff] at h
  obtain ⟨b, hb, rfl⟩ := h
  exact ⟨b, hb, rfl⟩
/-- Two blocks laid ahead of a call lie as they lay. -/
theorem two_boxes {w w1 : World} {o1 o2 : Obj} (hb : Below ((w.alloc o1).alloc o2).heap.size ((w.alloc o1).alloc o2) w1) :
    w1.heap[w.heap.size]? = some o1 ∧ w1.heap[w.heap.size + 1]? = some o2 := by
  refine ⟨(hb.block _ (by simp; omega)).trans ((Below.heap_alloc _ _ _ (by simp)).trans (heap_alloc_new w o1)), (hb.block _ (by simp)).trans ?_⟩
  have := heap_alloc_new (w.alloc o1) o2
  rwa [World.size_alloc] at this

/-- What a call has made reads as a list of bytes. -/
theorem own_rd {w1 : World} {base e : Nat} {v : Value} {m : Nat} {l : List UInt8} (h : w1.ownsRow base e 1 v m (bvs l)) :
    ∃ A c, v = .slice A m c ∧ Rd w1 w1.heap.size A m (bvs l) := by
  obtain ⟨A, c, rfl, _⟩ := own_slice h
  exact ⟨A, c, rfl, Rd.of_own h⟩

/-- 'string(b)'. -/
theorem run_str {P : Program} {w : World} {B : Nat} {A : Option Addr} {n c : Nat} {bs : List UInt8} (src dst e : TypeId) (hs : P.underlying src = some (.slice e)) (he : P.underlying e = some (.int .u8)) (hd : P.underlying dst = some .string)
    (h : Rd w B A n (bvs bs)) : (convert src dst (.slice A n c)).run P w = .ok (.string ⟨bs.toArray⟩) w := by
  have hl : bs.length = n := by simpa using h.len
  subst hl
  cases A with
  | none =>
    have hb : bs = [] := by
      cases bs with
      | nil => rfl
      | cons b l => obtain ⟨ad, e, _⟩ := h.at' 0 (bv b) rfl; cases e
    subst hb
    exact run_convert_bytes_nil w src e hs he _ c dst hd
  | some a =>
    refine run_convert_bytes_back w src dst e a c bs hs he hd fun j hj => ?_
    obtain ⟨ad, e, _, hc⟩ := h.at' j (bv bs[j]) (by simp [bvs, hj])
    injection e with e
    subst e
    exact hc

/-- What a walk is told of a slice of integers that came in. -/
def IsRow (k : IntKind) (w : World) (a : Option Addr) (len cap : Nat) (zs : List Int) : Prop :=
  (a = none ∧ len = 0 ∧ cap = 0 ∧ zs = []) ∨
  ∃ x, a = some x ∧ len ≤ cap ∧ cap ≤ maxLen ∧ zs.length = cap ∧ (∀ i, i < zs.length → w.cell? (x.add i) = some (.int k (zs.getD i 0))) ∧ ∀ n ∈ zs, (Lit.int k n).wf = true

theorem bytes_of_ints : ∀ (zs : List Int), (∀ n ∈ zs, (Lit.int .u8 n).wf = true) → ∃ bs : List UInt8, bvs bs = zs.map (Value.int .u8)
  | [], _ => ⟨[], rfl⟩
  | z :: zs, h => by
    obtain ⟨bs, hbs⟩ := bytes_of_ints zs fun n hn => h n (List.mem_cons_of_mem _ hn)
    have hz := h z (List.mem_cons_self ..)
    have hb : 0 ≤ z ∧ z ≤ 255 := by
      simp [Lit.wf, IntKind.min, IntKind.max, IntKind.signed, IntKind.bits] at hz
      omega
    refine ⟨UInt8.ofNat z.toNat :: bs, ?_⟩
    have e : ((UInt8.ofNat z.toNat).toNat : Int) = z := by
      rw [UInt8.toNat_ofNat']; omega
    show bv _ :: bvs bs = _
    rw [hbs, List.map_cons]
    simp only [bv, e]

/-- A slice of bytes that came in reads as a list of bytes. -/
theorem IsRow.bytes {w : World} {a : Option Addr} {len cap : Nat} {zs : List Int} (h : IsRow .u8 w a len cap zs) :
    ∃ bs : List UInt8, bs.length = len ∧ Rd w w.heap.size a len (bvs bs) ∧ len ≤ cap ∧ cap ≤ maxLen := by
  rcases h with ⟨rfl, rfl, rfl, rfl⟩ | ⟨x, rfl, hl, hm, hz, hc, hw⟩
  · exact ⟨[], rfl, Rd.nil _ _ _, Nat.le_refl _, by simp [maxLen]⟩
  · obtain ⟨bs, hbs⟩ := bytes_of_ints zs hw
    have hbl : bs.length = cap := by
      have := congrArg List.length hbs
      simp at this; omega
    refine ⟨bs.take len, by rw [List.length_take]; omega, ⟨by simp; omega, fun j u hu => ?_⟩, hl, hm⟩
    have hj : j < len := by
      have := (List.getElem?_eq_some_iff.1 hu).1
      simp at this; omega
    have hu2 : (zs.map (Value.int .u8))[j]? = some u := by
      rw [← hbs]
      simp only [bvs, List.map_take, List.getElem?_take] at hu ⊢
      rw [if_pos hj] at hu
      exact hu
    have hcj := hc j (by omega)
    rw [List.getElem?_map] at hu2
    rw [List.getD_eq_getElem?_getD] at hcj
    cases hz : zs[j]? with
    | none => rw [hz] at hu2; cases hu2
    | some z =>
      rw [hz] at hu2 hcj
      simp only [Option.map_some, Option.some.injEq] at hu2
      subst hu2
      refine ⟨x, rfl, ?_, hcj⟩
      have := World.block_lt_of_cell? _ _ hcj
      rwa [add_block] at this
end Go.Proofs.Ythddhcodlmlaiaa
