/- The reference's coroutines as plain functions: what a turn, a Run, a Close do; how many turns are left. No program in sight. -/
import Derived.Test.YtolnmdanlggmhaaProg
import Derived.Test.YtolnmdanlggmhaaKa
import Derived.Test.YtolnmdanlggmhaaKb
import Derived.Deep.RegionHeld3
import Derived.Deep.RegionLaw
namespace Go.Proofs.Ytolnmdanlggmhaa

/-- A step of a function; a coroutine; the scheduler. -/
structure RStep where
  op : Int
  n : Int
  text : ByteArray
structure RCo where
  f : Nat
  pos : Nat
  st : Int
  txt : ByteArray
structure RS where
  cos : List RCo
  q : List Nat
  tr : List ByteArray
  cl : Bool

def rSet (m : RS) (i : Nat) (c : RCo) : RS := { m with cos := m.cos.set i c }
def rSpawn (m : RS) (f : Nat) : RS := { m with cos := m.cos ++ [⟨f, 0, 1, ByteArray.empty⟩], q := m.q ++ [m.cos.length] }
def rTr (m : RS) (t : ByteArray) : RS := { m with tr := m.tr ++ [t] }
def rPush (m : RS) (i : Nat) : RS := { m with q := m.q ++ [i] }
def rCan (m : RS) (id : Int) : Bool := decide (1 ≤ id) && (decide (id ≤ m.cos.length) && ((m.cos[(id - 1).toNat]?).any fun c => c.st == 2))
def rWakeC (m : RS) (i : Nat) (c : RCo) : RS := { rSet m i { c with st := 1 } with q := m.q ++ [i] }
def rWake (m : RS) (id : Int) : RS :=
  if rCan m id then (match m.cos[(id - 1).toNat]? with | some c => rWakeC m (id - 1).toNat c | none => m) else m
def rNumber (F : Nat) (n : Int) : Nat := (max n 0).toNat % F
def rDigit1 (n : Nat) : ByteArray := ⟨#[UInt8.ofNat (48 + n % 10)]⟩
def rDigit : Nat → Nat → ByteArray
  | 0, n => rDigit1 n
  | k + 1, n => if n < 10 then rDigit1 n else rDigit k (n / 10) ++ rDigit1 n

/-- The function of a coroutine. -/
def rFn (fs : List (List RStep)) (f : Nat) : List RStep := fs.getD f []
def rTurn (fs : List (List RStep)) (i : Nat) : Nat → RS → RS
  | 0, m => m
  | k + 1, m => match m.cos[i]? with
    | none => m
    | some c => match (rFn fs c.f)[c.pos]? with
      | none => rSet m i { c with st := 3 }
      | some x =>
        let c' : RCo := { c with pos := c.pos + 1 }
        let m' := rSet m i c'
        if x.op = 0 then rPush m' i
        else if x.op = 1 then rSet m i { c' with st := 2 }
        else if x.op = 2 then rTurn fs i k (if m'.cos.length < 20 then rSpawn m' (rNumber fs.length x.n) else m')
        else if x.op = 3 then rSet m i { c' with st := 4, txt := x.text }
        else if x.op = 4 then rTurn fs i k (rWake m' x.n)
        else rTurn fs i k (rTr m' (rDigit 3 (i + 1) ++ x.text))
/-- The steps that a coroutine has before it, and one. -/
def rLeft (fs : List (List RStep)) (c : RCo) : Nat := (rFn fs c.f).length - c.pos + 1
def rRun (fs : List (List RStep)) : Nat → RS → RS × Nat
  | 0, m => (m, 0)
  | k + 1, m => match m.q with
    | [] => (m, 0)
    | i :: q => if m.cl then (m, 0) else match m.cos[i]? with
      | none => (m, 0)
      | some c => let r := rRun fs k (rTurn fs i (rLeft fs c) { m with q := q }); (r.1, r.2 + 1)
def rEnd (c : RCo) : RCo := if c.st = 1 ∨ c.st = 2 then { c with st := 5 } else c
def rClose (m : RS) : RS × Nat := if m.cl then (m, 0) else ({ m with cos := m.cos.map rEnd, q := [], cl := true }, m.cos.countP fun c => c.st == 1 || c.st == 2)

/-- How much is left to do: no more turns than that. -/
def rW (fs : List (List RStep)) (c : RCo) : Nat := if c.st = 1 ∨ c.st = 2 then rLeft fs c else 0
def rMeas (fs : List (List RStep)) (m : RS) : Nat := (m.cos.map (rW fs)).sum + (20 - m.cos.length) * 62

theorem sum_set {l : List RCo} {w : RCo → Nat} : ∀ {i : Nat} {c c' : RCo}, l[i]? = some c → ((l.set i c').map w).sum + w c = (l.map w).sum + w c' := by
  induction l with
  | nil => intro i c c' h; simp at h
  | cons x l ih =>
    intro i c c' h
    cases i with
    | zero =>
      simp only [List.getElem?_cons_zero, Option.some.injEq] at h
      subst h
      simp only [List.set_cons_zero, List.map_cons, List.sum_cons]
      omega
    | succ i =>
      simp only [List.getElem?_cons_succ] at h
      have := ih (c' := c') h
      simp only [List.set_cons_succ, List.map_cons, List.sum_cons]
      omega
theorem rMeas_set {fs : List (List RStep)} {m : RS} {i : Nat} {c c' : RCo} (h : m.cos[i]? = some c) : rMeas fs (rSet m i c') + rW fs c = rMeas fs m + rW fs c' := by
  unfold rMeas rSet
  simp only [List.length_set]
  have := sum_set (w := rW fs) (c' := c') h
  omega
theorem rMeas_q (fs : List (List RStep)) (m : RS) (q : List Nat) (tr : List ByteArray) : rMeas fs { m with q := q, tr := tr } = rMeas fs m := rfl
theorem rMeas_tr (fs : List (List RStep)) (m : RS) (t : ByteArray) : rMeas fs (rTr m t) = rMeas fs m := rfl
theorem rMeas_push (fs : List (List RStep)) (m : RS) (i : Nat) : rMeas fs (rPush m i) = rMeas fs m := rfl
theorem rSpawn_len (m : RS) (f : Nat) : (rSpawn m f).cos.length = m.cos.length + 1 := by simp [rSpawn]
theorem rWake_meas {fs : List (List RStep)} {m : RS} {id : Int} : rMeas fs (rWake m id) = rMeas fs m := by
  unfold rWake
  split
  · next hc =>
    split
    · next c hcc =>
      have h2 : c.st = 2 := by
        unfold rCan at hc
        simp only [Bool.and_eq_true, hcc, Option.any_some, beq_iff_eq] at hc
        exact hc.2.2
      have := rMeas_set (fs := fs) (c' := { c with st := 1 }) hcc
      have e : rW fs { c with st := 1 } = rW fs c := by unfold rW rLeft; simp [h2]
      show rMeas fs { rSet m _ { c with st := 1 } with q := _ } = _
      rw [rMeas_q]
      omega
    · rfl
  · rfl
theorem rWake_len {m : RS} {id : Int} : (rWake m id).cos.length = m.cos.length := by
  unfold rWake
  split
  · split
    · simp [rWakeC, rSet]
    · rfl
  · rfl
theorem rWake_get {m : RS} {id : Int} {i : Nat} {c : RCo} (h : m.cos[i]? = some c) (h2 : c.st ≠ 2) : (rWake m id).cos[i]? = some c := by
  unfold rWake
  split
  · next hc =>
    split
    · next c2 hcc =>
      have h3 : c2.st = 2 := by
        unfold rCan at hc
        simp only [Bool.and_eq_true, hcc, Option.any_some, beq_iff_eq] at hc
        exact hc.2.2
      have hne : (id - 1).toNat ≠ i := fun e => by rw [e, h] at hcc; cases hcc; exact h2 h3
      show (m.cos.set _ _)[i]? = _
      rw [List.getElem?_set_ne hne]
      exact h
    · exact h
  · exact h
theorem rSpawn_meas {fs : List (List RStep)} {m : RS} {f : Nat} (hl : m.cos.length < 20) (hf : ∀ l ∈ fs, l.length ≤ 60) : rMeas fs (rSpawn m f) + 1 ≤ rMeas fs m := by
  unfold rMeas rSpawn
  have h1 : (rFn fs f).length ≤ 60 := by
    unfold rFn
    rw [List.getD_eq_getElem?_getD]
    cases h : fs[f]? with
    | none => simp
    | some l => simpa using hf l (List.mem_of_getElem? h)
  have h2 : rW fs ⟨f, 0, 1, ByteArray.empty⟩ ≤ 61 := by unfold rW rLeft; simp; omega
  simp only [List.map_append, List.map_cons, List.map_nil, List.sum_append, List.sum_cons, List.sum_nil, List.length_append, List.length_cons, List.length_nil]
  have : 20 - m.cos.length = (20 - (m.cos.length + 1)) + 1 := by omega
  rw [this, Nat.add_mul]
  omega

/-- A TURN LEAVES LESS TO DO. -/
theorem rTurn_meas {fs : List (List RStep)} (hf : ∀ l ∈ fs, l.length ≤ 60) {i : Nat} : ∀ (k : Nat) {m : RS} {c : RCo}, m.cos[i]? = some c → c.st = 1 → m.cos.length ≤ 20 → rLeft fs c ≤ k → rMeas fs (rTurn fs i k m) + 1 ≤ rMeas fs m ∧ (rTurn fs i k m).cos.length ≤ 20 ∧ m.cos.length ≤ (rTurn fs i k m).cos.length ∧ (rTurn fs i k m).cl = m.cl
  | 0, m, c, hc, hst, hl, hk => by unfold rLeft at hk; omega
  | k + 1, m, c, hc, hst, hl, hk => by
    have hil : i < m.cos.length := (List.getElem?_eq_some_iff.1 hc).1
    unfold rTurn
    simp only [hc]
    cases hx : (rFn fs c.f)[c.pos]? with
    | none =>
      have h1 := rMeas_set (fs := fs) (c' := { c with st := 3 }) hc
      have h2 : rW fs c ≥ 1 := by unfold rW rLeft; simp [hst]
      have h3 : rW fs { c with st := 3 } = 0 := by unfold rW; simp
      simp only
      refine ⟨by omega, ?_, ?_, rfl⟩ <;> simp [rSet] <;> omega
    | some x =>
      have hpos : c.pos < (rFn fs c.f).length := (List.getElem?_eq_some_iff.1 hx).1
      have h1 := rMeas_set (fs := fs) (c' := { c with pos := c.pos + 1 }) hc
      have hw : rW fs c = rW fs { c with pos := c.pos + 1 } + 1 := by unfold rW rLeft; simp [hst]; omega
      have hk' : rLeft fs { c with pos := c.pos + 1 } ≤ k := by unfold rLeft at hk ⊢; simp only; omega
      have hc' : (rSet m i { c with pos := c.pos + 1 }).cos[i]? = some { c with pos := c.pos + 1 } := by unfold rSet; simp [hil]
      have hl' : (rSet m i { c with pos := c.pos + 1 }).cos.length = m.cos.length := by simp [rSet]
      simp only
      split
      · refine ⟨?_, ?_, ?_, rfl⟩
        · rw [rMeas_push]; omega
        · simp [rPush, rSet]; omega
        · simp [rPush, rSet]
      split
      · have h4 := rMeas_set (fs := fs) (c' := { c with pos := c.pos + 1, st := 2 }) hc
        have h5 : rW fs { c with pos := c.pos + 1, st := 2 } = rW fs { c with pos := c.pos + 1 } := by unfold rW rLeft; simp [hst]
        refine ⟨by omega, ?_, ?_, rfl⟩ <;> simp [rSet] <;> omega
      split
      · split
        · next h20 =>
          have hs := rSpawn_meas (fs := fs) (f := rNumber fs.length x.n) h20 hf
          have hg : (rSpawn (rSet m i { c with pos := c.pos + 1 }) (rNumber fs.length x.n)).cos[i]? = some { c with pos := c.pos + 1 } := by
            show (_ ++ _)[i]? = _
            rw [List.getElem?_append_left (by rw [hl']; exact hil)]
            exact hc'
          obtain ⟨a1, a2, a3, a4⟩ := rTurn_meas hf k hg hst (by rw [rSpawn_len]; omega) hk'
          rw [rSpawn_len] at a3
          exact ⟨by omega, a2, by omega, a4⟩
        · obtain ⟨a1, a2, a3, a4⟩ := rTurn_meas hf k hc' hst (by omega) hk'
          exact ⟨by omega, a2, by omega, a4⟩
      split
      · have h4 := rMeas_set (fs := fs) (c' := { c with pos := c.pos + 1, st := 4, txt := x.text }) hc
        have h5 : rW fs { c with pos := c.pos + 1, st := 4, txt := x.text } = 0 := by unfold rW; simp
        refine ⟨by omega, ?_, ?_, rfl⟩ <;> simp [rSet] <;> omega
      split
      · have hg := rWake_get (id := x.n) hc' (by simp [hst])
        obtain ⟨a1, a2, a3, a4⟩ := rTurn_meas hf k hg hst (by rw [rWake_len]; omega) hk'
        rw [rWake_meas] at a1
        rw [rWake_len] at a3
        refine ⟨by omega, a2, by omega, a4.trans ?_⟩
        unfold rWake
        split
        · split <;> rfl
        · rfl
      · obtain ⟨a1, a2, a3, a4⟩ := rTurn_meas (m := rTr (rSet m i { c with pos := c.pos + 1 }) (rDigit 3 (i + 1) ++ x.text)) hf k hc' hst (by show (rSet m i _).cos.length ≤ 20; omega) hk'
        rw [rMeas_tr] at a1
        refine ⟨by omega, a2, ?_, a4⟩
        have : (rTr (rSet m i { c with pos := c.pos + 1 }) (rDigit 3 (i + 1) ++ x.text)).cos.length = m.cos.length := hl'
        omega
end Go.Proofs.Ytolnmdanlggmhaa

/- The reference's scheduler as a value; rows of coroutines (four cells each). -/
namespace Go.Proofs.Ytolnmdanlggmhaa
open Go.RowKit

def coL (c : RCo) : List Value := [.int .i64 (c.f : Int), .int .i64 (c.pos : Int), .int .i64 c.st, .string c.txt]
def coV (c : RCo) : Value := .agg #[.int .i64 (c.f : Int), .int .i64 (c.pos : Int), .int .i64 c.st, .string c.txt]
def cosL (l : List RCo) : List Value := l.flatMap coL
def strsL (l : List ByteArray) : List Value := l.map .string
theorem cosL_len : ∀ l : List RCo, (cosL l).length = l.length * 4
  | [] => rfl
  | c :: l => by
    have := cosL_len l
    unfold cosL at this ⊢
    simp only [List.flatMap_cons, List.length_append, this, List.length_cons]
    simp [coL]
    omega
theorem cosL_append (l m : List RCo) : cosL (l ++ m) = cosL l ++ cosL m := by unfold cosL; rw [List.flatMap_append]
theorem cosL_get : ∀ {l : List RCo} {i : Nat} {c : RCo} {j : Nat} {x : Value}, l[i]? = some c → (coL c)[j]? = some x → (cosL l)[i * 4 + j]? = some x
  | [], i, c, j, x, h, _ => by simp at h
  | d :: l, 0, c, j, x, h, hx => by
    simp only [List.getElem?_cons_zero, Option.some.injEq] at h
    subst h
    unfold cosL
    rw [List.flatMap_cons, List.getElem?_append_left (by have := (List.getElem?_eq_some_iff.1 hx).1; omega)]
    simpa using hx
  | d :: l, i + 1, c, j, x, h, hx => by
    simp only [List.getElem?_cons_succ] at h
    have ih := cosL_get h hx
    unfold cosL at ih ⊢
    rw [List.flatMap_cons, List.getElem?_append_right (by simp [coL]; omega)]
    rw [← ih]
    congr 1
    simp [coL]
    omega
theorem cosL_one (l : List RCo) : ∀ u ∈ cosL l, u.oneCell' = true := by
  intro u hu
  unfold cosL at hu
  obtain ⟨c, _, h⟩ := List.mem_flatMap.1 hu
  simp only [coL, List.mem_cons, List.not_mem_nil, or_false] at h
  rcases h with rfl | rfl | rfl | rfl <;> rfl
theorem strsL_one (l : List ByteArray) : ∀ u ∈ strsL l, u.oneCell' = true := by
  intro u hu
  obtain ⟨c, _, rfl⟩ := List.mem_map.1 hu
  rfl

theorem at_zero (g : Nat) : ∀ ad, some (⟨g, 0, none⟩ : Addr) = some ad → ∃ g, ad = ⟨g, 0, none⟩ := fun _ e => ⟨g, (Option.some.inj e).symm⟩
/-- A row that lies in blocks of R. -/
structure RRow (w : World) (R : Nat → Prop) (A : Option Addr) (n : Nat) (xs : List Value) : Prop where
  rd : Rd w w.heap.size A n xs
  inR : ∀ ad, A = some ad → R ad.block ∧ ad.block < w.heap.size
theorem RRow.keep {w w' : World} {R : Nat → Prop} {A : Option Addr} {n : Nat} {xs : List Value} (h : RRow w R A n xs) (hk : ∀ k, k < w.heap.size → R k → w'.heap[k]? = w.heap[k]?) (hs : w.heap.size ≤ w'.heap.size) : RRow w' R A n xs := by
  refine ⟨⟨h.rd.len, fun j u hu => ?_⟩, fun ad e => ⟨(h.inR ad e).1, Nat.lt_of_lt_of_le (h.inR ad e).2 hs⟩⟩
  obtain ⟨ad, e, h1, h2⟩ := h.rd.at' j u hu
  refine ⟨ad, e, Nat.lt_of_lt_of_le h1 hs, ?_⟩
  rw [← h2]
  have e0 : (ad.add j).block = ad.block := by unfold Addr.add; split <;> rfl
  exact World.cell?_of_block (by rw [e0]; exact hk _ h1 (h.inR ad e).1)
theorem RRow.imp {w : World} {R R' : Nat → Prop} {A : Option Addr} {n : Nat} {xs : List Value} (h : RRow w R A n xs) (hi : ∀ k, k < w.heap.size → R k → R' k) : RRow w R' A n xs :=
  ⟨h.rd, fun ad e => ⟨hi _ (h.inR ad e).2 (h.inR ad e).1, (h.inR ad e).2⟩⟩
theorem RRow.below {w w' : World} {R : Nat → Prop} {A : Option Addr} {n : Nat} {xs : List Value} (h : RRow w R A n xs) (hb : Below w.heap.size w w') : RRow w' R A n xs := h.keep (fun k hk _ => hb.block k hk) hb.size

/-- The value reads as the scheduler; F: its functions; its rows lie in blocks of R. -/
def SAt (w : World) (R : Nat → Prop) (F v : Value) (m : RS) : Prop :=
  ∃ (Ac Aq At : Option Addr) (cc cq ct : Nat), (∀ ad, Ac = some ad → ∃ g, ad = ⟨g, 0, none⟩) ∧ v = .agg #[F, .slice Ac m.cos.length cc, .slice Aq m.q.length cq, .slice At m.tr.length ct, .bool m.cl] ∧ RRow w R Ac (m.cos.length * 4) (cosL m.cos) ∧
    RRow w R Aq m.q.length (m.q.map fun i : Nat => .int .i64 ((i : Int) + 1)) ∧ m.q.length ≤ cq ∧ RRow w R At m.tr.length (strsL m.tr)
theorem SAt.keep {w w' : World} {R : Nat → Prop} {F v : Value} {m : RS} (h : SAt w R F v m) (hk : ∀ k, k < w.heap.size → R k → w'.heap[k]? = w.heap[k]?) (hs : w.heap.size ≤ w'.heap.size) : SAt w' R F v m := by
  obtain ⟨Ac, Aq, At, cc, cq, ct, h0, h1, h2, h3, h4, h5⟩ := h
  exact ⟨Ac, Aq, At, cc, cq, ct, h0, h1, h2.keep hk hs, h3.keep hk hs, h4, h5.keep hk hs⟩
theorem SAt.imp {w : World} {R R' : Nat → Prop} {F v : Value} {m : RS} (h : SAt w R F v m) (hi : ∀ k, k < w.heap.size → R k → R' k) : SAt w R' F v m := by
  obtain ⟨Ac, Aq, At, cc, cq, ct, h0, h1, h2, h3, h4, h5⟩ := h
  exact ⟨Ac, Aq, At, cc, cq, ct, h0, h1, h2.imp hi, h3.imp hi, h4, h5.imp hi⟩
theorem SAt.below {w w' : World} {R : Nat → Prop} {F v : Value} {m : RS} (h : SAt w R F v m) (hb : Below w.heap.size w w') : SAt w' R F v m := h.keep (fun k hk _ => hb.block k hk) hb.size

section
variable {P : Program} (w : World)
/-- append onto a row of one's own, elements of any size. -/
theorem run_appK (base : Nat) (t ty e : TypeId) (i : TypeInfo) (z : Value) (k bytes : Nat) (ht : P.underlying t = some (.slice e)) (hi : P.info? e = some i) (hz : i.zero = some z)
    (hsize : i.size = k) (hby : i.bytes = bytes) (hzs : z.cells.size = k) (hk : 0 < k)
    (v : Value) (n : Nat) (xs : List Value) (hown : w.ownsRow base e k v n xs)
    (B : Nat) (A : Option Addr) (m c : Nat) (news : List Value) (hr : Rd w B A (m * k) news) (h1 : ∀ u ∈ news, u.oneCell' = true)
    (h63 : n + m ≤ maxLen) (hbytes : (n + m) * bytes ≤ 140737488355328) (hbase : base ≤ w.heap.size) :
    ∃ v' w', (Builtin.append_ #[t, t] ty #[v, .slice A m c]).run P w = .ok v' w' ∧ w'.ownsRow base e k v' (n + m) (xs ++ news) ∧ w.grownBy w' v.ownBlock ∧
      (v'.ownBlock = v.ownBlock ∨ v'.ownBlock = some w.heap.size) := by
  rcases A with _ | ad
  · have hn : news = [] := by
      cases news with
      | nil => rfl
      | cons x l => obtain ⟨ad, h, _⟩ := hr.at' 0 x rfl; cases h
    subst hn
    have hm : m = 0 := by
      have := hr.len
      simp only [List.length_nil] at this
      rcases Nat.eq_zero_or_pos m with h | h
      · exact h
      · have := Nat.mul_pos h hk; omega
    subst hm
    refine ⟨v, w, ?_, by simpa using hown, World.grownBy.refl w _, .inl rfl⟩
    rcases hown.2 with ⟨rfl, rfl⟩ | ⟨g, cap, cur, rfl, _, _, hnc, _⟩
    · simp [Builtin.append_, run_underlying ht, sizeOf, typeInfo, hi, Builtin.lenOf, Builtin.firstCells]
    · simp [Builtin.append_, run_underlying ht, sizeOf, typeInfo, hi, Builtin.lenOf, Builtin.firstCells, hnc, storeCells]
  · have hcells : ∀ j u, news[j]? = some u → w.cell? (ad.add j) = some u := by
      intro j u hu
      obtain ⟨ad', h, _, hc⟩ := hr.at' j u hu
      injection h with h
      subst h
      exact hc
    obtain ⟨v', w', hrun, h2, h3, _, h5⟩ := run_append_own_at (P := P) w base t ty e i z k bytes ht hi hz hsize hby hzs hk v n xs hown ad m c news hr.len hcells h1 h63 hbytes hbase
    exact ⟨v', w', hrun, h2, h3, h5⟩

theorem wpList_appK {ops : Array Oper} {rest : List Oper} {o : Oper} {a : Act} {Q : Exit → Act → World → Prop} (hgd : o.guard = none) (s x : Operand) (t : TypeId)
    (ho : o.op = .call { callee := .builtin .append, args := #[s, x], argTypes := #[t, t] })
    (base : Nat) (e : TypeId) (i : TypeInfo) (z : Value) (k bytes : Nat) (ht : P.underlying t = some (.slice e)) (hi : P.info? e = some i) (hz : i.zero = some z)
    (hsize : i.size = k) (hby : i.bytes = bytes) (hzs : z.cells.size = k) (hk : 0 < k)
    (v : Value) (n : Nat) (xs : List Value) (hs : a.eval s = v) (hown : w.ownsRow base e k v n xs)
    (B : Nat) (A : Option Addr) (m c : Nat) (news : List Value) (hx : a.eval x = .slice A m c) (hr : Rd w B A (m * k) news) (h1 : ∀ u ∈ news, u.oneCell' = true)
    (h63 : n + m ≤ maxLen) (hbytes : (n + m) * bytes ≤ 140737488355328) (hbase : base ≤ w.heap.size)
    (h : ∀ v' w', w'.ownsRow base e k v' (n + m) (xs ++ news) → w.grownBy w' v.ownBlock → (v'.ownBlock = v.ownBlock ∨ v'.ownBlock = some w.heap.size) → wpList P ops Q rest (a.put o.dst v') w') : wpList P ops Q (o :: rest) a w := by
  refine wpList_plain hgd fun K hK => ?_
  obtain ⟨v', w', hrun, h2, h3, h4⟩ := run_appK (P := P) w base t o.type e i z k bytes ht hi hz hsize hby hzs hk v n xs hown B A m c news hr h1 h63 hbytes hbase
  unfold Oper.wp execOp
  simp only [ho, resolve, invoke, builtin, Sem.run_bind, Sem.run_pure, Result.andThen_ok, List.map_toArray, List.map_cons, List.map_nil, hs, hx, hrun]
  exact hK _ _ (h v' w' h2 h3 h4)
end
theorem infoRCo : (Try.prog.info? 98).map (fun i => (i.zero, i.size, i.bytes)) = some (some (.agg #[.int .i64 0, .int .i64 0, .int .i64 0, .string ByteArray.empty]), 4, 40) := by kernel_rfl
end Go.Proofs.Ytolnmdanlggmhaa

/- The reference: set. -/
namespace Go.Proofs.Ytolnmdanlggmhaa
open Go.RowKit Go.Maps

theorem al_old {w : World} {b : Nat} {x : Obj} (h : w.heap[b]? = some x) (o : Obj) : (w.alloc o).heap[b]? = some x := by
  have hl : b < w.heap.size := (Array.getElem?_eq_some_iff.1 h).1
  rw [Below.heap_alloc _ _ _ hl]
  exact h
theorem al_at (w : World) (o : Obj) {b : Nat} (h : b = w.heap.size) : (w.alloc o).heap[b]? = some o := by subst h; exact heap_alloc_new w o
theorem st_at {w : World} {b : Nat} {cs : Array Value} {t : TypeId} (h : w.heap[b]? = some (.cells cs t (0, 0))) (i : Nat) (x : Value) : (w.setCell ⟨b, i, none⟩ x).heap[b]? = some (.cells (cs.setIfInBounds i x) t (0, 0)) := by
  rw [setCell_get, if_pos rfl, h]
  rfl
theorem st_old {w : World} {b c : Nat} {x : Obj} (h : w.heap[b]? = some x) (i : Nat) (y : Value) (hc : c ≠ b) : (w.setCell ⟨c, i, none⟩ y).heap[b]? = some x := by
  rw [setCell_get, if_neg hc]
  exact h
/-- A row of one's own that is not empty: its cells. -/
theorem own_cells {w : World} {base k n : Nat} {e : TypeId} {v : Value} {xs : List Value} (h : w.ownsRow base e k v n xs) (hn : 0 < n) :
    ∃ g c cur, v = .slice (some ⟨g, 0, none⟩) n c ∧ base ≤ g ∧ w.heap[g]? = some (.cells cur e (0, 0)) ∧ cur.toList.take (n * k) = xs ∧ n ≤ c ∧ c ≤ maxLen ∧ xs.length = n * k := by
  rcases h.2 with ⟨rfl, h0⟩ | ⟨g, cap, cur, rfl, hb, hg, hc, hm, _, ht⟩
  · omega
  · exact ⟨g, cap, cur, rfl, hb, hg, ht, hc, hm, h.1⟩
theorem rd_cells {w : World} {g B n : Nat} {cur : Array Value} {e : TypeId} {xs : List Value} (hg : w.heap[g]? = some (.cells cur e (0, 0))) (ht : cur.toList.take n = xs) (hl : xs.length = n) (hB : g < B) : Rd w B (some ⟨g, 0, none⟩) n xs := by
  refine ⟨hl, fun j u hu => ⟨_, rfl, hB, ?_⟩⟩
  have e0 : (⟨g, 0, none⟩ : Addr).add j = ⟨g, j, none⟩ := by
    unfold Addr.add
    simp only [Nat.zero_add]
    rcases j with _ | j <;> rfl
  rw [e0]
  refine blk_cell hg j u ?_
  have hj : j < n := by have := (List.getElem?_eq_some_iff.1 hu).1; omega
  rw [← ht, List.getElem?_take, if_pos hj] at hu
  simpa using hu
theorem take_set {cur : Array Value} {n j : Nat} {u : Value} {xs : List Value} (ht : cur.toList.take n = xs) : (cur.setIfInBounds j u).toList.take n = xs.set j u := by
  rw [← ht, Array.toList_setIfInBounds, List.take_set]
theorem cosL_set : ∀ {l : List RCo} {i : Nat} (c : RCo), i < l.length → ((((cosL l).set (i * 4) (.int .i64 c.f)).set (i * 4 + 1) (.int .i64 c.pos)).set (i * 4 + 2) (.int .i64 c.st)).set (i * 4 + 3) (.string c.txt) = cosL (l.set i c)
  | [], i, c, h => by simp at h
  | d :: l, 0, c, h => rfl
  | d :: l, i + 1, c, h => by
    have ih := cosL_set (l := l) (i := i) c (by simpa using h)
    have e : ∀ (l : List RCo), cosL (d :: l) = .int .i64 (d.f : Int) :: .int .i64 (d.pos : Int) :: .int .i64 d.st :: .string d.txt :: cosL l := fun l => rfl
    rw [List.set_cons_succ, e, e, ← ih]
    have e1 : (i + 1) * 4 = i * 4 + 1 + 1 + 1 + 1 := by omega
    rw [e1]
    rfl

theorem box3 {w w2 : World} {o0 o1 o2 x : Obj} (h : ((((w.alloc o0).alloc o1).alloc o2).alloc x).grownBy w2 (some (w.heap.size + 1 + 1 + 1))) :
    w2.heap[w.heap.size]? = some o0 ∧ w2.heap[w.heap.size + 1]? = some o1 ∧ w2.heap[w.heap.size + 1 + 1]? = some o2 ∧ Below w.heap.size w w2 ∧ w.heap.size + 4 ≤ w2.heap.size := by
  have hne : ∀ k, k < w.heap.size + 3 → some k ≠ some (w.heap.size + 1 + 1 + 1) := fun k hk e => by injection e; omega
  refine ⟨(h.block w.heap.size (by simp; omega) (hne _ (by omega))).trans (al_old (al_old (al_old (heap_alloc_new w o0) o1) o2) x), (h.block (w.heap.size + 1) (by simp) (hne _ (by omega))).trans (al_old (al_old (al_at (w.alloc o0) o1 (by simp)) o2) x), (h.block (w.heap.size + 1 + 1) (by simp) (hne _ (by omega))).trans (al_old (al_at ((w.alloc o0).alloc o1) o2 (by simp)) x), ?_, ?_⟩
  · refine (((((Below.refl w.heap.size w).alloc (Nat.le_refl _) o0).alloc (by simp) o1).alloc (by simp; omega) o2).alloc (by simp; omega) x).grown h (by simp; omega) fun k hk => ?_
    injection hk with hk
    omega
  · have := h.size
    simp at this
    omega

theorem el4 {cur : Array Value} {l : List RCo} {n i : Nat} (ht : cur.toList.take ((0 + n) * 4) = [] ++ cosL l) (hl : l.length = n) (hi : i < n) :
    ∃ c, l[i]? = some c ∧ cur[i * 4]? = some (.int .i64 (c.f : Int)) ∧ cur[i * 4 + 1]? = some (.int .i64 (c.pos : Int)) ∧ cur[i * 4 + 2]? = some (.int .i64 c.st) ∧ cur[i * 4 + 3]? = some (.string c.txt) := by
  have hil : i < l.length := by omega
  have hg : l[i]? = some l[i] := List.getElem?_eq_getElem hil
  have key : ∀ j x, (coL l[i])[j]? = some x → j < 4 → cur[i * 4 + j]? = some x := fun j x h hj => by
    have h1 := cosL_get hg h
    rw [List.nil_append] at ht
    rw [← ht, List.getElem?_take, if_pos (by omega)] at h1
    simpa using h1
  exact ⟨l[i], hg, key 0 _ rfl (by omega), key 1 _ rfl (by omega), key 2 _ rfl (by omega), key 3 _ rfl (by omega)⟩

theorem set_facts {w w2 : World} {n i : Nat} {l : List RCo} {v' x0 x1 x2 x3 x4 y0 y1 y2 y3 z0 z1 z2 z3 z4 : Value} {x : Obj}
    (hown2 : w2.ownsRow (w.heap.size + 3) 98 4 v' (0 + n) ([] ++ cosL l))
    (hg2 : ((((w.alloc (.cells #[x0, x1, x2, x3, x4] 68)).alloc (.cells #[y0, y1, y2, y3] 98)).alloc (.cells #[z0, z1, z2, z3, z4] 68)).alloc x).grownBy w2 (some (w.heap.size + 1 + 1 + 1)))
    (hl : l.length = n) (hi : i < n) : ∃ (g c2 : Nat) (cur : Array Value), v' = .slice (some ⟨g, 0, none⟩) (0 + n) c2 ∧ w.heap.size + 3 ≤ g ∧ w2.heap[g]? = some (.cells cur 98 (0, 0)) ∧ cur.toList.take (n * 4) = cosL l ∧ 0 + n ≤ c2 ∧ c2 ≤ maxLen ∧
      w2.heap[w.heap.size]? = some (.cells #[x0, x1, x2, x3, x4] 68 (0, 0)) ∧ w2.heap[w.heap.size + 1]? = some (.cells #[y0, y1, y2, y3] 98 (0, 0)) ∧ w2.heap[w.heap.size + 1 + 1]? = some (.cells #[z0, z1, z2, z3, z4] 68 (0, 0)) ∧
      Below w.heap.size w w2 ∧ w.heap.size + 4 ≤ w2.heap.size ∧ ∃ c9 : RCo, cur[i * 4]? = some (.int .i64 (c9.f : Int)) ∧ cur[i * 4 + 1]? = some (.int .i64 (c9.pos : Int)) ∧ cur[i * 4 + 2]? = some (.int .i64 c9.st) ∧ cur[i * 4 + 3]? = some (.string c9.txt) ∧
      w2.frozen? ⟨w.heap.size, 1, none⟩ = false ∧ w2.cell? ⟨w.heap.size, 0, none⟩ = some x0 ∧ w2.cell? ⟨w.heap.size, 1, none⟩ = some x1 ∧ w2.cell? ⟨w.heap.size, 2, none⟩ = some x2 ∧ w2.cell? ⟨w.heap.size, 3, none⟩ = some x3 ∧ w2.cell? ⟨w.heap.size, 4, none⟩ = some x4 ∧
      w2.cell? ⟨w.heap.size + 1, 0, none⟩ = some y0 ∧ w2.cell? ⟨w.heap.size + 1, 1, none⟩ = some y1 ∧ w2.cell? ⟨w.heap.size + 1, 2, none⟩ = some y2 ∧ w2.cell? ⟨w.heap.size + 1, 3, none⟩ = some y3 ∧
      (∀ j, w2.frozen? ⟨g, j, none⟩ = false) ∧ w2.cell? ⟨g, i * 4, none⟩ = some (.int .i64 (c9.f : Int)) ∧ w2.cell? ⟨g, i * 4 + 1, none⟩ = some (.int .i64 (c9.pos : Int)) ∧ w2.cell? ⟨g, i * 4 + 2, none⟩ = some (.int .i64 c9.st) ∧ w2.cell? ⟨g, i * 4 + 3, none⟩ = some (.string c9.txt) ∧
      (∀ j, w2.frozen? ⟨w.heap.size + 1 + 1, j, none⟩ = false) ∧ w2.cell? ⟨w.heap.size + 1 + 1, 0, none⟩ = some z0 ∧ w2.cell? ⟨w.heap.size + 1 + 1, 1, none⟩ = some z1 ∧ w2.cell? ⟨w.heap.size + 1 + 1, 2, none⟩ = some z2 ∧ w2.cell? ⟨w.heap.size + 1 + 1, 3, none⟩ = some z3 ∧ w2.cell? ⟨w.heap.size + 1 + 1, 4, none⟩ = some z4 ∧
      ¬ g = w.heap.size ∧ ¬ g = w.heap.size + 1 ∧ ¬ g = w.heap.size + 1 + 1 := by
  obtain ⟨g, c2, cur, rfl, hg0, hg, hgt, hcn, hcm, hxl⟩ := own_cells hown2 (by omega)
  obtain ⟨d0, d1, d2, hb2, hsz2⟩ := box3 hg2
  obtain ⟨c9, _, g0, g1, g2, g3⟩ := el4 hgt hl hi
  refine ⟨g, c2, cur, rfl, hg0, hg, by simpa using hgt, hcn, hcm, d0, d1, d2, hb2, hsz2, c9, g0, g1, g2, g3, blk_frozen d0 1, blk_cell d0 0 _ rfl, blk_cell d0 1 _ rfl, blk_cell d0 2 _ rfl, blk_cell d0 3 _ rfl, blk_cell d0 4 _ rfl, blk_cell d1 0 _ rfl, blk_cell d1 1 _ rfl, blk_cell d1 2 _ rfl, blk_cell d1 3 _ rfl, blk_frozen hg, blk_cell hg _ _ g0, blk_cell hg _ _ g1, blk_cell hg _ _ g2, blk_cell hg _ _ g3, blk_frozen d2, blk_cell d2 0 _ rfl, blk_cell d2 1 _ rfl, blk_cell d2 2 _ rfl, blk_cell d2 3 _ rfl, blk_cell d2 4 _ rfl, ?_, ?_, ?_⟩ <;> omega

theorem infoRS : (Try.prog.info? 68).map (·.size) = some 5 := by kernel_rfl

set_option maxRecDepth 100000 in
set_option maxHeartbeats 4000000 in
theorem refset (AF : Option Addr) (nF cF : Nat) (i : Nat) (c : RCo) (v : Value) (m : RS) (w : World) (R : Nat → Prop) (hs : SAt w R (.slice AF nF cF) v m) (hi : i < m.cos.length) (hl : m.cos.length ≤ 20) :
    Calls Try.prog 72 #[v, .int .i64 ((i : Int) + 1), coV c] w fun e w' => ∃ v', e = .returned v' ∧ SAt w' (fun b => R b ∨ w.heap.size ≤ b) (.slice AF nF cF) v' (rSet m i c) ∧ Below w.heap.size w w' := by
  obtain ⟨i0, hio, hz0, hz1, hz2⟩ := info_parts infoRCo
  obtain ⟨Ac, Aq, At, cc, cq, ct, _, rfl, hc, hq, hqc, ht⟩ := hs
  obtain ⟨n, hn⟩ : ∃ n, m.cos.length = n := ⟨_, rfl⟩
  rw [hn] at hi hl hc ⊢
  have HN := Lib.hid hn; clear hn
  have hii : (i : Int) < (n : Int) := by omega
  have hi0 : ¬ (i : Int) < 0 := by omega
  unfold coV
  have hown := World.ownsRow_lit (e := 98) (size := 4) (base := w.heap.size + 3) (((w.alloc (.cells #[.slice AF nF cF, .slice Ac n cc, .slice Aq m.q.length cq, .slice At m.tr.length ct, .bool m.cl] 68)).alloc (.cells #[.int .i64 (c.f : Int), .int .i64 (c.pos : Int), .int .i64 c.st, .string c.txt] 98)).alloc (.cells #[.slice none 0 0, .slice none 0 0, .slice none 0 0, .slice none 0 0, .bool false] 68)) #[] 0 (by simp) (by simp [maxLen]) (by simp)
  simp only [World.size_alloc] at hown
  go_enter Try.func72, Try.ntmps72
  go_wp2_with (first | (at_builtin; refine wpList_appK _ rfl (.tmp 7) (.tmp 9) 66 rfl (w.heap.size + 3) 98 i0 _ 4 40 Try.underlying66 hio hz0 hz1 hz2 rfl (by omega) _ _ _ rfl hown w.heap.size Ac n cc _ rfl (hc.rd.below (((((Below.refl _ _).alloc (Nat.le_refl _) _).alloc (by simp) _).alloc (by simp; omega) _).alloc (by simp; omega) _)) (cosL_one _) (by unfold maxLen; omega) (by omega) (by simp) ?_; intro v' w2 hown2 hg2 hat2; obtain ⟨g, c2, cur, rfl, hg0, hg, hgt, hcn, hcm, d0, d1, d2, hb2, hsz2, c9, g0, g1, g2, g3, f0, c00, c01, c02, c03, c04, c10, c11, c12, c13, fg, cg0, cg1, cg2, cg3, fe, e0, e1, e2, e3, e4, hge1, hge2, hge3⟩ := set_facts hown2 hg2 HN.out hi; clear hown hg2 hat2 hown2 hc hz0 hz1 hz2 hio) | fail)
  have hG := st_old (st_old (st_old (st_old (st_old (st_at (st_at (st_at (st_at (st_old hg 1 (.slice (some ⟨g, 0, none⟩) n c2) (fun e => hge1 e.symm)) (i * 4) (.int .i64 (c.f : Int))) (i * 4 + 1) (.int .i64 (c.pos : Int))) (i * 4 + 2) (.int .i64 c.st)) (i * 4 + 3) (.string c.txt)) 0 (.slice AF nF cF) (fun e => hge3 e.symm)) 1 (.slice (some ⟨g, 0, none⟩) n c2) (fun e => hge3 e.symm)) 2 (.slice Aq m.q.length cq) (fun e => hge3 e.symm)) 3 (.slice At m.tr.length ct) (fun e => hge3 e.symm)) 4 (.bool m.cl) (fun e => hge3 e.symm)
  have hE := st_at (st_at (st_at (st_at (st_at (st_old (st_old (st_old (st_old (st_old (c := w.heap.size) d2 1 (.slice (some ⟨g, 0, none⟩) n c2) (by omega)) (i * 4) (.int .i64 (c.f : Int)) hge3) (i * 4 + 1) (.int .i64 (c.pos : Int)) hge3) (i * 4 + 2) (.int .i64 c.st) hge3) (i * 4 + 3) (.string c.txt) hge3) 0 (.slice AF nF cF)) 1 (.slice (some ⟨g, 0, none⟩) n c2)) 2 (.slice Aq m.q.length cq)) 3 (.slice At m.tr.length ct)) 4 (.bool m.cl)
  have hB := (((((((((hb2.setCell (p := ⟨w.heap.size, 1, none⟩) (Nat.le_refl _) (.slice (some ⟨g, 0, none⟩) n c2)).setCell (p := ⟨g, i * 4, none⟩) (by simp only; omega) (.int .i64 (c.f : Int))).setCell (p := ⟨g, i * 4 + 1, none⟩) (by simp only; omega) (.int .i64 (c.pos : Int))).setCell (p := ⟨g, i * 4 + 2, none⟩) (by simp only; omega) (.int .i64 c.st)).setCell (p := ⟨g, i * 4 + 3, none⟩) (by simp only; omega) (.string c.txt)).setCell (p := ⟨w.heap.size + 1 + 1, 0, none⟩) (by simp only; omega) (.slice AF nF cF)).setCell (p := ⟨w.heap.size + 1 + 1, 1, none⟩) (by simp only; omega) (.slice (some ⟨g, 0, none⟩) n c2)).setCell (p := ⟨w.heap.size + 1 + 1, 2, none⟩) (by simp only; omega) (.slice Aq m.q.length cq)).setCell (p := ⟨w.heap.size + 1 + 1, 3, none⟩) (by simp only; omega) (.slice At m.tr.length ct)).setCell (p := ⟨w.heap.size + 1 + 1, 4, none⟩) (by simp only; omega) (.bool m.cl)
  simp only [List.setIfInBounds_toArray, List.set_cons_zero, List.set_cons_succ] at hE
  refine bodyPost_ret (results_cell_row (p := 6) (ty := 68) rfl _ _ (w.heap.size + 1 + 1) _ _ _ _ rfl hE Try.underlying68 rfl infoRS) rfl ⟨_, rfl, ?_, hB⟩
  have hlen : (m.cos.set i c).length = n := by rw [List.length_set]; exact HN.out
  have kp' : ∀ {W : World} k, k < W.heap.size → R k → R k ∨ w.heap.size ≤ k := fun k _ h => .inl h
  refine ⟨some ⟨g, 0, none⟩, Aq, At, c2, cq, ct, at_zero g, ?_, ⟨?_, fun ad e => ?_⟩, (hq.below hB).imp kp', hqc, (ht.below hB).imp kp'⟩
  · simp only [rSet, hlen]
  · show Rd _ _ _ ((m.cos.set i c).length * 4) (cosL (m.cos.set i c))
    rw [hlen]
    refine rd_cells hG ?_ (by rw [cosL_len, hlen]) (blk_lt hG)
    rw [take_set (take_set (take_set (take_set hgt))), cosL_set c (by have := HN.out; omega)]
  · cases e
    exact ⟨.inr (by simp only; omega), blk_lt hG⟩
end Go.Proofs.Ytolnmdanlggmhaa

/- The reference: Spawn, Wake. -/
namespace Go.Proofs.Ytolnmdanlggmhaa
open Go.RowKit Go.Maps

theorem ivs_q (q : List Nat) : (q.map fun i : Nat => Value.int .i64 ((i : Int) + 1)) = ivs (q.map fun i : Nat => (i : Int) + 1) := by simp [ivs, intV]
theorem ints_one (q : List Nat) : ∀ u ∈ (q.map fun i : Nat => Value.int .i64 ((i : Int) + 1)), u.oneCell' = true := by rw [ivs_q]; exact ivs_one _
/-- Two appends, one after the other, onto a new row: what was there before is kept. -/
theorem app2 {w w2 w3 : World} {o1 o2 : Obj} {e : TypeId} {k n n2 : Nat} {v2 v3 : Value} {xs ys : List Value} (hown2 : w2.ownsRow w.heap.size e k v2 n xs) (hg2 : (w.alloc o1).grownBy w2 (some w.heap.size)) (hg3 : (w2.alloc o2).grownBy w3 v2.ownBlock)
    (hown3 : w3.ownsRow w.heap.size e k v3 n2 ys) (hn : 0 < n2) : ∃ g c cur, v3 = .slice (some ⟨g, 0, none⟩) n2 c ∧ w.heap.size ≤ g ∧ w3.heap[g]? = some (.cells cur e (0, 0)) ∧ cur.toList.take (n2 * k) = ys ∧ ys.length = n2 * k ∧ n2 ≤ c ∧ Below w.heap.size w w3 := by
  obtain ⟨g, c, cur, h1, h2, h3, h4, h5, h6, h7⟩ := own_cells hown3 hn
  refine ⟨g, c, cur, h1, h2, h3, h4, h7, h5, ?_⟩
  have b2 : Below w.heap.size w w2 := ((Below.refl _ _).alloc (Nat.le_refl _) o1).grown hg2 (by simp) fun j hk => by injection hk with hk; omega
  exact (b2.alloc b2.size o2).grown hg3 (by simp; have := b2.size; omega) fun j hj => by
    rcases hown2.2 with ⟨rfl, _⟩ | ⟨g', cap, cur', rfl, hb, _⟩
    · cases hj
    · have hj' : some g' = some j := hj
      injection hj' with hj'
      omega

/-- The first half of Spawn: the row of coroutines and one more. -/
theorem sp1_facts {w w2 w3 : World} {n : Nat} {v2 v3 x0 x1 x2 x3 x4 z0 z1 z2 z3 z4 : Value} {xs ys : List Value} {o1 o2 : Obj}
    (hown2 : w2.ownsRow (w.heap.size + 1 + 1) 98 4 v2 (0 + n) xs)
    (hg2 : (((w.alloc (.cells #[x0, x1, x2, x3, x4] 68)).alloc (.cells #[z0, z1, z2, z3, z4] 68)).alloc o1).grownBy w2 (some (w.heap.size + 1 + 1)))
    (hg3 : (w2.alloc o2).grownBy w3 v2.ownBlock) (hown3 : w3.ownsRow (w.heap.size + 1 + 1) 98 4 v3 (0 + n + 1) ys) :
    ∃ (g c2 : Nat), v3 = .slice (some ⟨g, 0, none⟩) (0 + n + 1) c2 ∧ w.heap.size + 2 ≤ g ∧ g < w3.heap.size ∧ Rd w3 w3.heap.size (some ⟨g, 0, none⟩) ((0 + n + 1) * 4) ys ∧
      w3.heap[w.heap.size]? = some (.cells #[x0, x1, x2, x3, x4] 68 (0, 0)) ∧ w3.heap[w.heap.size + 1]? = some (.cells #[z0, z1, z2, z3, z4] 68 (0, 0)) ∧
      Below w.heap.size w w3 ∧ w3.frozen? ⟨w.heap.size, 1, none⟩ = false ∧ w3.cell? ⟨w.heap.size, 1, none⟩ = some x1 := by
  have e : ((w.alloc (.cells #[x0, x1, x2, x3, x4] 68)).alloc (.cells #[z0, z1, z2, z3, z4] 68)).heap.size = w.heap.size + 1 + 1 := by simp
  have d0 := al_old (heap_alloc_new w (.cells #[x0, x1, x2, x3, x4] 68)) (.cells #[z0, z1, z2, z3, z4] 68)
  have d1 := al_at (w.alloc (.cells #[x0, x1, x2, x3, x4] 68)) (.cells #[z0, z1, z2, z3, z4] 68) (b := w.heap.size + 1) (by simp)
  have hb := ((Below.refl w.heap.size w).alloc (Nat.le_refl _) (.cells #[x0, x1, x2, x3, x4] 68)).alloc (by simp) (.cells #[z0, z1, z2, z3, z4] 68)
  generalize ((w.alloc (.cells #[x0, x1, x2, x3, x4] 68)).alloc (.cells #[z0, z1, z2, z3, z4] 68)) = W at *
  rw [← e] at hown2 hg2 hown3
  obtain ⟨g, c, cur, rfl, hg0, hg, hgt, hl, _, h3⟩ := app2 hown2 hg2 hg3 hown3 (by omega)
  have f0 := (h3.block w.heap.size (by omega)).trans d0
  exact ⟨g, c, rfl, by omega, blk_lt hg, rd_cells hg hgt hl (blk_lt hg), f0, (h3.block (w.heap.size + 1) (by omega)).trans d1, hb.trans (h3.mono (by omega)), blk_frozen f0 1, blk_cell f0 1 _ rfl⟩
theorem rd_one4 (w : World) (t : TypeId) (x0 x1 x2 x3 : Value) : Rd (w.alloc (.cells #[x0, x1, x2, x3] t)) (w.heap.size + 1) (some ⟨w.heap.size, 0, none⟩) (1 * 4) [x0, x1, x2, x3] :=
  rd_cells (heap_alloc_new w (.cells #[x0, x1, x2, x3] t)) rfl rfl (Nat.lt_succ_self _)
theorem rd_one1 (w : World) (t : TypeId) (x : Value) : Rd (w.alloc (.cells #[x] t)) (w.heap.size + 1) (some ⟨w.heap.size, 0, none⟩) 1 [x] :=
  rd_cells (heap_alloc_new w (.cells #[x] t)) rfl rfl (Nat.lt_succ_self _)

/-- A source that may be nil, onto a row of the call's own, at a step of a region that draws its order. -/
theorem step_appR {P : Program} (w : World) {ops : Array Oper} {o : Oper} {a : Act} {K : Act → World → Prop} {Q : Exit → Act → World → Prop} {E : Prop} (hgd : o.guard = none) (s x : Operand) (t : TypeId)
    (ho : o.op = .call { callee := .builtin .append, args := #[s, x], argTypes := #[t, t] })
    (base : Nat) (e : TypeId) (i : TypeInfo) (z : Value) (bytes : Nat) (ht : P.underlying t = some (.slice e)) (hi : P.info? e = some i) (hz : i.zero = some z)
    (hsize : i.size = 1) (hby : i.bytes = bytes) (hzs : z.cells.size = 1)
    (v : Value) (n : Nat) (xs : List Value) (hs : a.eval s = v) (hown : w.ownsRow base e 1 v n xs)
    (B : Nat) (A : Option Addr) (m c : Nat) (news : List Value) (hx : a.eval x = .slice A m c) (hr : Rd w B A m news) (h1 : ∀ u ∈ news, u.oneCell' = true)
    (h63 : n + m ≤ maxLen) (hbytes : (n + m) * bytes ≤ 140737488355328) (hbase : base ≤ w.heap.size)
    (h : ∀ v' w', w'.ownsRow base e 1 v' (n + m) (xs ++ news) → w.grownBy w' v.ownBlock → (v'.ownBlock = v.ownBlock ∨ v'.ownBlock = some w.heap.size) → K (a.put o.dst v') w') :
    if Region.wanted o (yielded ops a.tmps) = true then Oper.wp P o a w K Q else E := by
  have hw : Region.wanted o (yielded ops a.tmps) = true := by simp [Region.wanted, hgd]
  rw [if_pos hw]
  obtain ⟨v', w', hrun, h2, h3, h4⟩ := run_app (P := P) w base t o.type e i z bytes ht hi hz hsize hby hzs v n xs hown B A m c news hr h1 h63 hbytes hbase
  unfold Oper.wp execOp
  simp only [ho, resolve, invoke, builtin, Sem.run_bind, Sem.run_pure, Result.andThen_ok, List.map_toArray, List.map_cons, List.map_nil, hs, hx, hrun]
  exact h v' w' h2 h3 h4
theorem appX {B b k n n2 : Nat} {e : TypeId} {w0 X w5 Y w6 : World} {v2 v3 : Value} {xs ys : List Value} (hX : Below B w0 X) (hXs : B ≤ X.heap.size) (hg5 : X.grownBy w5 (some b)) (hb : B ≤ b) (hY : Below B w5 Y) (hg6 : Y.grownBy w6 v2.ownBlock)
    (hown5 : w5.ownsRow B e k v2 n xs) (hown6 : w6.ownsRow B e k v3 n2 ys) (hn : 0 < n2) : ∃ g c, v3 = .slice (some ⟨g, 0, none⟩) n2 c ∧ B ≤ g ∧ g < w6.heap.size ∧ Rd w6 w6.heap.size (some ⟨g, 0, none⟩) (n2 * k) ys ∧ n2 ≤ c ∧ Below B w0 w6 := by
  obtain ⟨g, c, cur, h1, h2, h3, h4, h5, _, h7⟩ := own_cells hown6 hn
  refine ⟨g, c, h1, h2, blk_lt h3, rd_cells h3 h4 h7 (blk_lt h3), h5, ?_⟩
  have b2 : Below B w0 w5 := hX.grown hg5 hXs fun j hk => by injection hk with hk; omega
  have h5s := hg5.size
  have hYs := hY.size
  exact (b2.trans hY).grown hg6 (by omega) fun j hj => by
    rcases hown5.2 with ⟨rfl, _⟩ | ⟨g', cap, cur', rfl, hb, _⟩
    · cases hj
    · have hj' : some g' = some j := hj
      injection hj' with hj'
      omega
theorem below_gat {B b : Nat} {w0 X w5 : World} (hX : Below B w0 X) (hg : X.grownBy w5 (some b)) (hs : B ≤ X.heap.size) (hb : B ≤ b) : Below B w0 w5 := hX.grown hg hs fun j hk => by injection hk with hk; omega
theorem below_drw {B : Nat} {a w : World} (h : Below B a w) : Below B a w.drew := ⟨h.os, h.tape, h.output, h.size, h.block⟩

theorem rd_set {w : World} {B g n b i : Nat} {x : Value} {xs : List Value} (h : Rd w B (some ⟨g, 0, none⟩) n xs) (hb : b ≠ g) : Rd (w.setCell ⟨b, i, none⟩ x) B (some ⟨g, 0, none⟩) n xs := by
  refine ⟨h.len, fun j u hu => ?_⟩
  obtain ⟨ad, h1, h2, h3⟩ := h.at' j u hu
  refine ⟨ad, h1, h2, ?_⟩
  injection h1 with h1
  subst h1
  rw [← h3]
  exact World.cell?_setCell_far _ _ _ _ (by have e0 : ((⟨g, 0, none⟩ : Addr).add j).block = g := by (unfold Addr.add; split <;> rfl)
                                            rw [e0]; simp only; omega)
/-- The end of Spawn: the new row of numbers is in place, the box is the result. -/
theorem sp_end {w w4 w6 : World} {R : Nat → Prop} {gq cq6 g c3 n nq ct : Nat} {AF At : Option Addr} {nF cF : Nat} {m : RS} {f : Nat} {ys : List Value} (hn : m.cos.length = n) (hb4 : Below w.heap.size w w4) (hb6 : Below w4.heap.size w4 w6) (h2 : w.heap.size + 1 < w4.heap.size) (hg0 : w.heap.size + 2 ≤ g) (hgl : g < w4.heap.size)
    (hr4 : Rd w4 w4.heap.size (some ⟨g, 0, none⟩) ((n + 1) * 4) (cosL (m.cos ++ [⟨f, 0, 1, ByteArray.empty⟩]))) (hr6 : Rd w6 w6.heap.size (some ⟨gq, 0, none⟩) ((0 + nq + 1) * 1) ys) (hgq : w4.heap.size ≤ gq) (hgql : gq < w6.heap.size) (hq : nq = m.q.length) (hcq : 0 + nq + 1 ≤ cq6)
    (hys : ys = ([] ++ m.q.map fun i : Nat => Value.int .i64 ((i : Int) + 1)) ++ [.int .i64 ((n : Int) + 1)]) (ht : RRow w R At m.tr.length (strsL m.tr))
    {z0 z1 z2 z3 z4 : Value} (D1 : w6.heap[w.heap.size + 1]? = some (.cells #[z0, z1, z2, z3, z4] 68 (0, 0))) {W : World}
    (hW : W = (((((w6.setCell ⟨w.heap.size, 2, none⟩ (.slice (some ⟨gq, 0, none⟩) (nq + 1) cq6)).setCell ⟨w.heap.size + 1, 0, none⟩ (.slice AF nF cF)).setCell ⟨w.heap.size + 1, 1, none⟩ (.slice (some ⟨g, 0, none⟩) (n + 1) c3)).setCell ⟨w.heap.size + 1, 2, none⟩ (.slice (some ⟨gq, 0, none⟩) (nq + 1) cq6)).setCell ⟨w.heap.size + 1, 3, none⟩ (.slice At m.tr.length ct)).setCell ⟨w.heap.size + 1, 4, none⟩ (.bool m.cl)) :
    W.heap[w.heap.size + 1]? = some (.cells #[.slice AF nF cF, .slice (some ⟨g, 0, none⟩) (n + 1) c3, .slice (some ⟨gq, 0, none⟩) (nq + 1) cq6, .slice At m.tr.length ct, .bool m.cl] 68 (0, 0)) ∧
    SAt W (fun b => R b ∨ w.heap.size ≤ b) (.slice AF nF cF) (.agg #[.slice AF nF cF, .slice (some ⟨g, 0, none⟩) (n + 1) c3, .slice (some ⟨gq, 0, none⟩) (nq + 1) cq6, .slice At m.tr.length ct, .bool m.cl]) (rSpawn m f) ∧ Below w.heap.size w W := by
  have hE := st_at (st_at (st_at (st_at (st_at (st_old (c := w.heap.size) D1 2 (.slice (some ⟨gq, 0, none⟩) (nq + 1) cq6) (by omega)) 0 (.slice AF nF cF)) 1 (.slice (some ⟨g, 0, none⟩) (n + 1) c3)) 2 (.slice (some ⟨gq, 0, none⟩) (nq + 1) cq6)) 3 (.slice At m.tr.length ct)) 4 (.bool m.cl)
  rw [← hW] at hE
  simp only [List.setIfInBounds_toArray, List.set_cons_zero, List.set_cons_succ] at hE
  have hb := hb4.trans (hb6.mono hb4.size)
  have hB : Below w.heap.size w W := by
    rw [hW]
    exact (((((hb.setCell (p := ⟨w.heap.size, 2, none⟩) (Nat.le_refl _) _).setCell (p := ⟨w.heap.size + 1, 0, none⟩) (by simp only; omega) _).setCell (p := ⟨w.heap.size + 1, 1, none⟩) (by simp only; omega) _).setCell (p := ⟨w.heap.size + 1, 2, none⟩) (by simp only; omega) _).setCell (p := ⟨w.heap.size + 1, 3, none⟩) (by simp only; omega) _).setCell (p := ⟨w.heap.size + 1, 4, none⟩) (by simp only; omega) _
  have hs : W.heap.size = w6.heap.size := by rw [hW]; simp only [setCell_size]
  have hc : Rd W w6.heap.size (some ⟨g, 0, none⟩) ((n + 1) * 4) (cosL (m.cos ++ [⟨f, 0, 1, ByteArray.empty⟩])) := by
    rw [hW]
    exact rd_set (rd_set (rd_set (rd_set (rd_set (rd_set ((hr4.below hb6).more hb6.size) (by omega)) (by omega)) (by omega)) (by omega)) (by omega)) (by omega)
  have hqq : Rd W w6.heap.size (some ⟨gq, 0, none⟩) ((0 + nq + 1) * 1) ys := by
    rw [hW]
    exact rd_set (rd_set (rd_set (rd_set (rd_set (rd_set hr6 (by omega)) (by omega)) (by omega)) (by omega)) (by omega)) (by omega)
  refine ⟨hE, ⟨some ⟨g, 0, none⟩, some ⟨gq, 0, none⟩, At, c3, cq6, ct, at_zero g, ?_, ⟨?_, fun ad e => ?_⟩, ⟨?_, fun ad e => ?_⟩, ?_, (ht.below hB).imp fun _ _ h => .inl h⟩, hB⟩
  · simp only [rSpawn, List.length_append, List.length_singleton, hn, ← hq]
  · rw [hs]
    have e : (rSpawn m f).cos.length * 4 = (n + 1) * 4 := by simp [rSpawn, hn]
    rw [e]
    exact hc
  · cases e
    exact ⟨.inr (by simp only; omega), by have := hb6.size; simp only; omega⟩
  · rw [hs]
    have e : (rSpawn m f).q.length = (0 + nq + 1) * 1 := by simp [rSpawn, hq]
    have e2 : ((rSpawn m f).q.map fun i : Nat => Value.int .i64 ((i : Int) + 1)) = ys := by rw [hys]; simp [rSpawn, hn]
    rw [e, e2]
    exact hqq
  · cases e
    exact ⟨.inr (by have := hb4.size; simp only; omega), by simp only; omega⟩
  · simp only [rSpawn, List.length_append, List.length_singleton]; omega

set_option maxRecDepth 100000 in
set_option maxHeartbeats 4000000 in
theorem refspawn (AF : Option Addr) (nF cF : Nat) (f : Nat) (v : Value) (m : RS) (w : World) (R : Nat → Prop) (hs : SAt w R (.slice AF nF cF) v m) (hl : m.cos.length ≤ 20) (hq20 : m.q.length ≤ 100) :
    Calls Try.prog 68 #[v, .int .i64 (f : Int)] w fun e w' => ∃ v', e = .returned v' ∧ SAt w' (fun b => R b ∨ w.heap.size ≤ b) (.slice AF nF cF) v' (rSpawn m f) ∧ Below w.heap.size w w' := by
  obtain ⟨i0, hio, hz0, hz1, hz2⟩ := info_parts infoRCo
  obtain ⟨Ac, Aq, At, cc, cq, ct, _, rfl, hc, hq, hqc, ht⟩ := hs
  obtain ⟨n, hn⟩ : ∃ n, m.cos.length = n := ⟨_, rfl⟩
  rw [hn] at hl hc ⊢
  have HN := Lib.hid hn; clear hn
  have hown := World.ownsRow_lit (e := 98) (size := 4) (base := w.heap.size + 1 + 1) ((w.alloc (.cells #[.slice AF nF cF, .slice Ac n cc, .slice Aq m.q.length cq, .slice At m.tr.length ct, .bool m.cl] 68)).alloc (.cells #[.slice none 0 0, .slice none 0 0, .slice none 0 0, .slice none 0 0, .bool false] 68)) #[] 0 (by simp) (by simp [maxLen]) (by simp)
  simp only [World.size_alloc] at hown
  go_enter Try.func68, Try.ntmps68
  go_wp2_with (first | (at_builtin; refine wpList_appK _ rfl (.tmp 5) (.tmp 7) 66 rfl (w.heap.size + 1 + 1) 98 i0 _ 4 40 Try.underlying66 hio hz0 hz1 hz2 rfl (by omega) _ _ _ rfl hown w.heap.size Ac n cc _ rfl (hc.rd.below ((((Below.refl _ _).alloc (Nat.le_refl _) _).alloc (by simp) _).alloc (by simp; omega) _)) (cosL_one _) (by unfold maxLen; omega) (by omega) (by simp) ?_; intro v2 w2 hown2 hg2 hat2) | (at_builtin; refine wpList_appK _ rfl (.tmp 8) (.tmp 11) 66 rfl (w.heap.size + 1 + 1) 98 i0 _ 4 40 Try.underlying66 hio hz0 hz1 hz2 rfl (by omega) _ _ _ rfl (hown2.alloc _) (w2.heap.size + 1) _ 1 1 _ rfl (rd_one4 _ _ _ _ _ _) (by intro u hu; simp at hu; rcases hu with rfl | rfl | rfl | rfl <;> rfl) (by unfold maxLen; omega) (by omega) (by simp; have := hg2.size; simp at this; omega) ?_; intro v3 w3 hown3 hg3 hat3; obtain ⟨g, c3, rfl, hg0, hgl, hr3, d0, d1, hb3, f0, c01⟩ := sp1_facts hown2 hg2 hg3 hown3; clear hown hown2 hg2 hat2 hown3 hg3 hat3 hz0 hz1 hz2 hio hc) | fail)
  have D0 := st_at d0 1 (.slice (some ⟨g, 0, none⟩) (n + 1) c3)
  have D1 := st_old d1 (c := w.heap.size) 1 (.slice (some ⟨g, 0, none⟩) (n + 1) c3) (by omega)
  have hb4 := hb3.setCell (p := ⟨w.heap.size, 1, none⟩) (Nat.le_refl _) (.slice (some ⟨g, 0, none⟩) (n + 1) c3)
  simp only [List.setIfInBounds_toArray, List.set_cons_zero, List.set_cons_succ] at D0
  have hs4 : (w3.setCell ⟨w.heap.size, 1, none⟩ (.slice (some ⟨g, 0, none⟩) (n + 1) c3)).heap.size = w3.heap.size := setCell_size _ _ _
  have hr4 : Rd (w3.setCell ⟨w.heap.size, 1, none⟩ (.slice (some ⟨g, 0, none⟩) (n + 1) c3)) w3.heap.size (some ⟨g, 0, none⟩) ((n + 1) * 4) (cosL (m.cos ++ [⟨f, 0, 1, ByteArray.empty⟩])) := by
    rw [cosL_append]
    refine ⟨by rw [List.length_append, cosL_len, HN.out]; show n * 4 + 4 = _; omega, fun j u hu => ?_⟩
    obtain ⟨ad, h1, h2, h3⟩ := hr3.at' j u hu
    refine ⟨ad, h1, h2, ?_⟩
    injection h1 with h1
    subst h1
    rw [← h3]
    exact World.cell?_setCell_far _ _ _ _ (by have e0 : ((⟨g, 0, none⟩ : Addr).add j).block = g := by (unfold Addr.add; split <;> rfl)
                                              rw [e0]; simp only; omega)
  rw [← hs4] at hr4 hgl
  clear hs4 hr3 hb3 c01 f0 d0 d1
  generalize (w3.setCell ⟨w.heap.size, 1, none⟩ (.slice (some ⟨g, 0, none⟩) (n + 1) c3)) = w4 at *
  have hBlt := blk_lt D0
  have hB1lt := blk_lt D1
  have c40 : w4.cell? ⟨w.heap.size, 0, none⟩ = some (.slice AF nF cF) := blk_cell D0 0 _ rfl
  have c41 : w4.cell? ⟨w.heap.size, 1, none⟩ = some (.slice (some ⟨g, 0, none⟩) (n + 1) c3) := blk_cell D0 1 _ rfl
  have c42 : w4.cell? ⟨w.heap.size, 2, none⟩ = some (.slice Aq m.q.length cq) := blk_cell D0 2 _ rfl
  have c43 : w4.cell? ⟨w.heap.size, 3, none⟩ = some (.slice At m.tr.length ct) := blk_cell D0 3 _ rfl
  have c44 : w4.cell? ⟨w.heap.size, 4, none⟩ = some (.bool m.cl) := blk_cell D0 4 _ rfl
  obtain ⟨i1, hio, hz0, hz1, hz2⟩ := info_parts infoQi
  have hlit : ∀ (X : World) (b : Nat), X.heap[b]? = some (.cells #[] 3 (0, 0)) → w4.heap.size ≤ b → X.ownsRow w4.heap.size 3 1 (.slice (some ⟨b, 0, none⟩) 0 0) 0 [] := fun X b h1 h2 => ⟨rfl, .inr ⟨b, 0, #[], rfl, h2, h1, Nat.le_refl _, by simp [maxLen], rfl, rfl⟩⟩
  have a1 := hlit _ _ (al_at w4 (.cells #[] 3) rfl) (Nat.le_refl _)
  have a2 := hlit _ (w4.heap.size + 1) (al_at (w4.alloc (.cells #[.int .i64 ((n : Int) + 1)] 3)) (.cells #[] 3) (by simp)) (by omega)
  have a3 := hlit _ _ (al_old (al_at w4 (.cells #[] 3) rfl) (.cells #[.int .i64 ((n : Int) + 1)] 3)) (Nat.le_refl _)
  have q1 := hq.rd.below (hb4.alloc hb4.size (.cells #[] 3))
  have q2 := hq.rd.below ((hb4.alloc hb4.size (.cells #[.int .i64 ((n : Int) + 1)] 3)).alloc (by simp; have := hb4.size; omega) (.cells #[] 3))
  have q3 := hq.rd.below ((hb4.alloc hb4.size (.cells #[] 3)).alloc (by simp; have := hb4.size; omega) (.cells #[.int .i64 ((n : Int) + 1)] 3))
  have hq1 := ints_one m.q
  have hk5 : ∀ w5 : World, Below w4.heap.size w4 w5 → ∀ i x, w4.cell? ⟨w.heap.size, i, none⟩ = some x → w5.cell? ⟨w.heap.size, i, none⟩ = some x := fun w5 h1 i x hx => by
    rw [← hx]
    exact World.cell?_of_block (a := ⟨w.heap.size, i, none⟩) (h1.block _ hBlt)
  have hf5 : ∀ w5 : World, Below w4.heap.size w4 w5 → ∀ i, w5.frozen? ⟨w.heap.size, i, none⟩ = false := fun w5 h1 i => blk_frozen ((h1.block _ hBlt).trans D0) i
  have B1 := below_drw ((Below.refl w4.heap.size w4).alloc (Nat.le_refl _) (.cells #[] 3))
  have B2 := below_drw (((Below.refl w4.heap.size w4).alloc (Nat.le_refl _) (.cells #[.int .i64 ((n : Int) + 1)] 3)).alloc (by simp) (.cells #[] 3))
  have B3 := below_drw (((Below.refl w4.heap.size w4).alloc (Nat.le_refl _) (.cells #[] 3)).alloc (by simp) (.cells #[.int .i64 ((n : Int) + 1)] 3))
  have e2 := al_old (al_at w4 (.cells #[.int .i64 ((n : Int) + 1)] 3) rfl) (.cells #[] 3)
  have e3 := al_at (w4.alloc (.cells #[] 3)) (.cells #[.int .i64 ((n : Int) + 1)] 3) (b := w4.heap.size + 1) (by simp)
  have s2 : ((w4.alloc (.cells #[.int .i64 ((n : Int) + 1)] 3)).alloc (.cells #[] 3)).drew.heap.size = w4.heap.size + 2 := by show (World.alloc _ _).heap.size = _; simp
  have s3 : ((w4.alloc (.cells #[] 3)).alloc (.cells #[.int .i64 ((n : Int) + 1)] 3)).drew.heap.size = w4.heap.size + 2 := by show (World.alloc _ _).heap.size = _; simp
  have s1 : (w4.alloc (.cells #[] 3)).drew.heap.size = w4.heap.size + 1 := by show (World.alloc _ _).heap.size = _; simp
  clear hlit
  go_region_law ((first
    | (refine step_appR _ (by rfl) (.tmp 17) (.tmp 21) 22 (by rfl) w4.heap.size 3 i1 _ 8 Try.underlying22 hio hz0 hz1 hz2 rfl _ _ _ (by simp [Act.eval]) hown5 _ _ 1 1 _ (by simp [Act.eval]) el5 (by intro u hu; rw [List.mem_singleton.1 hu]; rfl) (by unfold maxLen; omega) (by omega) hb5.size ?_; intro v6 w6 hown6 hg6 hat6; obtain ⟨gq, cq6, rfl, hgq, hgql, hr6, hcq6, hb6⟩ := appX (Below.refl w4.heap.size w4) (Nat.le_refl _) (b := w4.heap.size) ⟨hb5.os, hb5.tape, hb5.output, hb5.size, fun k hk _ => hb5.block k hk⟩ (Nat.le_refl _) (Below.refl w4.heap.size w5) hg6 hown5 hown6 (by omega); have c61 := hk5 w6 hb6 1 _ c41; have c62 := hk5 w6 hb6 2 _ c42; have f62 := hf5 w6 hb6 2)
    | (refine step_appR _ (by rfl) (.tmp 17) (.tmp 21) 22 (by rfl) w4.heap.size 3 i1 _ 8 Try.underlying22 hio hz0 hz1 hz2 rfl _ _ _ (by simp [Act.eval]) (hown5.alloc _) (w5.heap.size + 1) _ 1 1 _ (by simp [Act.eval]) (rd_one1 w5 3 (.int .i64 ((n : Int) + 1))) (by intro u hu; rw [List.mem_singleton.1 hu]; rfl) (by unfold maxLen; omega) (by omega) (by have := hb5.size; show w4.heap.size ≤ (w5.alloc _).heap.size; simp; omega) ?_; intro v6 w6 hown6 hg6 hat6; obtain ⟨gq, cq6, rfl, hgq, hgql, hr6, hcq6, hb6⟩ := appX (b := w4.heap.size) B1 (by omega) hg5 (Nat.le_refl _) ((Below.refl w4.heap.size w5).alloc hb5.size _) hg6 hown5 hown6 (by omega); have c61 := hk5 w6 hb6 1 _ c41; have c62 := hk5 w6 hb6 2 _ c42; have f62 := hf5 w6 hb6 2)
    | (refine step_appR _ (by rfl) (.tmp 14) (.tmp 16) 22 (by rfl) w4.heap.size 3 i1 _ 8 Try.underlying22 hio hz0 hz1 hz2 rfl _ _ _ (by simp [Act.eval, Act.put]) a1 w.heap.size _ _ _ _ (by simp [Act.eval, Act.put]; rfl) (q1.drewN 1) hq1 (by unfold maxLen; omega) (by omega) (by simp) ?_; intro v5 w5 hown5 hg5 hat5; have hb5 : Below w4.heap.size w4 w5 := below_gat (b := w4.heap.size) B1 hg5 (by omega) (by omega); have c51 := hk5 w5 hb5 1 _ c41; have c52 := hk5 w5 hb5 2 _ c42)
    | (refine step_appR _ (by rfl) (.tmp 14) (.tmp 16) 22 (by rfl) w4.heap.size 3 i1 _ 8 Try.underlying22 hio hz0 hz1 hz2 rfl _ _ _ (by simp [Act.eval]) a2 w.heap.size _ _ _ _ (by simp [Act.eval]; rfl) (q2.drewN 1) hq1 (by unfold maxLen; omega) (by omega) (by omega) ?_; intro v5 w5 hown5 hg5 hat5; have hb5 : Below w4.heap.size w4 w5 := below_gat (b := w4.heap.size + 1) B2 hg5 (by omega) (by omega); have c51 := hk5 w5 hb5 1 _ c41; have c52 := hk5 w5 hb5 2 _ c42; have el5 : Rd w5 (w4.heap.size + 1) (some ⟨w4.heap.size, 0, none⟩) 1 [.int .i64 ((n : Int) + 1)] := rd_cells ((hg5.block w4.heap.size (by omega) (fun e => by (have e' : some w4.heap.size = some (w4.heap.size + 1) := e); injection e' with e'; omega)).trans e2) rfl rfl (Nat.lt_succ_self _))
    | (refine step_appR _ (by rfl) (.tmp 14) (.tmp 16) 22 (by rfl) w4.heap.size 3 i1 _ 8 Try.underlying22 hio hz0 hz1 hz2 rfl _ _ _ (by simp [Act.eval]) a3 w.heap.size _ _ _ _ (by simp [Act.eval]; rfl) (q3.drewN 1) hq1 (by unfold maxLen; omega) (by omega) (by omega) ?_; intro v5 w5 hown5 hg5 hat5; have hb5 : Below w4.heap.size w4 w5 := below_gat (b := w4.heap.size) B3 hg5 (by omega) (by omega); have c51 := hk5 w5 hb5 1 _ c41; have c52 := hk5 w5 hb5 2 _ c42; have el5 : Rd w5 (w4.heap.size + 1 + 1) (some ⟨w4.heap.size + 1, 0, none⟩) 1 [.int .i64 ((n : Int) + 1)] := rd_cells ((hg5.block (w4.heap.size + 1) (by omega) (fun e => by (have e' : some (w4.heap.size + 1) = some w4.heap.size := e); injection e' with e'; omega)).trans e3) rfl rfl (Nat.lt_succ_self _))))
  all_goals
    have D6 := (hb6.block (w.heap.size + 1) (by omega)).trans D1
    have k0 := hk5 w6 hb6 0 _ c40
    have k1 := hk5 w6 hb6 1 _ c41
    have k3 := hk5 w6 hb6 3 _ c43
    have k4 := hk5 w6 hb6 4 _ c44
    have fe := blk_frozen D6
    have e0 := blk_cell D6 0 _ rfl
    have e1 := blk_cell D6 1 _ rfl
    have e2 := blk_cell D6 2 _ rfl
    have e3 := blk_cell D6 3 _ rfl
    have e4 := blk_cell D6 4 _ rfl
    clear hown5 hown6 hg5 hg6 hat5 hat6 a1 a2 a3 q1 q2 q3 B1 B2 B3 hq1 hk5 hf5 hb5
    go_wp2_with fail
    obtain ⟨hE, hS, hB⟩ := sp_end HN.out hb4 hb6 (by omega) hg0 hgl hr4 hr6 hgq hgql rfl hcq6 rfl ht D6 rfl
    refine bodyPost_ret (results_cell_row (p := 4) (ty := 68) rfl _ _ (w.heap.size + 1) _ _ _ _ rfl hE Try.underlying68 rfl infoRS) rfl ⟨_, rfl, hS, hB⟩
end Go.Proofs.Ytolnmdanlggmhaa

/- The reference: Wake. -/
namespace Go.Proofs.Ytolnmdanlggmhaa
open Go.RowKit Go.Maps

theorem rd_co {w : World} {R : Nat → Prop} {n i : Nat} {A : Option Addr} {l : List RCo} {c : RCo} (hA : ∀ ad, A = some ad → ∃ g, ad = ⟨g, 0, none⟩) (h : RRow w R A (n * 4) (cosL l)) (hc : l[i]? = some c) :
    ∃ g, A = some ⟨g, 0, none⟩ ∧ g < w.heap.size ∧ w.cell? ⟨g, i * 4, none⟩ = some (.int .i64 (c.f : Int)) ∧ w.cell? ⟨g, i * 4 + 1, none⟩ = some (.int .i64 (c.pos : Int)) ∧ w.cell? ⟨g, i * 4 + 2, none⟩ = some (.int .i64 c.st) ∧ w.cell? ⟨g, i * 4 + 3, none⟩ = some (.string c.txt) := by
  obtain ⟨ad, rfl, hB, h0⟩ := h.rd.at' _ _ (cosL_get (j := 0) hc rfl)
  obtain ⟨g, rfl⟩ := hA ad rfl
  have e0 : ∀ j, (⟨g, 0, none⟩ : Addr).add j = ⟨g, j, none⟩ := fun j => by
    unfold Addr.add
    simp only [Nat.zero_add]
    rcases j with _ | j <;> rfl
  have key : ∀ j x, (coL c)[j]? = some x → w.cell? ⟨g, i * 4 + j, none⟩ = some x := fun j x hx => by
    obtain ⟨ad', e, _, h1⟩ := h.rd.at' _ _ (cosL_get hc hx)
    injection e with e
    subst e
    rw [e0] at h1
    exact h1
  exact ⟨g, rfl, hB, key 0 _ rfl, key 1 _ rfl, key 2 _ rfl, key 3 _ rfl⟩
theorem results_row_tmp {P : Program} {fn : Func} {p u : Tmp} {ty : TypeId} (h : fn.results = #[.cell p ty, .tmp u]) (tmps : Array Value) (w : World) (g : Nat) (t : TypeId) (cs : Array Value) (fr : Nat × Nat) (d : TypeDesc)
    (hp : tmps.getD p undef = .pointer (some ⟨g, 0, none⟩)) (hg : w.heap[g]? = some (.cells cs t fr))
    (hu : P.underlying ty = some d) (hd : (match d with | .struct _ | .array _ _ => true | _ => false) = true) (hi : (P.info? ty).map (·.size) = some cs.size) :
    (results fn tmps).run P w = .ok (.tuple #[.agg cs, tmps.getD u undef]) w := by
  rw [results_cell_tmp h, hp]
  simp [asAddr, run_loadVar_row w g t ty cs fr d hg hu hd hi]
theorem two_box {w : World} (o1 o2 : Obj) : Below w.heap.size w ((w.alloc o1).alloc o2) := ((Below.refl _ _).alloc (Nat.le_refl _) _).alloc (by simp) _
/-- A whole scheduler stored. -/
theorem st5_at {w W : World} {b : Nat} {t : TypeId} {x0 x1 x2 x3 x4 y0 y1 y2 y3 y4 : Value} (D : w.heap[b]? = some (.cells #[y0, y1, y2, y3, y4] t (0, 0)))
    (hW : W = ((((w.setCell ⟨b, 0, none⟩ x0).setCell ⟨b, 1, none⟩ x1).setCell ⟨b, 2, none⟩ x2).setCell ⟨b, 3, none⟩ x3).setCell ⟨b, 4, none⟩ x4) :
    W.heap[b]? = some (.cells #[x0, x1, x2, x3, x4] t (0, 0)) ∧ (∀ k, k ≠ b → W.heap[k]? = w.heap[k]?) ∧ W.heap.size = w.heap.size ∧ (∀ B, B ≤ b → Below B w W) := by
  have hE := st_at (st_at (st_at (st_at (st_at D 0 x0) 1 x1) 2 x2) 3 x3) 4 x4
  rw [← hW] at hE
  simp only [List.setIfInBounds_toArray, List.set_cons_zero, List.set_cons_succ] at hE
  refine ⟨hE, fun k hk => ?_, ?_, fun B hB => ?_⟩
  · rw [hW]
    have hk' : ¬ b = k := fun e => hk e.symm
    simp only [setCell_get, if_neg hk']
  · rw [hW]
    simp only [setCell_size]
  · rw [hW]
    exact (((((Below.refl B w).setCell (p := ⟨b, 0, none⟩) hB _).setCell (p := ⟨b, 1, none⟩) hB _).setCell (p := ⟨b, 2, none⟩) hB _).setCell (p := ⟨b, 3, none⟩) hB _).setCell (p := ⟨b, 4, none⟩) hB _
theorem five_cells {w : World} {b : Nat} {t : TypeId} {x0 x1 x2 x3 x4 : Value} (D : w.heap[b]? = some (.cells #[x0, x1, x2, x3, x4] t (0, 0))) :
    w.cell? ⟨b, 0, none⟩ = some x0 ∧ w.cell? ⟨b, 1, none⟩ = some x1 ∧ w.cell? ⟨b, 2, none⟩ = some x2 ∧ w.cell? ⟨b, 3, none⟩ = some x3 ∧ w.cell? ⟨b, 4, none⟩ = some x4 ∧ ∀ j, w.frozen? ⟨b, j, none⟩ = false :=
  ⟨blk_cell D 0 _ rfl, blk_cell D 1 _ rfl, blk_cell D 2 _ rfl, blk_cell D 3 _ rfl, blk_cell D 4 _ rfl, blk_frozen D⟩

theorem three_box (w : World) (o0 o1 o2 : Obj) : Below w.heap.size w (((w.alloc o0).alloc o1).alloc o2) ∧ (((w.alloc o0).alloc o1).alloc o2).heap[w.heap.size]? = some o0 ∧ (((w.alloc o0).alloc o1).alloc o2).heap[w.heap.size + 1]? = some o1 ∧
    (((w.alloc o0).alloc o1).alloc o2).heap[w.heap.size + 1 + 1]? = some o2 ∧ (((w.alloc o0).alloc o1).alloc o2).heap.size = w.heap.size + 3 :=
  ⟨(two_box o0 o1).alloc (by simp; omega) _, al_old (al_old (heap_alloc_new w o0) o1) o2, al_old (al_at (w.alloc o0) o1 (by simp)) o2, al_at ((w.alloc o0).alloc o1) o2 (by simp), by simp⟩

/-- A longer row of numbers is put in place, and the whole is the result. -/
theorem q_fin {w8 W : World} {R : Nat → Prop} {b0 b1 gq cq6 n q t ct cc i : Nat} {AF Ac At : Option Addr} {nF cF : Nat} {m5 mF : RS} {ys : List Value} {z0 z1 z2 z3 z4 : Value} (h01 : b0 ≠ b1) (hR0 : ¬ R b0) (hR1 : ¬ R b1) (hA : ∀ ad, Ac = some ad → ∃ g, ad = ⟨g, 0, none⟩)
    (hn : m5.cos.length = n) (hq : m5.q.length = q) (ht : m5.tr.length = t) (hc8 : RRow w8 R Ac (n * 4) (cosL m5.cos)) (ht8 : RRow w8 R At t (strsL m5.tr)) (hq8 : Rd w8 w8.heap.size (some ⟨gq, 0, none⟩) ((0 + q + 1) * 1) ys) (hRq : R gq) (hgq : gq < w8.heap.size) (hcq : 0 + q + 1 ≤ cq6)
    (hys : ys = ([] ++ m5.q.map fun i : Nat => Value.int .i64 ((i : Int) + 1)) ++ [.int .i64 ((i : Int) + 1)]) (hF : mF.cos = m5.cos ∧ mF.tr = m5.tr ∧ mF.cl = m5.cl ∧ mF.q = m5.q ++ [i]) (D1 : w8.heap[b1]? = some (.cells #[z0, z1, z2, z3, z4] 68 (0, 0)))
    (hW : W = (((((w8.setCell ⟨b0, 2, none⟩ (.slice (some ⟨gq, 0, none⟩) (q + 1) cq6)).setCell ⟨b1, 0, none⟩ (.slice AF nF cF)).setCell ⟨b1, 1, none⟩ (.slice Ac n cc)).setCell ⟨b1, 2, none⟩ (.slice (some ⟨gq, 0, none⟩) (q + 1) cq6)).setCell ⟨b1, 3, none⟩ (.slice At t ct)).setCell ⟨b1, 4, none⟩ (.bool m5.cl)) :
    W.heap[b1]? = some (.cells #[.slice AF nF cF, .slice Ac n cc, .slice (some ⟨gq, 0, none⟩) (q + 1) cq6, .slice At t ct, .bool m5.cl] 68 (0, 0)) ∧
    SAt W R (.slice AF nF cF) (.agg #[.slice AF nF cF, .slice Ac n cc, .slice (some ⟨gq, 0, none⟩) (q + 1) cq6, .slice At t ct, .bool m5.cl]) mF ∧ (∀ k, k ≠ b0 → k ≠ b1 → W.heap[k]? = w8.heap[k]?) ∧ W.heap.size = w8.heap.size ∧ ∀ B, B ≤ b0 → B ≤ b1 → Below B w8 W := by
  obtain ⟨hE, O, S, K⟩ := st5_at (st_old (c := b0) D1 2 (.slice (some ⟨gq, 0, none⟩) (q + 1) cq6) h01) hW
  have O2 : ∀ k, k ≠ b0 → k ≠ b1 → W.heap[k]? = w8.heap[k]? := fun k h0 h1 => by
    have h0' : ¬ b0 = k := fun e => h0 e.symm
    rw [O k h1, setCell_get, if_neg h0']
  have S2 : W.heap.size = w8.heap.size := by rw [S, setCell_size]
  have kp : ∀ k, k < w8.heap.size → R k → W.heap[k]? = w8.heap[k]? := fun k _ hR => O2 k (fun e => hR0 (e ▸ hR)) (fun e => hR1 (e ▸ hR))
  have hq9 : RRow w8 R (some ⟨gq, 0, none⟩) ((0 + q + 1) * 1) ys := ⟨hq8, fun ad e => by cases e; exact ⟨hRq, hgq⟩⟩
  obtain ⟨f1, f2, f3, f4⟩ := hF
  refine ⟨hE, ⟨Ac, some ⟨gq, 0, none⟩, At, cc, cq6, ct, hA, ?_, ?_, ?_, ?_, ?_⟩, O2, S2, fun B h0 h1 => ((Below.refl B w8).setCell (p := ⟨b0, 2, none⟩) h0 _).trans (K B h1)⟩
  · rw [f1, f2, f3, f4, hn, ht, List.length_append, hq]
    rfl
  · rw [f1, hn]
    exact hc8.keep kp (Nat.le_of_eq S2.symm)
  · have e : mF.q.length = (0 + q + 1) * 1 := by rw [f4, List.length_append, hq]; simp
    have e2 : (mF.q.map fun i : Nat => Value.int .i64 ((i : Int) + 1)) = ys := by rw [hys, f4]; simp
    rw [e, e2]
    exact hq9.keep kp (Nat.le_of_eq S2.symm)
  · rw [f4, List.length_append, hq]
    simp only [List.length_singleton]
    omega
  · rw [f2, ht]
    exact ht8.keep kp (Nat.le_of_eq S2.symm)

set_option maxRecDepth 100000 in
set_option maxHeartbeats 4000000 in
theorem refwake_off (AF : Option Addr) (nF cF : Nat) (id : Int) (v : Value) (m : RS) (w : World) (R : Nat → Prop) (hs : SAt w R (.slice AF nF cF) v m) (hl : m.cos.length ≤ 20) (hid : rCan m id = false) :
    Calls Try.prog 55 #[v, .int .i64 id] w fun e w' => e = .returned (.tuple #[v, .bool false]) ∧ Below w.heap.size w w' := by
  obtain ⟨Ac, Aq, At, cc, cq, ct, hA, rfl, hc, hq, hqc, ht⟩ := hs
  obtain ⟨n, hn⟩ : ∃ n, m.cos.length = n := ⟨_, rfl⟩
  rw [hn] at hl hc ⊢
  have HN := Lib.hid hn; clear hn
  by_cases h1 : id < 1
  · clear hid
    go_enter Try.func55, Try.ntmps55
    go_wp2_with fail
    refine bodyPost_ret (results_row_tmp (p := 4) (u := 5) (ty := 68) rfl _ _ (w.heap.size + 1) _ _ _ _ rfl (al_at _ _ (by simp)) Try.underlying68 rfl infoRS) rfl ⟨rfl, two_box _ _⟩
  by_cases h2 : (n : Int) < id
  · clear hid
    go_enter Try.func55, Try.ntmps55
    go_wp2_with fail
    refine bodyPost_ret (results_row_tmp (p := 4) (u := 5) (ty := 68) rfl _ _ (w.heap.size + 1) _ _ _ _ rfl (al_at _ _ (by simp)) Try.underlying68 rfl infoRS) rfl ⟨rfl, two_box _ _⟩
  obtain ⟨i, rfl⟩ : ∃ i : Nat, id = (i : Int) + 1 := ⟨(id - 1).toNat, by omega⟩
  have hi : i < m.cos.length := by have := HN.out; omega
  obtain ⟨c, hcc⟩ : ∃ c, m.cos[i]? = some c := ⟨_, List.getElem?_eq_getElem hi⟩
  have hst : ¬ c.st = 2 := fun e => by
    unfold rCan at hid
    have e1 : ((i : Int) + 1 - 1).toNat = i := by omega
    rw [e1, hcc] at hid
    simp [e] at hid
    omega
  clear hid
  obtain ⟨g, rfl, hB, d0, d1, d2, d3⟩ := rd_co hA hc hcc
  have hii : (i : Int) < (n : Int) := by omega
  have hi0 : ¬ (i : Int) < 0 := by omega
  go_enter Try.func55, Try.ntmps55
  go_wp2_with fail
  refine bodyPost_ret (results_row_tmp (p := 4) (u := 5) (ty := 68) rfl _ _ (w.heap.size + 1) _ _ _ _ rfl (al_at _ _ (by simp)) Try.underlying68 rfl infoRS) rfl ⟨rfl, two_box _ _⟩

set_option maxRecDepth 100000 in
set_option maxHeartbeats 4000000 in
theorem refwake_on (AF : Option Addr) (nF cF : Nat) (i : Nat) (c : RCo) (v : Value) (m : RS) (w : World) (R : Nat → Prop) (hs : SAt w R (.slice AF nF cF) v m) (hl : m.cos.length ≤ 20) (hq20 : m.q.length ≤ 100) (hR : ∀ b, R b → b < w.heap.size) (hcc : m.cos[i]? = some c) (hst : c.st = 2) :
    Calls Try.prog 55 #[v, .int .i64 ((i : Int) + 1)] w fun e w' => ∃ v', e = .returned (.tuple #[v', .bool true]) ∧ SAt w' (fun b => R b ∨ w.heap.size ≤ b) (.slice AF nF cF) v' (rWakeC m i c) ∧ Below w.heap.size w w' := by
  have HS := Lib.hid hs
  obtain ⟨Ac, Aq, At, cc, cq, ct, hA, rfl, hc, hq, hqc, ht⟩ := hs
  obtain ⟨n, hn⟩ : ∃ n, m.cos.length = n := ⟨_, rfl⟩
  rw [hn] at hl hc HS ⊢
  have HN := Lib.hid hn
  obtain ⟨g, rfl, hB, d0, d1, d2, d3⟩ := rd_co hA hc hcc
  have hi : i < n := by have := (List.getElem?_eq_some_iff.1 hcc).1; omega
  clear hn
  rw [hst] at d2
  have hii : (i : Int) < (n : Int) := by omega
  have hi0 : ¬ (i : Int) < 0 := by omega
  have hi1 : ¬ (i : Int) + 1 < 1 := by omega
  have hi2 : ¬ (n : Int) < (i : Int) + 1 := by omega
  go_enter Try.func55, Try.ntmps55
  go_wp2_with fail
  obtain ⟨hb4, D4, Z4, Y4, hs4⟩ := three_box w (.cells #[.slice AF nF cF, .slice (some ⟨g, 0, none⟩) n cc, .slice Aq m.q.length cq, .slice At m.tr.length ct, .bool m.cl] 68) (.cells #[.slice none 0 0, .slice none 0 0, .slice none 0 0, .slice none 0 0, .bool false] 68) (.cells #[.int .i64 (c.f : Int), .int .i64 (c.pos : Int), .int .i64 1, .string c.txt] 98)
  generalize (((w.alloc (.cells #[.slice AF nF cF, .slice (some ⟨g, 0, none⟩) n cc, .slice Aq m.q.length cq, .slice At m.tr.length ct, .bool m.cl] 68)).alloc (.cells #[.slice none 0 0, .slice none 0 0, .slice none 0 0, .slice none 0 0, .bool false] 68)).alloc (.cells #[.int .i64 (c.f : Int), .int .i64 (c.pos : Int), .int .i64 1, .string c.txt] 98)) = w4 at *
  refine (refset AF nF cF i { c with st := 1 } _ m w4 R (HS.out.below hb4) (by have := HN.out; omega) (by have := HN.out; omega)).mono ?_
  rintro e w5 ⟨v5, rfl, hs5, hb5⟩
  have HC : (rWakeC m i c).cos = (rSet m i { c with st := 1 }).cos ∧ (rWakeC m i c).tr = (rSet m i { c with st := 1 }).tr ∧ (rWakeC m i c).cl = (rSet m i { c with st := 1 }).cl ∧ (rWakeC m i c).q = (rSet m i { c with st := 1 }).q ++ [i] := ⟨rfl, rfl, rfl, rfl⟩
  have hq5l : (rSet m i { c with st := 1 }).q.length ≤ 100 := hq20
  generalize rSet m i { c with st := 1 } = m5 at *
  generalize hmF : rWakeC m i c = mF at *
  obtain ⟨Ac5, Aq5, At5, cc5, cq5, ct5, hA5, rfl, hc5, hq5, hqc5, ht5⟩ := hs5
  have D5 := (hb5.block w.heap.size (by omega)).trans D4
  have Z5 := (hb5.block (w.heap.size + 1) (by omega)).trans Z4
  obtain ⟨c50, c51, c52, c53, c54, f5⟩ := five_cells D5
  have hlt5 := blk_lt D5
  have hRb : ¬ (R w.heap.size ∨ w4.heap.size ≤ w.heap.size) := fun h => by
    rcases h with h | h
    · have := hR _ h; omega
    · omega
  clear Y4 HS hc hq hqc ht d0 d1 d2 d3 D4 Z4 hcc hst HN
  obtain ⟨n5, hn5⟩ : ∃ n5, m5.cos.length = n5 := ⟨_, rfl⟩
  obtain ⟨q5, hq55⟩ : ∃ q5, m5.q.length = q5 := ⟨_, rfl⟩
  obtain ⟨t5, ht55⟩ : ∃ t5, m5.tr.length = t5 := ⟨_, rfl⟩
  rw [hn5] at hc5 ⊢
  rw [hq55] at hq5 hq5l hqc5 ⊢
  rw [ht55] at ht5 ⊢
  have HX := Lib.hid (And.intro hn5 (And.intro hq55 ht55))
  clear hn5 hq55 ht55
  dsimp only
  iterate 3 (go_step)
  obtain ⟨D6, O6, S6, K6⟩ := st5_at (x0 := .slice AF nF cF) (x1 := .slice Ac5 n5 cc5) (x2 := .slice Aq5 q5 cq5) (x3 := .slice At5 t5 ct5) (x4 := .bool m5.cl) D5 rfl
  generalize (((((w5.setCell ⟨w.heap.size, 0, none⟩ (.slice AF nF cF)).setCell ⟨w.heap.size, 1, none⟩ (.slice Ac5 n5 cc5)).setCell ⟨w.heap.size, 2, none⟩ (.slice Aq5 q5 cq5)).setCell ⟨w.heap.size, 3, none⟩ (.slice At5 t5 ct5)).setCell ⟨w.heap.size, 4, none⟩ (.bool m5.cl)) = w6 at *
  obtain ⟨c60, c61, c62, c63, c64, f6⟩ := five_cells D6
  have hlt6 := blk_lt D6
  have kp6 : ∀ k, k < w5.heap.size → (R k ∨ w4.heap.size ≤ k) → w6.heap[k]? = w5.heap[k]? := fun k _ hR => O6 k (fun e => hRb (e ▸ hR))
  have hq6 := hq5.keep kp6 (Nat.le_of_eq S6.symm)
  have hqa := hq6.rd.below ((Below.refl _ _).alloc (Nat.le_refl _) (.cells #[] 3))
  have hq1 := ints_one m5.q
  obtain ⟨i1, hio, hz0, hz1, hz2⟩ := info_parts infoQi
  have hown := World.ownsRow_lit (e := 3) (size := 1) (base := w6.heap.size) w6 #[] 0 (Nat.le_refl _) (by simp [maxLen]) (by simp)
  have HS6 := Lib.hid S6
  have Z6 := (O6 (w.heap.size + 1) (by omega)).trans Z5
  have hlz6 := blk_lt Z6
  clear c50 c51 c52 c53 c54 f5 S6
  go_wp2_with (first | (at_builtin; refine wpList_app _ rfl (.tmp 38) (.tmp 40) 22 rfl w6.heap.size 3 i1 _ 8 Try.underlying22 hio hz0 hz1 hz2 rfl _ _ _ rfl hown w6.heap.size Aq5 q5 cq5 _ rfl hqa hq1 (by unfold maxLen; omega) (by omega) (by simp) ?_; intro v7 w7 hown7 hg7 hat7) | (at_builtin; refine wpList_app _ rfl (.tmp 41) (.tmp 43) 22 rfl w6.heap.size 3 i1 _ 8 Try.underlying22 hio hz0 hz1 hz2 rfl _ _ _ rfl (hown7.alloc _) (w7.heap.size + 1) _ 1 1 _ rfl (rd_one1 _ _ _) (by intro u hu; rw [List.mem_singleton.1 hu]; rfl) (by unfold maxLen; omega) (by omega) (by simp; have := hg7.size; simp at this; omega) ?_; intro v8 w8 hown8 hg8 hat8; obtain ⟨gq, cq8, rfl, hgq, hgql, hr8, hcq8, hb8⟩ := appX (b := w6.heap.size) ((Below.refl w6.heap.size w6).alloc (Nat.le_refl _) (.cells #[] 3)) (by simp) hg7 (Nat.le_refl _) ((Below.refl w6.heap.size w7).alloc (Nat.le_trans (by simp) hg7.size) (.cells #[.int .i64 ((i : Int) + 1)] 3)) hg8 hown7 hown8 (by omega); obtain ⟨c80, c81, c82, c83, c84, f8⟩ := five_cells ((hb8.block _ hlt6).trans D6); have Z8 := (hb8.block (w.heap.size + 1) hlz6).trans Z6; obtain ⟨z80, z81, z82, z83, z84, fz8⟩ := five_cells Z8; clear hown hown7 hown8 hg7 hg8 hat7 hat8 hqa hio hz0 hz1 hz2 hq1 c60 c61 c62 c63 c64 f6 D6) | fail)
  have hR1 : ¬ (R (w.heap.size + 1) ∨ w4.heap.size ≤ w.heap.size + 1) := fun h => by
    rcases h with h | h
    · have := hR _ h; omega
    · omega
  have s4 := hb5.size
  have s6 := HS6.out
  have s8 := hb8.size
  have kp8 : ∀ k, k < w5.heap.size → (R k ∨ w4.heap.size ≤ k) → w8.heap[k]? = w5.heap[k]? := fun k hk hR => (hb8.block k (by omega)).trans (kp6 k hk hR)
  obtain ⟨hE, hS, hO, hZ, hK⟩ := q_fin (R := fun b => R b ∨ w4.heap.size ≤ b) (b0 := w.heap.size) (b1 := w.heap.size + 1) (by omega) hRb hR1 hA5 HX.out.1 HX.out.2.1 HX.out.2.2 (hc5.keep kp8 (by omega)) (ht5.keep kp8 (by omega)) hr8 (.inr (by omega)) hgql hcq8 rfl HC Z8 rfl
  refine bodyPost_ret (results_row_tmp (p := 4) (u := 5) (ty := 68) rfl _ _ (w.heap.size + 1) _ _ _ _ rfl hE Try.underlying68 rfl infoRS) rfl ⟨_, rfl, hS.imp fun k _ h => h.elim .inl fun h => .inr (by omega), ?_⟩
  exact hb4.trans ((hb5.mono (by omega)).trans ((K6 _ (Nat.le_refl _)).trans ((hb8.mono (by omega)).trans (hK _ (Nat.le_refl _) (by omega)))))

theorem refwake (AF : Option Addr) (nF cF : Nat) (id : Int) (v : Value) (m : RS) (w : World) (R : Nat → Prop) (hs : SAt w R (.slice AF nF cF) v m) (hl : m.cos.length ≤ 20) (hq20 : m.q.length ≤ 100) (hR : ∀ b, R b → b < w.heap.size) :
    Calls Try.prog 55 #[v, .int .i64 id] w fun e w' => ∃ v', e = .returned (.tuple #[v', .bool (rCan m id)]) ∧ SAt w' (fun b => R b ∨ w.heap.size ≤ b) (.slice AF nF cF) v' (rWake m id) ∧ Below w.heap.size w w' := by
  by_cases hc : rCan m id = true
  · have h := hc
    unfold rCan at h
    simp only [Bool.and_eq_true, decide_eq_true_eq] at h
    obtain ⟨h1, h2, h3⟩ := h
    obtain ⟨i, rfl⟩ : ∃ i : Nat, id = (i : Int) + 1 := ⟨(id - 1).toNat, by omega⟩
    have e1 : ((i : Int) + 1 - 1).toNat = i := by omega
    rw [e1] at h3
    have hi : i < m.cos.length := by omega
    obtain ⟨c, hcc⟩ : ∃ c, m.cos[i]? = some c := ⟨_, List.getElem?_eq_getElem hi⟩
    rw [hcc] at h3
    simp only [Option.any_some, beq_iff_eq] at h3
    have e2 : rWake m ((i : Int) + 1) = rWakeC m i c := by unfold rWake; rw [if_pos hc, e1, hcc]
    rw [hc, e2]
    exact refwake_on AF nF cF i c v m w R hs hl hq20 hR hcc h3
  · have hc' : rCan m id = false := by simpa using hc
    have e2 : rWake m id = m := by unfold rWake; rw [if_neg hc]
    rw [hc', e2]
    refine (refwake_off AF nF cF id v m w R hs hl hc').mono ?_
    rintro e w' ⟨rfl, hb⟩
    exact ⟨v, rfl, (hs.below hb).imp fun _ _ h => .inl h, hb⟩
end Go.Proofs.Ytolnmdanlggmhaa

/- The reference: Number, Digit, Count. -/
namespace Go.Proofs.Ytolnmdanlggmhaa
open Go.RowKit Go.Maps

set_option maxRecDepth 100000 in
set_option maxHeartbeats 1000000 in
theorem refnumber (AF : Option Addr) (nF cF : Nat) (k : Int) (v : Value) (m : RS) (w : World) (R : Nat → Prop) (hs : SAt w R (.slice AF nF cF) v m) (hn : 0 < nF) :
    Calls Try.prog 78 #[v, .int .i64 k] w fun e w' => e = .returned (.int .i64 (rNumber nF k : Nat)) ∧ Below w.heap.size w w' := by
  obtain ⟨Ac, Aq, At, cc, cq, ct, _, rfl, _, _, _, _⟩ := hs
  have hr : ((rNumber nF k : Nat) : Int) = (if k < 0 then 0 else k) % (nF : Int) := by
    unfold rNumber
    rw [Int.natCast_emod]
    congr 1
    split <;> omega
  go_enter Try.func78, Try.ntmps78
  go_wp2_with fail
  case inl h =>
    rw [if_pos h] at hr
    go_ret
    exact ⟨ret_eq (by first | rfl | (rw [hr]; rfl)), (Below.refl _ _).alloc (Nat.le_refl _) _⟩
  case inr h =>
    rw [if_neg (by omega)] at hr
    go_ret
    exact ⟨ret_eq (by first | rfl | (rw [hr]; rfl)), (Below.refl _ _).alloc (Nat.le_refl _) _⟩

theorem digit_cut (d : Nat) (h : d < 10) : ({ data := #[48, 49, 50, 51, 52, 53, 54, 55, 56, 57] } : ByteArray).extract d (d + 1) = ⟨#[UInt8.ofNat (48 + d)]⟩ := by
  have : d = 0 ∨ d = 1 ∨ d = 2 ∨ d = 3 ∨ d = 4 ∨ d = 5 ∨ d = 6 ∨ d = 7 ∨ d = 8 ∨ d = 9 := by omega
  rcases this with rfl | rfl | rfl | rfl | rfl | rfl | rfl | rfl | rfl | rfl <;> rfl

theorem rDigit_size : ∀ k n, (rDigit k n).size ≤ k + 1
  | 0, n => Nat.le_refl 1
  | k + 1, n => by
    unfold rDigit
    split
    · show 1 ≤ _
      omega
    · rw [ByteArray.size_append]
      have := rDigit_size k (n / 10)
      have h1 : (rDigit1 n).size = 1 := rfl
      omega

set_option maxRecDepth 100000 in
set_option maxHeartbeats 1000000 in
theorem refdigit : ∀ (k n : Nat) (w : World), n < 10 ^ (k + 1) → n < 1000000 → k ≤ 10 →
    Calls Try.prog 79 #[.int .i64 (n : Int)] w fun e w' => e = .returned (.string (rDigit k n)) ∧ w' = w
  | k, n, w, h, h6, hk10 => by
    have hd := Lib.hid (digit_cut (n % 10) (by omega))
    by_cases h10 : n < 10
    · have e : rDigit k n = rDigit1 n := by cases k <;> simp [rDigit, h10]
      have hi : (n : Int) < 10 := by omega
      rw [e]
      go_enter Try.func79, Try.ntmps79
      go_wp2_with fail
      go_ret
      exact ⟨ret_eq (by rw [hd.out]; rfl), rfl⟩
    · match k with
      | 0 => omega
      | k + 1 =>
        have e : rDigit (k + 1) n = rDigit k (n / 10) ++ rDigit1 n := by simp [rDigit, h10]
        have hi : ¬ (n : Int) < 10 := by omega
        have ih := refdigit k (n / 10) w (by rw [Nat.div_lt_iff_lt_mul (by omega), ← Nat.pow_succ]; exact h) (by omega) (by omega)
        have hz : ¬ 9223372036854775807 < (rDigit k (n / 10)).size + (min (n % 10 + 1) 10 - n % 10) := by have := rDigit_size k (n / 10); omega
        rw [e]
        clear e
        go_enter Try.func79, Try.ntmps79
        go_wp2_with fail
        have ed : (n : Int) / 10 = ((n / 10 : Nat) : Int) := by omega
        rw [ed]
        clear ed
        refine ih.mono ?_
        rintro e w1 ⟨rfl, rfl⟩
        clear ih
        go_wp2_with fail
        go_ret
        exact ⟨ret_eq (by rw [hd.out]; rfl), rfl⟩

theorem cnt_next {l : List RCo} {k : Nat} {c : RCo} (st : Int) (h : l[k]? = some c) : (l.take (k + 1)).countP (fun c => c.st == st) = (l.take k).countP (fun c => c.st == st) + if c.st = st then 1 else 0 := by
  rw [List.take_add_one, h, List.countP_append]
  simp [List.countP_cons]

set_option maxRecDepth 100000 in
set_option maxHeartbeats 1000000 in
theorem refcount (AF : Option Addr) (nF cF : Nat) (st : Int) (v : Value) (m : RS) (w : World) (R : Nat → Prop) (hs : SAt w R (.slice AF nF cF) v m) (hl : m.cos.length ≤ 20) :
    Calls Try.prog 70 #[v, .int .i64 st] w fun e w' => e = .returned (.int .i64 (m.cos.countP (fun c => c.st == st) : Nat)) ∧ Below w.heap.size w w' := by
  obtain ⟨Ac, Aq, At, cc, cq, ct, hA, rfl, hc, _, _, _⟩ := hs
  obtain ⟨n, hn⟩ : ∃ n, m.cos.length = n := ⟨_, rfl⟩
  rw [hn] at hl hc ⊢
  have HN := Lib.hid hn; clear hn
  have D := heap_alloc_new w (.cells #[.slice AF nF cF, .slice Ac n cc, .slice Aq m.q.length cq, .slice At m.tr.length ct, .bool m.cl] 68)
  have hb0 := (Below.refl w.heap.size w).alloc (Nat.le_refl _) (.cells #[.slice AF nF cF, .slice Ac n cc, .slice Aq m.q.length cq, .slice At m.tr.length ct, .bool m.cl] 68)
  go_enter Try.func70, Try.ntmps70
  go_wp2_with fail
  generalize (w.alloc (.cells #[.slice AF nF cF, .slice Ac n cc, .slice Aq m.q.length cq, .slice At m.tr.length ct, .bool m.cl] 68)) = w1 at *
  obtain ⟨_, d1, _, _, _, _⟩ := five_cells D
  have hc1 := hc.below hb0
  go_loop [5, 6] (fun z i => ∃ k : Nat, k ≤ n ∧ i = .int .i64 k ∧ z = .int .i64 ((m.cos.take k).countP (fun c => c.st == st) : Nat)) (fun _ i => n - (intOf i).toNat)
  case atStart => exact ⟨0, Nat.zero_le _, rfl, rfl⟩
  case round =>
    obtain ⟨k, hk, rfl, rfl⟩ := hrel
    by_cases hlt : k < n
    · have hki : (k : Int) < (n : Int) := by omega
      obtain ⟨c, hcc⟩ : ∃ c, m.cos[k]? = some c := ⟨_, List.getElem?_eq_getElem (by have := HN.out; omega)⟩
      obtain ⟨g, hAg, _, _, _, d2, _⟩ := rd_co hA hc1 hcc
      subst hAg
      have hx := cnt_next st hcc
      by_cases hst : c.st = st
      · rw [if_pos hst] at hx
        have hX := Lib.hid hx; clear hx
        have hle : (m.cos.take k).countP (fun c => c.st == st) ≤ 20 := by
          have h1 := List.countP_le_length (p := fun c : RCo => c.st == st) (l := m.cos.take k)
          rw [List.length_take] at h1
          omega
        subst hst
        generalize (m.cos.take k).countP (fun c' => c'.st == c.st) = y at *
        go_wp2_with fail
        go_round
        case rel => exact ⟨k + 1, by omega, by go_num, by rw [hX.out]; go_num⟩
        case measure => simp [intOf]; omega
      · rw [if_neg hst] at hx
        have hX := Lib.hid hx; clear hx
        generalize (m.cos.take k).countP (fun c' => c'.st == st) = y at *
        go_wp2_with fail
        go_round
        case rel => exact ⟨k + 1, by omega, by go_num, by rw [hX.out]; rfl⟩
        case measure => simp [intOf]; omega
    · have hki : ¬ (k : Int) < (n : Int) := by omega
      have e : m.cos.take k = m.cos := List.take_of_length_le (by have := HN.out; omega)
      rw [e]
      go_wp2_with fail
      go_ret
      exact ⟨rfl, hb0⟩
end Go.Proofs.Ytolnmdanlggmhaa

/- What holds of the reference's scheduler at every turn. No program in sight. -/
namespace Go.Proofs.Ytolnmdanlggmhaa

/-- At most 20 coroutines; who waits in the queue is ready, once; the trace has room. -/
structure RInv (fs : List (List RStep)) (m : RS) : Prop where
  len : m.cos.length ≤ 20
  fin : ∀ c ∈ m.cos, c.f < fs.length
  nd : m.q.Nodup
  rdy : ∀ j ∈ m.q, ∃ c, m.cos[j]? = some c ∧ c.st = 1
  room : m.tr.length + rMeas fs m ≤ 5000
/-- While coroutine i has its turn. -/
structure RTn (fs : List (List RStep)) (i : Nat) (m : RS) (c : RCo) : Prop where
  inv : RInv fs m
  get : m.cos[i]? = some c
  st : c.st = 1
  out : i ∉ m.q

theorem RInv.qlen {fs : List (List RStep)} {m : RS} (h : RInv fs m) : m.q.length ≤ 20 := by
  have h1 : m.q.length ≤ (List.range m.cos.length).length := h.nd.length_le_of_subset fun j hj => by
    obtain ⟨c, hc, _⟩ := h.rdy j hj
    exact List.mem_range.2 (List.getElem?_eq_some_iff.1 hc).1
  rw [List.length_range] at h1
  have := h.len
  omega
theorem rSet_get {m : RS} {i j : Nat} {c : RCo} (hj : j ≠ i) : (rSet m i c).cos[j]? = m.cos[j]? := by
  show (m.cos.set i c)[j]? = _
  rw [List.getElem?_set_ne (fun e => hj e.symm)]
theorem rSet_same {m : RS} {i : Nat} {c c' : RCo} (h : m.cos[i]? = some c) : (rSet m i c').cos[i]? = some c' := by
  show (m.cos.set i c')[i]? = _
  have := (List.getElem?_eq_some_iff.1 h).1
  simp [this]
/-- The coroutine at its turn is changed. -/
theorem RTn.set {fs : List (List RStep)} {i : Nat} {m : RS} {c c' : RCo} (h : RTn fs i m c) (hf : c'.f = c.f) (hw : rW fs c' ≤ rW fs c) : RInv fs (rSet m i c') := by
  have hm := rMeas_set (fs := fs) (c' := c') h.get
  refine ⟨by simp only [rSet, List.length_set]; exact h.inv.len, fun x hx => ?_, h.inv.nd, fun j hj => ?_, ?_⟩
  · rcases List.mem_or_eq_of_mem_set hx with hx | rfl
    · exact h.inv.fin x hx
    · rw [hf]
      exact h.inv.fin c (List.mem_of_getElem? h.get)
  · have hne : j ≠ i := fun e => h.out (e ▸ hj)
    rw [rSet_get hne]
    exact h.inv.rdy j hj
  · have := h.inv.room
    show m.tr.length + _ ≤ _
    omega
theorem RTn.step {fs : List (List RStep)} {i : Nat} {m : RS} {c : RCo} {x : RStep} (h : RTn fs i m c) (hx : (rFn fs c.f)[c.pos]? = some x) : RTn fs i (rSet m i { c with pos := c.pos + 1 }) { c with pos := c.pos + 1 } ∧ m.tr.length + rMeas fs (rSet m i { c with pos := c.pos + 1 }) + 1 ≤ 5000 := by
  have hpos : c.pos < (rFn fs c.f).length := (List.getElem?_eq_some_iff.1 hx).1
  have hw : rW fs c = rW fs { c with pos := c.pos + 1 } + 1 := by unfold rW rLeft; simp [h.st]; omega
  have hm := rMeas_set (fs := fs) (c' := { c with pos := c.pos + 1 }) h.get
  have := h.inv.room
  exact ⟨⟨h.set rfl (by omega), rSet_same h.get, h.st, h.out⟩, by omega⟩
theorem RTn.spawn {fs : List (List RStep)} {i : Nat} {m : RS} {c : RCo} {f : Nat} (h : RTn fs i m c) (hl : m.cos.length < 20) (hf : f < fs.length) (h60 : ∀ l ∈ fs, l.length ≤ 60) : RTn fs i (rSpawn m f) c := by
  have hm := rSpawn_meas (f := f) hl h60
  have hil : i < m.cos.length := (List.getElem?_eq_some_iff.1 h.get).1
  have hlt : ∀ j ∈ m.q, j < m.cos.length := fun j hj => by
    obtain ⟨c, hc, _⟩ := h.inv.rdy j hj
    exact (List.getElem?_eq_some_iff.1 hc).1
  refine ⟨⟨by rw [rSpawn_len]; omega, fun x hx => ?_, ?_, fun j hj => ?_, ?_⟩, ?_, h.st, fun hi => ?_⟩
  · rcases List.mem_append.1 hx with hx | hx
    · exact h.inv.fin x hx
    · rw [List.mem_singleton.1 hx]
      exact hf
  · show (m.q ++ [m.cos.length]).Nodup
    rw [List.nodup_append]
    exact ⟨h.inv.nd, by simp, fun a ha b hb e => by rw [List.mem_singleton.1 hb] at e; have := hlt a ha; omega⟩
  · show ∃ c, (m.cos ++ [_])[j]? = some c ∧ _
    rcases List.mem_append.1 hj with hj | hj
    · rw [List.getElem?_append_left (hlt j hj)]
      exact h.inv.rdy j hj
    · rw [List.mem_singleton.1 hj]
      exact ⟨⟨f, 0, 1, ByteArray.empty⟩, by simp, rfl⟩
  · have := h.inv.room
    show m.tr.length + _ ≤ _
    omega
  · show (m.cos ++ [_])[i]? = _
    rw [List.getElem?_append_left hil]
    exact h.get
  · rcases List.mem_append.1 hi with hi | hi
    · exact h.out hi
    · have := List.mem_singleton.1 hi
      omega
theorem rWake_inv {fs : List (List RStep)} {m : RS} {id : Int} (h : RInv fs m) : RInv fs (rWake m id) := by
  have hl := rWake_len (m := m) (id := id)
  have hm := rWake_meas (fs := fs) (m := m) (id := id)
  unfold rWake at hl hm ⊢
  split
  · next hc =>
    rw [if_pos hc] at hl hm
    split
    · next c hcc =>
      rw [hcc] at hl hm
      have h2 : c.st = 2 := by
        unfold rCan at hc
        simp only [Bool.and_eq_true, hcc, Option.any_some, beq_iff_eq] at hc
        exact hc.2.2
      have hni : (id - 1).toNat ∉ m.q := fun hi => by
        obtain ⟨c', e1, e2⟩ := h.rdy _ hi
        rw [hcc] at e1
        cases e1
        omega
      refine ⟨by simp only at hl; rw [hl]; exact h.len, fun x hx => ?_, ?_, fun j hj => ?_, ?_⟩
      · rcases List.mem_or_eq_of_mem_set hx with hx | rfl
        · exact h.fin x hx
        · exact h.fin c (List.mem_of_getElem? hcc)
      · show (m.q ++ [_]).Nodup
        rw [List.nodup_append]
        exact ⟨h.nd, by simp, fun a ha b hb e => by rw [List.mem_singleton.1 hb] at e; exact hni (e ▸ ha)⟩
      · show ∃ c', (rSet m _ _).cos[j]? = some c' ∧ _
        rcases List.mem_append.1 hj with hj | hj
        · have hne : j ≠ (id - 1).toNat := fun e => hni (e ▸ hj)
          rw [rSet_get hne]
          exact h.rdy j hj
        · rw [List.mem_singleton.1 hj]
          exact ⟨_, rSet_same hcc, rfl⟩
      · have := h.room
        simp only at hm
        rw [hm]
        exact this
    · exact h
  · exact h
theorem RTn.wake {fs : List (List RStep)} {i : Nat} {m : RS} {c : RCo} {id : Int} (h : RTn fs i m c) : RTn fs i (rWake m id) c := by
  refine ⟨rWake_inv h.inv, rWake_get h.get (by rw [h.st]; omega), h.st, ?_⟩
  unfold rWake
  split
  · next hc =>
    split
    · next c2 hcc =>
      intro hi
      have h2 : c2.st = 2 := by
        unfold rCan at hc
        simp only [Bool.and_eq_true, hcc, Option.any_some, beq_iff_eq] at hc
        exact hc.2.2
      rcases List.mem_append.1 hi with hi | hi
      · exact h.out hi
      · have e := List.mem_singleton.1 hi
        have hg := h.get
        rw [e, hcc] at hg
        cases hg
        have := h.st
        omega
    · exact h.out
  · exact h.out
theorem RTn.trace {fs : List (List RStep)} {i : Nat} {m : RS} {c : RCo} {t : ByteArray} (h : RTn fs i m c) (hr : m.tr.length + rMeas fs m + 1 ≤ 5000) : RTn fs i (rTr m t) c :=
  ⟨⟨h.inv.len, h.inv.fin, h.inv.nd, h.inv.rdy, by rw [rMeas_tr]; simp only [rTr, List.length_append, List.length_singleton]; omega⟩, h.get, h.st, h.out⟩
theorem RTn.push {fs : List (List RStep)} {i : Nat} {m : RS} {c : RCo} (h : RTn fs i m c) : RInv fs (rPush m i) := by
  refine ⟨h.inv.len, h.inv.fin, ?_, fun j hj => ?_, h.inv.room⟩
  · show (m.q ++ [i]).Nodup
    rw [List.nodup_append]
    exact ⟨h.inv.nd, by simp, fun a ha b hb e => by rw [List.mem_singleton.1 hb] at e; exact h.out (e ▸ ha)⟩
  · rcases List.mem_append.1 hj with hj | hj
    · exact h.inv.rdy j hj
    · rw [List.mem_singleton.1 hj]
      exact ⟨c, h.get, h.st⟩
end Go.Proofs.Ytolnmdanlggmhaa
