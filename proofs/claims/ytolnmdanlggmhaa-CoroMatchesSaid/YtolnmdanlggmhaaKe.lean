/- The functions of the program whose lone contracts serve in company. -/
import Derived.Test.YtolnmdanlggmhaaKd
import Derived.Test.YtolnmdanlggmhaaKa
import Derived.Conc.SmallLaws
import Derived.Shelf.RegionOpenPlain
import Derived.Conc.TokenWords
namespace Go.Proofs.Ytolnmdanlggmhaa
open Go.Conc

def lone18 : List FuncId := [14, 16, 30, 19, 25, 33, 31,
  17, 35, 37, 43, 44, 46, 47,
  49, 50, 66, 82, 51, 53, 54, 55,
  56, 68, 69, 70, 71, 72, 78, 79]
theorem okL18 : okL Try.prog lone18 = true := by kernel_rfl
end Go.Proofs.Ytolnmdanlggmhaa

/- Lone contracts of coro, in worlds in which some cells of the blocks are frozen. -/
namespace Go.Proofs.Ytolnmdanlggmhaa
open Go.RowKit Go.Maps Go.Conc

theorem cellsAt_cell {w : World} {b : Nat} {c : Array Value} {t : TypeId} {lo hi : Nat} (h : CellsAt w b c t lo hi) (i : Nat) (v : Value) (hv : c[i]? = some v) : w.cell? ⟨b, i, none⟩ = some v := by
  obtain ⟨g, h, _⟩ := h
  rw [← hv]
  simp [World.cell?, h]
theorem cellsAt_free {w : World} {b : Nat} {c : Array Value} {t : TypeId} {lo hi : Nat} (h : CellsAt w b c t lo hi) (i : Nat) (hi : ¬ (lo ≤ i ∧ i < hi)) : w.frozen? ⟨b, i, none⟩ = false := by
  obtain ⟨g, h, h2⟩ := h
  unfold World.frozen?
  simp only [h]
  have := fun e => hi (h2 i e)
  simp only [Bool.and_eq_false_iff, decide_eq_false_iff_not]
  by_cases h1 : g.1 ≤ i
  · right; intro h3; exact this ⟨h1, h3⟩
  · exact .inl h1
theorem cellsAt_lt {w : World} {b : Nat} {c : Array Value} {t : TypeId} {lo hi : Nat} (h : CellsAt w b c t lo hi) : b < w.heap.size := by
  obtain ⟨g, h, _⟩ := h
  exact blk_lt h

theorem wrap_id {x : Int} (h1 : -9223372036854775808 ≤ x) (h2 : x < 9223372036854775808) : IntKind.wrap .i64 x = x := by
  have : IntKind.i64.wrap x = (x + 9223372036854775808) % 18446744073709551616 - 9223372036854775808 := by
    simp only [IntKind.wrap, IntKind.signed, IntKind.bits, Bool.true_and]
    split <;> simp_all <;> omega
  rw [this]
  omega
def ptr (b : Nat) : Value := .pointer (some ⟨b, 0, none⟩)
/-- A scheduler's block. -/
def SchAt (w : World) (sb qb sc : Nat) (v : Value) (cl : Bool) : Prop := CellsAt w sb #[v, .pointer (some ⟨qb, 0, none⟩), .chan (some sc), .bool cl] 90 2 3
structure CoR where
  b : Nat
  ch : Nat
  f : Value
  begun : Bool
  st : Int
  txt : ByteArray
def CoR.cells (c : CoR) (sb : Nat) (i : Nat) : Array Value := #[.pointer (some ⟨sb, 0, none⟩), .int .i64 ((i : Int) + 1), c.f, .chan (some c.ch), .bool c.begun, .int .i64 c.st, .string c.txt]
def CoAt (w : World) (sb i : Nat) (c : CoR) : Prop := CellsAt w c.b (c.cells sb i) 92 0 4

set_option maxRecDepth 100000
set_option maxHeartbeats 1000000

theorem closed_at (w : World) (sb qb sc : Nat) (v : Value) (cl : Bool) (h : SchAt w sb qb sc v cl) :
    Calls Try.prog 50 #[.pointer (some ⟨sb, 0, none⟩)] w fun e w' => e = .returned (.bool cl) ∧ w' = w := by
  have c3 := cellsAt_cell h 3 (.bool cl) rfl
  clear h
  go_enter Try.func50, Try.ntmps50
  go_wp2_with fail
  go_ret
  exact ⟨rfl, rfl⟩
theorem id_at (w : World) (sb i : Nat) (c : CoR) (h : CoAt w sb i c) :
    Calls Try.prog 46 #[.pointer (some ⟨c.b, 0, none⟩)] w fun e w' => e = .returned (.int .i64 ((i : Int) + 1)) ∧ w' = w := by
  have c1 := cellsAt_cell h 1 (.int .i64 ((i : Int) + 1)) rfl
  clear h
  go_enter Try.func46, Try.ntmps46
  go_wp2_with fail
  go_ret
  exact ⟨rfl, rfl⟩
/-- get of a number that is one. -/
theorem get_at (w : World) (sb qb sc n cap : Nat) (A : Option Addr) (cl : Bool) (xs : List Value) (i : Nat) (x : Value) (h : SchAt w sb qb sc (.slice A n cap) cl) (hr : QRow w (.slice A n cap) xs) (hx : xs[i]? = some x) (hn : (n : Int) < 9223372036854775807) :
    Calls Try.prog 66 #[.pointer (some ⟨sb, 0, none⟩), .int .i64 ((i : Int) + 1)] w fun e w' => e = .returned x ∧ w' = w := by
  have c0 := cellsAt_cell h 0 (.slice A n cap) rfl
  have hrd := hr.rd
  have hin : i < n := by have := hrd.len; have := (List.getElem?_eq_some_iff.1 hx).1; omega
  obtain ⟨ad, hA, _, hcell⟩ := hrd.at' i x hx
  have hid1 : ¬ ((i : Int) + 1 < 1) := by omega
  have hid2 : ¬ ((n : Int) < (i : Int) + 1) := by omega
  have hwr : IntKind.wrap .i64 ((i : Int) + 1 - 1) = i := by rw [show (i : Int) + 1 - 1 = i by omega]; exact wrap_id (by omega) (by omega)
  generalize (i : Int) + 1 = id at *
  clear h hr hrd
  subst hA
  go_enter Try.func66, Try.ntmps66
  go_wp2_with fail
  go_ret
  exact ⟨rfl, rfl⟩
theorem state_at (w : World) (sb qb sc n cap : Nat) (A : Option Addr) (cl : Bool) (xs : List Value) (i : Nat) (c : CoR) (h : SchAt w sb qb sc (.slice A n cap) cl) (hr : QRow w (.slice A n cap) xs) (hx : xs[i]? = some (.pointer (some ⟨c.b, 0, none⟩))) (hn : (n : Int) < 9223372036854775807) (hc : CoAt w sb i c) :
    Calls Try.prog 43 #[.pointer (some ⟨sb, 0, none⟩), .int .i64 ((i : Int) + 1)] w fun e w' => e = .returned (.int .i64 c.st) ∧ w' = w := by
  have hg := get_at w sb qb sc n cap A cl xs i _ h hr hx hn
  have c5 := cellsAt_cell hc 5 (.int .i64 c.st) rfl
  clear h hr hx hc
  generalize (i : Int) + 1 = id at *
  go_enter Try.func43, Try.ntmps43
  go_wp2_with fail
  refine hg.mono ?_
  rintro e w1 ⟨rfl, rfl⟩
  go_wp2_with fail
  go_ret
  exact ⟨rfl, rfl⟩
theorem text_at (w : World) (sb qb sc n cap : Nat) (A : Option Addr) (cl : Bool) (xs : List Value) (i : Nat) (c : CoR) (h : SchAt w sb qb sc (.slice A n cap) cl) (hr : QRow w (.slice A n cap) xs) (hx : xs[i]? = some (.pointer (some ⟨c.b, 0, none⟩))) (hn : (n : Int) < 9223372036854775807) (hc : CoAt w sb i c) :
    Calls Try.prog 44 #[.pointer (some ⟨sb, 0, none⟩), .int .i64 ((i : Int) + 1)] w fun e w' => e = .returned (.string c.txt) ∧ w' = w := by
  have hg := get_at w sb qb sc n cap A cl xs i _ h hr hx hn
  have c6 := cellsAt_cell hc 6 (.string c.txt) rfl
  clear h hr hx hc
  generalize (i : Int) + 1 = id at *
  go_enter Try.func44, Try.ntmps44
  go_wp2_with fail
  refine hg.mono ?_
  rintro e w1 ⟨rfl, rfl⟩
  go_wp2_with fail
  go_ret
  exact ⟨rfl, rfl⟩

@[go_sem] theorem run_chan0 (w : World) : (Instr.makeChan 87 (.int .i64 0)).run Try.prog w = .ok (.chan (some w.heap.size)) (w.alloc (.chan 0 #[] false 0 0 false)) := by kernel_rfl
theorem alloc_new' (w : World) (o : Obj) {b : Nat} (h : b = w.heap.size) : (w.alloc o).heap[b]? = some o := by
  subst h
  show (w.heap.push o)[w.heap.size]? = _
  simp
end Go.Proofs.Ytolnmdanlggmhaa

/- The lone contract of Spawn. -/
namespace Go.Proofs.Ytolnmdanlggmhaa
open Go.RowKit Go.Maps Go.Conc

theorem cellsAt_set {w : World} {b : Nat} {c : Array Value} {t : TypeId} {lo hi : Nat} (h : CellsAt w b c t lo hi) (i : Nat) (x : Value) : CellsAt (w.setCell ⟨b, i, none⟩ x) b (c.setIfInBounds i x) t lo hi := by
  obtain ⟨g, h, h2⟩ := h
  exact ⟨g, by rw [setCell_get, if_pos rfl, h]; rfl, h2⟩
theorem cellsAt_keep {w w' : World} {b : Nat} {c : Array Value} {t : TypeId} {lo hi : Nat} (h : CellsAt w b c t lo hi) (hk : w'.heap[b]? = w.heap[b]?) : CellsAt w' b c t lo hi := by
  obtain ⟨g, h, h2⟩ := h
  exact ⟨g, hk.trans h, h2⟩


set_option maxRecDepth 100000
set_option maxHeartbeats 2000000


end Go.Proofs.Ytolnmdanlggmhaa

/- turn, in company. -/
namespace Go.Proofs.Ytolnmdanlggmhaa
open Go.RowKit Go.Maps Go.Conc

set_option maxRecDepth 100000
set_option maxHeartbeats 2000000

/-- A part of a code: 0, 1: of a sequence; 2, 3: of a condition; 4: a body. -/
def sel : List Nat → Code → Code
  | 0 :: p, .seq a _ => sel p a
  | 1 :: p, .seq _ b => sel p b
  | 2 :: p, .cond _ a _ => sel p a
  | 3 :: p, .cond _ _ b => sel p b
  | 4 :: p, .block _ c => sel p c
  | 4 :: p, .loop c => sel p c
  | _, c => c
def opsOf : Code → Array Oper
  | .region _ ops _ => ops
  | _ => #[]
noncomputable abbrev bodyT : Code := Try.f64.body.getD .skip
/-- turn's slots ahead of its go statement. -/
def turnA (c : Nat) : Array Value := #[ptr c, undef, ptr c, ptr c, .pointer (some ⟨c, 4, none⟩), .bool false, .bool true, ptr c, ptr c, .pointer (some ⟨c, 4, none⟩), ptr c, undef, undef, undef, undef, undef, undef, undef, undef, undef, undef, undef, undef, undef]
/-- turn at its go statement. -/
noncomputable def turnGo (c : Nat) (cs : List Frame) : Goroutine := G ((base 64).at ⟨turnA c, []⟩ [.inRegion (opsOf (sel [0, 1, 2, 1] bodyT)) [1], .code (sel [1] bodyT)]) cs

theorem turn_own {main : Bool} {Z : Addr → Prop} {Stop : Goroutine → World → Prop} {w₀ u : World} {cs : List Frame} {sb i : Nat} {c : CoR} (hc : CoAt u sb i c) (hb : c.begun = false)
    (hk : OwnU Try.prog main Z Stop w₀ (turnGo c.b cs) (u.setCell ⟨c.b, 4, none⟩ (.bool true))) :
    OwnU Try.prog main Z Stop w₀ (G ((base 64).at { tmps := #[.pointer (some ⟨c.b, 0, none⟩), undef, undef, undef, undef, undef, undef, undef, undef, undef, undef, undef, undef, undef, undef, undef, undef, undef, undef, undef, undef, undef, undef, undef], defers := [] } [.code bodyT]) cs) u := by
  refine ownU_seq ?_
  refine ownU_seq ?_
  refine ownU_codeK okL18 (by kernel_rfl) (by decide) ⟨_, Try.func64⟩ fun A d => ?_
  have hc' : CoAt (tp u A d) sb i c := hc
  have c4 := cellsAt_cell hc' 4 (.bool false) (by rw [← hb]; rfl)
  have f4 := cellsAt_free hc' 4 (by omega)
  have hk' := ownU_tp (A := A) (d := d).2 hk
  have e : tp (u.setCell ⟨c.b, 4, none⟩ (.bool true)) A d = (tp u A d).setCell ⟨c.b, 4, none⟩ (.bool true) := rfl
  rw [e] at hk'
  clear hk e hc
  generalize tp u A d = u' at *
  clear hc'
  go_wp2_with fail
  refine ownU_cond (t := true) rfl ?_
  simp only [if_true]
  refine ownU_seq ?_
  refine ownU_codeK okL18 (by kernel_rfl) (by decide) ⟨_, Try.func64⟩ fun A d => ?_
  have c4' : (tp u' A d).cell? ⟨c.b, 4, none⟩ = some (.bool false) := c4
  have f4' : (tp u' A d).frozen? ⟨c.b, 4, none⟩ = false := f4
  have hk'' := ownU_tp (A := A) (d := d).2 hk'
  have e : tp (u'.setCell ⟨c.b, 4, none⟩ (.bool true)) A d = (tp u' A d).setCell ⟨c.b, 4, none⟩ (.bool true) := rfl
  rw [e] at hk''
  clear hk' e c4 f4
  generalize tp u' A d = u'' at *
  go_wp2_with fail
  refine ownU_region ?_
  refine ownU_op (L := lone18) rfl (by rfl) rfl (by decide) (fun A d => ?_)
  refine ownU_tp.2 ?_
  exact hk''

theorem sf_of {FC : List Row} {r : Row} (hr : r ∈ FC) {i : Nat} (hi : i < r.xs.length) {a : Addr} (ha : a = ⟨r.b, r.lo + i, none⟩) : SF FC (.cell a) := ⟨_, rfl, r, hr, i, hi, ha⟩

/-- turn's slots at its send. -/
def turnB (c ch : Nat) : Array Value := #[ptr c, undef, ptr c, ptr c, .pointer (some ⟨c, 4, none⟩), .bool false, .bool true, ptr c, ptr c, .pointer (some ⟨c, 4, none⟩), ptr c, ptr c, ptr c, .pointer (some ⟨c, 3, none⟩), .chan (some ch), .agg #[], undef, undef, undef, undef, undef, undef, undef, undef]
noncomputable def turnSend (c ch : Nat) (cs : List Frame) : Goroutine := G ((base 64).at ⟨turnB c ch, []⟩ [.inRegion (opsOf (sel [1, 0] bodyT)) [5], .code (sel [1, 1] bodyT)]) cs

theorem turn_send_at {main : Bool} {K : World → Prop} (c ch : Nat) (cs : List Frame) : AtSend Try.prog main K ch (.agg #[]) (.tuple #[]) (turnSend c ch cs) (turnSend c ch cs) := by
  refine ⟨rfl, fun w _ => ?_⟩
  unfold turnSend
  have hr : (execOp (Act.eval ⟨turnB c ch, []⟩) ((opsOf (sel [1, 0] bodyT))[5]?.getD default)).run Try.prog w = .ok (.comm #[scase ch (.agg #[]) (.tuple #[])] true .send) w := by rfl
  rw [stepG_comm (ops := opsOf (sel [1, 0] bodyT)) (i := 5) rfl (by rfl) (by decide) hr]
  rfl

section
variable {P : Program} {main : Bool} {K : World → Prop} {Still : Loc → Prop} {B n : Nat} {Stop : Goroutine → World → Prop} {w : World} {g g' : Goroutine}
theorem gk_still (hs : g.status = .running) (h : ∀ w, stepG P main g w = .go g' w) (hk : Goes P main (RK K) (DS Still B) Stop n g' w) : Goes P main (RK K) (DS Still B) Stop (n + 1) g w :=
  Goes.step hs fun w₁ h₁ => by
    rw [h]
    exact ⟨⟨rfl, by simp⟩, Goes.rely (fun _ _ _ _ h => h) hk h₁⟩
theorem gk_read {b : Frame} {a : Act} {k : List Item} {cs : List Frame} {ops : Array Oper} {i : Nat} {rest : List Nat} {o : Oper} {z : Value} (ho : ops[i]? = some o) (hw : Region.wanted o (yielded ops a.tmps) = true) (hb : b.kind ≠ .early)
    (h : ∀ w, K w → (execOp a.eval o).run P w = .ok (.value z) w ∧ ∀ e ∈ (execOp a.eval o).events P w #[], EvC Still B e)
    (hk : Goes P main (RK K) (DS Still B) Stop n (G (b.at (a.put o.dst z) (.inRegion ops rest :: k)) cs) w) : Goes P main (RK K) (DS Still B) Stop (n + 1) (G (b.at a (.inRegion ops (i :: rest) :: k)) cs) w :=
  Goes.step rfl fun w₁ h₁ => by
    obtain ⟨h2, h3⟩ := h w₁ h₁
    rw [stepG_value ho hw hb h2]
    exact ⟨⟨rfl, fun e he => h3 e (mem_listed he)⟩, Goes.rely (fun _ _ _ _ h => h) hk h₁⟩
theorem gk_quiet {b : Frame} {a : Act} {k : List Item} {cs : List Frame} {ops : Array Oper} {i : Nat} {rest : List Nat} {o : Oper} (z : Value) (ho : ops[i]? = some o) (hw : Region.wanted o (yielded ops a.tmps) = true) (hb : b.kind ≠ .early)
    (h : ∀ w, (execOp a.eval o).run P w = .ok (.value z) w) (he : ∀ w, (execOp a.eval o).events P w #[] = #[])
    (hk : Goes P main (RK K) (DS Still B) Stop n (G (b.at (a.put o.dst z) (.inRegion ops rest :: k)) cs) w) : Goes P main (RK K) (DS Still B) Stop (n + 1) (G (b.at a (.inRegion ops (i :: rest) :: k)) cs) w :=
  gk_read ho hw hb (fun w _ => ⟨h w, fun e hm => by rw [he] at hm; simp at hm⟩) hk
end

/-- A load of one cell. -/
def Loads1 (P : Program) (t : TypeId) : Prop := ∀ (w : World) (ad : Addr) (v : Value), w.cell? ad = some v → (Instr.loadAt t (.pointer (some ad))).run P w = .ok v w ∧ (Instr.loadAt t (.pointer (some ad))).events P w #[] = #[⟨.cell ad, false, false⟩]
theorem loads_chan : Loads1 Try.prog 87 := fun w ad v h => ⟨by simp [go_sem, h], by simp [go_sem, h]⟩
theorem loads_sched : Loads1 Try.prog 53 := fun w ad v h => ⟨by simp [go_sem, h], by simp [go_sem, h]⟩
theorem loads_co : Loads1 Try.prog 58 := fun w ad v h => ⟨by simp [go_sem, h], by simp [go_sem, h]⟩
theorem load_op {P : Program} {a : Act} {o : Oper} {t : TypeId} {x : Operand} {ad : Addr} {v : Value} {w : World} (hl : Loads1 P t) (ho : o.op = .load t x) (hx : a.eval x = .pointer (some ad)) (hc : w.cell? ad = some v) :
    (execOp a.eval o).run P w = .ok (.value v) w ∧ (execOp a.eval o).events P w #[] = #[⟨.cell ad, false, false⟩] := by
  obtain ⟨h1, h2⟩ := hl w ad v hc
  unfold execOp
  simp only [ho, hx]
  constructor
  · rw [Sem.run_bind, h1]
    rfl
  · rw [Sem.events_bind, h1]
    simp only [Result.evThen_ok]
    rw [h2]
    simp

theorem gk_load {P : Program} {main : Bool} {K : World → Prop} {Still : Loc → Prop} {B n : Nat} {Stop : Goroutine → World → Prop} {w : World} {b : Frame} {a : Act} {k : List Item} {cs : List Frame} {ops : Array Oper} {i : Nat} {rest : List Nat} {o : Oper} {t : TypeId} {x : Operand} (ad : Addr) (v : Value)
    (ho : ops[i]? = some o) (hw : Region.wanted o (yielded ops a.tmps) = true) (hb : b.kind ≠ .early) (hl : Loads1 P t) (hop : o.op = .load t x) (hx : a.eval x = .pointer (some ad)) (hc : ∀ w, K w → w.cell? ad = some v) (hS : Still (.cell ad)) (hB : ad.block < B)
    (hk : Goes P main (RK K) (DS Still B) Stop n (G (b.at (a.put o.dst v) (.inRegion ops rest :: k)) cs) w) : Goes P main (RK K) (DS Still B) Stop (n + 1) (G (b.at a (.inRegion ops (i :: rest) :: k)) cs) w :=
  gk_read ho hw hb (fun w h => by
    obtain ⟨h1, h2⟩ := load_op hl hop hx (hc w h)
    refine ⟨h1, fun e he => ?_⟩
    rw [h2] at he
    simp only [List.mem_toArray, List.mem_cons, List.not_mem_nil, or_false] at he
    subst he
    exact ⟨_, rfl, hS, hB⟩) hk

theorem turn_walk {main : Bool} {FC : List Row} {B : Nat} {w : World} {cs : List Frame} {c ch : Nat} {x0 x1 x2 : Value} (hr : (⟨c, 0, [x0, x1, x2, .chan (some ch)]⟩ : Row) ∈ FC) (hB : c < B) :
    Goes Try.prog main (RK (KF FC)) (DS (SF FC) B) (fun g _ => AtSend Try.prog main (KF FC) ch (.agg #[]) (.tuple #[]) (turnSend c ch cs) g) 8 (G ((base 64).at ⟨turnA c, []⟩ [.inRegion (opsOf (sel [0, 1, 2, 1] bodyT)) [], .code (sel [1] bodyT)]) cs) w := by
  refine gk_still rfl (fun _ => stepG_region_end) ?_
  refine gk_still rfl (fun _ => stepG_seq (x := sel [1, 0] bodyT) (y := sel [1, 1] bodyT)) ?_
  refine gk_still rfl (fun _ => stepG_region (id := 3) (ops := opsOf (sel [1, 0] bodyT))) ?_
  refine gk_quiet (i := 0) (rest := [1, 2, 3, 4, 5]) (ptr c) rfl (by rfl) (by decide) (fun _ => by kernel_rfl) (fun _ => by kernel_rfl) ?_
  refine gk_quiet (i := 1) (rest := [2, 3, 4, 5]) (ptr c) rfl (by rfl) (by decide) (fun _ => by kernel_rfl) (fun _ => by kernel_rfl) ?_
  refine gk_quiet (i := 2) (rest := [3, 4, 5]) (.pointer (some ⟨c, 3, none⟩)) rfl (by rfl) (by decide) (fun _ => by kernel_rfl) (fun _ => by kernel_rfl) ?_
  refine gk_load (i := 3) (rest := [4, 5]) ⟨c, 3, none⟩ (.chan (some ch)) rfl (by rfl) (by decide) loads_chan rfl rfl (fun w h => h _ hr 3 _ rfl) (sf_of hr (i := 3) (by simp) rfl) hB ?_
  refine gk_quiet (i := 4) (rest := [5]) (.agg #[]) rfl (by rfl) (by decide) (fun _ => by kernel_rfl) (fun _ => by kernel_rfl) ?_
  exact Goes.stop fun w₁ _ => turn_send_at c ch cs

/-- turn's slots at its receive. -/
def turnC (c ch sb sc : Nat) : Array Value := #[ptr c, undef, ptr c, ptr c, .pointer (some ⟨c, 4, none⟩), .bool false, .bool true, ptr c, ptr c, .pointer (some ⟨c, 4, none⟩), ptr c, ptr c, ptr c, .pointer (some ⟨c, 3, none⟩), .chan (some ch), .agg #[], ptr c, ptr c, .pointer (some ⟨c, 0, none⟩), ptr sb, ptr sb, .pointer (some ⟨sb, 2, none⟩), .chan (some sc), undef]
noncomputable def turnSeat (c ch sb sc : Nat) (cs : List Frame) : Goroutine := G ((base 64).at ⟨turnC c ch sb sc, []⟩ [.inRegion (opsOf (sel [1, 1] bodyT)) [7]]) cs

theorem comm_quiet {P : Program} {main : Bool} {b : Frame} {a : Act} {k : List Item} {cs : List Frame} {ops : Array Oper} {i : Nat} {rest : List Nat} {o : Oper} {w : World} {cases : Array CommCase} {shape : CommShape} (ho : ops[i]? = some o) (hw : Region.wanted o (yielded ops a.tmps) = true) (hb : b.kind ≠ .early)
    (hr : (execOp a.eval o).run P w = .ok (.comm cases true shape) w) (he : (execOp a.eval o).events P w #[] = #[]) : stepG P main (G (b.at a (.inRegion ops (i :: rest) :: k)) cs) w = .comm (G (b.at a (.inRegion ops (i :: rest) :: k)) cs) cases true shape w := by
  rw [stepG_comm ho hw hb hr]
  unfold listed
  rw [he, seen_none]
theorem turn_recv_at {main : Bool} {K : World → Prop} {Still : Loc → Prop} {B : Nat} (c ch sb sc : Nat) (cs : List Frame) : AtIn Try.prog main K Still B (Seat.one sc (.agg #[]) false (· = turnSeat c ch sb sc cs)) (turnSeat c ch sb sc cs) (turnSeat c ch sb sc cs) := by
  refine ⟨rfl, rfl, rfl, rfl, rfl, #[], by simp, fun w _ => ?_⟩
  exact comm_quiet (ops := opsOf (sel [1, 1] bodyT)) (i := 7) rfl (by rfl) (by decide) (by kernel_rfl) (by kernel_rfl)

theorem turn_sits {main : Bool} {FC : List Row} {B : Nat} {cs : List Frame} {c ch sb sc : Nat} {x1 x2 x3 : Value} (hr : (⟨c, 0, [ptr sb, x1, x2, x3]⟩ : Row) ∈ FC) (hs : (⟨sb, 2, [.chan (some sc)]⟩ : Row) ∈ FC) (hB : c < B) (hB' : sb < B) :
    Sits Try.prog main (KF FC) (SF FC) B (Seat.one sc (.agg #[]) false (· = turnSeat c ch sb sc cs)) 10 (Conc.served (turnSend c ch cs) undef) := by
  refine .inl ⟨9, default, rfl, ?_⟩
  show Goes _ _ _ _ _ _ (G ((base 64).at ⟨turnB c ch, []⟩ [.inRegion (opsOf (sel [1, 0] bodyT)) [], .code (sel [1, 1] bodyT)]) cs) _
  refine gk_still rfl (fun _ => stepG_region_end) ?_
  refine gk_still rfl (fun _ => stepG_region (id := 4) (ops := opsOf (sel [1, 1] bodyT))) ?_
  refine gk_quiet (i := 0) (rest := [1, 2, 3, 4, 5, 6, 7]) (ptr c) rfl (by rfl) (by decide) (fun _ => by kernel_rfl) (fun _ => by kernel_rfl) ?_
  refine gk_quiet (i := 1) (rest := [2, 3, 4, 5, 6, 7]) (ptr c) rfl (by rfl) (by decide) (fun _ => by kernel_rfl) (fun _ => by kernel_rfl) ?_
  refine gk_quiet (i := 2) (rest := [3, 4, 5, 6, 7]) (.pointer (some ⟨c, 0, none⟩)) rfl (by rfl) (by decide) (fun _ => by kernel_rfl) (fun _ => by kernel_rfl) ?_
  refine gk_load (i := 3) (rest := [4, 5, 6, 7]) ⟨c, 0, none⟩ (ptr sb) rfl (by rfl) (by decide) loads_sched rfl rfl (fun w h => h _ hr 0 _ rfl) (sf_of hr (i := 0) (by simp) rfl) hB ?_
  refine gk_quiet (i := 4) (rest := [5, 6, 7]) (ptr sb) rfl (by rfl) (by decide) (fun _ => by kernel_rfl) (fun _ => by kernel_rfl) ?_
  refine gk_quiet (i := 5) (rest := [6, 7]) (.pointer (some ⟨sb, 2, none⟩)) rfl (by rfl) (by decide) (fun _ => by kernel_rfl) (fun _ => by kernel_rfl) ?_
  refine gk_load (i := 6) (rest := [7]) ⟨sb, 2, none⟩ (.chan (some sc)) rfl (by rfl) (by decide) loads_chan rfl rfl (fun w h => h _ hs 0 _ rfl) (sf_of hs (i := 0) (by simp) rfl) hB' ?_
  exact Goes.stop fun w₁ _ => ⟨_, turn_recv_at c ch sb sc cs⟩
end Go.Proofs.Ytolnmdanlggmhaa

/- A coroutine's goroutine on its way to its first receive. -/
namespace Go.Proofs.Ytolnmdanlggmhaa
open Go.RowKit Go.Maps Go.Conc

set_option maxRecDepth 100000
set_option maxHeartbeats 2000000

def runCall (c : Nat) : Deferred := { target := .fn (.func 75) #[], args := #[ptr c] }
noncomputable abbrev bodyR : Code := Try.f75.body.getD .skip
/-- The frame of a goroutine beneath its function's. -/
noncomputable def botR : Frame := { (default : Frame) with fn := Try.prog.funcs.size, defers := [], mode := .panicking [goexitEntry] }
theorem born_run (c : Nat) (w : World) : stepG Try.prog false (born Try.prog (runCall c)) w = .go (G ((baseD 75).at ⟨#[ptr c, undef, undef, undef, undef, undef, undef, undef, undef, undef, undef, undef, undef, undef, undef, undef, undef], []⟩ [.code bodyR]) [botR]) w := by
  simp [born, runCall, stepG, unwind, callDeferred, invoke, callFunc, Try.func75, Try.f75, seen, GStep.after, G, Frame.enter, Frame.at, baseD, botR, bodyR]

section
variable {P : Program} {main : Bool} {R : World → World → Prop} {n : Nat} {Stop : Goroutine → World → Prop} {w : World} {g g' : Goroutine}
theorem gm_still (hR : ∀ a b c, R a b → R b c → R a c) (hs : g.status = .running) (h : ∀ w, stepG P main g w = .go g' w) (hk : Goes P main R DMute Stop n g' w) : Goes P main R DMute Stop (n + 1) g w :=
  Goes.step hs fun w₁ h₁ => by
    rw [h]
    exact ⟨⟨rfl, rfl⟩, Goes.rely hR hk h₁⟩
end

theorem value_quiet {P : Program} {main : Bool} {b : Frame} {a : Act} {k : List Item} {cs : List Frame} {ops : Array Oper} {i : Nat} {rest : List Nat} {o : Oper} {w w' : World} {z : Value} (ho : ops[i]? = some o) (hw : Region.wanted o (yielded ops a.tmps) = true) (hb : b.kind ≠ .early)
    (hr : (execOp a.eval o).run P w = .ok (.value z) w') (he : (execOp a.eval o).events P w #[] = #[]) : stepG P main (G (b.at a (.inRegion ops (i :: rest) :: k)) cs) w = .go (G (b.at (a.put o.dst z) (.inRegion ops rest :: k)) cs) w' := by
  rw [stepG_value ho hw hb hr]
  unfold listed
  rw [he, seen_none]
/-- run, its parameter boxed (in block nb). -/
noncomputable def runBoxed (c nb : Nat) : Goroutine := G ((baseD 75).at ⟨#[ptr c, ptr nb, undef, undef, undef, undef, undef, undef, undef, undef, undef, undef, undef, undef, undef, undef, undef], []⟩ [.inRegion (opsOf (sel [0] bodyR)) [], .code (sel [1] bodyR)]) [botR]

theorem child_box {FC : List Row} {w : World} {c : Nat} : Goes Try.prog false (fun _ w₁ => KF FC w₁ ∧ w₁.heap.size = w.heap.size) DMute (AtBox Try.prog (.cells #[ptr c] 58) (runBoxed c w.heap.size)) 3 (born Try.prog (runCall c)) w := by
  refine gm_still (fun _ _ _ _ h => h) rfl (born_run c) ?_
  refine gm_still (fun _ _ _ _ h => h) rfl (fun _ => stepG_seq (x := sel [0] bodyR) (y := sel [1] bodyR)) ?_
  refine gm_still (fun _ _ _ _ h => h) rfl (fun _ => stepG_region (id := 0) (ops := opsOf (sel [0] bodyR))) ?_
  refine Goes.stop fun w₁ h₁ => ⟨rfl, ?_⟩
  rw [show runBoxed c w.heap.size = runBoxed c w₁.heap.size by rw [h₁.2]]
  exact value_quiet (ops := opsOf (sel [0] bodyR)) (i := 0) (rest := []) (z := ptr w₁.heap.size) rfl (by rfl) (by decide) (by rfl) (by kernel_rfl)

/-- run at its receive. -/
noncomputable def runSeat (c ch nb : Nat) : Goroutine := G ((baseD 75).at ⟨#[ptr c, ptr nb, ptr c, ptr c, .pointer (some ⟨c, 3, none⟩), .chan (some ch), undef, undef, undef, undef, undef, undef, undef, undef, undef, undef, undef], []⟩ [.inRegion (opsOf (sel [1, 0] bodyR)) [4], .code (sel [1, 1] bodyR)]) [botR]

theorem run_recv_at {K : World → Prop} {Still : Loc → Prop} {B : Nat} (c ch nb : Nat) : AtIn Try.prog false K Still B (Seat.one ch (.agg #[]) false (· = runSeat c ch nb)) (runSeat c ch nb) (runSeat c ch nb) := by
  refine ⟨rfl, rfl, rfl, rfl, rfl, #[], by simp, fun w _ => ?_⟩
  exact comm_quiet (ops := opsOf (sel [1, 0] bodyR)) (i := 4) rfl (by rfl) (by decide) (by kernel_rfl) (by kernel_rfl)

theorem child_sits {FC : List Row} {B : Nat} {c ch nb : Nat} {x0 x1 x2 : Value} (hr : (⟨c, 0, [x0, x1, x2, .chan (some ch)]⟩ : Row) ∈ FC) (hs : (⟨nb, 0, [ptr c]⟩ : Row) ∈ FC) (hB : c < B) (hB' : nb < B) :
    Sits Try.prog false (KF FC) (SF FC) B (Seat.one ch (.agg #[]) false (· = runSeat c ch nb)) 8 (runBoxed c nb) := by
  refine .inl ⟨7, default, rfl, ?_⟩
  refine gk_still rfl (fun _ => stepG_region_end) ?_
  refine gk_still rfl (fun _ => stepG_seq (x := sel [1, 0] bodyR) (y := sel [1, 1] bodyR)) ?_
  refine gk_still rfl (fun _ => stepG_region (id := 1) (ops := opsOf (sel [1, 0] bodyR))) ?_
  refine gk_load (i := 0) (rest := [1, 2, 3, 4]) ⟨nb, 0, none⟩ (ptr c) rfl (by rfl) (by decide) loads_co rfl rfl (fun w h => h _ hs 0 _ rfl) (sf_of hs (i := 0) (by simp) rfl) hB' ?_
  refine gk_quiet (i := 1) (rest := [2, 3, 4]) (ptr c) rfl (by rfl) (by decide) (fun _ => by kernel_rfl) (fun _ => by kernel_rfl) ?_
  refine gk_quiet (i := 2) (rest := [3, 4]) (.pointer (some ⟨c, 3, none⟩)) rfl (by rfl) (by decide) (fun _ => by kernel_rfl) (fun _ => by kernel_rfl) ?_
  refine gk_load (i := 3) (rest := [4]) ⟨c, 3, none⟩ (.chan (some ch)) rfl (by rfl) (by decide) loads_chan rfl rfl (fun w h => h _ hr 3 _ rfl) (sf_of hr (i := 3) (by simp) rfl) hB ?_
  exact Goes.stop fun w₁ _ => ⟨_, run_recv_at c ch nb⟩

theorem go_at {main : Bool} (c : Nat) (cs : List Frame) (w : World) : stepG Try.prog main (turnGo c cs) w = .spawn (G ((base 64).at ⟨turnA c, []⟩ [.inRegion (opsOf (sel [0, 1, 2, 1] bodyT)) [], .code (sel [1] bodyT)]) cs) (born Try.prog (runCall c)) w := by
  have hr : ∀ o : Oper, o.op = .go { callee := .value (.func 75), args := #[.tmp 10], argTypes := #[58] } → (execOp (Act.eval ⟨turnA c, []⟩) o).run Try.prog w = .ok (.spawn (runCall c)) w ∧ (execOp (Act.eval ⟨turnA c, []⟩) o).events Try.prog w #[] = #[] := by
    intro o ho
    unfold execOp
    simp only [ho]
    exact ⟨by kernel_rfl, by kernel_rfl⟩
  have key : ∀ o : Oper, (opsOf (sel [0, 1, 2, 1] bodyT))[1]? = some o → o.op = .go { callee := .value (.func 75), args := #[.tmp 10], argTypes := #[58] } → o.dst = none → Region.wanted o (yielded (opsOf (sel [0, 1, 2, 1] bodyT)) (turnA c)) = true →
      stepG Try.prog main (turnGo c cs) w = .spawn (G ((base 64).at ⟨turnA c, []⟩ [.inRegion (opsOf (sel [0, 1, 2, 1] bodyT)) [], .code (sel [1] bodyT)]) cs) (born Try.prog (runCall c)) w := by
    intro o ho hop hd hw
    unfold turnGo
    obtain ⟨h1, h2⟩ := hr o hop
    rw [stepG_spawn ho hw (by decide) h1 rfl]
    unfold listed
    rw [h2, seen_none, hd]
    rfl
  exact key _ rfl rfl rfl (by rfl)

theorem turn_go {Post : Value → World → Prop} {FC : List Row} {n : Nat} {Inb : Nat → Option Seat} {w : World} {cs : List Frame} {c ch sb sc kk : Nat} {x1 x2 : Value} (hW : WfF FC) (hrc : (⟨c, 0, [ptr sb, x1, x2, .chan (some ch)]⟩ : Row) ∈ FC) (hrs : (⟨sb, 2, [.chan (some sc)]⟩ : Row) ∈ FC)
    (hI0 : Inb 0 = some (Seat.one sc (.agg #[]) false (· = turnSeat c ch sb sc cs))) (hfresh : ∀ i s, Inb i = some s → ¬ s.has ch) (hc : w.heap[ch]? = some (.chan 0 #[] false kk kk false)) (hcl : c < w.heap.size) (hsl : sb < w.heap.size)
    (hk : ∀ d kk, w.heap[ch]? = some (.chan 0 #[] false kk kk false) →
      Won Try.prog Post (⟨w.heap.size, 0, [ptr c]⟩ :: FC) (n + 1) (Go.ConcN.upd Inb n (some (Seat.one ch (.agg #[]) false (· = runSeat c ch w.heap.size)))) n (Conc.served (runSeat c ch w.heap.size) (.agg #[])) (({ w.at d with heap := w.heap.push (.cells #[ptr c] 58) } : World).setChan ch 0 #[] false (kk + 1) (kk + 1) false)) :
    Won Try.prog Post FC n Inb 0 (turnGo c cs) w :=
  win_birth hW rfl (go_at c cs) hI0 hfresh hc (turn_walk hrc hcl) child_box
    (child_sits (List.mem_cons_of_mem _ hrc) List.mem_cons_self (by omega) (by omega)) (turn_sits (List.mem_cons_of_mem _ hrc) (List.mem_cons_of_mem _ hrs) (by omega) (by omega)) hk
end Go.Proofs.Ytolnmdanlggmhaa

/- run (a coroutine's goroutine) from its first turn to its function. -/
namespace Go.Proofs.Ytolnmdanlggmhaa
open Go.RowKit Go.Maps Go.Conc

set_option maxRecDepth 100000
set_option maxHeartbeats 2000000

theorem loads_fn : Loads1 Try.prog 60 := fun w ad v h => ⟨by simp [go_sem, h], by simp [go_sem, h]⟩
section
variable {P : Program} {main : Bool} {Z : Addr → Prop} {Stop : Goroutine → World → Prop} {w₀ u : World} {b : Frame} {a : Act} {k : List Item} {cs : List Frame} {ops : Array Oper} {i fuel : Nat} {listed : Array Bool} {o : Oper} {next : Act → World → Prop}
theorem ownU_eq {g g' : Goroutine} (h : g = g') (hk : OwnU P main Z Stop w₀ g u) : OwnU P main Z Stop w₀ g' u := h ▸ hk
theorem opU_load {t : TypeId} {x : Operand} (ad : Addr) (v : Value) (ho : ops[i]? = some o) (hw : Region.wanted o (yielded ops a.tmps) = true) (hb : b.kind ≠ .early) (hl : Loads1 P t) (hop : o.op = .load t x) (hx : a.eval x = .pointer (some ad)) (hc : u.cell? ad = some v)
    (hk : ∀ A d, next (a.put o.dst v) (tp u A d)) : OpU P main Z Stop w₀ b ops k cs i fuel listed next a u :=
  opU_op (L := []) ho (by rw [hop]; rfl) hw hb fun A d => by
    have hc' : (tp u A d).cell? ad = some v := hc
    rw [(load_op hl hop hx hc').1]
    exact hk A d
theorem anyU_succ {K : Act → World → Prop} {rs : List Nat} (hr : Region.ready .any ops listed = rs) (hne : rs ≠ []) (h : ∀ i ∈ rs, OpU P main Z Stop w₀ b ops k cs i fuel (listed.setIfInBounds i true) (AnyU P main Z Stop w₀ b ops k cs K fuel (listed.setIfInBounds i true)) a u) :
    AnyU P main Z Stop w₀ b ops k cs K (fuel + 1) listed a u := ⟨fun e => absurd (hr.symm.trans e) hne, fun i hi => h i (hr ▸ hi)⟩
theorem opU_quiet (z : Value) (ho : ops[i]? = some o) (hw : Region.wanted o (yielded ops a.tmps) = true) (hok : okOp P [] o.op = true) (hb : b.kind ≠ .early) (h : ∀ w, (execOp a.eval o).run P w = .ok (.value z) w)
    (hk : ∀ A d, next (a.put o.dst z) (tp u A d)) : OpU P main Z Stop w₀ b ops k cs i fuel listed next a u :=
  opU_op (L := []) ho hok hw hb fun A d => by
    rw [h]
    exact hk A d
end
/-- run's deferred function. -/
def runDefer (nb : Nat) : Deferred := { target := .fn (.func 80) #[ptr nb], args := #[] }
/-- run's slots at the call of c's function. -/
def runF (c nb ch : Nat) (fv : Value) : Array Value := #[ptr c, ptr nb, ptr c, ptr c, .pointer (some ⟨c, 3, none⟩), .chan (some ch), .agg #[], .func (.func 80) #[] #[ptr nb], ptr c, ptr c, .pointer (some ⟨c, 2, none⟩), fv, ptr c, undef, undef, undef, undef]
/-- run's frame there. -/
noncomputable def runFrame (c nb ch : Nat) (fv : Value) : Frame := (baseD 75).at ⟨runF c nb ch fv, [runDefer nb]⟩ [.inRegion (opsOf (sel [1, 1, 1, 0] bodyR)) [5], .code (sel [1, 1, 1, 1] bodyR)]

theorem run_start {main : Bool} {Z : Addr → Prop} {Stop : Goroutine → World → Prop} {w₀ u : World} {c nb ch : Nat} {fv : Value} (hc : u.cell? ⟨c, 2, none⟩ = some fv) (hn : u.cell? ⟨nb, 0, none⟩ = some (ptr c))
    (hk : OwnU Try.prog main Z Stop w₀ (G (runFrame c nb ch fv) [botR]) u) : OwnU Try.prog main Z Stop w₀ (Conc.served (runSeat c ch nb) (.agg #[])) u := by
  show OwnU _ _ _ _ _ (G ((baseD 75).at ⟨#[ptr c, ptr nb, ptr c, ptr c, .pointer (some ⟨c, 3, none⟩), .chan (some ch), .agg #[], undef, undef, undef, undef, undef, undef, undef, undef, undef, undef], []⟩ [.inRegion (opsOf (sel [1, 0] bodyR)) [], .code (sel [1, 1] bodyR)]) [botR]) _
  refine ownU_region_end ?_
  refine ownU_seq (x := sel [1, 1, 0] bodyR) (y := sel [1, 1, 1] bodyR) ?_
  refine ownU_region (id := 2) (ops := opsOf (sel [1, 1, 0] bodyR)) ?_
  refine ownU_op (i := 0) (rest := [1]) (L := lone18) rfl (by rfl) rfl (by decide) (fun A d => ?_)
  refine ownU_tp.2 ?_
  refine ownU_defer (i := 1) (rest := []) (d := runDefer nb) rfl (by rfl) (by decide) (fun _ => by kernel_rfl) (fun _ => by kernel_rfl) ?_
  refine ownU_region_end ?_
  refine ownU_seq (x := sel [1, 1, 1, 0] bodyR) (y := sel [1, 1, 1, 1] bodyR) ?_
  refine ownU_any (id := 3) (ops := opsOf (sel [1, 1, 1, 0] bodyR)) (by kernel_rfl) fun A d => ?_
  refine anyU_succ (rs := [0, 4]) (by kernel_rfl) (by decide) fun i hi => ?_
  have hi' : i = 0 ∨ i = 4 := by simpa using hi
  rcases hi' with rfl | rfl
  · skip
    refine opU_load ⟨nb, 0, none⟩ (ptr c) rfl (by rfl) (by decide) loads_co rfl rfl hn fun A d => ?_
    refine anyU_succ (rs := [1, 4]) (by kernel_rfl) (by decide) fun i hi => ?_
    have hi' : i = 1 ∨ i = 4 := by simpa using hi
    rcases hi' with rfl | rfl
    · skip
      refine opU_quiet (ptr c) rfl (by rfl) rfl (by decide) (fun _ => by kernel_rfl) fun A d => ?_
      refine anyU_succ (rs := [2, 4]) (by kernel_rfl) (by decide) fun i hi => ?_
      have hi' : i = 2 ∨ i = 4 := by simpa using hi
      rcases hi' with rfl | rfl
      · skip
        refine opU_quiet (.pointer (some ⟨c, 2, none⟩)) rfl (by rfl) rfl (by decide) (fun _ => by kernel_rfl) fun A d => ?_
        refine anyU_succ (rs := [3, 4]) (by kernel_rfl) (by decide) fun i hi => ?_
        have hi' : i = 3 ∨ i = 4 := by simpa using hi
        rcases hi' with rfl | rfl
        · skip
          refine opU_load ⟨c, 2, none⟩ fv rfl (by rfl) (by decide) loads_fn rfl rfl hc fun A d => ?_
          refine anyU_succ (rs := [4]) (by kernel_rfl) (by decide) fun i hi => ?_
          have hi' : i = 4 := by simpa using hi
          subst hi'
          refine opU_load ⟨nb, 0, none⟩ (ptr c) rfl (by rfl) (by decide) loads_co rfl rfl hn fun A d => ?_
          refine anyU_succ (rs := [5]) (by kernel_rfl) (by decide) fun i hi => ?_
          have hi' : i = 5 := by simpa using hi
          subst hi'
          intro t _
          exact (ownU_tp (u := u)).2 (ownU_eq (by kernel_rfl) hk)
        · skip
          refine opU_load ⟨nb, 0, none⟩ (ptr c) rfl (by rfl) (by decide) loads_co rfl rfl hn fun A d => ?_
          refine anyU_succ (rs := [3]) (by kernel_rfl) (by decide) fun i hi => ?_
          have hi' : i = 3 := by simpa using hi
          subst hi'
          refine opU_load ⟨c, 2, none⟩ fv rfl (by rfl) (by decide) loads_fn rfl rfl hc fun A d => ?_
          refine anyU_succ (rs := [5]) (by kernel_rfl) (by decide) fun i hi => ?_
          have hi' : i = 5 := by simpa using hi
          subst hi'
          intro t _
          exact (ownU_tp (u := u)).2 (ownU_eq (by kernel_rfl) hk)
      · skip
        refine opU_load ⟨nb, 0, none⟩ (ptr c) rfl (by rfl) (by decide) loads_co rfl rfl hn fun A d => ?_
        refine anyU_succ (rs := [2]) (by kernel_rfl) (by decide) fun i hi => ?_
        have hi' : i = 2 := by simpa using hi
        subst hi'
        refine opU_quiet (.pointer (some ⟨c, 2, none⟩)) rfl (by rfl) rfl (by decide) (fun _ => by kernel_rfl) fun A d => ?_
        refine anyU_succ (rs := [3]) (by kernel_rfl) (by decide) fun i hi => ?_
        have hi' : i = 3 := by simpa using hi
        subst hi'
        refine opU_load ⟨c, 2, none⟩ fv rfl (by rfl) (by decide) loads_fn rfl rfl hc fun A d => ?_
        refine anyU_succ (rs := [5]) (by kernel_rfl) (by decide) fun i hi => ?_
        have hi' : i = 5 := by simpa using hi
        subst hi'
        intro t _
        exact (ownU_tp (u := u)).2 (ownU_eq (by kernel_rfl) hk)
    · skip
      refine opU_load ⟨nb, 0, none⟩ (ptr c) rfl (by rfl) (by decide) loads_co rfl rfl hn fun A d => ?_
      refine anyU_succ (rs := [1]) (by kernel_rfl) (by decide) fun i hi => ?_
      have hi' : i = 1 := by simpa using hi
      subst hi'
      refine opU_quiet (ptr c) rfl (by rfl) rfl (by decide) (fun _ => by kernel_rfl) fun A d => ?_
      refine anyU_succ (rs := [2]) (by kernel_rfl) (by decide) fun i hi => ?_
      have hi' : i = 2 := by simpa using hi
      subst hi'
      refine opU_quiet (.pointer (some ⟨c, 2, none⟩)) rfl (by rfl) rfl (by decide) (fun _ => by kernel_rfl) fun A d => ?_
      refine anyU_succ (rs := [3]) (by kernel_rfl) (by decide) fun i hi => ?_
      have hi' : i = 3 := by simpa using hi
      subst hi'
      refine opU_load ⟨c, 2, none⟩ fv rfl (by rfl) (by decide) loads_fn rfl rfl hc fun A d => ?_
      refine anyU_succ (rs := [5]) (by kernel_rfl) (by decide) fun i hi => ?_
      have hi' : i = 5 := by simpa using hi
      subst hi'
      intro t _
      exact (ownU_tp (u := u)).2 (ownU_eq (by kernel_rfl) hk)
  · skip
    refine opU_load ⟨nb, 0, none⟩ (ptr c) rfl (by rfl) (by decide) loads_co rfl rfl hn fun A d => ?_
    refine anyU_succ (rs := [0]) (by kernel_rfl) (by decide) fun i hi => ?_
    have hi' : i = 0 := by simpa using hi
    subst hi'
    refine opU_load ⟨nb, 0, none⟩ (ptr c) rfl (by rfl) (by decide) loads_co rfl rfl hn fun A d => ?_
    refine anyU_succ (rs := [1]) (by kernel_rfl) (by decide) fun i hi => ?_
    have hi' : i = 1 := by simpa using hi
    subst hi'
    refine opU_quiet (ptr c) rfl (by rfl) rfl (by decide) (fun _ => by kernel_rfl) fun A d => ?_
    refine anyU_succ (rs := [2]) (by kernel_rfl) (by decide) fun i hi => ?_
    have hi' : i = 2 := by simpa using hi
    subst hi'
    refine opU_quiet (.pointer (some ⟨c, 2, none⟩)) rfl (by rfl) rfl (by decide) (fun _ => by kernel_rfl) fun A d => ?_
    refine anyU_succ (rs := [3]) (by kernel_rfl) (by decide) fun i hi => ?_
    have hi' : i = 3 := by simpa using hi
    subst hi'
    refine opU_load ⟨c, 2, none⟩ fv rfl (by rfl) (by decide) loads_fn rfl rfl hc fun A d => ?_
    refine anyU_succ (rs := [5]) (by kernel_rfl) (by decide) fun i hi => ?_
    have hi' : i = 5 := by simpa using hi
    subst hi'
    intro t _
    exact (ownU_tp (u := u)).2 (ownU_eq (by kernel_rfl) hk)
end Go.Proofs.Ytolnmdanlggmhaa

/- The first turn of a coroutine, from turn's first line to the child holding the token. -/
namespace Go.Proofs.Ytolnmdanlggmhaa
open Go.RowKit Go.Maps Go.Conc

/-- A real world that is like the lone one behind a store into block b. -/
theorem turn_first {Post : Value → World → Prop} {FC : List Row} {n : Nat} {Inb : Nat → Option Seat} {w : World} {cs : List Frame} {sb sc i kk : Nat} {c : CoR} (hW : WfF FC) (hc : CoAt w sb i c) (hb : c.begun = false)
    (hrc : (⟨c.b, 0, [ptr sb, .int .i64 ((i : Int) + 1), c.f, .chan (some c.ch)]⟩ : Row) ∈ FC) (hrs : (⟨sb, 2, [.chan (some sc)]⟩ : Row) ∈ FC) (hsl : sb < w.heap.size)
    (hI0 : Inb 0 = some (Seat.one sc (.agg #[]) false (· = turnSeat c.b c.ch sb sc cs))) (hfresh : ∀ i s, Inb i = some s → ¬ s.has c.ch) (hch : w.heap[c.ch]? = some (.chan 0 #[] false kk kk false))
    (hk : ∀ w1 d kk, Sim False (ZF FC) ((guardW FC w).setCell ⟨c.b, 4, none⟩ (.bool true)) w1 → Kept (ZF FC) w w1 → w1.heap[c.ch]? = some (.chan 0 #[] false kk kk false) →
      Won Try.prog Post (⟨w1.heap.size, 0, [ptr c.b]⟩ :: FC) (n + 1) (Go.ConcN.upd Inb n (some (Seat.one c.ch (.agg #[]) false (· = runSeat c.b c.ch w1.heap.size)))) n (Conc.served (runSeat c.b c.ch w1.heap.size) (.agg #[])) (({ w1.at d with heap := w1.heap.push (.cells #[ptr c.b] 58) } : World).setChan c.ch 0 #[] false (kk + 1) (kk + 1) false)) :
    Won Try.prog Post FC n Inb 0 (G ((base 64).at { tmps := #[.pointer (some ⟨c.b, 0, none⟩), undef, undef, undef, undef, undef, undef, undef, undef, undef, undef, undef, undef, undef, undef, undef, undef, undef, undef, undef, undef, undef, undef, undef], defers := [] } [.code bodyT]) cs) w := by
  have hu : CoAt (guardW FC w) sb i c := ⟨(0, 4), guard_cells hW hrc hc, fun o h => h⟩
  refine win_own hW (turn_own hu hb (ownU_stop fun w1 hs hkp => ?_))
  have hg := hkp.grow
  have hcl := cellsAt_lt hc
  exact turn_go hW hrc hrs hI0 hfresh ((hkp.chans _ _ _ _ _ _ _ hch).trans hch) (by omega) (by omega) fun d kk h => hk w1 d kk hs hkp h
end Go.Proofs.Ytolnmdanlggmhaa

/- The state of a scheduler with its coroutines; what keeps it. -/
namespace Go.Proofs.Ytolnmdanlggmhaa
open Go.RowKit Go.Maps Go.Conc

structure Sch where
  sb : Nat
  qb : Nat
  sc : Nat
  v : Value
  fr : Nat
  cos : List CoR
  qs : List Int
  closed : Bool

/-- An open channel without a buffer, empty. -/
def ChAt (w : World) (c : Nat) : Prop := ∃ k, w.heap[c]? = some (.chan 0 #[] false k k false)

/-- Tags: 1 the scheduler's block, 2 its queue's, 3 its slice's, 4 the coroutines' blocks, 5 the channels; from 6 on: the law's own. -/
structure SI (own : Nat → Nat) (S : Sch) (w : World) : Prop where
  sch : SchAt w S.sb S.qb S.sc S.v S.closed
  row : QRow w S.v (S.cos.map fun c => ptr c.b)
  qu : Qui w (fun b => own b = 2) S.qb S.fr S.qs
  co : ∀ (i : Nat) (c : CoR), S.cos[i]? = some c → CoAt w S.sb i c
  osb : own S.sb = 1
  orow : ∀ g, S.v.ownBlock = some g → own g = 3
  oco : ∀ c ∈ S.cos, own c.b = 4
  och : ∀ c ∈ S.cos, own c.ch = 5
  osc : own S.sc = 5
  ch : ∀ c ∈ S.cos, ChAt w c.ch
  scAt : ChAt w S.sc
  ndb : (S.cos.map CoR.b).Nodup
  ndc : (S.sc :: S.cos.map CoR.ch).Nodup
  lim : S.cos.length < 1000
  limq : S.fr + S.qs.length < 1000000

/-- What never turns of it stands in the rows of still cells. -/
structure FI (own : Nat → Nat) (S : Sch) (FC : List Row) : Prop where
  wf : WfF FC
  rco : ∀ (i : Nat) (c : CoR), S.cos[i]? = some c → (⟨c.b, 0, [ptr S.sb, .int .i64 ((i : Int) + 1), c.f, .chan (some c.ch)]⟩ : Row) ∈ FC
  rsb : (⟨S.sb, 2, [.chan (some S.sc)]⟩ : Row) ∈ FC
  off : ∀ r ∈ FC, own r.b = 0 ∨ own r.b = 1 ∨ own r.b = 4

section
variable {own own' : Nat → Nat} {S : Sch} {FC : List Row} {u w u' : World} {T : Nat → Prop}

theorem FI.ne (f : FI own S FC) {b : Nat} (h0 : own b ≠ 0) (h1 : own b ≠ 1) (h4 : own b ≠ 4) : ∀ r ∈ FC, r.b ≠ b := fun r hr e => by
  have := f.off r hr
  rw [e] at this
  omega

theorem SI.agree (h : SI own S u) (f : FI own S FC) (a : Agr own FC u w) : SI own S w where
  sch := a.row _ f.rsb _ _ h.sch
  row := h.row.keep fun g hg => a.eq g (by rw [h.orow g hg]; omega) (f.ne (by rw [h.orow g hg]; omega) (by rw [h.orow g hg]; omega) (by rw [h.orow g hg]; omega))
  qu := h.qu.keep fun i hi _ => a.eq i (by rw [hi]; omega) (f.ne (by rw [hi]; omega) (by rw [hi]; omega) (by rw [hi]; omega))
  co := fun i c hc => a.row _ (f.rco i c hc) _ _ (h.co i c hc)
  osb := h.osb
  orow := h.orow
  oco := h.oco
  och := h.och
  osc := h.osc
  ch := fun c hc => by
    obtain ⟨k, hk⟩ := h.ch c hc
    have e := h.och c hc
    exact ⟨k, (a.eq c.ch (by rw [e]; omega) (f.ne (by rw [e]; omega) (by rw [e]; omega) (by rw [e]; omega))).trans hk⟩
  scAt := by
    obtain ⟨k, hk⟩ := h.scAt
    have e := h.osc
    exact ⟨k, (a.eq S.sc (by rw [e]; omega) (f.ne (by rw [e]; omega) (by rw [e]; omega) (by rw [e]; omega))).trans hk⟩
  ndb := h.ndb
  ndc := h.ndc
  lim := h.lim
  limq := h.limq

/-- What others do keeps it. -/
theorem SI.keep (h : SI own S u) (le : OLe own own') (hb : ∀ b, b < u.heap.size → (own b = 1 ∨ own b = 2 ∨ own b = 3 ∨ own b = 4 ∨ own b = 5) → u'.heap[b]? = u.heap[b]?) : SI own' S u' where
  sch := cellsAt_keep h.sch (hb _ (cellsAt_lt h.sch) (.inl h.osb))
  row := h.row.keep fun g hg => hb g (h.row.lt g hg) (.inr (.inr (.inl (h.orow g hg))))
  qu := (h.qu.keep fun i hi hl => hb i hl (.inr (.inl hi))).mono fun i hi => le.tag hi (by omega)
  co := fun i c hc => cellsAt_keep (h.co i c hc) (hb _ (cellsAt_lt (h.co i c hc)) (.inr (.inr (.inr (.inl (h.oco c (List.mem_of_getElem? hc)))))))
  osb := le.tag h.osb (by omega)
  orow := fun g hg => le.tag (h.orow g hg) (by omega)
  oco := fun c hc => le.tag (h.oco c hc) (by omega)
  och := fun c hc => le.tag (h.och c hc) (by omega)
  osc := le.tag h.osc (by omega)
  ch := fun c hc => by
    obtain ⟨k, hk⟩ := h.ch c hc
    exact ⟨k, (hb c.ch (obj_lt hk) (.inr (.inr (.inr (.inr (h.och c hc)))))).trans hk⟩
  scAt := by
    obtain ⟨k, hk⟩ := h.scAt
    exact ⟨k, (hb S.sc (obj_lt hk) (.inr (.inr (.inr (.inr h.osc))))).trans hk⟩
  ndb := h.ndb
  ndc := h.ndc
  lim := h.lim
  limq := h.limq
theorem SI.tp (h : SI own S u) (A : Nat → Question → Nat) (d : Nat) : SI own S (tp u A d) := h.keep (OLe.refl _) fun _ _ _ => rfl
theorem SI.stp (h : SI own S u) (hs : Stp T own own' u u') (hT : ∀ t, T t → 6 ≤ t) : SI own' S u' :=
  h.keep hs.le fun b hb ho => hs.block b hb fun ht => by have := hT _ ht; omega
theorem FI.le (f : FI own S FC) (le : OLe own own') (hn : ∀ b, own b = 0 → own' b ≠ 0 → ∀ r ∈ FC, r.b ≠ b) : FI own' S FC :=
  ⟨f.wf, f.rco, f.rsb, fun r hr => by
    by_cases hz : own r.b = 0
    · by_cases hz' : own' r.b = 0
      · exact .inl hz'
      · exact absurd rfl (hn r.b hz hz' r hr)
    · rw [le _ hz]; exact f.off r hr⟩
theorem FI.stp (f : FI own S FC) (hs : Stp T own own' u u') (hr : ∀ r ∈ FC, r.b < u.heap.size) : FI own' S FC :=
  f.le hs.le fun b h h' r hr' e => by have := hs.new b h h'; have := hr r hr'; omega

/-- The queue's step. -/
theorem SI.queue (h : SI own S u) (hlt : ∀ b, own b ≠ 0 → b < u.heap.size) {fp' : Nat → Prop} {fr' : Nat} {qs' : List Int} (hq : Qui u' fp' S.qb fr' qs') (hst : QStep (fun b => own b = 2) fp' u u') (hl : fr' + qs'.length < 1000000) :
    ∃ own', SI own' { S with fr := fr', qs := qs' } u' ∧ Stp (· = 2) own own' u u' := by
  have st : Stp (· = 2) own (retagC own 2 (fun i => fp' i ∧ i < u'.heap.size)) u u' :=
    stp_of (by omega) hlt hst.os hst.output hst.size hst.block (fun _ h => h) (fun i hi => hst.foot i hi.1) (fun i hi => hi.2)
  refine ⟨_, ?_, st⟩
  have hb : ∀ b, b < u.heap.size → own b ≠ 2 → u'.heap[b]? = u.heap[b]? := fun b hb hn => st.block b hb hn
  exact {
    sch := cellsAt_keep h.sch (hb _ (cellsAt_lt h.sch) (by rw [h.osb]; omega))
    row := h.row.keep fun g hg => hb g (h.row.lt g hg) (by rw [h.orow g hg]; omega)
    qu := hq.tight.mono fun i hi => retagC_in hi
    co := fun i c hc => cellsAt_keep (h.co i c hc) (hb _ (cellsAt_lt (h.co i c hc)) (by rw [h.oco c (List.mem_of_getElem? hc)]; omega))
    osb := st.le.tag h.osb (by omega)
    orow := fun g hg => st.le.tag (h.orow g hg) (by omega)
    oco := fun c hc => st.le.tag (h.oco c hc) (by omega)
    och := fun c hc => st.le.tag (h.och c hc) (by omega)
    osc := st.le.tag h.osc (by omega)
    ch := fun c hc => by
      obtain ⟨k, hk⟩ := h.ch c hc
      exact ⟨k, (hb c.ch (obj_lt hk) (by rw [h.och c hc]; omega)).trans hk⟩
    scAt := by
      obtain ⟨k, hk⟩ := h.scAt
      exact ⟨k, (hb S.sc (obj_lt hk) (by rw [h.osc]; omega)).trans hk⟩
    ndb := h.ndb
    ndc := h.ndc
    lim := h.lim
    limq := hl }

theorem map_set_same {α β : Type} {f : α → β} {l : List α} {i : Nat} {c c' : α} (hi : l[i]? = some c) (h : f c' = f c) : (l.set i c').map f = l.map f := by
  rw [List.map_set, h]
  refine List.ext_getElem? fun j => ?_
  rw [List.getElem?_set]
  split
  · next e =>
    subst e
    have hlt : i < l.length := (List.getElem?_eq_some_iff.1 hi).1
    rw [if_pos (by simpa using hlt), List.getElem?_map, hi]
    rfl
  · rfl
theorem set_get {α : Type} {l : List α} {i j : Nat} {c' x : α} (h : (l.set i c')[j]? = some x) : (j = i ∧ x = c' ∧ i < l.length) ∨ (j ≠ i ∧ l[j]? = some x) := by
  rw [List.getElem?_set] at h
  split at h
  · next e =>
    subst e
    split at h
    · next hl => exact .inl ⟨rfl, (Option.some.inj h).symm, hl⟩
    · cases h
  · next e => exact .inr ⟨fun h => e h.symm, h⟩
/-- Two coroutines do not share a block. -/
theorem SI.ne (h : SI own S u) {i j : Nat} {c d : CoR} (hi : S.cos[i]? = some c) (hj : S.cos[j]? = some d) (hij : j ≠ i) : c.b ≠ d.b := fun e => by
  have h1 : (S.cos.map CoR.b)[i]? = some c.b := by rw [List.getElem?_map, hi]; rfl
  have h2 : (S.cos.map CoR.b)[j]? = some d.b := by rw [List.getElem?_map, hj]; rfl
  rw [← e] at h2
  have := (List.getElem?_inj (List.getElem?_eq_some_iff.1 h1).1 h.ndb).1 (h1.trans h2.symm)
  omega
theorem SI.neCh (h : SI own S u) {i j : Nat} {c d : CoR} (hi : S.cos[i]? = some c) (hj : S.cos[j]? = some d) (hij : j ≠ i) : c.ch ≠ d.ch := fun e => by
  have h1 : (S.cos.map CoR.ch)[i]? = some c.ch := by rw [List.getElem?_map, hi]; rfl
  have h2 : (S.cos.map CoR.ch)[j]? = some d.ch := by rw [List.getElem?_map, hj]; rfl
  rw [← e] at h2
  have := (List.getElem?_inj (List.getElem?_eq_some_iff.1 h1).1 (List.nodup_cons.1 h.ndc).2).1 (h1.trans h2.symm)
  omega
theorem SI.neSc (h : SI own S u) {i : Nat} {c : CoR} (hi : S.cos[i]? = some c) : c.ch ≠ S.sc := fun e =>
  (List.nodup_cons.1 h.ndc).1 (List.mem_map.2 ⟨c, List.mem_of_getElem? hi, e⟩)

theorem stp_setCell (hlt : ∀ b, own b ≠ 0 → b < u.heap.size) {a : Addr} {t : Nat} (ho : own a.block = t) (x : Value) : Stp (· = t) own own u (u.setCell a x) :=
  ⟨rfl, rfl, by rw [setCell_size]; exact Nat.le_refl _, fun b _ hn => by rw [setCell_get, if_neg (fun e => hn (by rw [← e, ho]))], OLe.refl _, fun _ h h' => absurd h h', fun b hb => by rw [setCell_size]; exact hlt b hb⟩
/-- A cell of a coroutine is written. -/
theorem SI.setCo (h : SI own S u) {i : Nat} {c : CoR} (hi : S.cos[i]? = some c) (c' : CoR) (k : Nat) (x : Value) (hb : c'.b = c.b) (hch : c'.ch = c.ch) (hcells : c'.cells S.sb i = (c.cells S.sb i).setIfInBounds k x) :
    SI own { S with cos := S.cos.set i c' } (u.setCell ⟨c.b, k, none⟩ x) := by
  have ho : own c.b = 4 := h.oco c (List.mem_of_getElem? hi)
  have hk : ∀ b, own b ≠ 4 → (u.setCell ⟨c.b, k, none⟩ x).heap[b]? = u.heap[b]? := fun b hn => by rw [setCell_get, if_neg (fun e => hn (by rw [← e]; exact ho))]
  have hmem : ∀ d ∈ S.cos.set i c', d = c' ∨ d ∈ S.cos := fun d hd => (List.mem_or_eq_of_mem_set hd).symm
  have hcm := List.mem_of_getElem? hi
  exact {
    sch := cellsAt_keep h.sch (hk _ (by rw [h.osb]; omega))
    row := by
      show QRow _ S.v ((S.cos.set i c').map fun c => ptr c.b)
      rw [map_set_same hi (f := fun c => ptr c.b) (by simp only [hb])]
      exact h.row.keep fun g hg => hk g (by rw [h.orow g hg]; omega)
    qu := h.qu.keep fun j hj _ => hk j (by rw [hj]; omega)
    co := fun j d hd => by
      rcases set_get hd with ⟨rfl, rfl, _⟩ | ⟨hne, hd'⟩
      · have := cellsAt_set (h.co j c hi) k x
        show CellsAt _ d.b (d.cells S.sb j) _ 0 4
        rw [hcells, hb]
        exact this
      · refine cellsAt_keep (h.co j d hd') ?_
        rw [setCell_get, if_neg (h.ne hi hd' hne)]
    osb := h.osb
    orow := h.orow
    oco := fun d hd => by rcases hmem d hd with rfl | hd'; · rw [hb]; exact ho
                          · exact h.oco d hd'
    och := fun d hd => by rcases hmem d hd with rfl | hd'; · rw [hch]; exact h.och c hcm
                          · exact h.och d hd'
    osc := h.osc
    ch := fun d hd => by
      have hd' : ChAt u d.ch ∧ own d.ch = 5 := by
        rcases hmem d hd with rfl | hd'
        · rw [hch]; exact ⟨h.ch c hcm, h.och c hcm⟩
        · exact ⟨h.ch d hd', h.och d hd'⟩
      obtain ⟨⟨m, hm⟩, ho'⟩ := hd'
      exact ⟨m, (hk _ (by rw [ho']; omega)).trans hm⟩
    scAt := by
      obtain ⟨m, hm⟩ := h.scAt
      exact ⟨m, (hk _ (by rw [h.osc]; omega)).trans hm⟩
    ndb := by
      show ((S.cos.set i c').map CoR.b).Nodup
      rw [map_set_same hi hb]; exact h.ndb
    ndc := by
      show (S.sc :: (S.cos.set i c').map CoR.ch).Nodup
      rw [map_set_same hi hch]; exact h.ndc
    lim := by
      show (S.cos.set i c').length < 1000
      rw [List.length_set]; exact h.lim
    limq := h.limq }
theorem FI.setCo (f : FI own S FC) {i : Nat} {c : CoR} (hi : S.cos[i]? = some c) (c' : CoR) (hb : c'.b = c.b) (hch : c'.ch = c.ch) (hf : c'.f = c.f) : FI own { S with cos := S.cos.set i c' } FC :=
  ⟨f.wf, fun j d hd => by
    rcases set_get hd with ⟨rfl, rfl, _⟩ | ⟨_, hd'⟩
    · rw [hb, hch, hf]; exact f.rco j c hi
    · exact f.rco j d hd', f.rsb, f.off⟩
/-- The scheduler is closed. -/
theorem SI.close (h : SI own S u) : SI own { S with closed := true } (u.setCell ⟨S.sb, 3, none⟩ (.bool true)) := by
  have hk : ∀ b, own b ≠ 1 → (u.setCell ⟨S.sb, 3, none⟩ (.bool true)).heap[b]? = u.heap[b]? := fun b hn => by rw [setCell_get, if_neg (fun e => hn (by rw [← e]; exact h.osb))]
  exact {
    sch := cellsAt_set h.sch 3 (.bool true)
    row := h.row.keep fun g hg => hk g (by rw [h.orow g hg]; omega)
    qu := h.qu.keep fun j hj _ => hk j (by rw [hj]; omega)
    co := fun j d hd => cellsAt_keep (h.co j d hd) (hk _ (by rw [h.oco d (List.mem_of_getElem? hd)]; omega))
    osb := h.osb
    orow := h.orow
    oco := h.oco
    och := h.och
    osc := h.osc
    ch := fun d hd => by
      obtain ⟨m, hm⟩ := h.ch d hd
      exact ⟨m, (hk _ (by rw [h.och d hd]; omega)).trans hm⟩
    scAt := by
      obtain ⟨m, hm⟩ := h.scAt
      exact ⟨m, (hk _ (by rw [h.osc]; omega)).trans hm⟩
    ndb := h.ndb
    ndc := h.ndc
    lim := h.lim
    limq := h.limq }
theorem FI.close (f : FI own S FC) : FI own { S with closed := true } FC := ⟨f.wf, f.rco, f.rsb, f.off⟩
/-- A message has gone over a channel. -/
theorem SI.setChan (h : SI own S u) {c k d : Nat} (hc : own c = 5) : SI own S ((u.at d).setChan c 0 #[] false k k false) := by
  have hk : ∀ b, b ≠ c → ((u.at d).setChan c 0 #[] false k k false).heap[b]? = u.heap[b]? := fun b hn => by rw [heap_setChan_ne _ _ _ _ _ _ _ (fun e => hn e.symm)]; rfl
  have hk' : ∀ b, own b ≠ 5 → ((u.at d).setChan c 0 #[] false k k false).heap[b]? = u.heap[b]? := fun b hn => hk b fun e => hn (e ▸ hc)
  have hch : ∀ e, ChAt u e → ChAt ((u.at d).setChan c 0 #[] false k k false) e := fun e ⟨m, hm⟩ => by
    by_cases he : e = c
    · subst he
      refine ⟨k, ?_⟩
      have := obj_lt hm
      simp [World.setChan, World.at, this]
    · exact ⟨m, (hk e he).trans hm⟩
  exact {
    sch := cellsAt_keep h.sch (hk' _ (by rw [h.osb]; omega))
    row := h.row.keep fun g hg => hk' g (by rw [h.orow g hg]; omega)
    qu := h.qu.keep fun j hj _ => hk' j (by rw [hj]; omega)
    co := fun j d hd => cellsAt_keep (h.co j d hd) (hk' _ (by rw [h.oco d (List.mem_of_getElem? hd)]; omega))
    osb := h.osb
    orow := h.orow
    oco := h.oco
    och := h.och
    osc := h.osc
    ch := fun d hd => hch _ (h.ch d hd)
    scAt := hch _ h.scAt
    ndb := h.ndb
    ndc := h.ndc
    lim := h.lim
    limq := h.limq }
theorem stp_setChan (hlt : ∀ b, own b ≠ 0 → b < u.heap.size) {c k d : Nat} (hc : own c = 5) : Stp (· = 5) own own u ((u.at d).setChan c 0 #[] false k k false) :=
  ⟨rfl, rfl, by simp [World.setChan, World.at], fun b _ hn => by rw [heap_setChan_ne _ _ _ _ _ _ _ (fun e => hn (by rw [← e, hc]))]; rfl, OLe.refl _, fun _ h h' => absurd h h', fun b hb => by simpa [World.setChan, World.at] using hlt b hb⟩
theorem lw_setChan (lw : LW own u) {c k d : Nat} : LW own ((u.at d).setChan c 0 #[] false k k false) := fun b hb => by
  refine ⟨by simpa [World.setChan, World.at] using (lw b hb).1, ?_⟩
  by_cases e : b = c
  · subst e
    have := (lw b hb).1
    intro ho
    have e2 : ((u.at d).setChan b 0 #[] false k k false).heap[b]? = some (.chan 0 #[] false k k false) := by simp [World.setChan, World.at, this]
    rw [e2] at ho
    rcases ho with ⟨_, _, e⟩ | ⟨_, _, e⟩ <;> cases e
  · rw [heap_setChan_ne _ _ _ _ _ _ _ (fun h => e h.symm)]
    exact (lw b hb).2
/-- A block is made that nobody speaks of. -/
theorem stp_push (hlt : ∀ b, own b ≠ 0 → b < u.heap.size) (o : Obj) (d : Nat) : Stp (fun _ => False) own own u { u.at d with heap := u.heap.push o } :=
  ⟨rfl, rfl, by simp, fun b hb _ => by simp only; rw [Array.getElem?_push, if_neg (by omega)], OLe.refl _, fun _ h h' => absurd h h', fun b hb => by have := hlt b hb; simp; omega⟩
theorem lw_push (lw : LW own u) (o : Obj) (d : Nat) : LW own { u.at d with heap := u.heap.push o } := fun b hb => by
  obtain ⟨h1, h2⟩ := lw b hb
  exact ⟨by simp; omega, by simp only; rw [Array.getElem?_push, if_neg (by omega)]; exact h2⟩
end
end Go.Proofs.Ytolnmdanlggmhaa

/- The crew: main, the coroutines' goroutines, whose seat is whose. -/
namespace Go.Proofs.Ytolnmdanlggmhaa
open Go.RowKit Go.Maps Go.Conc
open Go.ConcN (upd upd_ne upd_same)

/-- A coroutine's goroutine: tag 0: none yet; 1: waits at its seat, its record is g; 2: it runs; 3: it has ended, or only leaves. -/
structure Kid where
  tag : Nat
  j : Nat
  g : Goroutine
def kidOk (c : CoR) (k : Kid) (h n : Nat) (Inb : Nat → Option Seat) : Prop :=
  k.tag ≤ 3 ∧ (k.tag = 0 → c.begun = false) ∧ (k.tag = 1 → c.begun = true ∧ k.j ≠ 0 ∧ k.j ≠ h ∧ k.j < n ∧ Inb k.j = some (Seat.one c.ch (.agg #[]) false (· = k.g))) ∧ (k.tag = 2 → c.begun = true ∧ k.j = h ∧ h ≠ 0) ∧ (k.tag = 3 → c.begun = true)
/-- What lies around: the world at the beginning, the rows of still cells, the seats of others. -/
structure Env where
  W0 : World
  FC0 : List Row
  out : Nat → Option Seat

structure CI (E : Env) (h : Nat) (own : Nat → Nat) (S : Sch) (ks : List Kid) (FC : List Row) (n : Nat) (Inb : Nat → Option Seat) (w : World) : Prop where
  si : SI own S w
  fi : FI own S FC
  lw : LW own w
  rows : ∀ r ∈ FC, r.b < w.heap.size
  base : Ext (fun b => E.W0.heap.size ≤ b) E.FC0 E.W0 w
  low : ∀ b, own b ≠ 0 → E.W0.heap.size ≤ b
  sub : ∀ r ∈ E.FC0, r ∈ FC
  sup : ∀ r ∈ FC, r ∈ E.FC0 ∨ E.W0.heap.size ≤ r.b
  len : ks.length = S.cos.length
  kid : ∀ (i : Nat) (c : CoR) (k : Kid), S.cos[i]? = some c → ks[i]? = some k → kidOk c k h n Inb
  keep : ∀ x s, E.out x = some s → Inb x = some s ∧ x ≠ 0 ∧ x ≠ h
  only : ∀ x s, Inb x = some s → x = 0 ∨ x = h ∨ E.out x = some s ∨ ∃ (i : Nat) (k : Kid), ks[i]? = some k ∧ k.tag = 1 ∧ k.j = x
  chs : ∀ x s r, E.out x = some s → s.has r → r < E.W0.heap.size
  top : ∀ x s, Inb x = some s → x < n
  seat0 : ∀ s, Inb 0 = some s → ∀ r, s.has r → r = S.sc
  hn : h < n
  uniq : ∀ (i i' : Nat) (k k' : Kid), ks[i]? = some k → ks[i']? = some k' → k.tag = 2 → k'.tag = 2 → i = i'

section
variable {E : Env} {h : Nat} {own own' : Nat → Nat} {S S' : Sch} {ks ks' : List Kid} {FC FC' : List Row} {n : Nat} {Inb Inb' : Nat → Option Seat} {w w1 u : World} {T : Nat → Prop}

theorem CI.lt (C : CI E h own S ks FC n Inb w) : ∀ b, own b ≠ 0 → b < w.heap.size := fun b hb => (C.lw b hb).1
theorem CI.ltG (C : CI E h own S ks FC n Inb w) : ∀ b, own b ≠ 0 → b < (guardW FC w).heap.size := fun b hb => by simpa [guardW] using (C.lw b hb).1
theorem CI.agr (C : CI E h own S ks FC n Inb w) : Agr own FC w (guardW FC w) := agr_guard C.fi.wf C.lw
theorem CI.siG (C : CI E h own S ks FC n Inb w) : SI own S (guardW FC w) := C.si.agree C.fi C.agr
theorem CI.kidAt (C : CI E h own S ks FC n Inb w) {i : Nat} {c : CoR} (hi : S.cos[i]? = some c) : ∃ k, ks[i]? = some k ∧ kidOk c k h n Inb := by
  have hl : i < ks.length := by rw [C.len]; exact (List.getElem?_eq_some_iff.1 hi).1
  exact ⟨ks[i], List.getElem?_eq_getElem hl, C.kid i c _ hi (List.getElem?_eq_getElem hl)⟩
theorem CI.coAt (C : CI E h own S ks FC n Inb w) {i : Nat} {k : Kid} (hi : ks[i]? = some k) : ∃ c, S.cos[i]? = some c ∧ kidOk c k h n Inb := by
  have hl : i < S.cos.length := by rw [← C.len]; exact (List.getElem?_eq_some_iff.1 hi).1
  exact ⟨S.cos[i], List.getElem?_eq_getElem hl, C.kid i _ k (List.getElem?_eq_getElem hl) hi⟩

/-- Nobody else's seat has the channel of a coroutine that does not wait. -/
theorem CI.fresh (C : CI E h own S ks FC n Inb w) {i : Nat} {c : CoR} {k : Kid} (hi : S.cos[i]? = some c) (hk : ks[i]? = some k) (ht : k.tag ≠ 1) : ∀ x s, x ≠ h ∨ h = 0 → Inb x = some s → ¬ s.has c.ch := by
  intro x s hx hs hh
  have hoc := C.si.och c (List.mem_of_getElem? hi)
  have h0 : x ≠ 0 := fun e => by
    subst e
    exact C.si.neSc hi (C.seat0 s hs _ hh)
  rcases C.only x s hs with e | e | e | ⟨i', k', h1, h2, h3⟩
  · exact h0 e
  · rcases hx with hx | hx
    · exact hx e
    · exact h0 (e.trans hx)
  · have := C.chs x s _ e hh
    have := C.low c.ch (by rw [hoc]; omega)
    omega
  · obtain ⟨c', hc', hk'⟩ := C.coAt h1
    obtain ⟨_, _, _, _, e⟩ := hk'.2.2.1 h2
    rw [h3, hs] at e
    obtain rfl := Option.some.inj e
    rw [Seat.one_has] at hh
    by_cases hii : i' = i
    · subst hii
      rw [hk] at h1
      obtain rfl := Option.some.inj h1
      exact ht h2
    · exact C.si.neCh hi hc' hii hh
/-- Nobody's seat but main's has the scheduler's channel. -/
theorem CI.freshSc (C : CI E 0 own S ks FC n Inb w) : ∀ x s, x ≠ 0 → Inb x = some s → ¬ s.has S.sc := by
  intro x s h0 hs hh
  rcases C.only x s hs with e | e | e | ⟨i', k', h1, h2, h3⟩
  · exact h0 e
  · exact h0 e
  · have := C.chs x s _ e hh
    have := C.low S.sc (by rw [C.si.osc]; omega)
    omega
  · obtain ⟨c', hc', hk'⟩ := C.coAt h1
    obtain ⟨_, _, _, _, e⟩ := hk'.2.2.1 h2
    rw [h3, hs] at e
    obtain rfl := Option.some.inj e
    rw [Seat.one_has] at hh
    exact C.si.neSc hc' hh.symm

/-- Two coroutines do not wait by one goroutine. -/
theorem CI.neJ (C : CI E h own S ks FC n Inb w) {i i' : Nat} {k k' : Kid} (hi : ks[i]? = some k) (hi' : ks[i']? = some k') (ht : k.tag = 1) (ht' : k'.tag = 1) (hne : i' ≠ i) : k'.j ≠ k.j := fun e => by
  obtain ⟨c, hc, hk⟩ := C.coAt hi
  obtain ⟨c', hc', hk'⟩ := C.coAt hi'
  obtain ⟨_, _, _, _, e1⟩ := hk.2.2.1 ht
  obtain ⟨_, _, _, _, e2⟩ := hk'.2.2.1 ht'
  rw [e, e1] at e2
  have := Option.some.inj e2
  have h2 : (Seat.one c'.ch (.agg #[]) false (· = k'.g)).has c.ch := by rw [← this]; exact Seat.one_has.2 rfl
  rw [Seat.one_has] at h2
  exact C.si.neCh hc hc' hne h2

/-- THE HOLDER's OWN STEP; those that wait go on waiting. -/
theorem CI.stepK (C : CI E h own S ks FC n Inb w) (hs : Sim False (ZF FC) u w1) (hk : Kept (ZF FC) w w1) (st : Stp T own own' (guardW FC w) u) (h0 : ¬ T 0) (si : SI own' S' u) (fi : FI own' S' FC) (hsc : S'.sc = S.sc)
    (hlk : ks'.length = S'.cos.length) (hkid : ∀ (i : Nat) (c' : CoR) (k : Kid), S'.cos[i]? = some c' → ks'[i]? = some k → kidOk c' k h n Inb) (hw : ∀ (i : Nat) (k : Kid), ks[i]? = some k → k.tag = 1 → ks'[i]? = some k) (hu : ∀ (i i' : Nat) (k k' : Kid), ks'[i]? = some k → ks'[i']? = some k' → k.tag = 2 → k'.tag = 2 → i = i') : Agr own' FC u w1 ∧ CI E h own' S' ks' FC n Inb w1 := by
  obtain ⟨a, lw, ex⟩ := cross C.fi.wf C.lw hs hk st h0
  have hgs : (guardW FC w).heap.size = w.heap.size := by simp [guardW]
  refine ⟨a, si.agree fi a, fi, lw, fun r hr => Nat.lt_of_lt_of_le (C.rows r hr) hk.grow, C.base.then ex (fun b _ hb => C.low b hb) C.sub (fun r hr => C.sup r hr), fun b hb => ?_, C.sub, C.sup, hlk, hkid, C.keep, fun x s hx => ?_, C.chs, C.top, by rw [hsc]; exact C.seat0, C.hn, hu⟩
  · by_cases hz : own b = 0
    · have := st.new b hz hb
      rw [hgs] at this
      exact Nat.le_trans C.base.size this
    · exact C.low b hz
  · rcases C.only x s hx with e | e | e | ⟨i, k, h1, h2, h3⟩
    · exact .inl e
    · exact .inr (.inl e)
    · exact .inr (.inr (.inl e))
    · exact .inr (.inr (.inr ⟨i, k, hw i k h1 h2, h2, h3⟩))
/-- THE HOLDER's OWN STEP. -/
theorem CI.step (C : CI E h own S ks FC n Inb w) (hs : Sim False (ZF FC) u w1) (hk : Kept (ZF FC) w w1) (st : Stp T own own' (guardW FC w) u) (h0 : ¬ T 0) (si : SI own' S' u) (fi : FI own' S' FC) (hsc : S'.sc = S.sc) (hl : S'.cos.length = S.cos.length)
    (hkid : ∀ (i : Nat) (c' : CoR), S'.cos[i]? = some c' → ∃ c, S.cos[i]? = some c ∧ c'.begun = c.begun ∧ c'.ch = c.ch) : Agr own' FC u w1 ∧ CI E h own' S' ks FC n Inb w1 :=
  C.stepK hs hk st h0 si fi hsc (by rw [C.len, hl]) (fun i c' k hc' hi => by
    obtain ⟨c, hc, e1, e2⟩ := hkid i c' hc'
    have := C.kid i c k hc hi
    unfold kidOk at this ⊢
    rw [e1, e2]
    exact this) (fun _ _ h _ => h) C.uniq

/-- A step of the real world that touches nothing of it. -/
theorem CI.real (C : CI E h own S ks FC n Inb w) (si : SI own S w1) (lw : LW own w1) (st : Stp T own own w w1) (htp : w1.tape = w.tape) (h0 : ¬ T 0) : CI E h own S ks FC n Inb w1 :=
  ⟨si, C.fi, lw, fun r hr => Nat.lt_of_lt_of_le (C.rows r hr) st.size, C.base.then (st.ext htp h0) (fun b _ hb => C.low b hb) C.sub (fun r hr => C.sup r hr), C.low, C.sub, C.sup, C.len, C.kid, C.keep, C.only, C.chs, C.top, C.seat0, C.hn, C.uniq⟩
theorem CI.chan (C : CI E h own S ks FC n Inb w) {c k d : Nat} (hc : own c = 5) : CI E h own S ks FC n Inb ((w.at d).setChan c 0 #[] false k k false) :=
  C.real (C.si.setChan hc) (lw_setChan C.lw) (stp_setChan C.lt hc) rfl (by omega)
/-- A block of which the first cells are still from its birth. -/
theorem CI.boxes (C : CI E h own S ks FC n Inb w) {xs : List Value} (hx : xs ≠ []) (c : Array Value) (t : TypeId) (d : Nat) : CI E h own S ks (⟨w.heap.size, 0, xs⟩ :: FC) n Inb { w.at d with heap := w.heap.push (.cells c t) } := by
  have C' := C.real (w1 := { w.at d with heap := w.heap.push (.cells c t) }) (C.si.stp (stp_push C.lt _ d) (fun _ h => h.elim)) (lw_push C.lw _ d) (stp_push C.lt _ d) rfl (fun h => h)
  have ho : own w.heap.size = 0 := Classical.byContradiction fun h => by have := C.lt _ h; omega
  refine ⟨C'.si, ⟨⟨?_, fun r hr => ?_⟩, fun i c hc => List.mem_cons_of_mem _ (C.fi.rco i c hc), List.mem_cons_of_mem _ C.fi.rsb, fun r hr => ?_⟩, C'.lw, fun r hr => ?_, C'.base, C.low, fun r hr => List.mem_cons_of_mem _ (C.sub r hr), fun r hr => ?_, C.len, C.kid, C.keep, C.only, C.chs, C.top, C.seat0, C.hn, C.uniq⟩
  · rw [List.map_cons, List.nodup_cons]
    refine ⟨fun h => ?_, C.fi.wf.nodup⟩
    obtain ⟨r, hr, e⟩ := List.mem_map.1 h
    have := C.rows r hr
    simp only at e
    omega
  · rcases List.mem_cons.1 hr with rfl | hr
    · exact hx
    · exact C.fi.wf.some r hr
  · rcases List.mem_cons.1 hr with rfl | hr
    · exact .inl ho
    · exact C.fi.off r hr
  · rcases List.mem_cons.1 hr with rfl | hr
    · simp
    · exact C'.rows r hr
  · rcases List.mem_cons.1 hr with rfl | hr
    · exact .inr C.base.size
    · exact C.sup r hr
/-- A box that is still from its birth. -/
theorem CI.box (C : CI E h own S ks FC n Inb w) (x : Value) (t : TypeId) (d : Nat) : CI E h own S ks (⟨w.heap.size, 0, [x]⟩ :: FC) n Inb { w.at d with heap := w.heap.push (.cells #[x] t) } := C.boxes (by simp) #[x] t d
theorem tag_ne {own : Nat → Nat} {t b x : Nat} (h : x ≠ b) : retagC own t (· = b) x = own x := retagC_out (fp := (· = b)) h
theorem tag_eq {own : Nat → Nat} {t b x : Nat} (h : x = b) : retagC own t (· = b) x = t := retagC_in (fp := (· = b)) h
/-- A block gets the tag 4. -/
theorem CI.tag4 (C : CI E h own S ks FC n Inb w) {b : Nat} (hb : own b = 0) (hl : b < w.heap.size) (ho : ¬ Odd w.heap[b]?) (hlo : E.W0.heap.size ≤ b) : CI E h (retagC own 4 (· = b)) S ks FC n Inb w := by
  have le : OLe own (retagC own 4 (· = b)) := fun x hx => tag_ne fun e => hx (by rw [e, hb])
  have hz : ∀ x, retagC own 4 (· = b) x ≠ 0 → x = b ∨ own x ≠ 0 := fun x hx => by
    by_cases e : x = b
    · exact .inl e
    · rw [tag_ne e] at hx; exact .inr hx
  refine ⟨C.si.keep le fun _ _ _ => rfl, ⟨C.fi.wf, C.fi.rco, C.fi.rsb, fun r hr => ?_⟩, fun x hx => ?_, C.rows, C.base, fun x hx => ?_, C.sub, C.sup, C.len, C.kid, C.keep, C.only, C.chs, C.top, C.seat0, C.hn, C.uniq⟩
  · by_cases e : r.b = b
    · exact .inr (.inr (tag_eq e))
    · rw [tag_ne e]; exact C.fi.off r hr
  · rcases hz x hx with e | e
    · rw [e]; exact ⟨hl, ho⟩
    · exact C.lw x e
  · rcases hz x hx with e | e
    · rw [e]; exact hlo
    · exact C.low x e

theorem kid_set {i i' : Nat} {k x : Kid} (h : (ks.set i k)[i']? = some x) : (i' = i ∧ x = k) ∨ (i' ≠ i ∧ ks[i']? = some x) := by
  rcases set_get h with ⟨h1, h2, _⟩ | h
  · exact .inl ⟨h1, h2⟩
  · exact .inr h
/-- Main says its seat anew. -/
theorem CI.seat (C : CI E 0 own S ks FC n Inb w) (z : Value) (home : Goroutine → Prop) : CI E 0 own S ks FC n (upd Inb 0 (some (Seat.one S.sc z false home))) w := by
  refine ⟨C.si, C.fi, C.lw, C.rows, C.base, C.low, C.sub, C.sup, C.len, fun i c k hc hk => ?_, fun x s hx => ?_, fun x s hx => ?_, C.chs, fun x s hx => ?_, fun s hs r hr => ?_, C.hn, C.uniq⟩
  · have := C.kid i c k hc hk
    refine ⟨this.1, this.2.1, fun ht => ?_, this.2.2.2.1, this.2.2.2.2⟩
    obtain ⟨h1, h2, h3, h4, h5⟩ := this.2.2.1 ht
    exact ⟨h1, h2, h3, h4, by rw [upd_ne _ _ h2]; exact h5⟩
  · obtain ⟨h1, h2, h3⟩ := C.keep x s hx
    exact ⟨by rw [upd_ne _ _ h2]; exact h1, h2, h3⟩
  · by_cases e : x = 0
    · exact .inl e
    · rw [upd_ne _ _ e] at hx; exact C.only x s hx
  · by_cases e : x = 0
    · subst e; exact C.hn
    · rw [upd_ne _ _ e] at hx; exact C.top x s hx
  · rw [upd_same] at hs
    obtain rfl := Option.some.inj hs
    exact Seat.one_has.1 hr

theorem CI.none2 (C : CI E 0 own S ks FC n Inb w) {i : Nat} {k : Kid} (hi : ks[i]? = some k) : k.tag ≠ 2 := fun ht => by
  obtain ⟨c, hc, hk⟩ := C.coAt hi
  exact (hk.2.2.2.1 ht).2.2 rfl
theorem CI.none2' (C : CI E h own S ks FC n Inb w) {i i' : Nat} {k k' : Kid} (hi : ks[i]? = some k) (ht : k.tag = 2) (hi' : ks[i']? = some k') (hne : i' ≠ i) : k'.tag ≠ 2 := fun ht' => hne (C.uniq i' i k' k hi' hi ht' ht)

/-- A coroutine's goroutine is there, and holds the token. -/
theorem CI.born (C : CI E 0 own S ks FC n Inb w) {i : Nat} {c : CoR} {k : Kid} (hi : S.cos[i]? = some c) (hk : ks[i]? = some k) (ht : k.tag ≠ 1) (hb : c.begun = true) (z : Value) (home : Goroutine → Prop) (g : Goroutine) :
    CI E n own S (ks.set i ⟨2, n, g⟩) FC (n + 1) (upd Inb n (some (Seat.one c.ch z false home))) w := by
  have hn := C.hn
  refine ⟨C.si, C.fi, C.lw, C.rows, C.base, C.low, C.sub, C.sup, by rw [List.length_set]; exact C.len, fun i' c' k' hc' hk' => ?_, fun x s hx => ?_, fun x s hx => ?_, C.chs, fun x s hx => ?_, fun s hs r hr => ?_, by omega, fun i1 i2 k1 k2 h1 h2 t1 t2 => ?_⟩
  · rcases kid_set hk' with ⟨rfl, rfl⟩ | ⟨hne, hk'⟩
    · rw [hi] at hc'
      obtain rfl := Option.some.inj hc'
      exact ⟨by simp, by simp, by simp, fun _ => ⟨hb, rfl, by omega⟩, by simp⟩
    · have := C.kid i' c' k' hc' hk'
      refine ⟨this.1, this.2.1, fun ht => ?_, fun ht => absurd ht (C.none2 hk'), this.2.2.2.2⟩
      obtain ⟨h1, h2, h3, h4, h5⟩ := this.2.2.1 ht
      exact ⟨h1, h2, by omega, by omega, by rw [upd_ne _ _ (by omega)]; exact h5⟩
  · obtain ⟨h1, h2, h3⟩ := C.keep x s hx
    have := C.top x s h1
    exact ⟨by rw [upd_ne _ _ (by omega)]; exact h1, h2, by omega⟩
  · by_cases e : x = n
    · exact .inr (.inl e)
    · rw [upd_ne _ _ e] at hx
      rcases C.only x s hx with e | e | e | ⟨i', k', h1, h2, h3⟩
      · exact .inl e
      · exact .inl e
      · exact .inr (.inr (.inl e))
      · refine .inr (.inr (.inr ⟨i', k', ?_, h2, h3⟩))
        have hne : i' ≠ i := fun e => by
          subst e
          rw [hk] at h1
          obtain rfl := Option.some.inj h1
          exact ht h2
        rw [List.getElem?_set_ne (fun h => hne h.symm)]; exact h1
  · by_cases e : x = n
    · omega
    · rw [upd_ne _ _ e] at hx; have := C.top x s hx; omega
  · rw [upd_ne _ _ (by omega)] at hs
    exact C.seat0 s hs r hr
  · rcases kid_set h1 with ⟨rfl, rfl⟩ | ⟨n1, h1'⟩ <;> rcases kid_set h2 with ⟨rfl, rfl⟩ | ⟨n2, h2'⟩
    · rfl
    · exact absurd t2 (C.none2 h2')
    · exact absurd t1 (C.none2 h1')
    · exact absurd t1 (C.none2 h1')

/-- One that waits gets the token. -/
theorem CI.wake (C : CI E 0 own S ks FC n Inb w) {i : Nat} {c : CoR} {k : Kid} (hi : S.cos[i]? = some c) (hk : ks[i]? = some k) (ht : k.tag = 1) : CI E k.j own S (ks.set i ⟨2, k.j, k.g⟩) FC n Inb w := by
  obtain ⟨hb, hj0, _, hjn, hseat⟩ := (C.kid i c k hi hk).2.2.1 ht
  refine ⟨C.si, C.fi, C.lw, C.rows, C.base, C.low, C.sub, C.sup, by rw [List.length_set]; exact C.len, fun i' c' k' hc' hk' => ?_, fun x s hx => ?_, fun x s hx => ?_, C.chs, C.top, C.seat0, hjn, fun i1 i2 k1 k2 h1 h2 t1 t2 => ?_⟩
  · rcases kid_set hk' with ⟨rfl, rfl⟩ | ⟨hne, hk'⟩
    · rw [hi] at hc'
      obtain rfl := Option.some.inj hc'
      exact ⟨by simp, by simp, by simp, fun _ => ⟨hb, rfl, hj0⟩, by simp⟩
    · have := C.kid i' c' k' hc' hk'
      refine ⟨this.1, this.2.1, fun ht' => ?_, fun ht => absurd ht (C.none2 hk'), this.2.2.2.2⟩
      obtain ⟨h1, h2, h3, h4, h5⟩ := this.2.2.1 ht'
      exact ⟨h1, h2, C.neJ hk hk' ht ht' hne, h4, h5⟩
  · obtain ⟨h1, h2, h3⟩ := C.keep x s hx
    refine ⟨h1, h2, fun e => ?_⟩
    subst e
    rw [hseat] at h1
    have := C.chs k.j s c.ch hx (by rw [← Option.some.inj h1]; exact Seat.one_has.2 rfl)
    have := C.low c.ch (by rw [C.si.och c (List.mem_of_getElem? hi)]; omega)
    omega
  · rcases C.only x s hx with e | e | e | ⟨i', k', h1, h2, h3⟩
    · exact .inl e
    · exact .inl e
    · exact .inr (.inr (.inl e))
    · by_cases e : i' = i
      · subst e
        rw [hk] at h1
        obtain rfl := Option.some.inj h1
        exact .inr (.inl h3.symm)
      · exact .inr (.inr (.inr ⟨i', k', by rw [List.getElem?_set_ne (fun h => e h.symm)]; exact h1, h2, h3⟩))
  · rcases kid_set h1 with ⟨rfl, rfl⟩ | ⟨n1, h1'⟩ <;> rcases kid_set h2 with ⟨rfl, rfl⟩ | ⟨n2, h2'⟩
    · rfl
    · exact absurd t2 (C.none2 h2')
    · exact absurd t1 (C.none2 h1')
    · exact absurd t1 (C.none2 h1')

/-- The one that runs sits down again, or is gone; main gets the token. -/
theorem CI.back (C : CI E h own S ks FC n Inb w) {i : Nat} {c : CoR} {k : Kid} (hi : S.cos[i]? = some c) (hk : ks[i]? = some k) (ht : k.tag = 2) (k2 : Kid) (s2 : Option Seat)
    (h2 : (k2 = ⟨1, h, k2.g⟩ ∧ s2 = some (Seat.one c.ch (.agg #[]) false (· = k2.g))) ∨ (k2.tag = 3 ∧ s2 = none)) : CI E 0 own S (ks.set i k2) FC n (upd Inb h s2) w := by
  obtain ⟨hb, hj, h0⟩ := (C.kid i c k hi hk).2.2.2.1 ht
  have ht2 : k2.tag ≠ 2 := by rcases h2 with ⟨e, _⟩ | ⟨e, _⟩ <;> rw [e] <;> simp
  refine ⟨C.si, C.fi, C.lw, C.rows, C.base, C.low, C.sub, C.sup, by rw [List.length_set]; exact C.len, fun i' c' k' hc' hk' => ?_, fun x s hx => ?_, fun x s hx => ?_, C.chs, fun x s hx => ?_, fun s hs r hr => ?_, by have := C.hn; omega, fun i1 i2 k1 k3 h1 h3 t1 t2 => ?_⟩
  · rcases kid_set hk' with ⟨rfl, rfl⟩ | ⟨hne, hk'⟩
    · rw [hi] at hc'
      obtain rfl := Option.some.inj hc'
      rcases h2 with ⟨e, e2⟩ | ⟨e, e2⟩
      · rw [e]
        exact ⟨by simp, by simp, fun _ => ⟨hb, h0, h0, C.hn, by rw [upd_same, e2]⟩, by simp, by simp⟩
      · exact ⟨by omega, by omega, by omega, by omega, fun _ => hb⟩
    · have := C.kid i' c' k' hc' hk'
      refine ⟨this.1, this.2.1, fun ht => ?_, fun ht' => absurd ht' (C.none2' hk ht hk' hne), this.2.2.2.2⟩
      obtain ⟨h1, h2, h3, h4, h5⟩ := this.2.2.1 ht
      exact ⟨h1, h2, h2, h4, by rw [upd_ne _ _ h3]; exact h5⟩
  · obtain ⟨h1, h2, h3⟩ := C.keep x s hx
    exact ⟨by rw [upd_ne _ _ h3]; exact h1, h2, h2⟩
  · by_cases e : x = h
    · subst e
      rw [upd_same] at hx
      rcases h2 with ⟨e1, e2⟩ | ⟨e1, e2⟩
      · refine .inr (.inr (.inr ⟨i, k2, ?_, by rw [e1], by rw [e1]⟩))
        rw [List.getElem?_set_self (List.getElem?_eq_some_iff.1 hk).1]
      · rw [e2] at hx; cases hx
    · rw [upd_ne _ _ e] at hx
      rcases C.only x s hx with e' | e' | e' | ⟨i', k', h1, h2, h3⟩
      · exact .inl e'
      · exact absurd e' e
      · exact .inr (.inr (.inl e'))
      · refine .inr (.inr (.inr ⟨i', k', ?_, h2, h3⟩))
        have hne : i' ≠ i := fun e => by
          subst e
          rw [hk] at h1
          obtain rfl := Option.some.inj h1
          omega
        rw [List.getElem?_set_ne (fun h => hne h.symm)]; exact h1
  · by_cases e : x = h
    · subst e; exact C.hn
    · rw [upd_ne _ _ e] at hx; exact C.top x s hx
  · rw [upd_ne _ _ (fun e => h0 e.symm)] at hs
    exact C.seat0 s hs r hr
  · rcases kid_set h1 with ⟨rfl, rfl⟩ | ⟨n1, h1⟩
    · exact absurd t1 ht2
    · exact absurd t1 (C.none2' hk ht h1 n1)
end
end Go.Proofs.Ytolnmdanlggmhaa

/- A turn, told by the crew: a coroutine begins; one that waits goes on. -/
namespace Go.Proofs.Ytolnmdanlggmhaa
open Go.RowKit Go.Maps Go.Conc
open Go.ConcN (upd upd_ne upd_same)

set_option maxRecDepth 100000
set_option maxHeartbeats 2000000

/-- turn, entered. -/
noncomputable def turnIn (b : Nat) (cs : List Frame) : Goroutine := G ((base 64).at { tmps := #[.pointer (some ⟨b, 0, none⟩), undef, undef, undef, undef, undef, undef, undef, undef, undef, undef, undef, undef, undef, undef, undef, undef, undef, undef, undef, undef, undef, undef, undef], defers := [] } [.code bodyT]) cs
/-- The law's blocks (tags from 6 on) are as they were. -/
def Same6 (own : Nat → Nat) (w w' : World) : Prop := ∀ b, 6 ≤ own b → w'.heap[b]? = w.heap[b]?
theorem Same6.trans {own own' : Nat → Nat} {a b c : World} (h : Same6 own a b) (k : Same6 own' b c) (le : OLe own own') : Same6 own a c := fun x hx => by
  rw [k x (by rw [le x (by omega)]; exact hx), h x hx]
theorem Stp.same6 {T : Nat → Prop} {own own' : Nat → Nat} {w w' : World} (h : Stp T own own' w w') (hT : ∀ t, T t → t < 6) (hlt : ∀ b, own b ≠ 0 → b < w.heap.size) : Same6 own w w' := fun b hb => h.block b (hlt b (by omega)) fun ht => by have := hT _ ht; omega
theorem Agr.same6 {own own' : Nat → Nat} {S : Sch} {FC : List Row} {u w : World} (h : Agr own' FC u w) (f : FI own' S FC) (le : OLe own own') : Same6 own u w := fun b hb => by
  have e : own' b = own b := le b (by omega)
  exact h.eq b (by omega) (f.ne (by omega) (by omega) (by omega))
/-- .. over a step of the lone world. -/
theorem same6_step {T : Nat → Prop} {own own' : Nat → Nat} {S S' : Sch} {FC : List Row} {u w w1 : World} (a : Agr own' FC u w1) (f' : FI own' S' FC) (st : Stp T own own' (guardW FC w) u) (hT : ∀ t, T t → t < 6) (lw : LW own w) (f : FI own S FC) : Same6 own w w1 := fun b hb => by
  have hb0 : own b ≠ 0 := by omega
  rw [a.same6 f' st.le b hb, st.block b (by simpa [guardW] using (lw b hb0).1) (fun ht => by have := hT _ ht; omega), (agr_guard f.wf lw).eq b hb0 (f.ne (by omega) (by omega) (by omega))]

section
variable {Post : Value → World → Prop} {E : Env} {own : Nat → Nat} {S : Sch} {ks : List Kid} {FC : List Row} {n : Nat} {Inb : Nat → Option Seat} {w : World} {cs : List Frame} {i : Nat} {c : CoR} {k : Kid}

theorem turn_unborn (C : CI E 0 own S ks FC n Inb w) (hi : S.cos[i]? = some c) (hk : ks[i]? = some k) (ht : k.tag = 0) (hI0 : Inb 0 = some (Seat.one S.sc (.agg #[]) false (· = turnSeat c.b c.ch S.sb S.sc cs)))
    (next : ∀ FC' Inb' nb w', CI E n own { S with cos := S.cos.set i { c with begun := true } } (ks.set i ⟨2, n, default⟩) FC' (n + 1) Inb' w' → Inb' 0 = Inb 0 → (⟨nb, 0, [ptr c.b]⟩ : Row) ∈ FC' → (∀ r ∈ FC, r ∈ FC') → Same6 own w w' →
      Won Try.prog Post FC' (n + 1) Inb' n (Conc.served (runSeat c.b c.ch nb) (.agg #[])) w') : Won Try.prog Post FC n Inb 0 (turnIn c.b cs) w := by
  have hcm := List.mem_of_getElem? hi
  have hb : c.begun = false := (C.kid i c k hi hk).2.1 ht
  obtain ⟨kk, hch⟩ := C.si.ch c hcm
  refine turn_first (kk := kk) C.fi.wf (C.si.co i c hi) hb (C.fi.rco i c hi) C.fi.rsb (C.lt _ (by rw [C.si.osb]; omega)) hI0 (fun x s hx => C.fresh hi hk (by omega) x s (.inr rfl) hx) hch fun w1 d kk' hs hkp hch' => ?_
  have st : Stp (· = 4) own own (guardW FC w) ((guardW FC w).setCell ⟨c.b, 4, none⟩ (.bool true)) := stp_setCell C.ltG (C.si.oco c hcm) _
  have fi' : FI own { S with cos := S.cos.set i { c with begun := true } } FC := C.fi.setCo hi { c with begun := true } rfl rfl rfl
  obtain ⟨a, C1⟩ := C.stepK (S' := { S with cos := S.cos.set i { c with begun := true } }) (ks' := ks.set i ⟨3, 0, default⟩) hs hkp st (by omega) (C.siG.setCo hi { c with begun := true } 4 (.bool true) rfl rfl rfl) fi' rfl (by simp [C.len])
    (fun i' c' k' hc' hk' => by
      rcases kid_set hk' with ⟨rfl, rfl⟩ | ⟨hne, hk'⟩
      · rcases set_get hc' with ⟨_, rfl, _⟩ | ⟨h, _⟩
        · exact ⟨by simp, by simp, by simp, by simp, fun _ => rfl⟩
        · exact absurd rfl h
      · rcases set_get hc' with ⟨h, _⟩ | ⟨_, hc'⟩
        · exact absurd h hne
        · exact C.kid i' c' k' hc' hk')
    (fun i' k' h1 h2 => by
      have hne : i' ≠ i := fun e => by subst e; rw [hk] at h1; obtain rfl := Option.some.inj h1; omega
      rw [List.getElem?_set_ne (fun h => hne h.symm)]; exact h1)
    (fun i1 i2 k1 k2 h1 h2 t1 t2 => by
      rcases kid_set h1 with ⟨rfl, rfl⟩ | ⟨_, h1'⟩
      · simp at t1
      · exact absurd t1 (C.none2 h1'))
  have C2 := C1.box (ptr c.b) 58 d
  have hi' : (S.cos.set i { c with begun := true })[i]? = some { c with begun := true } := by rw [List.getElem?_set_self (List.getElem?_eq_some_iff.1 hi).1]
  have hk' : (ks.set i ⟨3, 0, default⟩)[i]? = some (⟨3, 0, default⟩ : Kid) := by rw [List.getElem?_set_self (List.getElem?_eq_some_iff.1 hk).1]
  have C3 := C2.born (c := { c with begun := true }) (k := ⟨3, 0, default⟩) hi' hk' (by simp) rfl (.agg #[]) (· = runSeat c.b c.ch w1.heap.size) default
  rw [List.set_set] at C3
  have C4 := C3.chan (c := c.ch) (k := kk' + 1) (d := d) (C.si.och c hcm)
  refine next _ _ w1.heap.size _ C4 (upd_ne _ _ (by have := C.hn; omega)) List.mem_cons_self (fun r hr => List.mem_cons_of_mem _ hr) ?_
  have s1 : Same6 own w w1 := same6_step a fi' st (fun t h => by omega) C.lw C.fi
  intro b hb
  have hbl := C.lt b (by omega)
  have hne : b ≠ c.ch := fun e => by rw [e, C.si.och c hcm] at hb; omega
  rw [heap_setChan_ne _ _ _ _ _ _ _ (fun e => hne e.symm)]
  show (w1.heap.push _)[b]? = _
  rw [Array.getElem?_push, if_neg (by have := hkp.grow; omega)]
  exact s1 b hb

end

/-- turn's slots at its send, whatever it went through before. -/
def turnB' (p5 p6 p7 p8 p9 p10 : Value) (c ch : Nat) : Array Value := #[ptr c, undef, ptr c, ptr c, .pointer (some ⟨c, 4, none⟩), p5, p6, p7, p8, p9, p10, ptr c, ptr c, .pointer (some ⟨c, 3, none⟩), .chan (some ch), .agg #[], undef, undef, undef, undef, undef, undef, undef, undef]
def turnC' (p5 p6 p7 p8 p9 p10 : Value) (c ch sb sc : Nat) : Array Value := #[ptr c, undef, ptr c, ptr c, .pointer (some ⟨c, 4, none⟩), p5, p6, p7, p8, p9, p10, ptr c, ptr c, .pointer (some ⟨c, 3, none⟩), .chan (some ch), .agg #[], ptr c, ptr c, .pointer (some ⟨c, 0, none⟩), ptr sb, ptr sb, .pointer (some ⟨sb, 2, none⟩), .chan (some sc), undef]
noncomputable def turnSend' (p5 p6 p7 p8 p9 p10 : Value) (c ch : Nat) (cs : List Frame) : Goroutine := G ((base 64).at ⟨turnB' p5 p6 p7 p8 p9 p10 c ch, []⟩ [.inRegion (opsOf (sel [1, 0] bodyT)) [5], .code (sel [1, 1] bodyT)]) cs
noncomputable def turnSeat' (p5 p6 p7 p8 p9 p10 : Value) (c ch sb sc : Nat) (cs : List Frame) : Goroutine := G ((base 64).at ⟨turnC' p5 p6 p7 p8 p9 p10 c ch sb sc, []⟩ [.inRegion (opsOf (sel [1, 1] bodyT)) [7]]) cs
theorem turnSeat_eq (c ch sb sc : Nat) (cs : List Frame) : turnSeat c ch sb sc cs = turnSeat' (.bool false) (.bool true) (ptr c) (ptr c) (.pointer (some ⟨c, 4, none⟩)) (ptr c) c ch sb sc cs := rfl

section
variable {p5 p6 p7 p8 p9 p10 : Value}
theorem turn_send_at' {main : Bool} (c ch : Nat) (cs : List Frame) (w : World) : stepG Try.prog main (turnSend' p5 p6 p7 p8 p9 p10 c ch cs) w = .comm (turnSend' p5 p6 p7 p8 p9 p10 c ch cs) #[scase ch (.agg #[]) (.tuple #[])] true .send w := by
  unfold turnSend'
  have hr : (execOp (Act.eval ⟨turnB' p5 p6 p7 p8 p9 p10 c ch, []⟩) ((opsOf (sel [1, 0] bodyT))[5]?.getD default)).run Try.prog w = .ok (.comm #[scase ch (.agg #[]) (.tuple #[])] true .send) w := by rfl
  rw [stepG_comm (ops := opsOf (sel [1, 0] bodyT)) (i := 5) rfl (by rfl) (by decide) hr]
  rfl
theorem turn_recv_at' {main : Bool} {K : World → Prop} {Still : Loc → Prop} {B : Nat} (c ch sb sc : Nat) (cs : List Frame) : AtIn Try.prog main K Still B (Seat.one sc (.agg #[]) false (· = turnSeat' p5 p6 p7 p8 p9 p10 c ch sb sc cs)) (turnSeat' p5 p6 p7 p8 p9 p10 c ch sb sc cs) (turnSeat' p5 p6 p7 p8 p9 p10 c ch sb sc cs) := by
  refine ⟨rfl, rfl, rfl, rfl, rfl, #[], by simp, fun w _ => ?_⟩
  exact comm_quiet (ops := opsOf (sel [1, 1] bodyT)) (i := 7) rfl (by rfl) (by decide) (by kernel_rfl) (by kernel_rfl)
theorem turn_sits' {main : Bool} {FC : List Row} {B : Nat} {cs : List Frame} {c ch sb sc : Nat} {x1 x2 x3 : Value} (hr : (⟨c, 0, [ptr sb, x1, x2, x3]⟩ : Row) ∈ FC) (hs : (⟨sb, 2, [.chan (some sc)]⟩ : Row) ∈ FC) (hB : c < B) (hB' : sb < B) :
    Sits Try.prog main (KF FC) (SF FC) B (Seat.one sc (.agg #[]) false (· = turnSeat' p5 p6 p7 p8 p9 p10 c ch sb sc cs)) 10 (Conc.served (turnSend' p5 p6 p7 p8 p9 p10 c ch cs) undef) := by
  refine .inl ⟨9, default, rfl, ?_⟩
  show Goes _ _ _ _ _ _ (G ((base 64).at ⟨turnB' p5 p6 p7 p8 p9 p10 c ch, []⟩ [.inRegion (opsOf (sel [1, 0] bodyT)) [], .code (sel [1, 1] bodyT)]) cs) _
  refine gk_still rfl (fun _ => stepG_region_end) ?_
  refine gk_still rfl (fun _ => stepG_region (id := 4) (ops := opsOf (sel [1, 1] bodyT))) ?_
  refine gk_quiet (i := 0) (rest := [1, 2, 3, 4, 5, 6, 7]) (ptr c) rfl (by rfl) (by decide) (fun _ => by kernel_rfl) (fun _ => by kernel_rfl) ?_
  refine gk_quiet (i := 1) (rest := [2, 3, 4, 5, 6, 7]) (ptr c) rfl (by rfl) (by decide) (fun _ => by kernel_rfl) (fun _ => by kernel_rfl) ?_
  refine gk_quiet (i := 2) (rest := [3, 4, 5, 6, 7]) (.pointer (some ⟨c, 0, none⟩)) rfl (by rfl) (by decide) (fun _ => by kernel_rfl) (fun _ => by kernel_rfl) ?_
  refine gk_load (i := 3) (rest := [4, 5, 6, 7]) ⟨c, 0, none⟩ (ptr sb) rfl (by rfl) (by decide) loads_sched rfl (by kernel_rfl) (fun w h => h _ hr 0 _ rfl) (sf_of hr (i := 0) (by simp) rfl) hB ?_
  refine gk_quiet (i := 4) (rest := [5, 6, 7]) (ptr sb) rfl (by rfl) (by decide) (fun _ => by kernel_rfl) (fun _ => by kernel_rfl) ?_
  refine gk_quiet (i := 5) (rest := [6, 7]) (.pointer (some ⟨sb, 2, none⟩)) rfl (by rfl) (by decide) (fun _ => by kernel_rfl) (fun _ => by kernel_rfl) ?_
  refine gk_load (i := 6) (rest := [7]) ⟨sb, 2, none⟩ (.chan (some sc)) rfl (by rfl) (by decide) loads_chan rfl (by kernel_rfl) (fun w h => h _ hs 0 _ rfl) (sf_of hs (i := 0) (by simp) rfl) hB' ?_
  exact Goes.stop fun w₁ _ => ⟨_, turn_recv_at' c ch sb sc cs⟩

/-- turn, served: back to whoever called it. -/
theorem turn_back {main : Bool} {Z : Addr → Prop} {Stop : Goroutine → World → Prop} {w₀ u : World} {c ch sb sc : Nat} {b₀ : Frame} {a₀ : Act} {ops : Array Oper} {i : Nat} {rest : List Nat} {k : List Item} {cs : List Frame}
    (hk : OwnU Try.prog main Z Stop w₀ (G (b₀.at (a₀.put ((ops[i]?).bind (·.dst)) (.tuple #[])) (.inRegion ops rest :: k)) cs) u) :
    OwnU Try.prog main Z Stop w₀ (Conc.served (turnSeat' p5 p6 p7 p8 p9 p10 c ch sb sc (b₀.at a₀ (.inRegion ops (i :: rest) :: k) :: cs)) (.agg #[])) u := by
  show OwnU _ _ _ _ _ (G ((base 64).at ⟨#[ptr c, undef, ptr c, ptr c, .pointer (some ⟨c, 4, none⟩), p5, p6, p7, p8, p9, p10, ptr c, ptr c, .pointer (some ⟨c, 3, none⟩), .chan (some ch), .agg #[], ptr c, ptr c, .pointer (some ⟨c, 0, none⟩), ptr sb, ptr sb, .pointer (some ⟨sb, 2, none⟩), .chan (some sc), .agg #[]], []⟩ [.inRegion (opsOf (sel [1, 1] bodyT)) []]) _) _
  refine ownU_region_end ?_
  refine ownU_end ?_
  exact ownU_leave0 rfl rfl Try.func64 rfl hk
end

section
variable {P : Program} {L : List FuncId} {main : Bool} {Z : Addr → Prop} {Stop : Goroutine → World → Prop} {w₀ u : World} {b : Frame} {a : Act} {k : List Item} {cs : List Frame} {ops : Array Oper} {i : Nat} {rest : List Nat} {o : Oper}
/-- An operation that yields a value out of its slots. -/
theorem ownU_quiet (z : Value) (ho : ops[i]? = some o) (hw : Region.wanted o (yielded ops a.tmps) = true) (hok : okOp P [] o.op = true) (hb : b.kind ≠ .early) (h : ∀ w, (execOp a.eval o).run P w = .ok (.value z) w)
    (hk : OwnU P main Z Stop w₀ (G (b.at (a.put o.dst z) (.inRegion ops rest :: k)) cs) u) : OwnU P main Z Stop w₀ (G (b.at a (.inRegion ops (i :: rest) :: k)) cs) u :=
  ownU_op (L := []) ho hok hw hb fun A d => by
    rw [h]
    exact ownU_tp.2 hk
/-- A load. -/
theorem ownU_load {t : TypeId} {x : Operand} (ad : Addr) (v : Value) (ho : ops[i]? = some o) (hw : Region.wanted o (yielded ops a.tmps) = true) (hb : b.kind ≠ .early) (hl : Loads1 P t) (hop : o.op = .load t x) (hx : a.eval x = .pointer (some ad)) (hc : u.cell? ad = some v)
    (hk : OwnU P main Z Stop w₀ (G (b.at (a.put o.dst v) (.inRegion ops rest :: k)) cs) u) : OwnU P main Z Stop w₀ (G (b.at a (.inRegion ops (i :: rest) :: k)) cs) u :=
  ownU_op (L := []) ho (by rw [hop]; rfl) hw hb fun A d => by
    have hc' : (tp u A d).cell? ad = some v := hc
    rw [(load_op hl hop hx hc').1]
    exact ownU_tp.2 hk
end
theorem loads_bool : Loads1 Try.prog 4 := fun w ad v h => ⟨by simp [go_sem, h], by simp [go_sem, h]⟩

/-- turn of one that has begun, up to its send. -/
theorem turn_own' {main : Bool} {Z : Addr → Prop} {Stop : Goroutine → World → Prop} {w₀ u : World} {cs : List Frame} {sb i : Nat} {c : CoR} (hc : CoAt u sb i c) (hb : c.begun = true)
    (hk : OwnU Try.prog main Z Stop w₀ (turnSend' (.bool true) (.bool false) undef undef undef undef c.b c.ch cs) u) : OwnU Try.prog main Z Stop w₀ (turnIn c.b cs) u := by
  have c4 := cellsAt_cell hc 4 (.bool true) (by rw [← hb]; rfl)
  have c3 := cellsAt_cell hc 3 (.chan (some c.ch)) rfl
  show OwnU _ _ _ _ _ (G ((base 64).at { tmps := #[ptr c.b, undef, undef, undef, undef, undef, undef, undef, undef, undef, undef, undef, undef, undef, undef, undef, undef, undef, undef, undef, undef, undef, undef, undef], defers := [] } [.code bodyT]) cs) _
  refine ownU_seq (x := sel [0] bodyT) (y := sel [1] bodyT) ?_
  refine ownU_seq (x := sel [0, 0] bodyT) (y := sel [0, 1] bodyT) ?_
  refine ownU_region (id := 0) (ops := opsOf (sel [0, 0] bodyT)) ?_
  refine ownU_quiet (i := 0) (rest := [1, 2, 3, 4]) (ptr c.b) rfl (by rfl) rfl (by decide) (fun _ => by kernel_rfl) ?_
  refine ownU_quiet (i := 1) (rest := [2, 3, 4]) (ptr c.b) rfl (by rfl) rfl (by decide) (fun _ => by kernel_rfl) ?_
  refine ownU_quiet (i := 2) (rest := [3, 4]) (.pointer (some ⟨c.b, 4, none⟩)) rfl (by rfl) rfl (by decide) (fun _ => by kernel_rfl) ?_
  refine ownU_load (i := 3) (rest := [4]) ⟨c.b, 4, none⟩ (.bool true) rfl (by rfl) (by decide) loads_bool rfl (by kernel_rfl) c4 ?_
  refine ownU_quiet (i := 4) (rest := []) (.bool false) rfl (by rfl) rfl (by decide) (fun _ => by kernel_rfl) ?_
  refine ownU_region_end ?_
  refine ownU_cond (c := .tmp 6) (x := sel [0, 1, 2] bodyT) (y := .skip) (t := false) rfl ?_
  refine ownU_skip ?_
  refine ownU_seq (x := sel [1, 0] bodyT) (y := sel [1, 1] bodyT) ?_
  refine ownU_region (id := 3) (ops := opsOf (sel [1, 0] bodyT)) ?_
  refine ownU_quiet (i := 0) (rest := [1, 2, 3, 4, 5]) (ptr c.b) rfl (by rfl) rfl (by decide) (fun _ => by kernel_rfl) ?_
  refine ownU_quiet (i := 1) (rest := [2, 3, 4, 5]) (ptr c.b) rfl (by rfl) rfl (by decide) (fun _ => by kernel_rfl) ?_
  refine ownU_quiet (i := 2) (rest := [3, 4, 5]) (.pointer (some ⟨c.b, 3, none⟩)) rfl (by rfl) rfl (by decide) (fun _ => by kernel_rfl) ?_
  refine ownU_load (i := 3) (rest := [4, 5]) ⟨c.b, 3, none⟩ (.chan (some c.ch)) rfl (by rfl) (by decide) loads_chan rfl (by kernel_rfl) c3 ?_
  refine ownU_quiet (i := 4) (rest := [5]) (.agg #[]) rfl (by rfl) rfl (by decide) (fun _ => by kernel_rfl) ?_
  exact ownU_eq (by kernel_rfl) hk

section
variable {Post : Value → World → Prop} {E : Env} {own : Nat → Nat} {S : Sch} {ks : List Kid} {FC : List Row} {n : Nat} {Inb : Nat → Option Seat} {w : World} {cs : List Frame} {i : Nat} {c : CoR} {k : Kid}
theorem turn_begun (C : CI E 0 own S ks FC n Inb w) (hi : S.cos[i]? = some c) (hk : ks[i]? = some k) (ht : k.tag = 1) (hI0 : Inb 0 = some (Seat.one S.sc (.agg #[]) false (· = turnSeat' (.bool true) (.bool false) undef undef undef undef c.b c.ch S.sb S.sc cs)))
    (next : ∀ w', CI E k.j own S (ks.set i ⟨2, k.j, k.g⟩) FC n Inb w' → Same6 own w w' → Won Try.prog Post FC n Inb k.j (Conc.served k.g (.agg #[])) w') : Won Try.prog Post FC n Inb 0 (turnIn c.b cs) w := by
  obtain ⟨hb, hj0, _, hjn, hseat⟩ := (C.kid i c k hi hk).2.2.1 ht
  have hcm := List.mem_of_getElem? hi
  have hca := C.siG.co i c hi
  refine win_own C.fi.wf (turn_own' (main := true) (c := c) (cs := cs) hca hb (ownU_stop fun w1 hs hkp => ?_))
  obtain ⟨a, C1⟩ := C.step hs hkp (Stp.refl C.ltG (T := fun _ => False)) (fun h => h) C.siG C.fi rfl rfl (fun i c h => ⟨c, h, rfl, rfl⟩)
  have s1 : Same6 own w w1 := same6_step a C.fi (Stp.refl C.ltG (T := fun _ => False)) (fun _ h => h.elim) C.lw C.fi
  refine win_give (nh := 10) (Inb' := Inb) (g₂ := turnSend' (.bool true) (.bool false) undef undef undef undef c.b c.ch cs) C.fi.wf hj0 hjn hseat rfl (fun w => turn_send_at' c.b c.ch cs w) (fun _ _ => rfl) (.inl rfl) (fun T' _ => ?_) fun d cap kk hch => ?_
  · rw [hI0]
    exact turn_sits' (C.fi.rco i c hi) C.fi.rsb (C1.lt _ (by rw [C.si.oco c hcm]; omega)) (C1.lt _ (by rw [C.si.osb]; omega))
  · obtain ⟨kk', hch'⟩ := C1.si.ch c hcm
    have hcap : cap = 0 := by rw [hch'] at hch; injection hch with e; injection e with e; exact e.symm
    subst hcap
    refine next _ ((C1.wake hi hk ht).chan (C.si.och c hcm)) ?_
    exact s1.trans (Stp.same6 (stp_setChan C1.lt (C.si.och c hcm)) (fun t h => by omega) C1.lt) (OLe.refl _)
end
end Go.Proofs.Ytolnmdanlggmhaa
