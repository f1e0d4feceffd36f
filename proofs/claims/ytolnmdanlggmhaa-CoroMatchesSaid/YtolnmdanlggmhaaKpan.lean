/- More of the own run's rules: panics that turn the world, deferred calls that come back, results that lie in a cell, calls of methods by their name. -/
import Derived.Test.YtolnmdanlggmhaaKi
import Derived.Test.YtolnmdanlggmhaaKe
namespace Go.Proofs.Ytolnmdanlggmhaa
open Go.RowKit Go.Maps Go.Conc

section
variable {P : Program} {main : Bool} {Z : Addr → Prop} {Stop : Goroutine → World → Prop} {w₀ u : World} {b : Frame} {a : Act} {k : List Item} {cs : List Frame} {ops : Array Oper} {i : Nat} {rest : List Nat} {o : Oper}

/-- A deferred call has come back; its caller goes on as it was. -/
theorem ownU_popD {fn : Func} {fr : Frame} {todo : List Item} (hn : b.kind = .deferred) (hd : a.defers = []) (hf : P.funcs[b.fn]? = some fn) (hr : fn.results = #[]) (hm : fr.mode = .returning ∨ ∃ v, fr.mode = .panicking [{ v := v, recovered := false }]) (hk : OwnU P main Z Stop w₀ (G fr cs) u) :
    OwnU P main Z Stop w₀ (G { b.at a todo with mode := .returning } (fr :: cs)) u := by
  refine ownU_still rfl (fun w => ?_) hk
  rw [stepG_unw (by simp)]
  have h1 : (results fn a.tmps).run P w = .ok (.tuple #[]) w := results_none hr a.tmps P w
  have h2 : (results fn a.tmps).events P w #[] = #[] := events_results_none hr _ _
  rcases hm with hm | ⟨v, hm⟩ <;> simp [unwind, Frame.at, hd, hf, h1, h2, doReturn, hn, hm, seen_none, GStep.after, G]

/-- A function comes back with a result that lies in a cell. -/
theorem ownU_leaveC {fn : Func} {b₀ : Frame} {a₀ : Act} {todo : List Item} {r : Tmp} {t : TypeId} {ad : Addr} {v : Value} (hn : b.kind = .normal) (hd : a.defers = []) (hf : P.funcs[b.fn]? = some fn) (hr : fn.results = #[.cell r t]) (ha : a.tmps.getD r undef = .pointer (some ad))
    (hl : ∀ w : World, w.cell? ad = some v → (loadVar t ad).run P w = .ok v w) (hc : u.cell? ad = some v)
    (hk : OwnU P main Z Stop w₀ (G (b₀.at (a₀.put ((ops[i]?).bind (·.dst)) v) (.inRegion ops rest :: k)) cs) u) : OwnU P main Z Stop w₀ (G { b.at a todo with mode := .returning } (b₀.at a₀ (.inRegion ops (i :: rest) :: k) :: cs)) u := by
  have e : results fn a.tmps = (loadVar t ad >>= fun v => pure v) := by
    unfold results
    rw [hr]
    have ha' : a.tmps[r]?.getD undef = .pointer (some ad) := by rw [← ha]; simp
    simp [asAddr, ha']
  have hg : Good P [] (results fn a.tmps) := by rw [e]; exact good_bind (g_loadVar _ _ _) fun _ => good_pure _ _
  refine ownU_term (e := results fn a.tmps) (f := b.fn) hg rfl fun A d => ⟨v, tp u A d, G (b₀.at (a₀.put ((ops[i]?).bind (·.dst)) v) (.inRegion ops rest :: k)) cs, ?_, fun w w' h => ?_, ownU_tp.2 hk⟩
  · rw [e, Sem.run_bind, hl (tp u A d) hc]
    rfl
  · have hfin : (b₀.at a₀ (.inRegion ops (i :: rest) :: k)).finish v = b₀.at (a₀.put ((ops[i]?).bind (·.dst)) v) (.inRegion ops rest :: k) := by rw [Frame.finish_at]
    rw [stepG_unw (by simp), ← hfin]
    simp [unwind, Frame.at, hd, hf, h, doReturn, hn, GStep.after, G]


/-- A frame, said otherwise. -/
theorem ownU_fr {fr fr2 : Frame} (h : fr = fr2) (hk : OwnU P main Z Stop w₀ (G fr2 cs) u) : OwnU P main Z Stop w₀ (G fr cs) u := by
  subst h; exact hk
end
end Go.Proofs.Ytolnmdanlggmhaa

/- coro's text, in company. (Printed by gen_text.py.) -/
namespace Go.Proofs.Ytolnmdanlggmhaa
open Go.RowKit Go.Maps Go.Conc
open Go.ConcN (upd upd_ne upd_same)

set_option maxRecDepth 100000
set_option maxHeartbeats 2000000

noncomputable abbrev bodyTx : Code := Try.f81.body.getD .skip
noncomputable abbrev bodyTxd : Code := Try.f83.body.getD .skip
noncomputable def textFr (v : Value) : Frame := (base 81).at ⟨#[v, undef, undef, undef, undef, undef, undef, undef, undef, undef, undef, undef, undef, undef, undef, undef, undef, undef, undef, undef, undef, undef, undef], []⟩ [.code bodyTx]
noncomputable def textIn (v : Value) (cs : List Frame) : Goroutine := G (textFr v) cs
def tdDefer (tb : Nat) : Deferred := { target := .fn (.func 83) #[ptr tb], args := #[] }
theorem loadVar_str (w : World) {ad : Addr} {v : Value} (h : w.cell? ad = some v) : (loadVar 9 ad).run Try.prog w = .ok v w := by
  simp [loadVar, isAgg, go_sem, h]

theorem td_quiet {main : Bool} {Z : Addr → Prop} {Stop : Goroutine → World → Prop} {w₀ u : World} {tb : Nat} {fr : Frame} {cs : List Frame} (hm : fr.mode = .returning) (hk : OwnU Try.prog main Z Stop w₀ (G fr cs) u) : OwnU Try.prog main Z Stop w₀ (G ((baseD 83).at ⟨#[ptr tb, undef, undef], []⟩ [.code bodyTxd]) (fr :: cs)) u := by
  refine ownU_seq (x := sel [0] bodyTxd) (y := sel [1] bodyTxd) ?_
  refine ownU_region (id := 0) (ops := opsOf (sel [0] bodyTxd)) ?_
  refine ownU_recover0 (i := 0) (rest := [1]) rfl (by rfl) (by decide) (fun _ => by kernel_rfl) (fun _ => by kernel_rfl) (try_none rfl hm) ?_
  refine ownU_quiet (i := 1) (rest := []) (.bool false) rfl (by rfl) rfl (by decide) (fun _ => by kernel_rfl) ?_
  refine ownU_region_end ?_
  refine ownU_cond (c := .tmp 2) (x := sel [1, 2] bodyTxd) (y := .skip) (t := false) (by kernel_rfl) ?_
  refine ownU_skip ?_
  refine ownU_end ?_
  exact ownU_popD (fn := Try.f83) rfl rfl Try.func83 rfl (.inl hm) hk
/-- text on its way out, its result laid. -/
theorem text_out {main : Bool} {Z : Addr → Prop} {Stop : Goroutine → World → Prop} {w₀ u : World} {b₀ : Frame} {a₀ : Act} {ops : Array Oper} {i : Nat} {rest : List Nat} {k todo : List Item} {cs : List Frame} {ts : Array Value} {tb : Nat} {s : ByteArray} (h2 : ts.getD 2 undef = ptr tb) (hc : u.cell? ⟨tb, 0, none⟩ = some (.string s))
    (hk : OwnU Try.prog main Z Stop w₀ (G (b₀.at (a₀.put ((ops[i]?).bind (·.dst)) (.string s)) (.inRegion ops rest :: k)) cs) u) : OwnU Try.prog main Z Stop w₀ (G { (base 81).at ⟨ts, [tdDefer tb]⟩ todo with mode := .returning } (b₀.at a₀ (.inRegion ops (i :: rest) :: k) :: cs)) u := by
  refine ownU_deferred (args := #[]) (ca := #[ptr tb]) (ds := []) (by simp) rfl Try.func83 (by kernel_rfl) rfl ?_
  refine ownU_eq (g := G ((baseD 83).at ⟨#[ptr tb, undef, undef], []⟩ [.code bodyTxd]) ({ (base 81).at ⟨ts, []⟩ todo with mode := .returning } :: b₀.at a₀ (.inRegion ops (i :: rest) :: k) :: cs)) (by kernel_rfl) ?_
  refine td_quiet rfl ?_
  exact ownU_leaveC (fn := Try.f81) (r := 2) (t := 9) (ad := ⟨tb, 0, none⟩) rfl rfl Try.func81 rfl h2 (fun w h => loadVar_str w h) hc hk
/-- What text does with a value: it returns this string; only new blocks differ. -/
def TextOf (v : Value) (out : ByteArray) : Prop := ∀ {main : Bool} {Z : Addr → Prop} {Stop : Goroutine → World → Prop} {w₀ u : World} {b₀ : Frame} {a₀ : Act} {ops : Array Oper} {i : Nat} {rest : List Nat} {k : List Item} {cs : List Frame},
  (∀ u', New u u' → OwnU Try.prog main Z Stop w₀ (G (b₀.at (a₀.put ((ops[i]?).bind (·.dst)) (.string out)) (.inRegion ops rest :: k)) cs) u') → OwnU Try.prog main Z Stop w₀ (textIn v (b₀.at a₀ (.inRegion ops (i :: rest) :: k) :: cs)) u
theorem text_new {u u1 : World} {tb : Nat} (htb : u.heap.size = tb) (h : New u u1) (x : Value) : New u (u1.setCell ⟨tb, 0, none⟩ x) := by
  refine ⟨h.os, h.output, by rw [setCell_size]; exact h.size, fun b hb => ?_⟩
  rw [setCell_get, if_neg (by simp only; omega)]
  exact h.block b hb

theorem text_str (s : ByteArray) : TextOf (.iface 9 (.string s)) s := by
  intro main Z Stop w₀ u b₀ a₀ ops i rest k cs hk
  unfold textIn textFr
  refine ownU_seq (x := sel [0] bodyTx) (y := sel [1] bodyTx) ?_
  refine ownU_region (id := 0) (ops := opsOf (sel [0] bodyTx)) ?_
  refine ownU_new (.cells #[.string ByteArray.empty] 9) (i := 0) (rest := []) rfl (by rfl) rfl (by decide) (fun _ => by kernel_rfl) ?_
  refine ownU_region_end ?_
  have hnew := New.alloc u (.cells #[.string ByteArray.empty] 9)
  have hblk : (u.alloc (.cells #[.string ByteArray.empty] 9)).heap[u.heap.size]? = some (.cells #[.string ByteArray.empty] 9 (0, 0)) := alloc_new' u _ rfl
  generalize u.alloc (.cells #[.string ByteArray.empty] 9) = u1 at *
  have hlo : u.heap.size ≤ u.heap.size := Nat.le_refl _
  generalize htb : u.heap.size = tb at *
  have hc : u1.cell? ⟨tb, 0, none⟩ = some (.string ByteArray.empty) := blk_cell hblk 0 _ rfl
  have hfz : u1.frozen? ⟨tb, 0, none⟩ = false := by unfold World.frozen?; simp [hblk]
  refine ownU_seq (x := sel [1, 0] bodyTx) (y := sel [1, 1] bodyTx) ?_
  refine ownU_region (id := 1) (ops := opsOf (sel [1, 0] bodyTx)) ?_
  refine ownU_quiet (i := 0) (rest := [1]) (.func (.func 83) #[] #[ptr tb]) rfl (by rfl) rfl (by decide) (fun _ => by kernel_rfl) ?_
  refine ownU_defer (i := 1) (rest := []) (d := tdDefer tb) rfl (by rfl) (by decide) (fun _ => by kernel_rfl) (fun _ => by kernel_rfl) ?_
  refine ownU_region_end ?_
  refine ownU_lit (#[.iface 9 (.string s), undef, ptr tb, undef, undef, undef, undef, .func (.func 83) #[] #[ptr tb], undef, undef, undef, undef, undef, undef, undef, undef, undef, undef, undef, undef, undef, undef, undef]) [tdDefer tb] (by kernel_rfl) (by kernel_rfl) ?_
  refine ownU_seq (x := sel [1, 1, 0] bodyTx) (y := sel [1, 1, 1] bodyTx) ?_
  refine ownU_seq (x := sel [1, 1, 0, 0] bodyTx) (y := sel [1, 1, 0, 1] bodyTx) ?_
  refine ownU_region (id := 2) (ops := opsOf (sel [1, 1, 0, 0] bodyTx)) ?_
  refine ownU_quiet (i := 0) (rest := [1, 2, 3, 4, 5, 6]) (.iface 9 (.string s)) rfl (by rfl) rfl (by decide) (fun _ => by kernel_rfl) ?_
  refine ownU_quiet (i := 1) (rest := [2, 3, 4, 5, 6]) (.tuple #[.string s, .bool true]) rfl (by rfl) rfl (by decide) (fun _ => by kernel_rfl) ?_
  refine ownU_quiet (i := 2) (rest := [3, 4, 5, 6]) (.tuple #[.string s, .bool true]) rfl (by rfl) rfl (by decide) (fun _ => by kernel_rfl) ?_
  refine ownU_quiet (i := 3) (rest := [4, 5, 6]) (.string s) rfl (by rfl) rfl (by decide) (fun _ => by kernel_rfl) ?_
  refine ownU_quiet (i := 4) (rest := [5, 6]) (.bool true) rfl (by rfl) rfl (by decide) (fun _ => by kernel_rfl) ?_
  refine ownU_quiet (i := 5) (rest := [6]) (.string s) rfl (by rfl) rfl (by decide) (fun _ => by kernel_rfl) ?_
  refine ownU_quiet (i := 6) (rest := []) (.bool true) rfl (by rfl) rfl (by decide) (fun _ => by kernel_rfl) ?_
  refine ownU_region_end ?_
  refine ownU_seq (x := sel [1, 1, 0, 1, 0] bodyTx) (y := sel [1, 1, 0, 1, 1] bodyTx) ?_
  refine ownU_region (id := 3) (ops := opsOf (sel [1, 1, 0, 1, 0] bodyTx)) ?_
  refine ownU_quiet (i := 0) (rest := []) (.bool true) rfl (by rfl) rfl (by decide) (fun _ => by kernel_rfl) ?_
  refine ownU_region_end ?_
  refine ownU_cond (c := .tmp 13) (x := sel [1, 1, 0, 1, 1, 2] bodyTx) (y := .skip) (t := true) (by kernel_rfl) ?_
  refine ownU_seq (x := sel [1, 1, 0, 1, 1, 2, 0] bodyTx) (y := .ret) ?_
  refine ownU_region (id := 4) (ops := opsOf (sel [1, 1, 0, 1, 1, 2, 0] bodyTx)) ?_
  refine ownU_quiet (i := 0) (rest := [1]) (.string s) rfl (by rfl) rfl (by decide) (fun _ => by kernel_rfl) ?_
  refine ownU_store (i := 1) (rest := []) ⟨tb, 0, none⟩ (.string s) rfl (by rfl) rfl (by decide) (fun w h1 h2 => store_op (stores_str _) rfl (by kernel_rfl) (by kernel_rfl) (h1.trans hc) (h2.trans hfz)) ?_
  refine ownU_region_end ?_
  refine ownU_lit (#[.iface 9 (.string s), undef, ptr tb, .string s, .bool true, undef, undef, .func (.func 83) #[] #[ptr tb], .tuple #[.string s, .bool true], .iface 9 (.string s), .tuple #[.string s, .bool true], .string s, .bool true, .bool true, .string s, undef, undef, undef, undef, undef, undef, undef, undef]) [tdDefer tb] (by kernel_rfl) (by kernel_rfl) ?_
  refine ownU_ret ?_
  refine text_out rfl (World.cell?_setCell_same _ _ _ hc) (hk _ ?_)
  exact text_new htb hnew _
end Go.Proofs.Ytolnmdanlggmhaa

/- A coroutine's goroutine ends by a panic, or as the scheduler is closed. (Printed by gen_panic.py.) -/
namespace Go.Proofs.Ytolnmdanlggmhaa
open Go.RowKit Go.Maps Go.Conc
open Go.ConcN (upd upd_ne upd_same)

set_option maxRecDepth 100000
set_option maxHeartbeats 2000000

/-- A value that is not what Close ends coroutines with. -/
def NotEnd (v : Value) : Prop := v = .nilIface ∨ ∃ ty y, v = .iface ty y ∧ ty ≠ 106
theorem ta_other {a : Act} {o : Oper} {x : Operand} {v : Value} (w : World) (ho : o.op = .typeAssert x 20 106 true) (hx : a.eval x = v) (hv : NotEnd v) : (execOp a.eval o).run Try.prog w = .ok (.value (.tuple #[.agg #[], .bool false])) w := by
  have hz : ∀ w, (zeroValue 106).run Try.prog w = .ok (.agg #[]) w := fun w => by kernel_rfl
  unfold execOp
  simp only [ho, hx]
  unfold Instr.typeAssert
  rcases hv with rfl | ⟨ty, y, rfl, hne⟩
  · simp [go_sem, hz, Sem.run_map]
  · simp [go_sem, hne, hz, Sem.run_map]

theorem end_ended {main : Bool} {Z : Addr → Prop} {Stop : Goroutine → World → Prop} {w₀ u : World} {fr : Frame} {c nb sb sc : Nat} {st : Int} (hm : fr.mode = .panicking [{ v := endV, recovered := false }]) (hn : u.cell? ⟨nb, 0, none⟩ = some (ptr c)) (c5 : u.cell? ⟨c, 5, none⟩ = some (.int .i64 st)) (f5 : u.frozen? ⟨c, 5, none⟩ = false) (c0 : u.cell? ⟨c, 0, none⟩ = some (ptr sb)) (s2 : u.cell? ⟨sb, 2, none⟩ = some (.chan (some sc)))
    (hk : ∀ ts u1, New u u1 → ts.getD 35 undef = .chan (some sc) → ts.getD 36 undef = .agg #[] → OwnU Try.prog main Z Stop w₀ (endSend ts [{ fr with mode := .panicking [{ v := endV, recovered := true }] }, botR]) (u1.setCell ⟨c, 5, none⟩ (.int .i64 5))) : OwnU Try.prog main Z Stop w₀ (G ((baseD 80).at ⟨List.toArray (ptr nb :: undef :: undef :: undef :: undef :: undef :: undef :: undef :: undef :: undef :: undef :: undef :: undef :: undef :: undef :: undef :: undef :: undef :: undef :: undef :: undef :: undef :: undef :: undef :: undef :: undef :: undef :: undef :: undef :: undef :: undef :: undef :: undef :: undef :: undef :: undef :: undef :: []), []⟩ [.code bodyE]) [fr, botR]) u := by
  refine ownU_seq (x := sel [0] bodyE) (y := sel [1] bodyE) ?_
  refine ownU_region (id := 0) (ops := opsOf (sel [0] bodyE)) ?_
  refine ownU_recover1 (i := 0) (rest := [1]) rfl (by rfl) (by decide) (fun _ => by kernel_rfl) (fun _ => by kernel_rfl) (try_some rfl hm) ?_
  refine ownU_quiet (i := 1) (rest := []) (endV) rfl (by rfl) rfl (by decide) (fun _ => by kernel_rfl) ?_
  refine ownU_region_end ?_
  refine ownU_seq (x := sel [1, 0] bodyE) (y := sel [1, 1] bodyE) ?_
  refine ownU_region (id := 1) (ops := opsOf (sel [1, 0] bodyE)) ?_
  refine ownU_quiet (i := 0) (rest := [1, 2, 3, 4, 5, 6, 7]) (endV) rfl (by rfl) rfl (by decide) (fun _ => by kernel_rfl) ?_
  refine ownU_quiet (i := 1) (rest := [2, 3, 4, 5, 6, 7]) (.tuple #[.agg #[], .bool true]) rfl (by rfl) rfl (by decide) (fun _ => by kernel_rfl) ?_
  refine ownU_quiet (i := 2) (rest := [3, 4, 5, 6, 7]) (.tuple #[.agg #[], .bool true]) rfl (by rfl) rfl (by decide) (fun _ => by kernel_rfl) ?_
  refine ownU_quiet (i := 3) (rest := [4, 5, 6, 7]) (.agg #[]) rfl (by rfl) rfl (by decide) (fun _ => by kernel_rfl) ?_
  refine ownU_quiet (i := 4) (rest := [5, 6, 7]) (.bool true) rfl (by rfl) rfl (by decide) (fun _ => by kernel_rfl) ?_
  refine ownU_new (.cells #[] 106) (i := 5) (rest := [6, 7]) rfl (by rfl) rfl (by decide) (fun _ => by kernel_rfl) ?_
  refine ownU_quiet0 (i := 6) (rest := [7]) rfl (by rfl) rfl (by decide) (fun _ => by kernel_rfl) ?_
  refine ownU_quiet (i := 7) (rest := []) (.bool true) rfl (by rfl) rfl (by decide) (fun _ => by kernel_rfl) ?_
  refine ownU_region_end ?_
  have hnew := New.alloc u (.cells #[] 106)
  generalize u.alloc (.cells #[] 106) = u1 at *
  generalize u.heap.size = ub at *
  replace hn := hnew.cell hn
  replace c0 := hnew.cell c0
  replace s2 := hnew.cell s2
  have f5' := (hnew.free c5).trans f5
  replace c5 := hnew.cell c5
  refine ownU_seq (x := sel [1, 1, 0] bodyE) (y := sel [1, 1, 1] bodyE) ?_
  refine ownU_block (id := 0) (c := sel [1, 1, 0, 4] bodyE) ?_
  refine ownU_seq (x := sel [1, 1, 0, 4, 0] bodyE) (y := sel [1, 1, 0, 4, 1] bodyE) ?_
  refine ownU_region (id := 2) (ops := opsOf (sel [1, 1, 0, 4, 0] bodyE)) ?_
  refine ownU_quiet (i := 0) (rest := [1]) (.bool true) rfl (by rfl) rfl (by decide) (fun _ => by kernel_rfl) ?_
  refine ownU_quiet (i := 1) (rest := []) (.bool true) rfl (by rfl) rfl (by decide) (fun _ => by kernel_rfl) ?_
  refine ownU_region_end ?_
  refine ownU_cond (c := .tmp 10) (x := sel [1, 1, 0, 4, 1, 2] bodyE) (y := sel [1, 1, 0, 4, 1, 3] bodyE) (t := true) (by kernel_rfl) ?_
  refine ownU_region (id := 3) (ops := opsOf (sel [1, 1, 0, 4, 1, 2] bodyE)) ?_
  refine ownU_load (i := 0) (rest := [1, 2, 3]) ⟨nb, 0, none⟩ (ptr c) rfl (by rfl) (by decide) loads_co rfl (by kernel_rfl) hn ?_
  refine ownU_quiet (i := 1) (rest := [2, 3]) (ptr c) rfl (by rfl) rfl (by decide) (fun _ => by kernel_rfl) ?_
  refine ownU_quiet (i := 2) (rest := [3]) (.pointer (some ⟨c, 5, none⟩)) rfl (by rfl) rfl (by decide) (fun _ => by kernel_rfl) ?_
  refine ownU_store (i := 3) (rest := []) ⟨c, 5, none⟩ (.int .i64 5) rfl (by rfl) rfl (by decide) (fun w e1 e2 => store_op (stores_int 5) rfl (by kernel_rfl) (by kernel_rfl) (e1.trans c5) (e2.trans f5')) ?_
  refine ownU_region_end ?_
  have k0 : ∀ a : Addr, a ≠ ⟨c, 5, none⟩ → (u1.setCell ⟨c, 5, none⟩ (.int .i64 5)).cell? a = u1.cell? a := fun a h => setCell_cell_ne _ _ _ _ rfl h
  replace hn := (k0 _ (by simp)).trans hn
  replace c0 := (k0 _ (by simp)).trans c0
  replace s2 := (k0 _ (by simp)).trans s2
  refine ownU_inBlock ?_
  refine ownU_region (id := 6) (ops := opsOf (sel [1, 1, 1] bodyE)) ?_
  refine ownU_load (i := 0) (rest := [1, 2, 3, 4, 5, 6, 7, 8]) ⟨nb, 0, none⟩ (ptr c) rfl (by rfl) (by decide) loads_co rfl (by kernel_rfl) hn ?_
  refine ownU_quiet (i := 1) (rest := [2, 3, 4, 5, 6, 7, 8]) (ptr c) rfl (by rfl) rfl (by decide) (fun _ => by kernel_rfl) ?_
  refine ownU_quiet (i := 2) (rest := [3, 4, 5, 6, 7, 8]) (.pointer (some ⟨c, 0, none⟩)) rfl (by rfl) rfl (by decide) (fun _ => by kernel_rfl) ?_
  refine ownU_load (i := 3) (rest := [4, 5, 6, 7, 8]) ⟨c, 0, none⟩ (ptr sb) rfl (by rfl) (by decide) loads_sched rfl (by kernel_rfl) c0 ?_
  refine ownU_quiet (i := 4) (rest := [5, 6, 7, 8]) (ptr sb) rfl (by rfl) rfl (by decide) (fun _ => by kernel_rfl) ?_
  refine ownU_quiet (i := 5) (rest := [6, 7, 8]) (.pointer (some ⟨sb, 2, none⟩)) rfl (by rfl) rfl (by decide) (fun _ => by kernel_rfl) ?_
  refine ownU_load (i := 6) (rest := [7, 8]) ⟨sb, 2, none⟩ (.chan (some sc)) rfl (by rfl) (by decide) loads_chan rfl (by kernel_rfl) s2 ?_
  refine ownU_quiet (i := 7) (rest := [8]) (.agg #[]) rfl (by rfl) rfl (by decide) (fun _ => by kernel_rfl) ?_
  exact ownU_eq (by kernel_rfl) (hk (List.toArray (ptr nb :: endV :: ptr ub :: .bool true :: endV :: .tuple #[.agg #[], .bool true] :: endV :: .tuple #[.agg #[], .bool true] :: .agg #[] :: .bool true :: .bool true :: .bool true :: ptr c :: ptr c :: .pointer (some ⟨c, 5, none⟩) :: undef :: undef :: undef :: undef :: undef :: undef :: undef :: undef :: undef :: undef :: undef :: undef :: undef :: undef :: ptr c :: ptr c :: .pointer (some ⟨c, 0, none⟩) :: ptr sb :: ptr sb :: .pointer (some ⟨sb, 2, none⟩) :: .chan (some sc) :: .agg #[] :: [])) u1 hnew rfl rfl)
/-- The slots, as far as the region has come. -/
def pdAct (v : Value) (c : Nat) (nb : Nat) (ub : Nat) (st : Int) (out : ByteArray) (l : Array Bool) : Act := ⟨List.toArray ((ptr nb) :: v :: (ptr ub) :: (.bool false) :: v :: (.tuple #[.agg #[], .bool false]) :: v :: (.tuple #[.agg #[], .bool false]) :: (.agg #[]) :: (.bool false) :: (.bool false) :: (.bool false) :: undef :: undef :: undef :: (.bool true) :: (ptr c) :: (ptr c) :: (.pointer (some ⟨c, 5, none⟩)) :: (.int .i64 st) :: (.bool true) :: (cond (l.getD 0 false) (ptr c) (undef)) :: (cond (l.getD 1 false) (ptr c) (undef)) :: (cond (l.getD 2 false) (v) (undef)) :: (cond (l.getD 3 false) (.string out) (undef)) :: (cond (l.getD 4 false) (ptr c) (undef)) :: (cond (l.getD 5 false) (.pointer (some ⟨c, 5, none⟩)) (undef)) :: (cond (l.getD 7 false) (ptr c) (undef)) :: (cond (l.getD 8 false) (.pointer (some ⟨c, 6, none⟩)) (undef)) :: undef :: undef :: undef :: undef :: undef :: undef :: undef :: undef :: []), []⟩
def pdSt (main : Bool) (Z : Addr → Prop) (Stop : Goroutine → World → Prop) (w₀ : World) (k : List Item) (cs : List Frame) (v : Value) (c : Nat) (nb : Nat) (ub : Nat) (st : Int) (out : ByteArray) (f : Nat) (l : Array Bool) (w : World) : Prop :=
  ∀ A d, SchedU Try.prog main Z Stop w₀ (baseD 80) (opsOf (sel [1, 1, 0, 4, 1, 3, 1, 2] bodyE)) k cs f l (pdAct v c nb ub st out l) (tp w A d)
theorem frozen_setCell (w : World) (a b : Addr) (x : Value) : (w.setCell a x).frozen? b = w.frozen? b := by
  unfold World.frozen?
  rw [setCell_get]
  by_cases e : a.block = b.block
  · rw [if_pos e]
    cases h : w.heap[b.block]? with
    | none => rfl
    | some ob => cases ob <;> rfl
  · rw [if_neg e]
theorem pd_own {main : Bool} {Z : Addr → Prop} {Stop : Goroutine → World → Prop} {w₀ u : World} {k : List Item} {cs : List Frame} {c nb ub : Nat} {st : Int} {v : Value} {out tx : ByteArray} (hT : TextOf v out) (hn : u.cell? ⟨nb, 0, none⟩ = some (ptr c)) (c5 : u.cell? ⟨c, 5, none⟩ = some (.int .i64 st)) (f5 : u.frozen? ⟨c, 5, none⟩ = false) (c6 : u.cell? ⟨c, 6, none⟩ = some (.string tx)) (f6 : u.frozen? ⟨c, 6, none⟩ = false)
    (hk : ∀ u3, New u u3 → OwnU Try.prog main Z Stop w₀ (G ((baseD 80).at ⟨List.toArray (ptr nb :: v :: ptr ub :: .bool false :: v :: .tuple #[.agg #[], .bool false] :: v :: .tuple #[.agg #[], .bool false] :: .agg #[] :: .bool false :: .bool false :: .bool false :: undef :: undef :: undef :: .bool true :: ptr c :: ptr c :: .pointer (some ⟨c, 5, none⟩) :: .int .i64 st :: .bool true :: ptr c :: ptr c :: v :: .string out :: ptr c :: .pointer (some ⟨c, 5, none⟩) :: ptr c :: .pointer (some ⟨c, 6, none⟩) :: undef :: undef :: undef :: undef :: undef :: undef :: undef :: undef :: []), []⟩ k) cs) ((u3.setCell ⟨c, 5, none⟩ (.int .i64 4)).setCell ⟨c, 6, none⟩ (.string out))) : OwnU Try.prog main Z Stop w₀ (G ((baseD 80).at ⟨List.toArray (ptr nb :: v :: ptr ub :: .bool false :: v :: .tuple #[.agg #[], .bool false] :: v :: .tuple #[.agg #[], .bool false] :: .agg #[] :: .bool false :: .bool false :: .bool false :: undef :: undef :: undef :: .bool true :: ptr c :: ptr c :: .pointer (some ⟨c, 5, none⟩) :: .int .i64 st :: .bool true :: undef :: undef :: undef :: undef :: undef :: undef :: undef :: undef :: undef :: undef :: undef :: undef :: undef :: undef :: undef :: undef :: []), []⟩ (.code (sel [1, 1, 0, 4, 1, 3, 1, 2] bodyE) :: k)) cs) u := by
  have hlast : ∀ u3, New u u3 → pdSt main Z Stop w₀ k cs v c nb ub st out 6 #[true, true, true, true, false, false, false, false, false, false] (u3) := by
    intro u3 hn3 A d t
    rw [go_one (i := 4) (by kernel_rfl), go_one (i := 5) (by kernel_rfl), go_one (i := 6) (by kernel_rfl), go_one (i := 7) (by kernel_rfl), go_one (i := 8) (by kernel_rfl), go_one (i := 9) (by kernel_rfl)]
    refine ownU_quiet (i := 4) (ptr c) rfl (by rfl) rfl (by decide) (fun _ => by kernel_rfl) ?_
    refine ownU_quiet (i := 5) (.pointer (some ⟨c, 5, none⟩)) rfl (by rfl) rfl (by decide) (fun _ => by kernel_rfl) ?_
    refine ownU_store (i := 6) ⟨c, 5, none⟩ (.int .i64 4) rfl (by rfl) rfl (by decide) (fun w e1 e2 => store_op (stores_int 4) rfl (by kernel_rfl) (by kernel_rfl) (e1.trans (hn3.cell c5)) (e2.trans ((hn3.free c5).trans f5))) ?_
    refine ownU_quiet (i := 7) (ptr c) rfl (by rfl) rfl (by decide) (fun _ => by kernel_rfl) ?_
    refine ownU_quiet (i := 8) (.pointer (some ⟨c, 6, none⟩)) rfl (by rfl) rfl (by decide) (fun _ => by kernel_rfl) ?_
    have e6 : ((tp u3 A d).setCell ⟨c, 5, none⟩ (.int .i64 4)).cell? ⟨c, 6, none⟩ = some (.string tx) := (setCell_cell_ne _ _ _ _ rfl (by simp)).trans (hn3.cell c6)
    have g6 : ((tp u3 A d).setCell ⟨c, 5, none⟩ (.int .i64 4)).frozen? ⟨c, 6, none⟩ = false := (frozen_setCell _ _ _ _).trans ((hn3.free c6).trans f6)
    refine ownU_store (i := 9) ⟨c, 6, none⟩ (.string out) rfl (by rfl) rfl (by decide) (fun w e1 e2 => store_op (stores_str out) rfl (by kernel_rfl) (by kernel_rfl) (e1.trans e6) (e2.trans g6)) ?_
    refine ownU_region_end ?_
    exact ownU_eq (by kernel_rfl) (hk (tp u3 A d) ⟨hn3.os, hn3.output, hn3.size, hn3.block⟩)
  have h_0_1_2 : pdSt main Z Stop w₀ k cs v c nb ub st out 7 #[true, true, true, false, false, false, false, false, false, false] (u) := by
    intro A d
    refine schedU_succ (rs := [3]) (by kernel_rfl) (by decide) fun i hi t => ?_
    have hi' : i = 3 := by simpa using hi
    subst hi'
    refine ownU_enter (i := 3) (f := 81) rfl (by rfl) (by decide) rfl Try.func81 (by kernel_rfl) rfl ?_
    refine ownU_fr (fr2 := textFr v) (by kernel_rfl) (hT fun u3 hn3 => ?_)
    exact schedU_to (by kernel_rfl) (by kernel_rfl) (hlast u3 ⟨hn3.os, hn3.output, hn3.size, hn3.block⟩ _ _) t
  have h_0_2_3 : ∀ u3, New u u3 → pdSt main Z Stop w₀ k cs v c nb ub st out 7 #[true, false, true, true, false, false, false, false, false, false] (u3) := by
    intro u3 hn3 A d
    refine schedU_succ (rs := [1]) (by kernel_rfl) (by decide) fun i hi t => ?_
    have hi' : i = 1 := by simpa using hi
    subst hi'
    refine ownU_load (i := 1) ⟨nb, 0, none⟩ (ptr c) rfl (by rfl) (by decide) loads_co rfl (by kernel_rfl) (hn3.cell hn) ?_
    exact schedU_to (by kernel_rfl) (by kernel_rfl) (hlast u3 hn3 _ _) t
  have h_1_2_3 : ∀ u3, New u u3 → pdSt main Z Stop w₀ k cs v c nb ub st out 7 #[false, true, true, true, false, false, false, false, false, false] (u3) := by
    intro u3 hn3 A d
    refine schedU_succ (rs := [0]) (by kernel_rfl) (by decide) fun i hi t => ?_
    have hi' : i = 0 := by simpa using hi
    subst hi'
    refine ownU_load (i := 0) ⟨nb, 0, none⟩ (ptr c) rfl (by rfl) (by decide) loads_co rfl (by kernel_rfl) (hn3.cell hn) ?_
    exact schedU_to (by kernel_rfl) (by kernel_rfl) (hlast u3 hn3 _ _) t
  have h_0_1 : pdSt main Z Stop w₀ k cs v c nb ub st out 8 #[true, true, false, false, false, false, false, false, false, false] (u) := by
    intro A d
    refine schedU_succ (rs := [2]) (by kernel_rfl) (by decide) fun i hi t => ?_
    have hi' : i = 2 := by simpa using hi
    subst hi'
    refine ownU_quiet (i := 2) (v) rfl (by rfl) rfl (by decide) (fun _ => by kernel_rfl) ?_
    exact schedU_to (by kernel_rfl) (by kernel_rfl) (h_0_1_2 _ _) t
  have h_0_2 : pdSt main Z Stop w₀ k cs v c nb ub st out 8 #[true, false, true, false, false, false, false, false, false, false] (u) := by
    intro A d
    refine schedU_succ (rs := [1, 3]) (by kernel_rfl) (by decide) fun i hi t => ?_
    have hi' : i = 1 ∨ i = 3 := by simpa using hi
    rcases hi' with rfl | rfl
    · skip
      refine ownU_load (i := 1) ⟨nb, 0, none⟩ (ptr c) rfl (by rfl) (by decide) loads_co rfl (by kernel_rfl) hn ?_
      exact schedU_to (by kernel_rfl) (by kernel_rfl) (h_0_1_2 _ _) t
    · skip
      refine ownU_enter (i := 3) (f := 81) rfl (by rfl) (by decide) rfl Try.func81 (by kernel_rfl) rfl ?_
      refine ownU_fr (fr2 := textFr v) (by kernel_rfl) (hT fun u3 hn3 => ?_)
      exact schedU_to (by kernel_rfl) (by kernel_rfl) (h_0_2_3 u3 ⟨hn3.os, hn3.output, hn3.size, hn3.block⟩ _ _) t
  have h_1_2 : pdSt main Z Stop w₀ k cs v c nb ub st out 8 #[false, true, true, false, false, false, false, false, false, false] (u) := by
    intro A d
    refine schedU_succ (rs := [0, 3]) (by kernel_rfl) (by decide) fun i hi t => ?_
    have hi' : i = 0 ∨ i = 3 := by simpa using hi
    rcases hi' with rfl | rfl
    · skip
      refine ownU_load (i := 0) ⟨nb, 0, none⟩ (ptr c) rfl (by rfl) (by decide) loads_co rfl (by kernel_rfl) hn ?_
      exact schedU_to (by kernel_rfl) (by kernel_rfl) (h_0_1_2 _ _) t
    · skip
      refine ownU_enter (i := 3) (f := 81) rfl (by rfl) (by decide) rfl Try.func81 (by kernel_rfl) rfl ?_
      refine ownU_fr (fr2 := textFr v) (by kernel_rfl) (hT fun u3 hn3 => ?_)
      exact schedU_to (by kernel_rfl) (by kernel_rfl) (h_1_2_3 u3 ⟨hn3.os, hn3.output, hn3.size, hn3.block⟩ _ _) t
  have h_2_3 : ∀ u3, New u u3 → pdSt main Z Stop w₀ k cs v c nb ub st out 8 #[false, false, true, true, false, false, false, false, false, false] (u3) := by
    intro u3 hn3 A d
    refine schedU_succ (rs := [0, 1]) (by kernel_rfl) (by decide) fun i hi t => ?_
    have hi' : i = 0 ∨ i = 1 := by simpa using hi
    rcases hi' with rfl | rfl
    · skip
      refine ownU_load (i := 0) ⟨nb, 0, none⟩ (ptr c) rfl (by rfl) (by decide) loads_co rfl (by kernel_rfl) (hn3.cell hn) ?_
      exact schedU_to (by kernel_rfl) (by kernel_rfl) (h_0_2_3 u3 hn3 _ _) t
    · skip
      refine ownU_load (i := 1) ⟨nb, 0, none⟩ (ptr c) rfl (by rfl) (by decide) loads_co rfl (by kernel_rfl) (hn3.cell hn) ?_
      exact schedU_to (by kernel_rfl) (by kernel_rfl) (h_1_2_3 u3 hn3 _ _) t
  have h_0 : pdSt main Z Stop w₀ k cs v c nb ub st out 9 #[true, false, false, false, false, false, false, false, false, false] (u) := by
    intro A d
    refine schedU_succ (rs := [1, 2]) (by kernel_rfl) (by decide) fun i hi t => ?_
    have hi' : i = 1 ∨ i = 2 := by simpa using hi
    rcases hi' with rfl | rfl
    · skip
      refine ownU_load (i := 1) ⟨nb, 0, none⟩ (ptr c) rfl (by rfl) (by decide) loads_co rfl (by kernel_rfl) hn ?_
      exact schedU_to (by kernel_rfl) (by kernel_rfl) (h_0_1 _ _) t
    · skip
      refine ownU_quiet (i := 2) (v) rfl (by rfl) rfl (by decide) (fun _ => by kernel_rfl) ?_
      exact schedU_to (by kernel_rfl) (by kernel_rfl) (h_0_2 _ _) t
  have h_1 : pdSt main Z Stop w₀ k cs v c nb ub st out 9 #[false, true, false, false, false, false, false, false, false, false] (u) := by
    intro A d
    refine schedU_succ (rs := [0, 2]) (by kernel_rfl) (by decide) fun i hi t => ?_
    have hi' : i = 0 ∨ i = 2 := by simpa using hi
    rcases hi' with rfl | rfl
    · skip
      refine ownU_load (i := 0) ⟨nb, 0, none⟩ (ptr c) rfl (by rfl) (by decide) loads_co rfl (by kernel_rfl) hn ?_
      exact schedU_to (by kernel_rfl) (by kernel_rfl) (h_0_1 _ _) t
    · skip
      refine ownU_quiet (i := 2) (v) rfl (by rfl) rfl (by decide) (fun _ => by kernel_rfl) ?_
      exact schedU_to (by kernel_rfl) (by kernel_rfl) (h_1_2 _ _) t
  have h_2 : pdSt main Z Stop w₀ k cs v c nb ub st out 9 #[false, false, true, false, false, false, false, false, false, false] (u) := by
    intro A d
    refine schedU_succ (rs := [0, 1, 3]) (by kernel_rfl) (by decide) fun i hi t => ?_
    have hi' : i = 0 ∨ i = 1 ∨ i = 3 := by simpa using hi
    rcases hi' with rfl | rfl | rfl
    · skip
      refine ownU_load (i := 0) ⟨nb, 0, none⟩ (ptr c) rfl (by rfl) (by decide) loads_co rfl (by kernel_rfl) hn ?_
      exact schedU_to (by kernel_rfl) (by kernel_rfl) (h_0_2 _ _) t
    · skip
      refine ownU_load (i := 1) ⟨nb, 0, none⟩ (ptr c) rfl (by rfl) (by decide) loads_co rfl (by kernel_rfl) hn ?_
      exact schedU_to (by kernel_rfl) (by kernel_rfl) (h_1_2 _ _) t
    · skip
      refine ownU_enter (i := 3) (f := 81) rfl (by rfl) (by decide) rfl Try.func81 (by kernel_rfl) rfl ?_
      refine ownU_fr (fr2 := textFr v) (by kernel_rfl) (hT fun u3 hn3 => ?_)
      exact schedU_to (by kernel_rfl) (by kernel_rfl) (h_2_3 u3 ⟨hn3.os, hn3.output, hn3.size, hn3.block⟩ _ _) t
  have h : pdSt main Z Stop w₀ k cs v c nb ub st out 10 #[false, false, false, false, false, false, false, false, false, false] (u) := by
    intro A d
    refine schedU_succ (rs := [0, 1, 2]) (by kernel_rfl) (by decide) fun i hi t => ?_
    have hi' : i = 0 ∨ i = 1 ∨ i = 2 := by simpa using hi
    rcases hi' with rfl | rfl | rfl
    · skip
      refine ownU_load (i := 0) ⟨nb, 0, none⟩ (ptr c) rfl (by rfl) (by decide) loads_co rfl (by kernel_rfl) hn ?_
      exact schedU_to (by kernel_rfl) (by kernel_rfl) (h_0 _ _) t
    · skip
      refine ownU_load (i := 1) ⟨nb, 0, none⟩ (ptr c) rfl (by rfl) (by decide) loads_co rfl (by kernel_rfl) hn ?_
      exact schedU_to (by kernel_rfl) (by kernel_rfl) (h_1 _ _) t
    · skip
      refine ownU_quiet (i := 2) (v) rfl (by rfl) rfl (by decide) (fun _ => by kernel_rfl) ?_
      exact schedU_to (by kernel_rfl) (by kernel_rfl) (h_2 _ _) t
  exact schedU_start (n := 10) (by kernel_rfl) rfl fun A d => by
    intro t
    exact schedU_to (act := pdAct v c nb ub st out #[false, false, false, false, false, false, false, false, false, false]) (by kernel_rfl) rfl (h A d) t
theorem end_panic {main : Bool} {Z : Addr → Prop} {Stop : Goroutine → World → Prop} {w₀ u : World} {fr : Frame} {c nb sb sc : Nat} {st : Int} {v : Value} {out tx : ByteArray} (hm : fr.mode = .panicking [{ v := v, recovered := false }]) (hv : NotEnd v) (hT : TextOf v out) (hn : u.cell? ⟨nb, 0, none⟩ = some (ptr c)) (c5 : u.cell? ⟨c, 5, none⟩ = some (.int .i64 st)) (f5 : u.frozen? ⟨c, 5, none⟩ = false) (c0 : u.cell? ⟨c, 0, none⟩ = some (ptr sb)) (s2 : u.cell? ⟨sb, 2, none⟩ = some (.chan (some sc))) (c6 : u.cell? ⟨c, 6, none⟩ = some (.string tx)) (f6 : u.frozen? ⟨c, 6, none⟩ = false) (hst : st ≠ 3)
    (hk : ∀ ts u1, New u u1 → ts.getD 35 undef = .chan (some sc) → ts.getD 36 undef = .agg #[] → OwnU Try.prog main Z Stop w₀ (endSend ts [{ fr with mode := .panicking [{ v := v, recovered := true }] }, botR]) ((u1.setCell ⟨c, 5, none⟩ (.int .i64 4)).setCell ⟨c, 6, none⟩ (.string out))) : OwnU Try.prog main Z Stop w₀ (G ((baseD 80).at ⟨List.toArray (ptr nb :: undef :: undef :: undef :: undef :: undef :: undef :: undef :: undef :: undef :: undef :: undef :: undef :: undef :: undef :: undef :: undef :: undef :: undef :: undef :: undef :: undef :: undef :: undef :: undef :: undef :: undef :: undef :: undef :: undef :: undef :: undef :: undef :: undef :: undef :: undef :: undef :: []), []⟩ [.code bodyE]) [fr, botR]) u := by
  refine ownU_seq (x := sel [0] bodyE) (y := sel [1] bodyE) ?_
  refine ownU_region (id := 0) (ops := opsOf (sel [0] bodyE)) ?_
  refine ownU_recover1 (i := 0) (rest := [1]) rfl (by rfl) (by decide) (fun _ => by kernel_rfl) (fun _ => by kernel_rfl) (try_some rfl hm) ?_
  refine ownU_quiet (i := 1) (rest := []) (v) rfl (by rfl) rfl (by decide) (fun _ => by kernel_rfl) ?_
  refine ownU_region_end ?_
  refine ownU_seq (x := sel [1, 0] bodyE) (y := sel [1, 1] bodyE) ?_
  refine ownU_region (id := 1) (ops := opsOf (sel [1, 0] bodyE)) ?_
  refine ownU_quiet (i := 0) (rest := [1, 2, 3, 4, 5, 6, 7]) (v) rfl (by rfl) rfl (by decide) (fun _ => by kernel_rfl) ?_
  refine ownU_quiet (i := 1) (rest := [2, 3, 4, 5, 6, 7]) (.tuple #[.agg #[], .bool false]) rfl (by rfl) rfl (by decide) (fun w => ta_other w rfl (by kernel_rfl) hv) ?_
  refine ownU_quiet (i := 2) (rest := [3, 4, 5, 6, 7]) (.tuple #[.agg #[], .bool false]) rfl (by rfl) rfl (by decide) (fun _ => by kernel_rfl) ?_
  refine ownU_quiet (i := 3) (rest := [4, 5, 6, 7]) (.agg #[]) rfl (by rfl) rfl (by decide) (fun _ => by kernel_rfl) ?_
  refine ownU_quiet (i := 4) (rest := [5, 6, 7]) (.bool false) rfl (by rfl) rfl (by decide) (fun _ => by kernel_rfl) ?_
  refine ownU_new (.cells #[] 106) (i := 5) (rest := [6, 7]) rfl (by rfl) rfl (by decide) (fun _ => by kernel_rfl) ?_
  refine ownU_quiet0 (i := 6) (rest := [7]) rfl (by rfl) rfl (by decide) (fun _ => by kernel_rfl) ?_
  refine ownU_quiet (i := 7) (rest := []) (.bool false) rfl (by rfl) rfl (by decide) (fun _ => by kernel_rfl) ?_
  refine ownU_region_end ?_
  have hnew := New.alloc u (.cells #[] 106)
  generalize u.alloc (.cells #[] 106) = u1 at *
  generalize u.heap.size = ub at *
  replace hn := hnew.cell hn
  replace c0 := hnew.cell c0
  replace s2 := hnew.cell s2
  have f5' := (hnew.free c5).trans f5
  replace c5 := hnew.cell c5
  have f6' := (hnew.free c6).trans f6
  replace c6 := hnew.cell c6
  refine ownU_seq (x := sel [1, 1, 0] bodyE) (y := sel [1, 1, 1] bodyE) ?_
  refine ownU_block (id := 0) (c := sel [1, 1, 0, 4] bodyE) ?_
  refine ownU_seq (x := sel [1, 1, 0, 4, 0] bodyE) (y := sel [1, 1, 0, 4, 1] bodyE) ?_
  refine ownU_region (id := 2) (ops := opsOf (sel [1, 1, 0, 4, 0] bodyE)) ?_
  refine ownU_quiet (i := 0) (rest := [1]) (.bool false) rfl (by rfl) rfl (by decide) (fun _ => by kernel_rfl) ?_
  refine ownU_quiet (i := 1) (rest := []) (.bool false) rfl (by rfl) rfl (by decide) (fun _ => by kernel_rfl) ?_
  refine ownU_region_end ?_
  refine ownU_cond (c := .tmp 10) (x := sel [1, 1, 0, 4, 1, 2] bodyE) (y := sel [1, 1, 0, 4, 1, 3] bodyE) (t := false) (by kernel_rfl) ?_
  refine ownU_seq (x := sel [1, 1, 0, 4, 1, 3, 0] bodyE) (y := sel [1, 1, 0, 4, 1, 3, 1] bodyE) ?_
  refine ownU_region (id := 4) (ops := opsOf (sel [1, 1, 0, 4, 1, 3, 0] bodyE)) ?_
  refine ownU_load (i := 0) (rest := [1, 2, 3, 4, 5]) ⟨nb, 0, none⟩ (ptr c) rfl (by rfl) (by decide) loads_co rfl (by kernel_rfl) hn ?_
  refine ownU_quiet (i := 1) (rest := [2, 3, 4, 5]) (ptr c) rfl (by rfl) rfl (by decide) (fun _ => by kernel_rfl) ?_
  refine ownU_quiet (i := 2) (rest := [3, 4, 5]) (.pointer (some ⟨c, 5, none⟩)) rfl (by rfl) rfl (by decide) (fun _ => by kernel_rfl) ?_
  refine ownU_load (i := 3) (rest := [4, 5]) ⟨c, 5, none⟩ (.int .i64 st) rfl (by rfl) (by decide) loads_int rfl (by kernel_rfl) c5 ?_
  refine ownU_quiet (i := 4) (rest := [5]) (.bool true) rfl (by rfl) rfl (by decide) (fun _ => neq_v (p := st) (q := 3) rfl (by kernel_rfl) (by kernel_rfl) (by simp [hst])) ?_
  refine ownU_quiet (i := 5) (rest := []) (.bool true) rfl (by rfl) rfl (by decide) (fun _ => by kernel_rfl) ?_
  refine ownU_region_end ?_
  refine ownU_cond (c := .tmp 15) (x := sel [1, 1, 0, 4, 1, 3, 1, 2] bodyE) (y := .skip) (t := true) (by kernel_rfl) ?_
  refine ownU_lit (List.toArray (ptr nb :: v :: ptr ub :: .bool false :: v :: .tuple #[.agg #[], .bool false] :: v :: .tuple #[.agg #[], .bool false] :: .agg #[] :: .bool false :: .bool false :: .bool false :: undef :: undef :: undef :: .bool true :: ptr c :: ptr c :: .pointer (some ⟨c, 5, none⟩) :: .int .i64 st :: .bool true :: undef :: undef :: undef :: undef :: undef :: undef :: undef :: undef :: undef :: undef :: undef :: undef :: undef :: undef :: undef :: undef :: [])) [] (by kernel_rfl) (by kernel_rfl) ?_
  refine pd_own hT hn c5 f5' c6 f6' fun u3 hn3 => ?_
  have k0 : ∀ a : Addr, a ≠ ⟨c, 5, none⟩ → a ≠ ⟨c, 6, none⟩ → ((u3.setCell ⟨c, 5, none⟩ (.int .i64 4)).setCell ⟨c, 6, none⟩ (.string out)).cell? a = u3.cell? a := fun a h h2 => (setCell_cell_ne _ _ _ _ rfl h2).trans (setCell_cell_ne _ _ _ _ rfl h)
  replace hn := (k0 _ (by simp) (by simp)).trans (hn3.cell hn)
  replace c0 := (k0 _ (by simp) (by simp)).trans (hn3.cell c0)
  replace s2 := (k0 _ (by simp) (by simp)).trans (hn3.cell s2)
  refine ownU_inBlock ?_
  refine ownU_region (id := 6) (ops := opsOf (sel [1, 1, 1] bodyE)) ?_
  refine ownU_load (i := 0) (rest := [1, 2, 3, 4, 5, 6, 7, 8]) ⟨nb, 0, none⟩ (ptr c) rfl (by rfl) (by decide) loads_co rfl (by kernel_rfl) hn ?_
  refine ownU_quiet (i := 1) (rest := [2, 3, 4, 5, 6, 7, 8]) (ptr c) rfl (by rfl) rfl (by decide) (fun _ => by kernel_rfl) ?_
  refine ownU_quiet (i := 2) (rest := [3, 4, 5, 6, 7, 8]) (.pointer (some ⟨c, 0, none⟩)) rfl (by rfl) rfl (by decide) (fun _ => by kernel_rfl) ?_
  refine ownU_load (i := 3) (rest := [4, 5, 6, 7, 8]) ⟨c, 0, none⟩ (ptr sb) rfl (by rfl) (by decide) loads_sched rfl (by kernel_rfl) c0 ?_
  refine ownU_quiet (i := 4) (rest := [5, 6, 7, 8]) (ptr sb) rfl (by rfl) rfl (by decide) (fun _ => by kernel_rfl) ?_
  refine ownU_quiet (i := 5) (rest := [6, 7, 8]) (.pointer (some ⟨sb, 2, none⟩)) rfl (by rfl) rfl (by decide) (fun _ => by kernel_rfl) ?_
  refine ownU_load (i := 6) (rest := [7, 8]) ⟨sb, 2, none⟩ (.chan (some sc)) rfl (by rfl) (by decide) loads_chan rfl (by kernel_rfl) s2 ?_
  refine ownU_quiet (i := 7) (rest := [8]) (.agg #[]) rfl (by rfl) rfl (by decide) (fun _ => by kernel_rfl) ?_
  exact ownU_eq (by kernel_rfl) (hk (List.toArray (ptr nb :: v :: ptr ub :: .bool false :: v :: .tuple #[.agg #[], .bool false] :: v :: .tuple #[.agg #[], .bool false] :: .agg #[] :: .bool false :: .bool false :: .bool false :: undef :: undef :: undef :: .bool true :: ptr c :: ptr c :: .pointer (some ⟨c, 5, none⟩) :: .int .i64 st :: .bool true :: ptr c :: ptr c :: v :: .string out :: ptr c :: .pointer (some ⟨c, 5, none⟩) :: ptr c :: .pointer (some ⟨c, 6, none⟩) :: ptr c :: ptr c :: .pointer (some ⟨c, 0, none⟩) :: ptr sb :: ptr sb :: .pointer (some ⟨sb, 2, none⟩) :: .chan (some sc) :: .agg #[] :: [])) u3 (hnew.trans hn3) rfl rfl)
/-- run, where its function has panicked: its deferred function is entered. -/
theorem run_raised {main : Bool} {Z : Addr → Prop} {Stop : Goroutine → World → Prop} {w₀ u : World} {c nb ch : Nat} {fv v : Value} (hk : ∀ fr : Frame, fr.fn = 75 → fr.kind = .deferred → fr.defers = [] → fr.roundOf = none → fr.mode = .panicking [{ v := v, recovered := false }] → OwnU Try.prog main Z Stop w₀ (G ((baseD 80).at ⟨List.toArray (ptr nb :: undef :: undef :: undef :: undef :: undef :: undef :: undef :: undef :: undef :: undef :: undef :: undef :: undef :: undef :: undef :: undef :: undef :: undef :: undef :: undef :: undef :: undef :: undef :: undef :: undef :: undef :: undef :: undef :: undef :: undef :: undef :: undef :: undef :: undef :: undef :: undef :: []), []⟩ [.code bodyE]) [fr, botR]) u) : OwnU Try.prog main Z Stop w₀ (G ((runFrame c nb ch fv).raise [{ v := v, recovered := false }]) [botR]) u := by
  rw [raise_raise rfl]
  refine ownU_deferred (args := #[]) (ca := #[ptr nb]) (ds := []) (by simp) rfl Try.func80 (by kernel_rfl) rfl ?_
  refine ownU_eq (g := G ((baseD 80).at ⟨List.toArray (ptr nb :: undef :: undef :: undef :: undef :: undef :: undef :: undef :: undef :: undef :: undef :: undef :: undef :: undef :: undef :: undef :: undef :: undef :: undef :: undef :: undef :: undef :: undef :: undef :: undef :: undef :: undef :: undef :: undef :: undef :: undef :: undef :: undef :: undef :: undef :: undef :: undef :: []), []⟩ [.code bodyE]) ({ { runFrame c nb ch fv with mode := .panicking [{ v := v, recovered := false }] } with defers := [] } :: [botR])) (by kernel_rfl) ?_
  exact hk _ rfl rfl rfl rfl rfl
section
variable {Post : Value → World → Prop} {E : Env} {h : Nat} {own : Nat → Nat} {S : Sch} {ks : List Kid} {FC : List Row} {n : Nat} {Inb : Nat → Option Seat} {w : World} {i nb ch : Nat} {c : CoR} {k : Kid} {g0 : Goroutine} {fv : Value}
/-- A coroutine's function has panicked. -/
theorem panic_won {v : Value} {out : ByteArray} (C : CI E h own S ks FC n Inb w) (hi : S.cos[i]? = some c) (hk : ks[i]? = some k) (ht : k.tag = 2) (hst : c.st ≠ 3) (hv : NotEnd v) (hT : TextOf v out) (hbox : (⟨nb, 0, [ptr c.b]⟩ : Row) ∈ FC) (hI0 : Inb 0 = some (Seat.one S.sc (.agg #[]) false (· = g0)))
    (next : ∀ Inb' w', CI E 0 own { S with cos := S.cos.set i { c with st := 4, txt := out } } (ks.set i ⟨3, h, default⟩) FC n Inb' w' → Inb' 0 = Inb 0 → Same6 own w w' → Won Try.prog Post FC n Inb' 0 (Conc.served g0 (.agg #[])) w') : Won Try.prog Post FC n Inb h (G ((runFrame c.b nb ch fv).raise [{ v := v, recovered := false }]) [botR]) w := by
  refine won_kf fun hK => ?_
  have hcm := List.mem_of_getElem? hi
  have sG := C.siG
  have hn : (guardW FC w).cell? ⟨nb, 0, none⟩ = some (ptr c.b) := by rw [guard_cell C.fi.wf hK]; exact kf_cell hK hbox
  have c0 := cellsAt_cell (sG.co i c hi) 0 (ptr S.sb) rfl
  have c5 := cellsAt_cell (sG.co i c hi) 5 (.int .i64 c.st) rfl
  have f5 := cellsAt_free (sG.co i c hi) 5 (by omega)
  have c6 := cellsAt_cell (sG.co i c hi) 6 (.string c.txt) rfl
  have f6 := cellsAt_free (sG.co i c hi) 6 (by omega)
  have s2 := cellsAt_cell sG.sch 2 (.chan (some S.sc)) rfl
  refine win_own C.fi.wf (run_raised fun fr q1 q2 q3 q4 q5 => end_panic q5 hv hT hn c5 f5 c0 s2 c6 f6 hst fun ts u1 hnew h1 h2 => ownU_stop fun w1 hs hkp => ?_)
  have st1 : Stp (· = 4) own own (guardW FC w) u1 := hnew.stp C.ltG
  have si1 : SI own S u1 := sG.keep (OLe.refl _) fun b hb _ => hnew.block b hb
  have st2 : Stp (· = 4) own own u1 (u1.setCell ⟨c.b, 5, none⟩ (.int .i64 4)) := stp_setCell st1.lt (C.si.oco c hcm) _
  have si2 : SI own { S with cos := S.cos.set i { c with st := 4 } } (u1.setCell ⟨c.b, 5, none⟩ (.int .i64 4)) := si1.setCo hi { c with st := 4 } 5 (.int .i64 4) rfl rfl rfl
  have st3 : Stp (· = 4) own own (u1.setCell ⟨c.b, 5, none⟩ (.int .i64 4)) ((u1.setCell ⟨c.b, 5, none⟩ (.int .i64 4)).setCell ⟨c.b, 6, none⟩ (.string out)) := stp_setCell st2.lt (C.si.oco c hcm) _
  have hil : i < S.cos.length := (List.getElem?_eq_some_iff.1 hi).1
  have hi2 : (S.cos.set i { c with st := 4 })[i]? = some { c with st := 4 } := by rw [List.getElem?_set_self hil]
  have si3 := si2.setCo (i := i) (c := { c with st := 4 }) hi2 { c with st := 4, txt := out } 6 (.string out) rfl rfl rfl
  rw [show ({ S with cos := S.cos.set i { c with st := 4 } } : Sch).cos.set i { c with st := 4, txt := out } = S.cos.set i { c with st := 4, txt := out } from List.set_set ..] at si3
  have st : Stp (· = 4) own own (guardW FC w) _ := (st1.trans st2 (by omega)).trans st3 (by omega)
  have fi' : FI own { S with cos := S.cos.set i { c with st := 4, txt := out } } FC := C.fi.setCo hi { c with st := 4, txt := out } rfl rfl rfl
  have hi' : (S.cos.set i { c with st := 4, txt := out })[i]? = some { c with st := 4, txt := out } := by rw [List.getElem?_set_self hil]
  obtain ⟨a, C1⟩ := C.step (S' := { S with cos := S.cos.set i { c with st := 4, txt := out } }) hs hkp st (by omega) si3 fi' rfl (by simp) (hkid_set hi rfl rfl)
  have s1 : Same6 own w w1 := same6_step a fi' st (fun t h => by omega) C.lw C.fi
  exact end_won C1 hi' hk ht hI0 ⟨q1, q2, q3, q4, .inr ⟨_, rfl⟩⟩ h1 h2 fun Inb' w' C2 e s2 => next Inb' w' C2 e (s1.trans s2 (OLe.refl _))
/-- A coroutine is ended. -/
theorem ended_won (C : CI E h own S ks FC n Inb w) (hi : S.cos[i]? = some c) (hk : ks[i]? = some k) (ht : k.tag = 2) (hbox : (⟨nb, 0, [ptr c.b]⟩ : Row) ∈ FC) (hI0 : Inb 0 = some (Seat.one S.sc (.agg #[]) false (· = g0)))
    (next : ∀ Inb' w', CI E 0 own { S with cos := S.cos.set i { c with st := 5 } } (ks.set i ⟨3, h, default⟩) FC n Inb' w' → Inb' 0 = Inb 0 → Same6 own w w' → Won Try.prog Post FC n Inb' 0 (Conc.served g0 (.agg #[])) w') : Won Try.prog Post FC n Inb h (G ((runFrame c.b nb ch fv).raise [{ v := endV, recovered := false }]) [botR]) w := by
  refine won_kf fun hK => ?_
  have hcm := List.mem_of_getElem? hi
  have sG := C.siG
  have hn : (guardW FC w).cell? ⟨nb, 0, none⟩ = some (ptr c.b) := by rw [guard_cell C.fi.wf hK]; exact kf_cell hK hbox
  have c0 := cellsAt_cell (sG.co i c hi) 0 (ptr S.sb) rfl
  have c5 := cellsAt_cell (sG.co i c hi) 5 (.int .i64 c.st) rfl
  have f5 := cellsAt_free (sG.co i c hi) 5 (by omega)
  have s2 := cellsAt_cell sG.sch 2 (.chan (some S.sc)) rfl
  refine win_own C.fi.wf (run_raised fun fr q1 q2 q3 q4 q5 => end_ended q5 hn c5 f5 c0 s2 fun ts u1 hnew h1 h2 => ownU_stop fun w1 hs hkp => ?_)
  have st1 : Stp (· = 4) own own (guardW FC w) u1 := hnew.stp C.ltG
  have si1 : SI own S u1 := sG.keep (OLe.refl _) fun b hb _ => hnew.block b hb
  have st2 : Stp (· = 4) own own u1 (u1.setCell ⟨c.b, 5, none⟩ (.int .i64 5)) := stp_setCell st1.lt (C.si.oco c hcm) _
  have si2 : SI own { S with cos := S.cos.set i { c with st := 5 } } (u1.setCell ⟨c.b, 5, none⟩ (.int .i64 5)) := si1.setCo hi { c with st := 5 } 5 (.int .i64 5) rfl rfl rfl
  have hil : i < S.cos.length := (List.getElem?_eq_some_iff.1 hi).1
  have st : Stp (· = 4) own own (guardW FC w) _ := st1.trans st2 (by omega)
  have fi' : FI own { S with cos := S.cos.set i { c with st := 5 } } FC := C.fi.setCo hi { c with st := 5 } rfl rfl rfl
  have hi' : (S.cos.set i { c with st := 5 })[i]? = some { c with st := 5 } := by rw [List.getElem?_set_self hil]
  obtain ⟨a, C1⟩ := C.step (S' := { S with cos := S.cos.set i { c with st := 5 } }) hs hkp st (by omega) si2 fi' rfl (by simp) (hkid_set hi rfl rfl)
  have s1 : Same6 own w w1 := same6_step a fi' st (fun t h => by omega) C.lw C.fi
  exact end_won C1 hi' hk ht hI0 ⟨q1, q2, q3, q4, .inr ⟨_, rfl⟩⟩ h1 h2 fun Inb' w' C2 e s2 => next Inb' w' C2 e (s1.trans s2 (OLe.refl _))
end
noncomputable abbrev bodyPn : Code := Try.f39.body.getD .skip
/-- Panic: its caller panics. -/
theorem panic_call {main : Bool} {Z : Addr → Prop} {Stop : Goroutine → World → Prop} {w₀ u : World} {c : Nat} {ty : TypeId} {y : Value} {fr : Frame} {cs : List Frame} (hk : OwnU Try.prog main Z Stop w₀ (G (fr.raise [{ v := .iface ty y, recovered := false }]) cs) u) : OwnU Try.prog main Z Stop w₀ (G ((base 39).at ⟨#[ptr c, .iface ty y, undef, undef, undef], []⟩ [.code bodyPn]) (fr :: cs)) u := by
  refine ownU_region (id := 0) (ops := opsOf bodyPn) ?_
  refine ownU_quiet (i := 0) (rest := [1]) (.iface ty y) rfl (by rfl) rfl (by decide) (fun _ => by kernel_rfl) ?_
  refine ownU_panic (i := 1) (rest := []) (.iface ty y) rfl (by rfl) (by decide) (fun _ => by kernel_rfl) (fun _ => by kernel_rfl) ?_
  exact ownU_unwind rfl rfl Try.func39 hk
end Go.Proofs.Ytolnmdanlggmhaa

/- Count, lone: how many coroutines are in a state. -/
namespace Go.Proofs.Ytolnmdanlggmhaa
open Go.RowKit Go.Maps Go.Conc

def cntOf (st : Int) (cos : List CoR) : Nat := cos.countP fun c => c.st == st

set_option maxRecDepth 100000 in
set_option maxHeartbeats 1000000 in
theorem count_at (w : World) (sb qb sc n cap : Nat) (A : Option Addr) (cl : Bool) (cos : List CoR) (st : Int) (h : SchAt w sb qb sc (.slice A n cap) cl) (hr : QRow w (.slice A n cap) (cos.map fun c => ptr c.b)) (hc : ∀ (i : Nat) c, cos[i]? = some c → CoAt w sb i c) (hn : (n : Int) < 1000000) :
    Calls Try.prog 47 #[.pointer (some ⟨sb, 0, none⟩), .int .i64 st] w fun e w' => e = .returned (.int .i64 (cntOf st cos : Nat)) ∧ ∃ q, w' = w.drewN q := by
  have c0 := cellsAt_cell h 0 (.slice A n cap) rfl
  have hrd := hr.rd
  have hlen : cos.length = n := by have := hrd.len; simpa using this
  have HL := Lib.hid hlen
  clear h hr hlen
  go_enter Try.func47, Try.ntmps47
  go_wp2_with fail
  go_loopw [5, 15] (fun m i wr => ∃ k : Nat, k ≤ n ∧ i = .int .i64 k ∧ m = .int .i64 (cntOf st (cos.take k) : Nat) ∧ ∃ q, wr = w.drewN q) (fun _ i _ => n - (intOf i).toNat)
  case atStart => exact ⟨0, Nat.zero_le _, rfl, rfl, 0, rfl⟩
  case round =>
    obtain ⟨k, hk, rfl, rfl, q, rfl⟩ := hrel
    by_cases hlt : k < n
    · obtain ⟨c, hck⟩ : ∃ c, cos[k]? = some c := ⟨_, List.getElem?_eq_getElem (by rw [HL.out]; exact hlt)⟩
      obtain ⟨ad, hA, hb, hcell'⟩ := hrd.at' k (ptr c.b) (by rw [List.getElem?_map, hck]; rfl)
      have c5 := cellsAt_cell (hc k c hck) 5 (.int .i64 c.st) rfl
      have hkn : (k : Int) < (n : Int) := by omega
      have hcl : cntOf st (cos.take k) ≤ k := Nat.le_trans List.countP_le_length (by rw [List.length_take]; omega)
      have htk : cntOf st (cos.take (k + 1)) = cntOf st (cos.take k) + if c.st == st then 1 else 0 := by
        unfold cntOf
        rw [List.take_add_one, hck, List.countP_append]
        simp
      subst hA
      generalize cntOf st (cos.take k) = m at *
      have hcell : w.cell? (ad.add k) = some (.pointer (some ⟨c.b, 0, none⟩)) := hcell'
      clear hcell'
      generalize c.b = cb at *
      generalize c.st = s at *
      have HT := Lib.hid htk
      have HM := Lib.hid (show m + 1 < 1000000 by omega)
      clear hc hck hrd c0 HL htk hcl hb
      iterate 53 (first | go_skip | go_guarded | go_step | go_upon | go_simp)
      generalize hst : (s == st) = t
      cases t
      · go_wp2
        go_roundw
        case rel => exact ⟨k + 1, by omega, by go_num, by have := HT.out; rw [hst] at this; rw [this]; rfl, _, rfl⟩
        case measure => simp [intOf]; omega
      · go_wp2
        go_roundw
        case rel => exact ⟨k + 1, by omega, by go_num, by have := HT.out; rw [hst, if_pos rfl] at this; rw [this]; have hm := HM.out; exact congrArg (Value.int .i64) (show wrap64 ((m : Int) + 1) = ((m + 1 : Nat) : Int) by unfold wrap64; omega), _, rfl⟩
        case measure => simp [intOf]; omega
    · go_wp2
      go_ret
      have e : cos.take k = cos := List.take_of_length_le (by rw [HL.out]; omega)
      rw [e]
      exact ⟨rfl, q, rfl⟩
end Go.Proofs.Ytolnmdanlggmhaa
