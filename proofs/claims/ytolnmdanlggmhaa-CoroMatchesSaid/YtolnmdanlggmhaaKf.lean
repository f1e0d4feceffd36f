/- rest, in company: a coroutine gives its turn back; it goes on, or is ended. (Printed by gen_rest.py.) -/
import Derived.Test.YtolnmdanlggmhaaKe
import Derived.Test.YtolnmdanlggmhaaKd
namespace Go.Proofs.Ytolnmdanlggmhaa
open Go.RowKit Go.Maps Go.Conc
open Go.ConcN (upd upd_ne upd_same)

set_option maxRecDepth 100000
set_option maxHeartbeats 2000000

section
variable {P : Program} {main : Bool} {Z : Addr → Prop} {Stop : Goroutine → World → Prop} {w₀ u : World} {b : Frame} {a : Act} {k : List Item} {cs : List Frame} {ops : Array Oper} {i : Nat} {rest : List Nat} {o : Oper}
/-- A panic. -/
theorem ownU_panic (v : Value) (ho : ops[i]? = some o) (hw : Region.wanted o (yielded ops a.tmps) = true) (hb : b.kind ≠ .early) (h : ∀ w, (execOp a.eval o).run P w = .halt (.panic v) w) (he : ∀ w, (execOp a.eval o).events P w #[] = #[])
    (hk : OwnU P main Z Stop w₀ (G { b.at a (.inRegion ops (i :: rest) :: k) with mode := .panicking [{ v := v, recovered := false }] } cs) u) : OwnU P main Z Stop w₀ (G (b.at a (.inRegion ops (i :: rest) :: k)) cs) u := by
  refine ownU_still rfl (fun w => ?_) hk
  have hk' : (b.kind == CallKind.early) = false := by simpa using hb
  rw [stepG_oper ho hw]
  simp [stepG.apply, h, he, G, Frame.at, Frame.raise, hk', GStep.after, seen_none]
/-- A panic leaves a frame that defers nothing (more). -/
theorem ownU_unwind {fn : Func} {fr c : Frame} {ch : List PanicEntry} (hm : fr.mode = .panicking ch) (hd : fr.defers = []) (hf : P.funcs[fr.fn]? = some fn) (hk : OwnU P main Z Stop w₀ (G (c.raise ch) cs) u) : OwnU P main Z Stop w₀ (G fr (c :: cs)) u := by
  refine ownU_still rfl (fun w => ?_) hk
  rw [stepG_unw (by rw [hm]; simp)]
  have hca : fr.catches P = false := by
    unfold Frame.catches
    rw [hf]
  simp [unwind, hd, hm, hca, G]
end

/-- What a coroutine that is ended panics with. -/
def endV : Value := .iface 106 (.agg #[])
noncomputable abbrev bodyRest : Code := Try.f65.body.getD .skip

/-- rest, entered. -/
noncomputable def restIn (c : Nat) (cs : List Frame) : Goroutine := G ((base 65).at ⟨List.toArray (ptr c :: undef :: undef :: undef :: undef :: undef :: undef :: undef :: undef :: undef :: undef :: undef :: undef :: undef :: undef :: undef :: undef :: undef :: undef :: undef :: undef :: undef :: undef :: undef :: undef :: undef :: undef :: undef :: undef :: undef :: undef :: undef :: undef :: []), []⟩ [.code bodyRest]) cs
/-- .. at its send. -/
noncomputable def restSend (c sb sc : Nat) (cs : List Frame) : Goroutine := G ((base 65).at ⟨List.toArray (ptr c :: undef :: ptr c :: ptr c :: .pointer (some ⟨c, 0, none⟩) :: ptr sb :: ptr sb :: .pointer (some ⟨sb, 3, none⟩) :: .bool false :: undef :: undef :: ptr c :: ptr c :: .pointer (some ⟨c, 0, none⟩) :: ptr sb :: ptr sb :: .pointer (some ⟨sb, 2, none⟩) :: .chan (some sc) :: .agg #[] :: undef :: undef :: undef :: undef :: undef :: undef :: undef :: undef :: undef :: undef :: undef :: undef :: undef :: undef :: []), []⟩ [.inRegion (opsOf (sel [1, 0] bodyRest)) [8], .code (sel [1, 1] bodyRest)]) cs
theorem rest_own {main : Bool} {Z : Addr → Prop} {Stop : Goroutine → World → Prop} {w₀ u : World} {cs : List Frame} {c sb sc : Nat} (c0 : u.cell? ⟨c, 0, none⟩ = some (ptr sb)) (s3 : u.cell? ⟨sb, 3, none⟩ = some (.bool false)) (s2 : u.cell? ⟨sb, 2, none⟩ = some (.chan (some sc)))
    (hk : OwnU Try.prog main Z Stop w₀ (restSend c sb sc cs) u) : OwnU Try.prog main Z Stop w₀ (restIn c cs) u := by
  unfold restIn
  refine ownU_seq (x := sel [0] bodyRest) (y := sel [1] bodyRest) ?_
  refine ownU_seq (x := sel [0, 0] bodyRest) (y := sel [0, 1] bodyRest) ?_
  refine ownU_region (id := 0) (ops := opsOf (sel [0, 0] bodyRest)) ?_
  refine ownU_quiet (i := 0) (rest := [1, 2, 3, 4, 5, 6]) (ptr c) rfl (by rfl) rfl (by decide) (fun _ => by kernel_rfl) ?_
  refine ownU_quiet (i := 1) (rest := [2, 3, 4, 5, 6]) (ptr c) rfl (by rfl) rfl (by decide) (fun _ => by kernel_rfl) ?_
  refine ownU_quiet (i := 2) (rest := [3, 4, 5, 6]) (.pointer (some ⟨c, 0, none⟩)) rfl (by rfl) rfl (by decide) (fun _ => by kernel_rfl) ?_
  refine ownU_load (i := 3) (rest := [4, 5, 6]) ⟨c, 0, none⟩ (ptr sb) rfl (by rfl) (by decide) loads_sched rfl (by kernel_rfl) c0 ?_
  refine ownU_quiet (i := 4) (rest := [5, 6]) (ptr sb) rfl (by rfl) rfl (by decide) (fun _ => by kernel_rfl) ?_
  refine ownU_quiet (i := 5) (rest := [6]) (.pointer (some ⟨sb, 3, none⟩)) rfl (by rfl) rfl (by decide) (fun _ => by kernel_rfl) ?_
  refine ownU_load (i := 6) (rest := []) ⟨sb, 3, none⟩ (.bool false) rfl (by rfl) (by decide) loads_bool rfl (by kernel_rfl) s3 ?_
  refine ownU_region_end ?_
  refine ownU_cond (c := .tmp 8) (x := sel [0, 1, 2] bodyRest) (y := .skip) (t := false) (by kernel_rfl) ?_
  refine ownU_skip ?_
  refine ownU_seq (x := sel [1, 0] bodyRest) (y := sel [1, 1] bodyRest) ?_
  refine ownU_region (id := 2) (ops := opsOf (sel [1, 0] bodyRest)) ?_
  refine ownU_quiet (i := 0) (rest := [1, 2, 3, 4, 5, 6, 7, 8]) (ptr c) rfl (by rfl) rfl (by decide) (fun _ => by kernel_rfl) ?_
  refine ownU_quiet (i := 1) (rest := [2, 3, 4, 5, 6, 7, 8]) (ptr c) rfl (by rfl) rfl (by decide) (fun _ => by kernel_rfl) ?_
  refine ownU_quiet (i := 2) (rest := [3, 4, 5, 6, 7, 8]) (.pointer (some ⟨c, 0, none⟩)) rfl (by rfl) rfl (by decide) (fun _ => by kernel_rfl) ?_
  refine ownU_load (i := 3) (rest := [4, 5, 6, 7, 8]) ⟨c, 0, none⟩ (ptr sb) rfl (by rfl) (by decide) loads_sched rfl (by kernel_rfl) c0 ?_
  refine ownU_quiet (i := 4) (rest := [5, 6, 7, 8]) (ptr sb) rfl (by rfl) rfl (by decide) (fun _ => by kernel_rfl) ?_
  refine ownU_quiet (i := 5) (rest := [6, 7, 8]) (.pointer (some ⟨sb, 2, none⟩)) rfl (by rfl) rfl (by decide) (fun _ => by kernel_rfl) ?_
  refine ownU_load (i := 6) (rest := [7, 8]) ⟨sb, 2, none⟩ (.chan (some sc)) rfl (by rfl) (by decide) loads_chan rfl (by kernel_rfl) s2 ?_
  refine ownU_quiet (i := 7) (rest := [8]) (.agg #[]) rfl (by rfl) rfl (by decide) (fun _ => by kernel_rfl) ?_
  exact ownU_eq (by kernel_rfl) hk
theorem rest_send_at {main : Bool} (c sb sc : Nat) (cs : List Frame) (w : World) : stepG Try.prog main (restSend c sb sc cs) w = .comm (restSend c sb sc cs) #[scase sc (.agg #[]) (.tuple #[])] true .send w := by
  unfold restSend
  have hr : (execOp (Act.eval ⟨List.toArray (ptr c :: undef :: ptr c :: ptr c :: .pointer (some ⟨c, 0, none⟩) :: ptr sb :: ptr sb :: .pointer (some ⟨sb, 3, none⟩) :: .bool false :: undef :: undef :: ptr c :: ptr c :: .pointer (some ⟨c, 0, none⟩) :: ptr sb :: ptr sb :: .pointer (some ⟨sb, 2, none⟩) :: .chan (some sc) :: .agg #[] :: undef :: undef :: undef :: undef :: undef :: undef :: undef :: undef :: undef :: undef :: undef :: undef :: undef :: undef :: []), []⟩) ((opsOf (sel [1, 0] bodyRest))[8]?.getD default)).run Try.prog w = .ok (.comm #[scase sc (.agg #[]) (.tuple #[])] true .send) w := by rfl
  rw [stepG_comm (ops := opsOf (sel [1, 0] bodyRest)) (i := 8) rfl (by rfl) (by decide) hr]
  rfl
/-- .. at its receive. -/
noncomputable def restSeat (c sb sc ch : Nat) (cs : List Frame) : Goroutine := G ((base 65).at ⟨List.toArray (ptr c :: undef :: ptr c :: ptr c :: .pointer (some ⟨c, 0, none⟩) :: ptr sb :: ptr sb :: .pointer (some ⟨sb, 3, none⟩) :: .bool false :: undef :: undef :: ptr c :: ptr c :: .pointer (some ⟨c, 0, none⟩) :: ptr sb :: ptr sb :: .pointer (some ⟨sb, 2, none⟩) :: .chan (some sc) :: .agg #[] :: ptr c :: ptr c :: .pointer (some ⟨c, 3, none⟩) :: .chan (some ch) :: undef :: undef :: undef :: undef :: undef :: undef :: undef :: undef :: undef :: undef :: []), []⟩ [.inRegion (opsOf (sel [1, 1, 0] bodyRest)) [4], .code (sel [1, 1, 1] bodyRest)]) cs
theorem rest_recv_at {main : Bool} {K : World → Prop} {Still : Loc → Prop} {B : Nat} (c sb sc ch : Nat) (cs : List Frame) : AtIn Try.prog main K Still B (Seat.one ch (.agg #[]) false (· = restSeat c sb sc ch cs)) (restSeat c sb sc ch cs) (restSeat c sb sc ch cs) := by
  refine ⟨rfl, rfl, rfl, rfl, rfl, #[], by simp, fun w _ => ?_⟩
  exact comm_quiet (ops := opsOf (sel [1, 1, 0] bodyRest)) (i := 4) rfl (by rfl) (by decide) (by kernel_rfl) (by kernel_rfl)
theorem rest_sits {main : Bool} {FC : List Row} {B : Nat} {cs : List Frame} {c sb sc ch : Nat} {x0 x1 x2 : Value} (hr : (⟨c, 0, [x0, x1, x2, .chan (some ch)]⟩ : Row) ∈ FC) (hB : c < B) :
    Sits Try.prog main (KF FC) (SF FC) B (Seat.one ch (.agg #[]) false (· = restSeat c sb sc ch cs)) 8 (Conc.served (restSend c sb sc cs) undef) := by
  refine .inl ⟨7, default, rfl, ?_⟩
  show Goes _ _ _ _ _ _ (G ((base 65).at ⟨List.toArray (ptr c :: undef :: ptr c :: ptr c :: .pointer (some ⟨c, 0, none⟩) :: ptr sb :: ptr sb :: .pointer (some ⟨sb, 3, none⟩) :: .bool false :: undef :: undef :: ptr c :: ptr c :: .pointer (some ⟨c, 0, none⟩) :: ptr sb :: ptr sb :: .pointer (some ⟨sb, 2, none⟩) :: .chan (some sc) :: .agg #[] :: undef :: undef :: undef :: undef :: undef :: undef :: undef :: undef :: undef :: undef :: undef :: undef :: undef :: undef :: []), []⟩ [.inRegion (opsOf (sel [1, 0] bodyRest)) [], .code (sel [1, 1] bodyRest)]) cs) _
  refine gk_still rfl (fun _ => stepG_region_end) ?_
  refine gk_still rfl (fun _ => stepG_seq (x := sel [1, 1, 0] bodyRest) (y := sel [1, 1, 1] bodyRest)) ?_
  refine gk_still rfl (fun _ => stepG_region (id := 3) (ops := opsOf (sel [1, 1, 0] bodyRest))) ?_
  refine gk_quiet (i := 0) (rest := [1, 2, 3, 4]) (ptr c) rfl (by rfl) (by decide) (fun _ => by kernel_rfl) (fun _ => by kernel_rfl) ?_
  refine gk_quiet (i := 1) (rest := [2, 3, 4]) (ptr c) rfl (by rfl) (by decide) (fun _ => by kernel_rfl) (fun _ => by kernel_rfl) ?_
  refine gk_quiet (i := 2) (rest := [3, 4]) (.pointer (some ⟨c, 3, none⟩)) rfl (by rfl) (by decide) (fun _ => by kernel_rfl) (fun _ => by kernel_rfl) ?_
  refine gk_load (i := 3) (rest := [4]) ⟨c, 3, none⟩ (.chan (some ch)) rfl (by rfl) (by decide) loads_chan rfl (by kernel_rfl) (fun w h => h _ hr 3 _ rfl) (sf_of hr (i := 3) (by simp) rfl) hB ?_
  exact Goes.stop fun w₁ _ => ⟨_, rest_recv_at c sb sc ch cs⟩
/-- .. served, and the scheduler is not closed: back to whoever called it. -/
theorem rest_back {main : Bool} {Z : Addr → Prop} {Stop : Goroutine → World → Prop} {w₀ u : World} {c sb sc ch : Nat} {b₀ : Frame} {a₀ : Act} {ops : Array Oper} {i : Nat} {rest : List Nat} {k : List Item} {cs : List Frame} (c0 : u.cell? ⟨c, 0, none⟩ = some (ptr sb)) (s3 : u.cell? ⟨sb, 3, none⟩ = some (.bool false))
    (hk : OwnU Try.prog main Z Stop w₀ (G (b₀.at (a₀.put ((ops[i]?).bind (·.dst)) (.tuple #[])) (.inRegion ops rest :: k)) cs) u) :
    OwnU Try.prog main Z Stop w₀ (Conc.served (restSeat c sb sc ch (b₀.at a₀ (.inRegion ops (i :: rest) :: k) :: cs)) (.agg #[])) u := by
  show OwnU _ _ _ _ _ (G ((base 65).at ⟨List.toArray (ptr c :: undef :: ptr c :: ptr c :: .pointer (some ⟨c, 0, none⟩) :: ptr sb :: ptr sb :: .pointer (some ⟨sb, 3, none⟩) :: .bool false :: undef :: undef :: ptr c :: ptr c :: .pointer (some ⟨c, 0, none⟩) :: ptr sb :: ptr sb :: .pointer (some ⟨sb, 2, none⟩) :: .chan (some sc) :: .agg #[] :: ptr c :: ptr c :: .pointer (some ⟨c, 3, none⟩) :: .chan (some ch) :: .agg #[] :: undef :: undef :: undef :: undef :: undef :: undef :: undef :: undef :: undef :: []), []⟩ [.inRegion (opsOf (sel [1, 1, 0] bodyRest)) [], .code (sel [1, 1, 1] bodyRest)]) _) _
  refine ownU_region_end ?_
  refine ownU_seq (x := sel [1, 1, 1, 0] bodyRest) (y := sel [1, 1, 1, 1] bodyRest) ?_
  refine ownU_region (id := 4) (ops := opsOf (sel [1, 1, 1, 0] bodyRest)) ?_
  refine ownU_quiet (i := 0) (rest := [1, 2, 3, 4, 5, 6]) (ptr c) rfl (by rfl) rfl (by decide) (fun _ => by kernel_rfl) ?_
  refine ownU_quiet (i := 1) (rest := [2, 3, 4, 5, 6]) (ptr c) rfl (by rfl) rfl (by decide) (fun _ => by kernel_rfl) ?_
  refine ownU_quiet (i := 2) (rest := [3, 4, 5, 6]) (.pointer (some ⟨c, 0, none⟩)) rfl (by rfl) rfl (by decide) (fun _ => by kernel_rfl) ?_
  refine ownU_load (i := 3) (rest := [4, 5, 6]) ⟨c, 0, none⟩ (ptr sb) rfl (by rfl) (by decide) loads_sched rfl (by kernel_rfl) c0 ?_
  refine ownU_quiet (i := 4) (rest := [5, 6]) (ptr sb) rfl (by rfl) rfl (by decide) (fun _ => by kernel_rfl) ?_
  refine ownU_quiet (i := 5) (rest := [6]) (.pointer (some ⟨sb, 3, none⟩)) rfl (by rfl) rfl (by decide) (fun _ => by kernel_rfl) ?_
  refine ownU_load (i := 6) (rest := []) ⟨sb, 3, none⟩ (.bool false) rfl (by rfl) (by decide) loads_bool rfl (by kernel_rfl) s3 ?_
  refine ownU_region_end ?_
  refine ownU_cond (c := .tmp 30) (x := sel [1, 1, 1, 1, 2] bodyRest) (y := .skip) (t := false) (by kernel_rfl) ?_
  refine ownU_skip ?_
  refine ownU_end ?_
  exact ownU_leave0 rfl rfl Try.func65 rfl hk
/-- .. served, and the scheduler is closed: a panic in whoever called it. -/
theorem rest_ends {main : Bool} {Z : Addr → Prop} {Stop : Goroutine → World → Prop} {w₀ u : World} {c sb sc ch : Nat} {fr : Frame} {cs : List Frame} (c0 : u.cell? ⟨c, 0, none⟩ = some (ptr sb)) (s3 : u.cell? ⟨sb, 3, none⟩ = some (.bool true))
    (hk : OwnU Try.prog main Z Stop w₀ (G (fr.raise [{ v := endV, recovered := false }]) cs) u) :
    OwnU Try.prog main Z Stop w₀ (Conc.served (restSeat c sb sc ch (fr :: cs)) (.agg #[])) u := by
  show OwnU _ _ _ _ _ (G ((base 65).at ⟨List.toArray (ptr c :: undef :: ptr c :: ptr c :: .pointer (some ⟨c, 0, none⟩) :: ptr sb :: ptr sb :: .pointer (some ⟨sb, 3, none⟩) :: .bool false :: undef :: undef :: ptr c :: ptr c :: .pointer (some ⟨c, 0, none⟩) :: ptr sb :: ptr sb :: .pointer (some ⟨sb, 2, none⟩) :: .chan (some sc) :: .agg #[] :: ptr c :: ptr c :: .pointer (some ⟨c, 3, none⟩) :: .chan (some ch) :: .agg #[] :: undef :: undef :: undef :: undef :: undef :: undef :: undef :: undef :: undef :: []), []⟩ [.inRegion (opsOf (sel [1, 1, 0] bodyRest)) [], .code (sel [1, 1, 1] bodyRest)]) _) _
  refine ownU_region_end ?_
  refine ownU_seq (x := sel [1, 1, 1, 0] bodyRest) (y := sel [1, 1, 1, 1] bodyRest) ?_
  refine ownU_region (id := 4) (ops := opsOf (sel [1, 1, 1, 0] bodyRest)) ?_
  refine ownU_quiet (i := 0) (rest := [1, 2, 3, 4, 5, 6]) (ptr c) rfl (by rfl) rfl (by decide) (fun _ => by kernel_rfl) ?_
  refine ownU_quiet (i := 1) (rest := [2, 3, 4, 5, 6]) (ptr c) rfl (by rfl) rfl (by decide) (fun _ => by kernel_rfl) ?_
  refine ownU_quiet (i := 2) (rest := [3, 4, 5, 6]) (.pointer (some ⟨c, 0, none⟩)) rfl (by rfl) rfl (by decide) (fun _ => by kernel_rfl) ?_
  refine ownU_load (i := 3) (rest := [4, 5, 6]) ⟨c, 0, none⟩ (ptr sb) rfl (by rfl) (by decide) loads_sched rfl (by kernel_rfl) c0 ?_
  refine ownU_quiet (i := 4) (rest := [5, 6]) (ptr sb) rfl (by rfl) rfl (by decide) (fun _ => by kernel_rfl) ?_
  refine ownU_quiet (i := 5) (rest := [6]) (.pointer (some ⟨sb, 3, none⟩)) rfl (by rfl) rfl (by decide) (fun _ => by kernel_rfl) ?_
  refine ownU_load (i := 6) (rest := []) ⟨sb, 3, none⟩ (.bool true) rfl (by rfl) (by decide) loads_bool rfl (by kernel_rfl) s3 ?_
  refine ownU_region_end ?_
  refine ownU_cond (c := .tmp 30) (x := sel [1, 1, 1, 1, 2] bodyRest) (y := .skip) (t := true) (by kernel_rfl) ?_
  refine ownU_region (id := 5) (ops := opsOf (sel [1, 1, 1, 1, 2] bodyRest)) ?_
  refine ownU_quiet (i := 0) (rest := [1, 2]) (.agg #[]) rfl (by rfl) rfl (by decide) (fun _ => by kernel_rfl) ?_
  refine ownU_quiet (i := 1) (rest := [2]) (endV) rfl (by rfl) rfl (by decide) (fun _ => by kernel_rfl) ?_
  refine ownU_panic (i := 2) (rest := []) endV rfl (by rfl) (by decide) (fun _ => by kernel_rfl) (fun _ => by kernel_rfl) ?_
  exact ownU_unwind rfl rfl Try.func65 hk
end Go.Proofs.Ytolnmdanlggmhaa

/- Yield and Block, in company. -/
namespace Go.Proofs.Ytolnmdanlggmhaa
open Go.RowKit Go.Maps Go.Conc
open Go.ConcN (upd upd_ne upd_same)

set_option maxRecDepth 100000
set_option maxHeartbeats 2000000

/-- What is asked at the end of a piece of code that is walked alone: its normal end alone. -/
def AtEndU (P : Program) (main : Bool) (Z : Addr → Prop) (Stop : Goroutine → World → Prop) (w₀ : World) (b : Frame) (ds : List Deferred) (k : List Item) (cs : List Frame) : Exit → Act → World → Prop
  | .normal, a, w => OwnU P main Z Stop w₀ (G (b.at ⟨a.tmps, ds⟩ k) cs) w
  | _, _, _ => False
theorem atEndU {P : Program} {main : Bool} {Z : Addr → Prop} {Stop : Goroutine → World → Prop} {w₀ w : World} {b : Frame} {a : Act} {ds : List Deferred} {k : List Item} {cs : List Frame} (h : OwnU P main Z Stop w₀ (G (b.at ⟨a.tmps, ds⟩ k) cs) w) : AtEndU P main Z Stop w₀ b ds k cs .normal a w := h
theorem ownU_codeM {P : Program} {L : List FuncId} {main : Bool} {Z : Addr → Prop} {Stop : Goroutine → World → Prop} {w₀ u : World} {b : Frame} {a : Act} {k : List Item} {cs : List Frame} {c : Code} (hL : okL P L = true) (hc : okCode P L c = true) (hb : b.kind ≠ .early) (hfn : ∃ fn, P.funcs[b.fn]? = some fn)
    (h : ∀ A d, c.wp P (AtEndU P main Z Stop w₀ b a.defers k cs) ⟨a.tmps, []⟩ (tp u A d)) : OwnU P main Z Stop w₀ (G (b.at a (.code c :: k)) cs) u :=
  ownU_nv fun hn => ownU_code hL hc hb hfn hn h (fun e _ _ h => by cases e <;> first | rfl | exact h.elim) fun _ _ _ _ _ hq => ownU_tp.1 hq
/-- What a coroutine's goroutine does when it is served at its seat: it goes on behind the call at which it stands; or, if the scheduler is closed, that call panics. -/
structure Waiter (b sb : Nat) (b₀ : Frame) (a₀ : Act) (ops : Array Oper) (i : Nat) (rest : List Nat) (k : List Item) (cs : List Frame) (g : Goroutine) : Prop where
  back : ∀ {main : Bool} {Z : Addr → Prop} {Stop : Goroutine → World → Prop} {w₀ u : World}, u.cell? ⟨b, 0, none⟩ = some (ptr sb) → u.cell? ⟨sb, 3, none⟩ = some (.bool false) →
    OwnU Try.prog main Z Stop w₀ (G (b₀.at (a₀.put ((ops[i]?).bind (·.dst)) (.tuple #[])) (.inRegion ops rest :: k)) cs) u → OwnU Try.prog main Z Stop w₀ (Conc.served g (.agg #[])) u
  ends : ∀ {main : Bool} {Z : Addr → Prop} {Stop : Goroutine → World → Prop} {w₀ u : World}, u.cell? ⟨b, 0, none⟩ = some (ptr sb) → u.cell? ⟨sb, 3, none⟩ = some (.bool true) →
    OwnU Try.prog main Z Stop w₀ (G ((b₀.at a₀ (.inRegion ops (i :: rest) :: k)).raise [{ v := endV, recovered := false }]) cs) u → OwnU Try.prog main Z Stop w₀ (Conc.served g (.agg #[])) u

theorem raise_raise {fr : Frame} {ch : List PanicEntry} (hm : fr.mode = .run) : fr.raise ch = { fr with mode := .panicking ch } := by
  unfold Frame.raise
  rw [hm]

section
variable {Post : Value → World → Prop} {E : Env} {h : Nat} {own : Nat → Nat} {S : Sch} {ks : List Kid} {FC : List Row} {n : Nat} {Inb : Nat → Option Seat} {w : World} {cs : List Frame} {i : Nat} {c : CoR} {k : Kid} {g0 : Goroutine}

/-- rest: the token goes to main; whoever rested waits. -/
theorem rest_won (C : CI E h own S ks FC n Inb w) (hi : S.cos[i]? = some c) (hk : ks[i]? = some k) (ht : k.tag = 2) (hcl : S.closed = false) (hI0 : Inb 0 = some (Seat.one S.sc (.agg #[]) false (· = g0)))
    (next : ∀ Inb' w', CI E 0 own S (ks.set i ⟨1, h, restSeat c.b S.sb S.sc c.ch cs⟩) FC n Inb' w' → Inb' 0 = Inb 0 → Same6 own w w' → Won Try.prog Post FC n Inb' 0 (Conc.served g0 (.agg #[])) w') : Won Try.prog Post FC n Inb h (restIn c.b cs) w := by
  obtain ⟨hb, hj, h0⟩ := (C.kid i c k hi hk).2.2.2.1 ht
  have hcm := List.mem_of_getElem? hi
  have sG := C.siG
  have c0 := cellsAt_cell (sG.co i c hi) 0 (ptr S.sb) rfl
  have s3 := cellsAt_cell sG.sch 3 (.bool false) (by rw [← hcl]; rfl)
  have s2 := cellsAt_cell sG.sch 2 (.chan (some S.sc)) rfl
  refine win_own C.fi.wf (rest_own (cs := cs) c0 s3 s2 (ownU_stop fun w1 hs hkp => ?_))
  obtain ⟨a, C1⟩ := C.step hs hkp (Stp.refl C.ltG (T := fun _ => False)) (fun h => h) C.siG C.fi rfl rfl (fun i c h => ⟨c, h, rfl, rfl⟩)
  have s1 : Same6 own w w1 := same6_step a C.fi (Stp.refl C.ltG (T := fun _ => False)) (fun _ h => h.elim) C.lw C.fi
  obtain ⟨m, hm⟩ := C1.si.ch c hcm
  refine win_reseat (c := c.ch) (z := .agg #[]) (home := (· = restSeat c.b S.sb S.sc c.ch cs)) (fun x s hx hs' => C1.fresh hi hk (by omega) x s (.inl hx) hs') hm ?_
  have hI0' : (upd Inb h (some (Seat.one c.ch (.agg #[]) false (· = restSeat c.b S.sb S.sc c.ch cs)))) 0 = some (Seat.one S.sc (.agg #[]) false (· = g0)) := by rw [upd_ne _ _ (fun e => h0 e.symm)]; exact hI0
  refine win_give (j := 0) (nh := 8) (g₂ := restSend c.b S.sb S.sc cs) C.fi.wf (fun e => h0 e.symm) (by have := C.hn; omega) hI0' rfl (fun w => rest_send_at c.b S.sb S.sc cs w) (fun _ _ => rfl) (.inl rfl) (fun T' _ => ?_) fun d cap kk hch => ?_
  · rw [upd_same]
    exact rest_sits (C.fi.rco i c hi) (C1.lt _ (by rw [C.si.oco c hcm]; omega))
  · obtain ⟨kk', hch'⟩ := C1.si.scAt
    have hcap : cap = 0 := by rw [hch'] at hch; injection hch with e; injection e with e; exact e.symm
    subst hcap
    refine next _ _ ((C1.back hi hk ht ⟨1, h, restSeat c.b S.sb S.sc c.ch cs⟩ _ (.inl ⟨rfl, rfl⟩)).chan C.si.osc) (upd_ne _ _ (fun e => h0 e.symm)) ?_
    exact s1.trans (Stp.same6 (stp_setChan C1.lt C.si.osc) (fun t h => by omega) C1.lt) (OLe.refl _)
end

noncomputable abbrev bodyY : Code := Try.f41.body.getD .skip
noncomputable abbrev bodyB : Code := Try.f60.body.getD .skip
/-- Yield, entered; Block, entered. -/
noncomputable def yieldIn (c : Nat) (cs : List Frame) : Goroutine := G ((base 41).at ⟨#[ptr c, undef, undef, undef, undef, undef, undef, undef, undef, undef, undef, undef, undef, undef, undef, undef, undef, undef, undef, undef, undef, undef, undef, undef], []⟩ [.code bodyY]) cs
noncomputable def blockIn (c : Nat) (cs : List Frame) : Goroutine := G ((base 60).at ⟨#[ptr c, undef, undef, undef, undef, undef, undef, undef, undef, undef, undef, undef, undef, undef, undef], []⟩ [.code bodyB]) cs
/-- .. their frames at the call of rest. -/
noncomputable def yieldFr (ts : Array Value) : Frame := (base 41).at ⟨ts, []⟩ [.inRegion (opsOf (sel [1] bodyY)) [1]]
noncomputable def blockFr (ts : Array Value) : Frame := (base 60).at ⟨ts, []⟩ [.inRegion (opsOf (sel [1] bodyB)) [1]]

theorem yield_waiter {c sb sc ch : Nat} {ts : Array Value} {b₀ : Frame} {a₀ : Act} {ops : Array Oper} {i : Nat} {rest : List Nat} {k : List Item} {cs : List Frame} :
    Waiter c sb b₀ a₀ ops i rest k cs (restSeat c sb sc ch (yieldFr ts :: b₀.at a₀ (.inRegion ops (i :: rest) :: k) :: cs)) where
  back c0 s3 hk := by
    refine rest_back (b₀ := base 41) (a₀ := ⟨ts, []⟩) (ops := opsOf (sel [1] bodyY)) (i := 1) (rest := []) (k := []) c0 s3 ?_
    refine ownU_region_end ?_
    refine ownU_end ?_
    exact ownU_leave0 rfl (by rfl) Try.func41 rfl hk
  ends c0 s3 hk := by
    refine rest_ends (fr := yieldFr ts) c0 s3 ?_
    rw [raise_raise rfl]
    exact ownU_unwind rfl rfl Try.func41 hk
theorem block_waiter {c sb sc ch : Nat} {ts : Array Value} {b₀ : Frame} {a₀ : Act} {ops : Array Oper} {i : Nat} {rest : List Nat} {k : List Item} {cs : List Frame} :
    Waiter c sb b₀ a₀ ops i rest k cs (restSeat c sb sc ch (blockFr ts :: b₀.at a₀ (.inRegion ops (i :: rest) :: k) :: cs)) where
  back c0 s3 hk := by
    refine rest_back (b₀ := base 60) (a₀ := ⟨ts, []⟩) (ops := opsOf (sel [1] bodyB)) (i := 1) (rest := []) (k := []) c0 s3 ?_
    refine ownU_region_end ?_
    refine ownU_end ?_
    exact ownU_leave0 rfl (by rfl) Try.func60 rfl hk
  ends c0 s3 hk := by
    refine rest_ends (fr := blockFr ts) c0 s3 ?_
    rw [raise_raise rfl]
    exact ownU_unwind rfl rfl Try.func60 hk

theorem yield_own {main : Bool} {Z : Addr → Prop} {Stop : Goroutine → World → Prop} {w₀ u : World} {cs : List Frame} {own : Nat → Nat} {S : Sch} {i : Nat} {c : CoR} (si : SI own S u) (hlt : ∀ b, own b ≠ 0 → b < u.heap.size) (hi : S.cos[i]? = some c) (hcl : S.closed = false) (hid : ((i : Int) + 1) ∉ S.qs) (hq : S.fr + S.qs.length < 999999)
    (hk : ∀ ts own' u', SI own' { S with qs := S.qs ++ [(i : Int) + 1] } u' → Stp (· = 2) own own' u u' → OwnU Try.prog main Z Stop w₀ (restIn c.b (yieldFr ts :: cs)) u') : OwnU Try.prog main Z Stop w₀ (yieldIn c.b cs) u := by
  unfold yieldIn ptr
  refine ownU_seq ?_
  refine ownU_codeM okL18 (by kernel_rfl) (by decide) ⟨_, Try.func41⟩ fun A d => ?_
  have c0 : (tp u A d).cell? ⟨c.b, 0, none⟩ = some (.pointer (some ⟨S.sb, 0, none⟩)) := cellsAt_cell (si.co i c hi) 0 _ rfl
  have c1 : (tp u A d).cell? ⟨c.b, 1, none⟩ = some (.int .i64 ((i : Int) + 1)) := cellsAt_cell (si.co i c hi) 1 (.int .i64 ((i : Int) + 1)) rfl
  have s3 : (tp u A d).cell? ⟨S.sb, 3, none⟩ = some (.bool false) := cellsAt_cell si.sch 3 (.bool false) (by rw [← hcl]; rfl)
  have s1 : (tp u A d).cell? ⟨S.sb, 1, none⟩ = some (.pointer (some ⟨S.qb, 0, none⟩)) := cellsAt_cell si.sch 1 _ rfl
  have hil : i < S.cos.length := (List.getElem?_eq_some_iff.1 hi).1
  have hlim := si.lim
  have hpush : ∀ A d, Calls Try.prog 25 #[.pointer (some ⟨S.qb, 0, none⟩), .int .i64 ((i : Int) + 1)] (tp u A d) fun e w' => e = .returned (.bool true) ∧ ∃ own', SI own' { S with qs := S.qs ++ [(i : Int) + 1] } w' ∧ Stp (· = 2) own own' u w' := by
    intro A d
    have hpu := push_i S.qb S.fr S.qs ((i : Int) + 1) (tp u A d) (si.tp A d).qu (int_wf (by omega) (by omega)) (by omega) (by omega)
    rw [memB_out hid, addX_out hid] at hpu
    refine hpu.mono ?_
    rintro e w' ⟨rfl, fp', hq', hst⟩
    refine ⟨rfl, ?_⟩
    obtain ⟨own', h1, h2⟩ := (si.tp A d).queue hlt hq' hst (by simp; omega)
    exact ⟨own', h1, h2.unl⟩
  clear si hlt hi hq hlim hil
  generalize (i : Int) + 1 = id at *
  have hpush' := fun d => hpush A d
  have hmix : Try.prog.follows .mixedOrders = true := by kernel_rfl
  clear hpush
  go_wp2_with fail
  go_region_with_o (go_at_call 25; refine (hpush' _).mono ?_; rintro e w' ⟨rfl, own', h1, h2⟩)
  all_goals
    refine atEndU ?_
    refine ownU_region ?_
    refine ownU_quiet (i := 0) (rest := [1]) (ptr c.b) rfl (by rfl) rfl (by decide) (fun _ => by kernel_rfl) ?_
    refine ownU_enter (i := 1) (rest := []) (f := 65) rfl (by rfl) (by decide) rfl Try.func65 (by kernel_rfl) rfl ?_
    exact ownU_eq (by kernel_rfl) (hk #[ptr c.b, undef, ptr c.b, ptr c.b, ptr c.b, ptr S.sb, ptr S.sb, .pointer (some ⟨S.sb, 3, none⟩), .bool false, .bool true, ptr c.b, ptr c.b, ptr c.b, ptr S.sb, ptr S.sb, .pointer (some ⟨S.sb, 1, none⟩), ptr S.qb, ptr c.b, ptr c.b, .pointer (some ⟨c.b, 1, none⟩), .int .i64 id, .bool true, ptr c.b, undef] own' w' h1 h2)

theorem block_own {main : Bool} {Z : Addr → Prop} {Stop : Goroutine → World → Prop} {w₀ u : World} {cs : List Frame} {own : Nat → Nat} {S : Sch} {i : Nat} {c : CoR} (si : SI own S u) (hi : S.cos[i]? = some c) (hcl : S.closed = false)
    (hk : ∀ ts, OwnU Try.prog main Z Stop w₀ (restIn c.b (blockFr ts :: cs)) (u.setCell ⟨c.b, 5, none⟩ (.int .i64 2))) : OwnU Try.prog main Z Stop w₀ (blockIn c.b cs) u := by
  unfold blockIn ptr
  refine ownU_seq ?_
  refine ownU_codeM okL18 (by kernel_rfl) (by decide) ⟨_, Try.func60⟩ fun A d => ?_
  have c0 : (tp u A d).cell? ⟨c.b, 0, none⟩ = some (.pointer (some ⟨S.sb, 0, none⟩)) := cellsAt_cell (si.co i c hi) 0 _ rfl
  have s3 : (tp u A d).cell? ⟨S.sb, 3, none⟩ = some (.bool false) := cellsAt_cell si.sch 3 (.bool false) (by rw [← hcl]; rfl)
  have c5 : (tp u A d).cell? ⟨c.b, 5, none⟩ = some (.int .i64 c.st) := cellsAt_cell (si.co i c hi) 5 _ rfl
  have f5 : (tp u A d).frozen? ⟨c.b, 5, none⟩ = false := cellsAt_free (si.co i c hi) 5 (by omega)
  have hk' : ∀ ts, OwnU Try.prog main Z Stop w₀ (restIn c.b (blockFr ts :: cs)) ((tp u A d).setCell ⟨c.b, 5, none⟩ (.int .i64 2)) := fun ts => (ownU_tp (A := A) (d := d)).2 (hk ts)
  clear hk si
  generalize tp u A d = u' at *
  go_wp2_with fail
  refine atEndU ?_
  refine ownU_region ?_
  refine ownU_quiet (i := 0) (rest := [1]) (ptr c.b) rfl (by rfl) rfl (by decide) (fun _ => by kernel_rfl) ?_
  refine ownU_enter (i := 1) (rest := []) (f := 65) rfl (by rfl) (by decide) rfl Try.func65 (by kernel_rfl) rfl ?_
  exact ownU_eq (by kernel_rfl) (hk' #[ptr c.b, undef, ptr c.b, ptr c.b, ptr c.b, ptr S.sb, ptr S.sb, .pointer (some ⟨S.sb, 3, none⟩), .bool false, .bool true, ptr c.b, ptr c.b, .pointer (some ⟨c.b, 5, none⟩), ptr c.b, undef])

section
variable {Post : Value → World → Prop} {E : Env} {h : Nat} {own : Nat → Nat} {S : Sch} {ks : List Kid} {FC : List Row} {n : Nat} {Inb : Nat → Option Seat} {w : World} {cs : List Frame} {i : Nat} {c : CoR} {k : Kid} {g0 : Goroutine}
  {b₀ : Frame} {a₀ : Act} {ops : Array Oper} {j : Nat} {rest : List Nat} {k₀ : List Item}

/-- Yield, of the one that runs: main gets the token; it waits, its number at the queue's end. -/
theorem yield_won (C : CI E h own S ks FC n Inb w) (hi : S.cos[i]? = some c) (hk : ks[i]? = some k) (ht : k.tag = 2) (hcl : S.closed = false) (hid : ((i : Int) + 1) ∉ S.qs) (hq : S.fr + S.qs.length < 999999) (hI0 : Inb 0 = some (Seat.one S.sc (.agg #[]) false (· = g0)))
    (next : ∀ own' g Inb' w', Waiter c.b S.sb b₀ a₀ ops j rest k₀ cs g → CI E 0 own' { S with qs := S.qs ++ [(i : Int) + 1] } (ks.set i ⟨1, h, g⟩) FC n Inb' w' → Inb' 0 = Inb 0 → OLe own own' → Same6 own w w' → Won Try.prog Post FC n Inb' 0 (Conc.served g0 (.agg #[])) w') :
    Won Try.prog Post FC n Inb h (yieldIn c.b (b₀.at a₀ (.inRegion ops (j :: rest) :: k₀) :: cs)) w := by
  refine win_own C.fi.wf (yield_own C.siG C.ltG hi hcl hid hq fun ts own' u' si' st => ownU_stop fun w1 hs hkp => ?_)
  have fi' : FI own' { S with qs := S.qs ++ [(i : Int) + 1] } FC := by
    have := C.fi.stp (u := guardW FC w) st (fun r hr => by simpa [guardW] using C.rows r hr)
    exact ⟨this.wf, this.rco, this.rsb, this.off⟩
  obtain ⟨a, C1⟩ := C.step hs hkp st (by omega) si' fi' rfl rfl (fun i c h => ⟨c, h, rfl, rfl⟩)
  have s1 : Same6 own w w1 := same6_step a fi' st (fun t h => by omega) C.lw C.fi
  refine rest_won C1 hi hk ht hcl hI0 fun Inb' w' C2 e s2 => ?_
  exact next own' _ Inb' w' yield_waiter C2 e st.le (s1.trans s2 st.le)

/-- Block, of the one that runs. -/
theorem block_won (C : CI E h own S ks FC n Inb w) (hi : S.cos[i]? = some c) (hk : ks[i]? = some k) (ht : k.tag = 2) (hcl : S.closed = false) (hI0 : Inb 0 = some (Seat.one S.sc (.agg #[]) false (· = g0)))
    (next : ∀ g Inb' w', Waiter c.b S.sb b₀ a₀ ops j rest k₀ cs g → CI E 0 own { S with cos := S.cos.set i { c with st := 2 } } (ks.set i ⟨1, h, g⟩) FC n Inb' w' → Inb' 0 = Inb 0 → Same6 own w w' → Won Try.prog Post FC n Inb' 0 (Conc.served g0 (.agg #[])) w') :
    Won Try.prog Post FC n Inb h (blockIn c.b (b₀.at a₀ (.inRegion ops (j :: rest) :: k₀) :: cs)) w := by
  refine win_own C.fi.wf (block_own C.siG hi hcl fun ts => ownU_stop fun w1 hs hkp => ?_)
  have hcm := List.mem_of_getElem? hi
  have st : Stp (· = 4) own own (guardW FC w) ((guardW FC w).setCell ⟨c.b, 5, none⟩ (.int .i64 2)) := stp_setCell C.ltG (C.si.oco c hcm) _
  have fi' : FI own { S with cos := S.cos.set i { c with st := 2 } } FC := C.fi.setCo hi { c with st := 2 } rfl rfl rfl
  have hi' : (S.cos.set i { c with st := 2 })[i]? = some { c with st := 2 } := by rw [List.getElem?_set_self (List.getElem?_eq_some_iff.1 hi).1]
  obtain ⟨a, C1⟩ := C.step (S' := { S with cos := S.cos.set i { c with st := 2 } }) hs hkp st (by omega) (C.siG.setCo hi { c with st := 2 } 5 (.int .i64 2) rfl rfl rfl) fi' rfl (by simp) (fun i' c' h => by
    rcases set_get h with ⟨rfl, rfl, _⟩ | ⟨_, h'⟩
    · exact ⟨c, hi, rfl, rfl⟩
    · exact ⟨c', h', rfl, rfl⟩)
  have s1 : Same6 own w w1 := same6_step a fi' st (fun t h => by omega) C.lw C.fi
  exact rest_won (c := { c with st := 2 }) C1 hi' hk ht hcl hI0 fun Inb' w' C2 e s2 => next _ Inb' w' block_waiter C2 e (s1.trans s2 (OLe.refl _))
end
end Go.Proofs.Ytolnmdanlggmhaa

/- The end of a coroutine's goroutine: its function has returned. -/
namespace Go.Proofs.Ytolnmdanlggmhaa
open Go.RowKit Go.Maps Go.Conc
open Go.ConcN (upd upd_ne upd_same)

set_option maxRecDepth 100000
set_option maxHeartbeats 2000000

section
variable {P : Program} {main : Bool} {Z : Addr → Prop} {Stop : Goroutine → World → Prop} {w₀ u : World} {b : Frame} {a : Act} {k : List Item} {cs : List Frame} {ops : Array Oper} {i : Nat} {rest : List Nat} {o : Oper}
/-- A frame on its way out makes its next deferred call. -/
theorem ownU_deferred {fr : Frame} {f : FuncId} {fn : Func} {c : Code} {args ca : Array Value} {ds : List Deferred} (hm : fr.mode ≠ .run) (hd : fr.defers = { target := .fn (.func f) ca, args := args } :: ds) (hf : P.funcs[f]? = some fn) (hnm : (fn.name == "runtime.NumGoroutine") = false) (hbd : fn.body = some c)
    (hk : OwnU P main Z Stop w₀ (G (Frame.enter P f (args ++ ca) .deferred) ({ fr with defers := ds } :: cs)) u) : OwnU P main Z Stop w₀ (G fr cs) u := by
  refine ownU_still rfl (fun w => ?_) hk
  have h1 : ¬ fn.name = "runtime.NumGoroutine" := by simpa using hnm
  rw [stepG_unw hm]
  simp [unwind, hd, callDeferred, invoke, callFunc, hf, h1, hbd, GStep.after, seen_none, G]
/-- recover, where there is nothing to recover from. -/
theorem ownU_recover0 (ho : ops[i]? = some o) (hw : Region.wanted o (yielded ops a.tmps) = true) (hb : b.kind ≠ .early) (h : ∀ w, (execOp a.eval o).run P w = .ok .recover w) (he : ∀ w, (execOp a.eval o).events P w #[] = #[])
    (ht : tryRecover (b.at a (.inRegion ops (i :: rest) :: k)) cs = none) (hk : OwnU P main Z Stop w₀ (G (b.at (a.put o.dst .nilIface) (.inRegion ops rest :: k)) cs) u) : OwnU P main Z Stop w₀ (G (b.at a (.inRegion ops (i :: rest) :: k)) cs) u := by
  refine ownU_still rfl (fun w => ?_) hk
  have hk' : (b.kind == CallKind.early) = false := by simpa using hb
  have hfin : (b.at a (.inRegion ops (i :: rest) :: k)).finish .nilIface = b.at (a.put o.dst .nilIface) (.inRegion ops rest :: k) := by rw [Frame.finish_at, ho]; rfl
  rw [stepG_oper ho hw, ← hfin]
  have hrd' : (b.at a (.inRegion ops (i :: rest) :: k)).roundOf = none := rfl
  simp [stepG.apply, h, he, G, hrd', ht, GStep.after, seen_none]
/-- recover, of a panic. -/
theorem ownU_recover1 {v : Value} {cs' : List Frame} (ho : ops[i]? = some o) (hw : Region.wanted o (yielded ops a.tmps) = true) (hb : b.kind ≠ .early) (h : ∀ w, (execOp a.eval o).run P w = .ok .recover w) (he : ∀ w, (execOp a.eval o).events P w #[] = #[])
    (ht : tryRecover (b.at a (.inRegion ops (i :: rest) :: k)) cs = some (v, cs')) (hk : OwnU P main Z Stop w₀ (G (b.at (a.put o.dst v) (.inRegion ops rest :: k)) cs') u) : OwnU P main Z Stop w₀ (G (b.at a (.inRegion ops (i :: rest) :: k)) cs) u := by
  refine ownU_still rfl (fun w => ?_) hk
  have hk' : (b.kind == CallKind.early) = false := by simpa using hb
  have hfin : (b.at a (.inRegion ops (i :: rest) :: k)).finish v = b.at (a.put o.dst v) (.inRegion ops rest :: k) := by rw [Frame.finish_at, ho]; rfl
  rw [stepG_oper ho hw, ← hfin]
  have hrd' : (b.at a (.inRegion ops (i :: rest) :: k)).roundOf = none := rfl
  simp [stepG.apply, h, he, G, hrd', ht, GStep.after, seen_none]
end
/-- A send. -/
theorem send_at {P : Program} {main : Bool} {b : Frame} {a : Act} {k : List Item} {cs : List Frame} {ops : Array Oper} {i : Nat} {rest : List Nat} {o : Oper} {x y : Operand} {c : Nat} {v : Value} (ho : ops[i]? = some o) (hw : Region.wanted o (yielded ops a.tmps) = true) (hb : b.kind ≠ .early) (hop : o.op = .send x y) (hx : a.eval x = .chan (some c)) (hy : a.eval y = v) (w : World) :
    stepG P main (G (b.at a (.inRegion ops (i :: rest) :: k)) cs) w = .comm (G (b.at a (.inRegion ops (i :: rest) :: k)) cs) #[scase c v (.tuple #[])] true .send w := by
  have hr : (execOp a.eval o).run P w = .ok (.comm #[scase c v (.tuple #[])] true .send) w := by
    unfold execOp
    simp only [hop, hx, hy]
    rfl
  have he : (execOp a.eval o).events P w #[] = #[] := by
    unfold execOp
    simp only [hop, hx, hy]
    rfl
  exact comm_quiet ho hw hb hr he

noncomputable abbrev bodyE : Code := Try.f80.body.getD .skip
/-- run's deferred function, at its send. -/
noncomputable def endSend (ts : Array Value) (cs : List Frame) : Goroutine := G ((baseD 80).at ⟨ts, []⟩ [.inRegion (opsOf (sel [1, 1, 1] bodyE)) [8]]) cs
theorem end_send_at {main : Bool} {ts : Array Value} {cs : List Frame} {sc : Nat} (h1 : ts.getD 35 undef = .chan (some sc)) (h2 : ts.getD 36 undef = .agg #[]) (w : World) : stepG Try.prog main (endSend ts cs) w = .comm (endSend ts cs) #[scase sc (.agg #[]) (.tuple #[])] true .send w :=
  send_at (b := baseD 80) (a := ⟨ts, []⟩) (k := []) (rest := []) (ops := opsOf (sel [1, 1, 1] bodyE)) (i := 8) (x := .tmp 35) (y := .tmp 36) rfl (by rfl) (by decide) rfl h1 h2 w

/-- run's frame, when all that is left is to go. -/
structure RunOut (fr : Frame) : Prop where
  fn : fr.fn = 75
  kind : fr.kind = .deferred
  defers : fr.defers = []
  round : fr.roundOf = none
  mode : fr.mode = .returning ∨ ∃ v, fr.mode = .panicking [{ v := v, recovered := true }]

theorem quits_bot : QuitsD Try.prog 1 0 (G botR []) := by
  refine .ctl (g' := { G botR [] with status := .finished }) rfl (fun w => ?_) ⟨rfl, rfl⟩
  have ht : (default : Frame).todo = [] := rfl
  simp [G, stepG, unwind, botR, Frame.catches, goexitEntry, ht]
theorem quits_run {fr : Frame} (h : RunOut fr) (hm : fr.mode = .returning) : QuitsD Try.prog 2 0 (G fr [botR]) := by
  refine .ctl (g' := G botR []) rfl (fun w => ?_) quits_bot
  rw [stepG_unw (by rw [hm]; simp)]
  have hf : Try.prog.funcs[fr.fn]? = some Try.f75 := by rw [h.fn]; exact Try.func75
  have hr : ∀ ts (w : World), (results Try.f75 ts).run Try.prog w = .ok (.tuple #[]) w := fun ts w => results_none rfl ts Try.prog w
  have he : ∀ ts (w : World), (results Try.f75 ts).events Try.prog w #[] = #[] := fun ts w => events_results_none rfl _ _
  simp [unwind, h.defers, hm, hf, hr, he, doReturn, h.kind, seen_none, GStep.after, G, botR, goexitEntry]
theorem quits_end {ts : Array Value} {fr : Frame} (h : RunOut fr) : QuitsD Try.prog 5 0 (Conc.served (endSend ts (fr :: [botR])) undef) := by
  show QuitsD _ _ _ (G ((baseD 80).at ⟨ts, []⟩ [.inRegion (opsOf (sel [1, 1, 1] bodyE)) []]) [fr, botR])
  refine .ctl rfl (fun _ => stepG_region_end) ?_
  refine .ctl rfl (fun _ => stepG_end) ?_
  refine .ctl (g' := G { fr with mode := .returning } [botR]) rfl (fun w => ?_) (quits_run ⟨h.fn, h.kind, h.defers, h.round, .inl rfl⟩ rfl)
  rw [stepG_unw (by simp)]
  have hf : Try.prog.funcs[80]? = some Try.f80 := Try.func80
  have hr : ∀ ts (w : World), (results Try.f80 ts).run Try.prog w = .ok (.tuple #[]) w := fun ts w => results_none rfl ts Try.prog w
  have he : ∀ ts (w : World), (results Try.f80 ts).events Try.prog w #[] = #[] := fun ts w => events_results_none rfl _ _
  rcases h.mode with hm | ⟨v, hm⟩
  · have : { fr with mode := .returning } = fr := by cases fr; simp only at hm; subst hm; rfl
    rw [this]
    simp [unwind, Frame.at, baseD, hf, hr, he, doReturn, hm, seen_none, GStep.after, G]
  · simp [unwind, Frame.at, baseD, hf, hr, he, doReturn, hm, seen_none, GStep.after, G]
end Go.Proofs.Ytolnmdanlggmhaa

/- run's deferred function, up to its send. (Printed by gen_end.py.) -/
namespace Go.Proofs.Ytolnmdanlggmhaa
open Go.RowKit Go.Maps Go.Conc
open Go.ConcN (upd upd_ne upd_same)

set_option maxRecDepth 100000
set_option maxHeartbeats 2000000

/-- Only new blocks differ. -/
structure New (u u' : World) : Prop where
  os : u'.os = u.os
  output : u'.output = u.output
  size : u.heap.size ≤ u'.heap.size
  block : ∀ b, b < u.heap.size → u'.heap[b]? = u.heap[b]?
theorem New.refl (u : World) : New u u := ⟨rfl, rfl, Nat.le_refl _, fun _ _ => rfl⟩
theorem New.trans {a b c : World} (h : New a b) (k : New b c) : New a c := ⟨k.os.trans h.os, k.output.trans h.output, Nat.le_trans h.size k.size, fun x hx => (k.block x (Nat.lt_of_lt_of_le hx h.size)).trans (h.block x hx)⟩
theorem New.cell {u u' : World} (h : New u u') {a : Addr} {x : Value} (hc : u.cell? a = some x) : u'.cell? a = some x := by
  have := cell_lt hc
  unfold World.cell? at hc ⊢
  rw [h.block _ this]
  exact hc
theorem New.tp {u u' : World} (h : New u u') (A : Nat → Question → Nat) (d : Nat) : New u (tp u' A d) := ⟨h.os, h.output, h.size, h.block⟩
theorem New.free {u u' : World} (h : New u u') {a : Addr} {x : Value} (hc : u.cell? a = some x) : u'.frozen? a = u.frozen? a := by
  have := cell_lt hc
  unfold World.frozen?
  rw [h.block _ this]
theorem New.alloc (u : World) (o : Obj) : New u (u.alloc o) := ⟨rfl, rfl, by rw [World.size_alloc]; omega, fun b hb => Below.heap_alloc _ _ _ hb⟩
theorem New.stp {T : Nat → Prop} {own : Nat → Nat} {u u' : World} (h : New u u') (hlt : ∀ b, own b ≠ 0 → b < u.heap.size) : Stp T own own u u' := ⟨h.os, h.output, h.size, fun b hb _ => h.block b hb, OLe.refl _, fun _ h h' => absurd h h', fun b hb => Nat.lt_of_lt_of_le (hlt b hb) h.size⟩
theorem ownU_lit {P : Program} {main : Bool} {Z : Addr → Prop} {Stop : Goroutine → World → Prop} {w₀ u : World} {b : Frame} {a : Act} {todo : List Item} {cs : List Frame} (ts : Array Value) (ds : List Deferred) (h1 : a.tmps = ts) (h2 : a.defers = ds) (hk : OwnU P main Z Stop w₀ (G (b.at ⟨ts, ds⟩ todo) cs) u) : OwnU P main Z Stop w₀ (G (b.at a todo) cs) u := by
  subst h1; subst h2; exact hk
section
variable {P : Program} {main : Bool} {Z : Addr → Prop} {Stop : Goroutine → World → Prop} {w₀ u : World} {b : Frame} {a : Act} {k : List Item} {cs : List Frame} {ops : Array Oper} {i : Nat} {rest : List Nat} {o : Oper}
/-- A new block. -/
theorem ownU_new (x : Obj) (ho : ops[i]? = some o) (hw : Region.wanted o (yielded ops a.tmps) = true) (hok : okOp P [] o.op = true) (hb : b.kind ≠ .early) (h : ∀ w, (execOp a.eval o).run P w = .ok (.value (ptr w.heap.size)) (w.alloc x))
    (hk : OwnU P main Z Stop w₀ (G (b.at (a.put o.dst (ptr u.heap.size)) (.inRegion ops rest :: k)) cs) (u.alloc x)) : OwnU P main Z Stop w₀ (G (b.at a (.inRegion ops (i :: rest) :: k)) cs) u :=
  ownU_op (L := []) ho hok hw hb fun A d => by
    rw [h]
    exact (ownU_tp (u := u.alloc x) (A := A) (d := d)).2 hk
/-- An operation that yields nothing and turns nothing. -/
theorem ownU_quiet0 (ho : ops[i]? = some o) (hw : Region.wanted o (yielded ops a.tmps) = true) (hok : okOp P [] o.op = true) (hb : b.kind ≠ .early) (h : ∀ w, (execOp a.eval o).run P w = .ok .skip w)
    (hk : OwnU P main Z Stop w₀ (G (b.at (a.put o.dst undef) (.inRegion ops rest :: k)) cs) u) : OwnU P main Z Stop w₀ (G (b.at a (.inRegion ops (i :: rest) :: k)) cs) u :=
  ownU_op (L := []) ho hok hw hb fun A d => by
    rw [h]
    exact ownU_tp.2 hk
/-- A store of one cell. -/
theorem ownU_store (ad : Addr) (x : Value) (ho : ops[i]? = some o) (hw : Region.wanted o (yielded ops a.tmps) = true) (hok : okOp P [] o.op = true) (hb : b.kind ≠ .early) (h : ∀ w : World, w.cell? ad = u.cell? ad → w.frozen? ad = u.frozen? ad → (execOp a.eval o).run P w = .ok .skip (w.setCell ad x))
    (hk : OwnU P main Z Stop w₀ (G (b.at (a.put o.dst undef) (.inRegion ops rest :: k)) cs) (u.setCell ad x)) : OwnU P main Z Stop w₀ (G (b.at a (.inRegion ops (i :: rest) :: k)) cs) u :=
  ownU_op (L := []) ho hok hw hb fun A d => by
    rw [h (tp u A d) rfl rfl]
    exact (ownU_tp (u := u.setCell ad x) (A := A) (d := d)).2 hk
end
theorem try_none {g fr : Frame} {cs : List Frame} (hk : g.kind = .deferred) (hm : fr.mode = .returning) : tryRecover g (fr :: cs) = none := by
  unfold tryRecover
  rw [hk]
  simp [hm]
theorem try_some {g fr : Frame} {cs : List Frame} {v : Value} (hk : g.kind = .deferred) (hm : fr.mode = .panicking [{ v := v, recovered := false }]) : tryRecover g (fr :: cs) = some (v, { fr with mode := .panicking [{ v := v, recovered := true }] } :: cs) := by
  unfold tryRecover
  rw [hk]
  simp [hm]
theorem loads_int : Loads1 Try.prog 3 := fun w ad v h => ⟨by simp [go_sem, h], by simp [go_sem, h]⟩

theorem end_done {main : Bool} {Z : Addr → Prop} {Stop : Goroutine → World → Prop} {w₀ u : World} {fr : Frame} {c nb sb sc : Nat} (hm : fr.mode = .returning) (hn : u.cell? ⟨nb, 0, none⟩ = some (ptr c)) (c5 : u.cell? ⟨c, 5, none⟩ = some (.int .i64 3)) (c0 : u.cell? ⟨c, 0, none⟩ = some (ptr sb)) (s2 : u.cell? ⟨sb, 2, none⟩ = some (.chan (some sc)))
    (hk : ∀ ts u', New u u' → ts.getD 35 undef = .chan (some sc) → ts.getD 36 undef = .agg #[] → OwnU Try.prog main Z Stop w₀ (endSend ts [fr, botR]) u') : OwnU Try.prog main Z Stop w₀ (G ((baseD 80).at ⟨List.toArray (ptr nb :: undef :: undef :: undef :: undef :: undef :: undef :: undef :: undef :: undef :: undef :: undef :: undef :: undef :: undef :: undef :: undef :: undef :: undef :: undef :: undef :: undef :: undef :: undef :: undef :: undef :: undef :: undef :: undef :: undef :: undef :: undef :: undef :: undef :: undef :: undef :: undef :: []), []⟩ [.code bodyE]) [fr, botR]) u := by
  refine ownU_seq (x := sel [0] bodyE) (y := sel [1] bodyE) ?_
  refine ownU_region (id := 0) (ops := opsOf (sel [0] bodyE)) ?_
  refine ownU_recover0 (i := 0) (rest := [1]) rfl (by rfl) (by decide) (fun _ => by kernel_rfl) (fun _ => by kernel_rfl) (try_none rfl hm) ?_
  refine ownU_quiet (i := 1) (rest := []) (.nilIface) rfl (by rfl) rfl (by decide) (fun _ => by kernel_rfl) ?_
  refine ownU_region_end ?_
  refine ownU_seq (x := sel [1, 0] bodyE) (y := sel [1, 1] bodyE) ?_
  refine ownU_region (id := 1) (ops := opsOf (sel [1, 0] bodyE)) ?_
  refine ownU_quiet (i := 0) (rest := [1, 2, 3, 4, 5, 6, 7]) (.nilIface) rfl (by rfl) rfl (by decide) (fun _ => by kernel_rfl) ?_
  refine ownU_quiet (i := 1) (rest := [2, 3, 4, 5, 6, 7]) (.tuple #[.agg #[], .bool false]) rfl (by rfl) rfl (by decide) (fun _ => by kernel_rfl) ?_
  refine ownU_quiet (i := 2) (rest := [3, 4, 5, 6, 7]) (.tuple #[.agg #[], .bool false]) rfl (by rfl) rfl (by decide) (fun _ => by kernel_rfl) ?_
  refine ownU_quiet (i := 3) (rest := [4, 5, 6, 7]) (.agg #[]) rfl (by rfl) rfl (by decide) (fun _ => by kernel_rfl) ?_
  refine ownU_quiet (i := 4) (rest := [5, 6, 7]) (.bool false) rfl (by rfl) rfl (by decide) (fun _ => by kernel_rfl) ?_
  refine ownU_new (.cells #[] 106) (i := 5) (rest := [6, 7]) rfl (by rfl) rfl (by decide) (fun _ => by kernel_rfl) ?_
  refine ownU_quiet0 (i := 6) (rest := [7]) rfl (by rfl) rfl (by decide) (fun _ => by kernel_rfl) ?_
  refine ownU_quiet (i := 7) (rest := []) (.bool false) rfl (by rfl) rfl (by decide) (fun _ => by kernel_rfl) ?_
  refine ownU_region_end ?_
  have hnew := New.alloc u (.cells #[] 106)
  generalize u.alloc (.cells #[] 106) = u1 at *
  replace hn := hnew.cell hn
  replace c0 := hnew.cell c0
  replace s2 := hnew.cell s2
  replace c5 := hnew.cell c5
  refine ownU_seq (x := sel [1, 1, 0] bodyE) (y := sel [1, 1, 1] bodyE) ?_
  refine ownU_block (id := 0) (c := sel [1, 1, 0, 4] bodyE) ?_
  refine ownU_seq (x := sel [1, 1, 0, 4, 0] bodyE) (y := sel [1, 1, 0, 4, 1] bodyE) ?_
  refine ownU_region (id := 2) (ops := opsOf (sel [1, 1, 0, 4, 0] bodyE)) ?_
  refine ownU_quiet (i := 0) (rest := [1]) (.bool false) rfl (by rfl) rfl (by decide) (fun _ => by kernel_rfl) ?_
  refine ownU_quiet (i := 1) (rest := []) (.bool false) rfl (by rfl) rfl (by decide) (fun _ => by kernel_rfl) ?_
  refine ownU_region_end ?_
  refine ownU_cond (c := .tmp 10) (x := sel [1, 1, 0, 4, 1, 2] bodyE) (y := sel [1, 1, 0, 4, 1, 3] bodyE) (t := false) (by kernel_rfl) ?_
  refine ownU_seq (x := sel [1, 1, 0, 4, 1, 3, 0] bodyE) (y := sel [1, 1, 0, 4, 1, 3, 1] bodyE) ?_
  refine ownU_region (id := 4) (ops := opsOf (sel [1, 1, 0, 4, 1, 3, 0] bodyE)) ?_
  refine ownU_load (i := 0) (rest := [1, 2, 3, 4, 5]) ⟨nb, 0, none⟩ (ptr c) rfl (by rfl) (by decide) loads_co rfl (by kernel_rfl) hn ?_
  refine ownU_quiet (i := 1) (rest := [2, 3, 4, 5]) (ptr c) rfl (by rfl) rfl (by decide) (fun _ => by kernel_rfl) ?_
  refine ownU_quiet (i := 2) (rest := [3, 4, 5]) (.pointer (some ⟨c, 5, none⟩)) rfl (by rfl) rfl (by decide) (fun _ => by kernel_rfl) ?_
  refine ownU_load (i := 3) (rest := [4, 5]) ⟨c, 5, none⟩ (.int .i64 3) rfl (by rfl) (by decide) loads_int rfl (by kernel_rfl) c5 ?_
  refine ownU_quiet (i := 4) (rest := [5]) (.bool false) rfl (by rfl) rfl (by decide) (fun _ => by kernel_rfl) ?_
  refine ownU_quiet (i := 5) (rest := []) (.bool false) rfl (by rfl) rfl (by decide) (fun _ => by kernel_rfl) ?_
  refine ownU_region_end ?_
  refine ownU_cond (c := .tmp 15) (x := sel [1, 1, 0, 4, 1, 3, 1, 2] bodyE) (y := .skip) (t := false) (by kernel_rfl) ?_
  refine ownU_skip ?_
  refine ownU_inBlock ?_
  refine ownU_region (id := 6) (ops := opsOf (sel [1, 1, 1] bodyE)) ?_
  refine ownU_load (i := 0) (rest := [1, 2, 3, 4, 5, 6, 7, 8]) ⟨nb, 0, none⟩ (ptr c) rfl (by rfl) (by decide) loads_co rfl (by kernel_rfl) hn ?_
  refine ownU_quiet (i := 1) (rest := [2, 3, 4, 5, 6, 7, 8]) (ptr c) rfl (by rfl) rfl (by decide) (fun _ => by kernel_rfl) ?_
  refine ownU_quiet (i := 2) (rest := [3, 4, 5, 6, 7, 8]) (.pointer (some ⟨c, 0, none⟩)) rfl (by rfl) rfl (by decide) (fun _ => by kernel_rfl) ?_
  refine ownU_load (i := 3) (rest := [4, 5, 6, 7, 8]) ⟨c, 0, none⟩ (ptr sb) rfl (by rfl) (by decide) loads_sched rfl (by kernel_rfl) c0 ?_
  refine ownU_quiet (i := 4) (rest := [5, 6, 7, 8]) (ptr sb) rfl (by rfl) rfl (by decide) (fun _ => by kernel_rfl) ?_
  refine ownU_quiet (i := 5) (rest := [6, 7, 8]) (.pointer (some ⟨sb, 2, none⟩)) rfl (by rfl) rfl (by decide) (fun _ => by kernel_rfl) ?_
  refine ownU_load (i := 6) (rest := [7, 8]) ⟨sb, 2, none⟩ (.chan (some sc)) rfl (by rfl) (by decide) loads_chan rfl (by kernel_rfl) s2 ?_
  refine ownU_quiet (i := 7) (rest := [8]) (.agg #[]) rfl (by rfl) rfl (by decide) (fun _ => by kernel_rfl) ?_
  exact ownU_eq (by kernel_rfl) (hk (List.toArray (ptr nb :: .nilIface :: ptr u.heap.size :: .bool false :: .nilIface :: .tuple #[.agg #[], .bool false] :: .nilIface :: .tuple #[.agg #[], .bool false] :: .agg #[] :: .bool false :: .bool false :: .bool false :: undef :: undef :: undef :: .bool false :: ptr c :: ptr c :: .pointer (some ⟨c, 5, none⟩) :: .int .i64 3 :: .bool false :: undef :: undef :: undef :: undef :: undef :: undef :: undef :: undef :: ptr c :: ptr c :: .pointer (some ⟨c, 0, none⟩) :: ptr sb :: ptr sb :: .pointer (some ⟨sb, 2, none⟩) :: .chan (some sc) :: .agg #[] :: [])) u1 hnew rfl rfl)
end Go.Proofs.Ytolnmdanlggmhaa

/- run, its function has returned; told by the crew. (Printed by gen_end3.py.) -/
namespace Go.Proofs.Ytolnmdanlggmhaa
open Go.RowKit Go.Maps Go.Conc
open Go.ConcN (upd upd_ne upd_same)

set_option maxRecDepth 100000
set_option maxHeartbeats 2000000

/-- run, behind the call of its function. -/
noncomputable def runBack (c nb ch : Nat) (fv : Value) : Goroutine := G ((baseD 75).at ⟨#[ptr c, ptr nb, ptr c, ptr c, .pointer (some ⟨c, 3, none⟩), .chan (some ch), .agg #[], .func (.func 80) #[] #[ptr nb], ptr c, ptr c, .pointer (some ⟨c, 2, none⟩), fv, ptr c, .tuple #[], undef, undef, undef], [runDefer nb]⟩ [.inRegion (opsOf (sel [1, 1, 1, 0] bodyR)) [], .code (sel [1, 1, 1, 1] bodyR)]) [botR]

theorem run_store (w : World) {a : Addr} {v x : Value} {t : TypeId} (ht : t = 3) (hx : ∃ z, x = .int .i64 z) (h1 : w.cell? a = some v) (h2 : w.frozen? a = false) : (Instr.storeAt t (.pointer (some a)) x).run Try.prog w = .ok () (w.setCell a x) := by
  subst ht
  obtain ⟨z, rfl⟩ := hx
  simp [go_sem, h1, h2]
theorem store_int5 {a : Act} {o : Oper} {x y : Operand} {w : World} {ad : Addr} {v : Value} {z : Int} (hop : o.op = .store 3 x y) (hx : a.eval x = .pointer (some ad)) (hy : a.eval y = .int .i64 z) (h1 : w.cell? ad = some v) (h2 : w.frozen? ad = false) : (execOp a.eval o).run Try.prog w = .ok .skip (w.setCell ad (.int .i64 z)) := by
  unfold execOp
  simp only [hop, hx, hy]
  rw [Sem.run_bind, run_store w rfl ⟨z, rfl⟩ h1 h2]
  rfl

theorem run_done_own {main : Bool} {Z : Addr → Prop} {Stop : Goroutine → World → Prop} {w₀ u : World} {c nb sb sc ch : Nat} {fv v : Value} (hn : u.cell? ⟨nb, 0, none⟩ = some (ptr c)) (c5 : u.cell? ⟨c, 5, none⟩ = some v) (f5 : u.frozen? ⟨c, 5, none⟩ = false) (c0 : u.cell? ⟨c, 0, none⟩ = some (ptr sb)) (s2 : u.cell? ⟨sb, 2, none⟩ = some (.chan (some sc)))
    (hk : ∀ ts u' fr, RunOut fr → New (u.setCell ⟨c, 5, none⟩ (.int .i64 3)) u' → ts.getD 35 undef = .chan (some sc) → ts.getD 36 undef = .agg #[] → OwnU Try.prog main Z Stop w₀ (endSend ts [fr, botR]) u') : OwnU Try.prog main Z Stop w₀ (runBack c nb ch fv) u := by
  unfold runBack
  refine ownU_region_end ?_
  refine ownU_region (id := 4) (ops := opsOf (sel [1, 1, 1, 1] bodyR)) ?_
  refine ownU_load (i := 0) (rest := [1, 2, 3]) ⟨nb, 0, none⟩ (ptr c) rfl (by rfl) (by decide) loads_co rfl (by kernel_rfl) hn ?_
  refine ownU_quiet (i := 1) (rest := [2, 3]) (ptr c) rfl (by rfl) rfl (by decide) (fun _ => by kernel_rfl) ?_
  refine ownU_quiet (i := 2) (rest := [3]) (.pointer (some ⟨c, 5, none⟩)) rfl (by rfl) rfl (by decide) (fun _ => by kernel_rfl) ?_
  refine ownU_store (i := 3) (rest := []) ⟨c, 5, none⟩ (.int .i64 3) rfl (by rfl) rfl (by decide) (fun w h1 h2 => store_int5 rfl (by kernel_rfl) (by kernel_rfl) (h1.trans c5) (h2.trans f5)) ?_
  refine ownU_region_end ?_
  refine ownU_lit (#[ptr c, ptr nb, ptr c, ptr c, .pointer (some ⟨c, 3, none⟩), .chan (some ch), .agg #[], .func (.func 80) #[] #[ptr nb], ptr c, ptr c, .pointer (some ⟨c, 2, none⟩), fv, ptr c, .tuple #[], ptr c, ptr c, .pointer (some ⟨c, 5, none⟩)]) [runDefer nb] (by kernel_rfl) (by kernel_rfl) ?_
  refine ownU_end ?_
  refine ownU_deferred (args := #[]) (ca := #[ptr nb]) (ds := []) (by simp) rfl Try.func80 (by kernel_rfl) rfl ?_
  have k0 : ∀ a : Addr, a ≠ ⟨c, 5, none⟩ → (u.setCell ⟨c, 5, none⟩ (.int .i64 3)).cell? a = u.cell? a := fun a h => setCell_cell_ne _ _ _ _ rfl h
  refine ownU_eq (g := G ((baseD 80).at ⟨List.toArray (ptr nb :: undef :: undef :: undef :: undef :: undef :: undef :: undef :: undef :: undef :: undef :: undef :: undef :: undef :: undef :: undef :: undef :: undef :: undef :: undef :: undef :: undef :: undef :: undef :: undef :: undef :: undef :: undef :: undef :: undef :: undef :: undef :: undef :: undef :: undef :: undef :: undef :: []), []⟩ [.code bodyE]) [{ (baseD 75).at ⟨#[ptr c, ptr nb, ptr c, ptr c, .pointer (some ⟨c, 3, none⟩), .chan (some ch), .agg #[], .func (.func 80) #[] #[ptr nb], ptr c, ptr c, .pointer (some ⟨c, 2, none⟩), fv, ptr c, .tuple #[], ptr c, ptr c, .pointer (some ⟨c, 5, none⟩)], [runDefer nb]⟩ [] with mode := .returning, defers := [] }, botR]) (by kernel_rfl) (end_done (c := c) (nb := nb) (sb := sb) (sc := sc) rfl ?_ ?_ ?_ ?_ fun ts u' h1 h2 h3 => hk ts u' _ ⟨rfl, rfl, rfl, rfl, .inl rfl⟩ h1 h2 h3)
  · rw [k0 _ (by simp)]; exact hn
  · exact World.cell?_setCell_same _ _ _ c5
  · rw [k0 _ (by simp)]; exact c0
  · rw [k0 _ (by simp)]; exact s2
end Go.Proofs.Ytolnmdanlggmhaa

/- A coroutine's goroutine ends: told by the crew. -/
namespace Go.Proofs.Ytolnmdanlggmhaa
open Go.RowKit Go.Maps Go.Conc
open Go.ConcN (upd upd_ne upd_same)

theorem won_kf {P : Program} {Post : Value → World → Prop} {FC : List Row} {n h : Nat} {Inb : Nat → Option Seat} {g : Goroutine} {w : World} (hk : KF FC w → Won P Post FC n Inb h g w) : Won P Post FC n Inb h g w :=
  fun gs T q sl Mem hsz ha hM C => hk C.keep gs T q sl Mem hsz ha hM C
theorem guard_cell {FC : List Row} {w : World} (hW : WfF FC) (hK : KF FC w) (a : Addr) : (guardW FC w).cell? a = w.cell? a := (guard_sim hW hK).cell a
theorem kf_cell {FC : List Row} {w : World} (hK : KF FC w) {b : Nat} {x : Value} (h : (⟨b, 0, [x]⟩ : Row) ∈ FC) : w.cell? ⟨b, 0, none⟩ = some x := hK _ h 0 x rfl

section
variable {Post : Value → World → Prop} {E : Env} {h : Nat} {own own' : Nat → Nat} {S S' : Sch} {ks : List Kid} {FC : List Row} {n : Nat} {Inb : Nat → Option Seat} {w : World} {i nb : Nat} {c c' : CoR} {k : Kid} {g0 : Goroutine}

/-- THE LAST THING that a coroutine's goroutine does: it sends; then it only leaves. -/
theorem end_won (C : CI E h own S ks FC n Inb w) (hi : S.cos[i]? = some c) (hk : ks[i]? = some k) (ht : k.tag = 2) (hI0 : Inb 0 = some (Seat.one S.sc (.agg #[]) false (· = g0))) {ts : Array Value} {fr : Frame} (hro : RunOut fr) (h1 : ts.getD 35 undef = .chan (some S.sc)) (h2 : ts.getD 36 undef = .agg #[])
    (next : ∀ Inb' w', CI E 0 own S (ks.set i ⟨3, h, default⟩) FC n Inb' w' → Inb' 0 = Inb 0 → Same6 own w w' → Won Try.prog Post FC n Inb' 0 (Conc.served g0 (.agg #[])) w') : Won Try.prog Post FC n Inb h (endSend ts [fr, botR]) w := by
  obtain ⟨hb, hj, h0⟩ := (C.kid i c k hi hk).2.2.2.1 ht
  refine win_give (j := 0) (nh := 5) (Inb' := upd Inb h none) (g₂ := endSend ts [fr, botR]) C.fi.wf (fun e => h0 e.symm) (by have := C.hn; omega) hI0 rfl (fun w => end_send_at h1 h2 w) (fun x hx => upd_ne _ _ hx) (.inr (upd_same _ _ _)) (fun T' hT' => ?_) fun d cap kk hch => ?_
  · rw [upd_same]
    exact ⟨by omega, by rw [hT']; exact quits_end hro⟩
  · obtain ⟨kk', hch'⟩ := C.si.scAt
    have hcap : cap = 0 := by rw [hch'] at hch; injection hch with e; injection e with e; exact e.symm
    subst hcap
    exact next _ _ ((C.back hi hk ht ⟨3, h, default⟩ none (.inr ⟨rfl, rfl⟩)).chan C.si.osc) (upd_ne _ _ (fun e => h0 e.symm)) (Stp.same6 (stp_setChan C.lt C.si.osc) (fun t h => by omega) C.lt)

theorem hkid_set {S : Sch} {i : Nat} {c c' : CoR} (hi : S.cos[i]? = some c) (hb : c'.begun = c.begun) (hch : c'.ch = c.ch) : ∀ (i' : Nat) (d : CoR), (S.cos.set i c')[i']? = some d → ∃ e, S.cos[i']? = some e ∧ d.begun = e.begun ∧ d.ch = e.ch := fun i' d h => by
  rcases set_get h with ⟨rfl, rfl, _⟩ | ⟨_, h'⟩
  · exact ⟨c, hi, hb, hch⟩
  · exact ⟨d, h', rfl, rfl⟩

/-- Its function has returned. -/
theorem done_won (C : CI E h own S ks FC n Inb w) (hi : S.cos[i]? = some c) (hk : ks[i]? = some k) (ht : k.tag = 2) (hbox : (⟨nb, 0, [ptr c.b]⟩ : Row) ∈ FC) (hI0 : Inb 0 = some (Seat.one S.sc (.agg #[]) false (· = g0)))
    (next : ∀ Inb' w', CI E 0 own { S with cos := S.cos.set i { c with st := 3 } } (ks.set i ⟨3, h, default⟩) FC n Inb' w' → Inb' 0 = Inb 0 → Same6 own w w' → Won Try.prog Post FC n Inb' 0 (Conc.served g0 (.agg #[])) w') : Won Try.prog Post FC n Inb h (runBack c.b nb c.ch c.f) w := by
  refine won_kf fun hK => ?_
  have hcm := List.mem_of_getElem? hi
  have sG := C.siG
  have hn : (guardW FC w).cell? ⟨nb, 0, none⟩ = some (ptr c.b) := by rw [guard_cell C.fi.wf hK]; exact kf_cell hK hbox
  have c0 := cellsAt_cell (sG.co i c hi) 0 (ptr S.sb) rfl
  have c5 := cellsAt_cell (sG.co i c hi) 5 (.int .i64 c.st) rfl
  have f5 := cellsAt_free (sG.co i c hi) 5 (by omega)
  have s2 := cellsAt_cell sG.sch 2 (.chan (some S.sc)) rfl
  refine win_own C.fi.wf (run_done_own hn c5 f5 c0 s2 fun ts u' fr hro hnew h1 h2 => ownU_stop fun w1 hs hkp => ?_)
  have st1 : Stp (· = 4) own own (guardW FC w) ((guardW FC w).setCell ⟨c.b, 5, none⟩ (.int .i64 3)) := stp_setCell C.ltG (C.si.oco c hcm) _
  have st2 : Stp (· = 4) own own ((guardW FC w).setCell ⟨c.b, 5, none⟩ (.int .i64 3)) u' := hnew.stp st1.lt
  have st : Stp (· = 4) own own (guardW FC w) u' := st1.trans st2 (by omega)
  have si1 : SI own { S with cos := S.cos.set i { c with st := 3 } } ((guardW FC w).setCell ⟨c.b, 5, none⟩ (.int .i64 3)) := sG.setCo hi { c with st := 3 } 5 (.int .i64 3) rfl rfl rfl
  have fi' : FI own { S with cos := S.cos.set i { c with st := 3 } } FC := C.fi.setCo hi { c with st := 3 } rfl rfl rfl
  have hi' : (S.cos.set i { c with st := 3 })[i]? = some { c with st := 3 } := by rw [List.getElem?_set_self (List.getElem?_eq_some_iff.1 hi).1]
  obtain ⟨a, C1⟩ := C.step (S' := { S with cos := S.cos.set i { c with st := 3 } }) hs hkp st (by omega) (si1.keep (OLe.refl _) fun b hb _ => hnew.block b hb) fi' rfl (by simp) (hkid_set hi rfl rfl)
  have s1 : Same6 own w w1 := same6_step a fi' st (fun t h => by omega) C.lw C.fi
  exact end_won C1 hi' hk ht hI0 hro h1 h2 fun Inb' w' C2 e s2 => next Inb' w' C2 e (s1.trans s2 (OLe.refl _))
end
end Go.Proofs.Ytolnmdanlggmhaa

/- Single operations in company: append, stores; values appended to a row of one's own. -/
namespace Go.Proofs.Ytolnmdanlggmhaa
open Go.RowKit Go.Maps Go.Conc

section
variable {P : Program} {L : List FuncId} {main : Bool} {Z : Addr → Prop} {Stop : Goroutine → World → Prop} {w₀ u : World} {b : Frame} {a : Act} {k : List Item} {cs : List Frame} {ops : Array Oper} {j : Nat} {rest : List Nat} {o : Oper}

/-- One element appended. -/
theorem ownU_append {s x : Operand} {t e : TypeId} {i : TypeInfo} {z y v : Value} {bytes c : Nat} {xs : List Value} {ad : Addr} (hop : o.op = .call { callee := .builtin .append, args := #[s, x], argTypes := #[t, t] })
    (ho : ops[j]? = some o) (hw : Region.wanted o (yielded ops a.tmps) = true) (hok : okOp P [] o.op = true) (hb : b.kind ≠ .early)
    (ht : P.underlying t = some (.slice e)) (hi : P.info? e = some i) (hz : i.zero = some z) (hsize : i.size = 1) (hby : i.bytes = bytes) (hzs : z.cells.size = 1)
    (hs : a.eval s = v) (hq : QRow u v xs) (hx : a.eval x = .slice (some ad) 1 c) (hy : u.cell? ad = some y) (h1 : y.oneCell' = true) (h63 : xs.length + 1 ≤ maxLen) (hbytes : (xs.length + 1) * bytes ≤ 140737488355328)
    (hk : ∀ v' u', QRow u' v' (xs ++ [y]) → u'.os = u.os → u'.output = u.output → u.heap.size ≤ u'.heap.size → (∀ g, g < u.heap.size → v.ownBlock ≠ some g → u'.heap[g]? = u.heap[g]?) → (v'.ownBlock = v.ownBlock ∨ ∀ g, v'.ownBlock = some g → u.heap.size ≤ g) →
      OwnU P main Z Stop w₀ (G (b.at (a.put o.dst v') (.inRegion ops rest :: k)) cs) u') : OwnU P main Z Stop w₀ (G (b.at a (.inRegion ops (j :: rest) :: k)) cs) u :=
  ownU_op (L := []) ho hok hw hb fun A d => by
    have hq' : QRow (tp u A d) v xs := hq.keep fun _ _ => rfl
    obtain ⟨v', w', hrun, h2, h3, h4⟩ := run_append_q (P := P) (tp u A d) t o.type e i z bytes ht hi hz hsize hby hzs v xs hq' ad 1 c y [] rfl (fun m u' hm => by
      rcases m with _ | m
      · simp only [List.getElem?_cons_zero, Option.some.injEq] at hm
        subst hm
        rw [show ad.add 0 = ad by unfold Addr.add; simp]
        exact hy
      · simp at hm) (by simpa using h1) (.inl rfl) h63 hbytes
    unfold ResK execOp
    simp only [hop, resolve, invoke, builtin, Sem.run_bind, Sem.run_pure, Result.andThen_ok, List.map_toArray, List.map_cons, List.map_nil, hs, hx, hrun]
    exact hk v' w' h2 h3.os h3.output h3.size (fun g hg hn => h3.block g hg (fun e => hn e.symm)) h4
end

/-- A store of one cell. -/
def Stores1 (P : Program) (t : TypeId) (x : Value) : Prop := ∀ (w : World) (ad : Addr) (v : Value), w.cell? ad = some v → w.frozen? ad = false → (Instr.storeAt t (.pointer (some ad)) x).run P w = .ok () (w.setCell ad x)
theorem store_op {P : Program} {a : Act} {o : Oper} {x y : Operand} {w : World} {ad : Addr} {v z : Value} {t : TypeId} (hl : Stores1 P t z) (hop : o.op = .store t x y) (hx : a.eval x = .pointer (some ad)) (hy : a.eval y = z) (h1 : w.cell? ad = some v) (h2 : w.frozen? ad = false) : (execOp a.eval o).run P w = .ok .skip (w.setCell ad z) := by
  unfold execOp
  simp only [hop, hx, hy]
  rw [Sem.run_bind, hl w ad v h1 h2]
  rfl
theorem stores_ints (A : Option Addr) (n c : Nat) : Stores1 Try.prog 22 (.slice A n c) := fun w ad v h1 h2 => by simp [go_sem, h1, h2]
theorem stores_int (z : Int) : Stores1 Try.prog 3 (.int .i64 z) := fun w ad v h1 h2 => by simp [go_sem, h1, h2]
theorem stores_str (s : ByteArray) : Stores1 Try.prog 9 (.string s) := fun w ad v h1 h2 => by simp [go_sem, h1, h2]
theorem stores_bool (s : Bool) : Stores1 Try.prog 4 (.bool s) := fun w ad v h1 h2 => by simp [go_sem, h1, h2]
theorem loads_ints : Loads1 Try.prog 22 := fun w ad v h => ⟨by simp [go_sem, h], by simp [go_sem, h]⟩
theorem loads_queue : Loads1 Try.prog 23 := fun w ad v h => ⟨by simp [go_sem, h], by simp [go_sem, h]⟩
theorem loads_str : Loads1 Try.prog 9 := fun w ad v h => ⟨by simp [go_sem, h], by simp [go_sem, h]⟩
theorem loads_u8 : Loads1 Try.prog 5 := fun w ad v h => ⟨by simp [go_sem, h], by simp [go_sem, h]⟩
theorem loads_cos : Loads1 Try.prog 88 := fun w ad v h => ⟨by simp [go_sem, h], by simp [go_sem, h]⟩
end Go.Proofs.Ytolnmdanlggmhaa

/- order = append(order, c.ID()), in company. (Printed by gen_alive1.py.) -/
namespace Go.Proofs.Ytolnmdanlggmhaa
open Go.RowKit Go.Maps Go.Conc
open Go.ConcN (upd upd_ne upd_same)

set_option maxRecDepth 100000
set_option maxHeartbeats 2000000

/-- The variable order (box ob, tag 6; its row's own block: tag 7). -/
structure OrdAt (own : Nat → Nat) (ob : Nat) (xs : List Value) (w : World) : Prop where
  box : ∃ v, w.heap[ob]? = some (.cells #[v] 22 (0, 0)) ∧ QRow w v xs ∧ ∀ g, v.ownBlock = some g → own g = 7
  ob : own ob = 6
theorem OrdAt.keep {own own' : Nat → Nat} {ob : Nat} {xs : List Value} {w w' : World} (h : OrdAt own ob xs w) (le : OLe own own') (hb : ∀ b, own b = 6 ∨ own b = 7 → w'.heap[b]? = w.heap[b]?) : OrdAt own' ob xs w' := by
  obtain ⟨⟨v, h1, h2, h3⟩, h4⟩ := h
  exact ⟨⟨v, (hb _ (.inl h4)).trans h1, h2.keep fun g hg => hb g (.inr (h3 g hg)), fun g hg => le.tag (h3 g hg) (by omega)⟩, le.tag h4 (by omega)⟩
theorem OrdAt.tp {own : Nat → Nat} {ob : Nat} {xs : List Value} {w : World} (h : OrdAt own ob xs w) (A : Nat → Question → Nat) (d : Nat) : OrdAt own ob xs (tp w A d) := h.keep (OLe.refl _) fun _ _ => rfl
theorem OrdAt.same6 {own own' : Nat → Nat} {ob : Nat} {xs : List Value} {w w' : World} (h : OrdAt own ob xs w) (le : OLe own own') (hs : Same6 own w w') : OrdAt own' ob xs w' := h.keep le fun b hb => hs b (by omega)
theorem infoInt : (Try.prog.info? 3).map (fun i => (i.zero, i.size, i.bytes)) = some (some (.int .i64 0), 1, 8) := by kernel_rfl
/-- What an append to it, and the store, do. -/
theorem ord_stp {own : Nat → Nat} {ob : Nat} {v v' : Value} {xs : List Value} {u u1 u2 : World} (hlt : ∀ b, own b ≠ 0 → b < u.heap.size) (hob : own ob = 6) (h3 : ∀ g, v.ownBlock = some g → own g = 7) (hbox : u.heap[ob]? = some (.cells #[v] 22 (0, 0))) (hnew : New u u1)
    (hr : QRow u2 v' xs) (ho : u2.os = u1.os) (hou : u2.output = u1.output) (hs : u1.heap.size ≤ u2.heap.size) (hb : ∀ g, g < u1.heap.size → v.ownBlock ≠ some g → u2.heap[g]? = u1.heap[g]?) (hat : v'.ownBlock = v.ownBlock ∨ ∀ g, v'.ownBlock = some g → u1.heap.size ≤ g) :
    ∃ own', OrdAt own' ob xs (u2.setCell ⟨ob, 0, none⟩ v') ∧ Stp (fun t => t = 6 ∨ t = 7) own own' u (u2.setCell ⟨ob, 0, none⟩ v') ∧ u2.cell? ⟨ob, 0, none⟩ = some v ∧ u2.frozen? ⟨ob, 0, none⟩ = false := by
  have hobl := obj_lt hbox
  have hne : v.ownBlock ≠ some ob := fun e => by have := h3 _ e; omega
  have h1s := hnew.size
  have hbox2 : u2.heap[ob]? = some (.cells #[v] 22 (0, 0)) := (hb ob (by omega) hne).trans ((hnew.block ob hobl).trans hbox)
  have hset : ∀ b, b ≠ ob → (u2.setCell ⟨ob, 0, none⟩ v').heap[b]? = u2.heap[b]? := fun b hn => by rw [setCell_get, if_neg (fun e => hn e.symm)]
  have hlo : ∀ g, v'.ownBlock = some g → own g = 7 ∨ u.heap.size ≤ g := fun g hg => by
    rcases hat with e | e
    · exact .inl (h3 g (by rw [← e]; exact hg))
    · exact .inr (by have := e g hg; omega)
  have st : Stp (fun t => t = 6 ∨ t = 7) own (retagC own 7 (fun b => v'.ownBlock = some b)) u (u2.setCell ⟨ob, 0, none⟩ v') := by
    have hsz : (u2.setCell ⟨ob, 0, none⟩ v').heap.size = u2.heap.size := setCell_size _ _ _
    refine ⟨ho.trans hnew.os, hou.trans hnew.output, by omega, fun b hl hn => ?_, fun b hn => ?_, fun b hz hn => ?_, fun b hn => ?_⟩
    · have h6 : b ≠ ob := fun e => by subst e; omega
      have h7 : v.ownBlock ≠ some b := fun e => by have := h3 _ e; omega
      rw [hset b h6, hb b (by omega) h7, hnew.block b hl]
    · by_cases hv : v'.ownBlock = some b
      · rw [retagC_in hv]
        rcases hlo b hv with h | h
        · exact h.symm
        · have := hlt b hn; omega
      · exact retagC_out hv
    · by_cases hv : v'.ownBlock = some b
      · rcases hlo b hv with h | h
        · omega
        · exact h
      · rw [retagC_out hv] at hn; exact absurd hz hn
    · rw [hsz]
      by_cases hv : v'.ownBlock = some b
      · exact hr.lt b hv
      · rw [retagC_out hv] at hn; have := hlt b hn; omega
  refine ⟨retagC own 7 (fun b => v'.ownBlock = some b), ⟨⟨v', ?_, hr.keep fun g hg => hset g fun e => ?_, fun g hg => retagC_in hg⟩, st.le.tag hob (by omega)⟩, st, ?_, ?_⟩
  · rw [setCell_get, if_pos rfl, hbox2]
    rfl
  · subst e
    rcases hlo g hg with h | h <;> omega
  · unfold World.cell?
    simp [hbox2]
  · unfold World.frozen?
    simp [hbox2]


section
variable {P : Program} {main : Bool} {Z : Addr → Prop} {Stop : Goroutine → World → Prop} {w₀ u : World} {b : Frame} {a : Act} {k : List Item} {cs : List Frame} {ops : Array Oper} {i : Nat} {rest : List Nat} {o : Oper}
/-- A new block, and a value that names it. -/
theorem ownU_newV (f : Nat → Value) (x : Obj) (ho : ops[i]? = some o) (hw : Region.wanted o (yielded ops a.tmps) = true) (hok : okOp P [] o.op = true) (hb : b.kind ≠ .early) (h : ∀ w, (execOp a.eval o).run P w = .ok (.value (f w.heap.size)) (w.alloc x))
    (hk : OwnU P main Z Stop w₀ (G (b.at (a.put o.dst (f u.heap.size)) (.inRegion ops rest :: k)) cs) (u.alloc x)) : OwnU P main Z Stop w₀ (G (b.at a (.inRegion ops (i :: rest) :: k)) cs) u :=
  ownU_op (L := []) ho hok hw hb fun A d => by
    rw [h]
    exact (ownU_tp (u := u.alloc x) (A := A) (d := d)).2 hk
end
theorem id_u {u : World} {sb i : Nat} {c : CoR} (h : CoAt u sb i c) (A : Nat → Question → Nat) (d : Nat) : Calls Try.prog 46 #[ptr c.b] (tp u A d) fun e w' => e = .returned (.int .i64 ((i : Int) + 1)) ∧ ∃ A d, w' = tp u A d :=
  (id_at (tp u A d) sb i c h).mono fun _ _ ⟨h1, h2⟩ => ⟨h1, A, d, h2⟩
theorem calls_eq {P : Program} {f : FuncId} {args args' : Array Value} {w : World} {R : Ending → World → Prop} (h : args = args') (hc : Calls P f args' w R) : Calls P f args w R := by rw [h]; exact hc
noncomputable abbrev bodyA1 : Code := Try.f63.body.getD .skip
/-- The slots, as far as the region has come. -/
def oaAct (c : Nat) (ob : Nat) (v : Value) (v2 : Value) (nb : Nat) (id : Int) (l : Array Bool) : Act := ⟨List.toArray ((ptr c) :: (ptr ob) :: undef :: (cond (l.getD 0 false) (v) (undef)) :: (cond (l.getD 1 false) (ptr c) (undef)) :: (cond (l.getD 2 false) (.int .i64 id) (undef)) :: (cond (l.getD 3 false) (.slice (some ⟨nb, 0, none⟩) 1 1) (undef)) :: (cond (l.getD 4 false) (v2) (undef)) :: undef :: undef :: undef :: undef :: undef :: undef :: undef :: []), []⟩
def oaSt (main : Bool) (Z : Addr → Prop) (Stop : Goroutine → World → Prop) (w₀ : World) (k : List Item) (cs : List Frame) (c : Nat) (ob : Nat) (v : Value) (v2 : Value) (nb : Nat) (id : Int) (f : Nat) (l : Array Bool) (w : World) : Prop :=
  ∀ A d, SchedU Try.prog main Z Stop w₀ (base 63) (opsOf (sel [0] bodyA1)) k cs f l (oaAct c ob v v2 nb id l) (tp w A d)
/-- alive: the first append. -/
theorem oa_own {main : Bool} {Z : Addr → Prop} {Stop : Goroutine → World → Prop} {w₀ u : World} {k : List Item} {cs : List Frame} {c : Nat} {ob : Nat} {id : Int} {own : Nat → Nat} {xs : List Value} (h : OrdAt own ob xs u) (hlt : ∀ b, own b ≠ 0 → b < u.heap.size) (hlen : xs.length < 1000000)
    (hid : ∀ A d, Calls Try.prog 46 #[ptr c] (tp u A d) fun e w' => e = .returned (.int .i64 id) ∧ ∃ A d, w' = tp u A d)
    (hk : ∀ v v2 nb own' u', OrdAt own' ob (xs ++ [.int .i64 id]) u' → Stp (fun t => t = 6 ∨ t = 7) own own' u u' → OwnU Try.prog main Z Stop w₀ (G ((base 63).at (oaAct c ob v v2 nb id #[true, true, true, true, true, true]) k) cs) u') :
    OwnU Try.prog main Z Stop w₀ (G ((base 63).at ⟨#[ptr c, ptr ob, undef, undef, undef, undef, undef, undef, undef, undef, undef, undef, undef, undef, undef], []⟩ (.code (sel [0] bodyA1) :: k)) cs) u := by
  have hh := h
  obtain ⟨⟨v, hbox, hrow, h7⟩, hob6⟩ := hh
  have hob : u.cell? ⟨ob, 0, none⟩ = some v := blk_cell hbox 0 _ rfl
  have hnew : New u (u.alloc (.cells #[.int .i64 id] 3)) := New.alloc u _
  have hob1 := hnew.cell hob
  obtain ⟨i0, hi, hz0, hz1, hz2⟩ := info_parts infoInt
  have hrow1 : QRow (u.alloc (.cells #[.int .i64 id] 3)) v xs := hrow.keep fun g hg => hnew.block g (hrow.lt g hg)
  have hcell : (u.alloc (.cells #[.int .i64 id] 3)).cell? ⟨u.heap.size, 0, none⟩ = some (.int .i64 id) := blk_cell (alloc_new' u _ rfl) 0 _ rfl
  obtain ⟨A0, n0, rfl, _, _⟩ := hrow.slice
  generalize hv : (Value.slice A0 xs.length n0) = v at *
  have hlast : oaSt main Z Stop w₀ k cs c ob v undef u.heap.size id 2 #[true, true, true, true, false, false] (u.alloc (.cells #[.int .i64 id] 3)) := by
    intro A d t
    rw [go_one (i := 4) (by kernel_rfl), go_one (i := 5) (by kernel_rfl)]
    refine ownU_append (j := 4) (xs := xs) (v := v) (c := 1) (ad := ⟨u.heap.size, 0, none⟩) (y := .int .i64 id) rfl rfl (by rfl) rfl (by decide) Try.underlying22 hi hz0 hz1 hz2 rfl (by kernel_rfl) (hrow1.keep fun _ _ => rfl) (by kernel_rfl) hcell rfl (by unfold maxLen; omega) (by omega) fun v2 u2 q1 q2 q3 q4 q5 q6 => ?_
    obtain ⟨own', r1, r2, r3, r4⟩ := ord_stp (v' := v2) (u1 := u.alloc (.cells #[.int .i64 id] 3)) (u2 := u2) hlt hob6 h7 hbox hnew q1 q2 q3 q4 q5 q6
    obtain ⟨A2, n2, hv2, _, _⟩ := q1.slice
    refine ownU_store (i := 5) ⟨ob, 0, none⟩ v2 rfl (by rfl) rfl (by decide) (fun w e1 e2 => store_op (by rw [hv2]; exact stores_ints _ _ _) rfl (by kernel_rfl) (by kernel_rfl) (e1.trans r3) (e2.trans r4)) ?_
    refine ownU_region_end ?_
    exact ownU_eq (by kernel_rfl) (hk v v2 u.heap.size own' _ r1 r2)
  have h_0_1_2 : oaSt main Z Stop w₀ k cs c ob v undef u.heap.size id 3 #[true, true, true, false, false, false] (u) := by
    intro A d
    refine schedU_succ (rs := [3]) (by kernel_rfl) (by decide) fun i hi t => ?_
    have hi' : i = 3 := by simpa using hi
    subst hi'
    refine ownU_newV (fun n => .slice (some ⟨n, 0, none⟩) 1 1) (.cells #[.int .i64 id] 3) (i := 3) rfl (by rfl) rfl (by decide) (fun _ => by kernel_rfl) ?_
    exact schedU_to (by kernel_rfl) (by kernel_rfl) (hlast _ _) t
  have h_1_2_3 : oaSt main Z Stop w₀ k cs c ob v undef u.heap.size id 3 #[false, true, true, true, false, false] (u.alloc (.cells #[.int .i64 id] 3)) := by
    intro A d
    refine schedU_succ (rs := [0]) (by kernel_rfl) (by decide) fun i hi t => ?_
    have hi' : i = 0 := by simpa using hi
    subst hi'
    refine ownU_load (i := 0) ⟨ob, 0, none⟩ (v) rfl (by rfl) (by decide) loads_ints rfl (by kernel_rfl) hob1 ?_
    exact schedU_to (by kernel_rfl) (by kernel_rfl) (hlast _ _) t
  have h_0_1 : oaSt main Z Stop w₀ k cs c ob v undef u.heap.size id 4 #[true, true, false, false, false, false] (u) := by
    intro A d
    refine schedU_succ (rs := [2]) (by kernel_rfl) (by decide) fun i hi t => ?_
    have hi' : i = 2 := by simpa using hi
    subst hi'
    refine ownU_callK (i := 2) (L := lone18) (R := fun e w' => e = .returned (.int .i64 id) ∧ ∃ A d, w' = tp u A d) okL18 (by decide) rfl rfl (by kernel_rfl) (by rfl) (by decide) (fun A d => calls_eq (by kernel_rfl) (hid A d)) (fun e w h => ⟨_, h.1⟩) fun z u' hR => ?_
    obtain ⟨e, A, d, rfl⟩ := hR
    injection e with e
    subst e
    exact schedU_to (by kernel_rfl) (by kernel_rfl) (h_0_1_2 _ _) t
  have h_1_2 : oaSt main Z Stop w₀ k cs c ob v undef u.heap.size id 4 #[false, true, true, false, false, false] (u) := by
    intro A d
    refine schedU_succ (rs := [0, 3]) (by kernel_rfl) (by decide) fun i hi t => ?_
    have hi' : i = 0 ∨ i = 3 := by simpa using hi
    rcases hi' with rfl | rfl
    · skip
      refine ownU_load (i := 0) ⟨ob, 0, none⟩ (v) rfl (by rfl) (by decide) loads_ints rfl (by kernel_rfl) hob ?_
      exact schedU_to (by kernel_rfl) (by kernel_rfl) (h_0_1_2 _ _) t
    · skip
      refine ownU_newV (fun n => .slice (some ⟨n, 0, none⟩) 1 1) (.cells #[.int .i64 id] 3) (i := 3) rfl (by rfl) rfl (by decide) (fun _ => by kernel_rfl) ?_
      exact schedU_to (by kernel_rfl) (by kernel_rfl) (h_1_2_3 _ _) t
  have h_0 : oaSt main Z Stop w₀ k cs c ob v undef u.heap.size id 5 #[true, false, false, false, false, false] (u) := by
    intro A d
    refine schedU_succ (rs := [1]) (by kernel_rfl) (by decide) fun i hi t => ?_
    have hi' : i = 1 := by simpa using hi
    subst hi'
    refine ownU_quiet (i := 1) (ptr c) rfl (by rfl) rfl (by decide) (fun _ => by kernel_rfl) ?_
    exact schedU_to (by kernel_rfl) (by kernel_rfl) (h_0_1 _ _) t
  have h_1 : oaSt main Z Stop w₀ k cs c ob v undef u.heap.size id 5 #[false, true, false, false, false, false] (u) := by
    intro A d
    refine schedU_succ (rs := [0, 2]) (by kernel_rfl) (by decide) fun i hi t => ?_
    have hi' : i = 0 ∨ i = 2 := by simpa using hi
    rcases hi' with rfl | rfl
    · skip
      refine ownU_load (i := 0) ⟨ob, 0, none⟩ (v) rfl (by rfl) (by decide) loads_ints rfl (by kernel_rfl) hob ?_
      exact schedU_to (by kernel_rfl) (by kernel_rfl) (h_0_1 _ _) t
    · skip
      refine ownU_callK (i := 2) (L := lone18) (R := fun e w' => e = .returned (.int .i64 id) ∧ ∃ A d, w' = tp u A d) okL18 (by decide) rfl rfl (by kernel_rfl) (by rfl) (by decide) (fun A d => calls_eq (by kernel_rfl) (hid A d)) (fun e w h => ⟨_, h.1⟩) fun z u' hR => ?_
      obtain ⟨e, A, d, rfl⟩ := hR
      injection e with e
      subst e
      exact schedU_to (by kernel_rfl) (by kernel_rfl) (h_1_2 _ _) t
  have h : oaSt main Z Stop w₀ k cs c ob v undef u.heap.size id 6 #[false, false, false, false, false, false] (u) := by
    intro A d
    refine schedU_succ (rs := [0, 1]) (by kernel_rfl) (by decide) fun i hi t => ?_
    have hi' : i = 0 ∨ i = 1 := by simpa using hi
    rcases hi' with rfl | rfl
    · skip
      refine ownU_load (i := 0) ⟨ob, 0, none⟩ (v) rfl (by rfl) (by decide) loads_ints rfl (by kernel_rfl) hob ?_
      exact schedU_to (by kernel_rfl) (by kernel_rfl) (h_0 _ _) t
    · skip
      refine ownU_quiet (i := 1) (ptr c) rfl (by rfl) rfl (by decide) (fun _ => by kernel_rfl) ?_
      exact schedU_to (by kernel_rfl) (by kernel_rfl) (h_1 _ _) t
  exact schedU_start (n := 6) (by kernel_rfl) rfl fun A d => by
    intro t
    exact schedU_to (act := oaAct c ob v undef u.heap.size id #[false, false, false, false, false, false]) (by kernel_rfl) rfl (h A d) t
/-- The slots, as far as the region has come. -/
def ozAct (c : Nat) (q3 : Value) (q4 : Value) (q5 : Value) (q6 : Value) (q7 : Value) (q8 : Value) (q9 : Value) (ob : Nat) (v : Value) (v2 : Value) (nb : Nat) (id : Int) (l : Array Bool) : Act := ⟨List.toArray ((ptr c) :: (ptr ob) :: undef :: q3 :: q4 :: q5 :: q6 :: q7 :: q8 :: q9 :: (cond (l.getD 0 false) (v) (undef)) :: (cond (l.getD 1 false) (ptr c) (undef)) :: (cond (l.getD 2 false) (.int .i64 id) (undef)) :: (cond (l.getD 3 false) (.slice (some ⟨nb, 0, none⟩) 1 1) (undef)) :: (cond (l.getD 4 false) (v2) (undef)) :: []), []⟩
def ozSt (main : Bool) (Z : Addr → Prop) (Stop : Goroutine → World → Prop) (w₀ : World) (k : List Item) (cs : List Frame) (c : Nat) (q3 : Value) (q4 : Value) (q5 : Value) (q6 : Value) (q7 : Value) (q8 : Value) (q9 : Value) (ob : Nat) (v : Value) (v2 : Value) (nb : Nat) (id : Int) (f : Nat) (l : Array Bool) (w : World) : Prop :=
  ∀ A d, SchedU Try.prog main Z Stop w₀ (base 63) (opsOf (sel [1, 1] bodyA1)) k cs f l (ozAct c q3 q4 q5 q6 q7 q8 q9 ob v v2 nb id l) (tp w A d)
/-- alive: the second append. -/
theorem oz_own {main : Bool} {Z : Addr → Prop} {Stop : Goroutine → World → Prop} {w₀ u : World} {k : List Item} {cs : List Frame} {c : Nat} {q3 : Value} {q4 : Value} {q5 : Value} {q6 : Value} {q7 : Value} {q8 : Value} {q9 : Value} {ob : Nat} {id : Int} {own : Nat → Nat} {xs : List Value} (h : OrdAt own ob xs u) (hlt : ∀ b, own b ≠ 0 → b < u.heap.size) (hlen : xs.length < 1000000)
    (hid : ∀ A d, Calls Try.prog 46 #[ptr c] (tp u A d) fun e w' => e = .returned (.int .i64 id) ∧ ∃ A d, w' = tp u A d)
    (hk : ∀ v v2 nb own' u', OrdAt own' ob (xs ++ [.int .i64 id]) u' → Stp (fun t => t = 6 ∨ t = 7) own own' u u' → OwnU Try.prog main Z Stop w₀ (G ((base 63).at (ozAct c q3 q4 q5 q6 q7 q8 q9 ob v v2 nb id #[true, true, true, true, true, true]) k) cs) u') :
    OwnU Try.prog main Z Stop w₀ (G ((base 63).at ⟨#[ptr c, ptr ob, undef, q3, q4, q5, q6, q7, q8, q9, undef, undef, undef, undef, undef], []⟩ (.code (sel [1, 1] bodyA1) :: k)) cs) u := by
  have hh := h
  obtain ⟨⟨v, hbox, hrow, h7⟩, hob6⟩ := hh
  have hob : u.cell? ⟨ob, 0, none⟩ = some v := blk_cell hbox 0 _ rfl
  have hnew : New u (u.alloc (.cells #[.int .i64 id] 3)) := New.alloc u _
  have hob1 := hnew.cell hob
  obtain ⟨i0, hi, hz0, hz1, hz2⟩ := info_parts infoInt
  have hrow1 : QRow (u.alloc (.cells #[.int .i64 id] 3)) v xs := hrow.keep fun g hg => hnew.block g (hrow.lt g hg)
  have hcell : (u.alloc (.cells #[.int .i64 id] 3)).cell? ⟨u.heap.size, 0, none⟩ = some (.int .i64 id) := blk_cell (alloc_new' u _ rfl) 0 _ rfl
  obtain ⟨A0, n0, rfl, _, _⟩ := hrow.slice
  generalize hv : (Value.slice A0 xs.length n0) = v at *
  have hlast : ozSt main Z Stop w₀ k cs c q3 q4 q5 q6 q7 q8 q9 ob v undef u.heap.size id 2 #[true, true, true, true, false, false] (u.alloc (.cells #[.int .i64 id] 3)) := by
    intro A d t
    rw [go_one (i := 4) (by kernel_rfl), go_one (i := 5) (by kernel_rfl)]
    refine ownU_append (j := 4) (xs := xs) (v := v) (c := 1) (ad := ⟨u.heap.size, 0, none⟩) (y := .int .i64 id) rfl rfl (by rfl) rfl (by decide) Try.underlying22 hi hz0 hz1 hz2 rfl (by kernel_rfl) (hrow1.keep fun _ _ => rfl) (by kernel_rfl) hcell rfl (by unfold maxLen; omega) (by omega) fun v2 u2 q1 q2 q3 q4 q5 q6 => ?_
    obtain ⟨own', r1, r2, r3, r4⟩ := ord_stp (v' := v2) (u1 := u.alloc (.cells #[.int .i64 id] 3)) (u2 := u2) hlt hob6 h7 hbox hnew q1 q2 q3 q4 q5 q6
    obtain ⟨A2, n2, hv2, _, _⟩ := q1.slice
    refine ownU_store (i := 5) ⟨ob, 0, none⟩ v2 rfl (by rfl) rfl (by decide) (fun w e1 e2 => store_op (by rw [hv2]; exact stores_ints _ _ _) rfl (by kernel_rfl) (by kernel_rfl) (e1.trans r3) (e2.trans r4)) ?_
    refine ownU_region_end ?_
    exact ownU_eq (by kernel_rfl) (hk v v2 u.heap.size own' _ r1 r2)
  have h_0_1_2 : ozSt main Z Stop w₀ k cs c q3 q4 q5 q6 q7 q8 q9 ob v undef u.heap.size id 3 #[true, true, true, false, false, false] (u) := by
    intro A d
    refine schedU_succ (rs := [3]) (by kernel_rfl) (by decide) fun i hi t => ?_
    have hi' : i = 3 := by simpa using hi
    subst hi'
    refine ownU_newV (fun n => .slice (some ⟨n, 0, none⟩) 1 1) (.cells #[.int .i64 id] 3) (i := 3) rfl (by rfl) rfl (by decide) (fun _ => by kernel_rfl) ?_
    exact schedU_to (by kernel_rfl) (by kernel_rfl) (hlast _ _) t
  have h_1_2_3 : ozSt main Z Stop w₀ k cs c q3 q4 q5 q6 q7 q8 q9 ob v undef u.heap.size id 3 #[false, true, true, true, false, false] (u.alloc (.cells #[.int .i64 id] 3)) := by
    intro A d
    refine schedU_succ (rs := [0]) (by kernel_rfl) (by decide) fun i hi t => ?_
    have hi' : i = 0 := by simpa using hi
    subst hi'
    refine ownU_load (i := 0) ⟨ob, 0, none⟩ (v) rfl (by rfl) (by decide) loads_ints rfl (by kernel_rfl) hob1 ?_
    exact schedU_to (by kernel_rfl) (by kernel_rfl) (hlast _ _) t
  have h_0_1 : ozSt main Z Stop w₀ k cs c q3 q4 q5 q6 q7 q8 q9 ob v undef u.heap.size id 4 #[true, true, false, false, false, false] (u) := by
    intro A d
    refine schedU_succ (rs := [2]) (by kernel_rfl) (by decide) fun i hi t => ?_
    have hi' : i = 2 := by simpa using hi
    subst hi'
    refine ownU_callK (i := 2) (L := lone18) (R := fun e w' => e = .returned (.int .i64 id) ∧ ∃ A d, w' = tp u A d) okL18 (by decide) rfl rfl (by kernel_rfl) (by rfl) (by decide) (fun A d => calls_eq (by kernel_rfl) (hid A d)) (fun e w h => ⟨_, h.1⟩) fun z u' hR => ?_
    obtain ⟨e, A, d, rfl⟩ := hR
    injection e with e
    subst e
    exact schedU_to (by kernel_rfl) (by kernel_rfl) (h_0_1_2 _ _) t
  have h_1_2 : ozSt main Z Stop w₀ k cs c q3 q4 q5 q6 q7 q8 q9 ob v undef u.heap.size id 4 #[false, true, true, false, false, false] (u) := by
    intro A d
    refine schedU_succ (rs := [0, 3]) (by kernel_rfl) (by decide) fun i hi t => ?_
    have hi' : i = 0 ∨ i = 3 := by simpa using hi
    rcases hi' with rfl | rfl
    · skip
      refine ownU_load (i := 0) ⟨ob, 0, none⟩ (v) rfl (by rfl) (by decide) loads_ints rfl (by kernel_rfl) hob ?_
      exact schedU_to (by kernel_rfl) (by kernel_rfl) (h_0_1_2 _ _) t
    · skip
      refine ownU_newV (fun n => .slice (some ⟨n, 0, none⟩) 1 1) (.cells #[.int .i64 id] 3) (i := 3) rfl (by rfl) rfl (by decide) (fun _ => by kernel_rfl) ?_
      exact schedU_to (by kernel_rfl) (by kernel_rfl) (h_1_2_3 _ _) t
  have h_0 : ozSt main Z Stop w₀ k cs c q3 q4 q5 q6 q7 q8 q9 ob v undef u.heap.size id 5 #[true, false, false, false, false, false] (u) := by
    intro A d
    refine schedU_succ (rs := [1]) (by kernel_rfl) (by decide) fun i hi t => ?_
    have hi' : i = 1 := by simpa using hi
    subst hi'
    refine ownU_quiet (i := 1) (ptr c) rfl (by rfl) rfl (by decide) (fun _ => by kernel_rfl) ?_
    exact schedU_to (by kernel_rfl) (by kernel_rfl) (h_0_1 _ _) t
  have h_1 : ozSt main Z Stop w₀ k cs c q3 q4 q5 q6 q7 q8 q9 ob v undef u.heap.size id 5 #[false, true, false, false, false, false] (u) := by
    intro A d
    refine schedU_succ (rs := [0, 2]) (by kernel_rfl) (by decide) fun i hi t => ?_
    have hi' : i = 0 ∨ i = 2 := by simpa using hi
    rcases hi' with rfl | rfl
    · skip
      refine ownU_load (i := 0) ⟨ob, 0, none⟩ (v) rfl (by rfl) (by decide) loads_ints rfl (by kernel_rfl) hob ?_
      exact schedU_to (by kernel_rfl) (by kernel_rfl) (h_0_1 _ _) t
    · skip
      refine ownU_callK (i := 2) (L := lone18) (R := fun e w' => e = .returned (.int .i64 id) ∧ ∃ A d, w' = tp u A d) okL18 (by decide) rfl rfl (by kernel_rfl) (by rfl) (by decide) (fun A d => calls_eq (by kernel_rfl) (hid A d)) (fun e w h => ⟨_, h.1⟩) fun z u' hR => ?_
      obtain ⟨e, A, d, rfl⟩ := hR
      injection e with e
      subst e
      exact schedU_to (by kernel_rfl) (by kernel_rfl) (h_1_2 _ _) t
  have h : ozSt main Z Stop w₀ k cs c q3 q4 q5 q6 q7 q8 q9 ob v undef u.heap.size id 6 #[false, false, false, false, false, false] (u) := by
    intro A d
    refine schedU_succ (rs := [0, 1]) (by kernel_rfl) (by decide) fun i hi t => ?_
    have hi' : i = 0 ∨ i = 1 := by simpa using hi
    rcases hi' with rfl | rfl
    · skip
      refine ownU_load (i := 0) ⟨ob, 0, none⟩ (v) rfl (by rfl) (by decide) loads_ints rfl (by kernel_rfl) hob ?_
      exact schedU_to (by kernel_rfl) (by kernel_rfl) (h_0 _ _) t
    · skip
      refine ownU_quiet (i := 1) (ptr c) rfl (by rfl) rfl (by decide) (fun _ => by kernel_rfl) ?_
      exact schedU_to (by kernel_rfl) (by kernel_rfl) (h_1 _ _) t
  exact schedU_start (n := 6) (by kernel_rfl) rfl fun A d => by
    intro t
    exact schedU_to (act := ozAct c q3 q4 q5 q6 q7 q8 q9 ob v undef u.heap.size id #[false, false, false, false, false, false]) (by kernel_rfl) rfl (h A d) t
end Go.Proofs.Ytolnmdanlggmhaa
