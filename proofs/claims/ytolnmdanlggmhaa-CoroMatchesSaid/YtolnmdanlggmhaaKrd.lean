/- world.spawn and Co.Spawn in company; the step of run that spawns. (Printed by gen_rn3.py.) -/
import Derived.Test.YtolnmdanlggmhaaKrc
import Derived.Test.YtolnmdanlggmhaaKrb
namespace Go.Proofs.Ytolnmdanlggmhaa
open Go.RowKit Go.Maps Go.Conc
open Go.ConcN (upd upd_ne upd_same)

set_option maxRecDepth 100000
set_option maxHeartbeats 2000000

noncomputable abbrev bodyWs : Code := Try.f67.body.getD .skip
noncomputable abbrev bodyCs : Code := Try.f82.body.getD .skip
theorem opAt {ops : Array Oper} {i : Nat} {o : Oper} {op : Op} (ho : ops[i]? = some o) (h : (ops[i]?).map (·.op) = some op) : o.op = op := by rw [ho] at h; exact Option.some.inj h
theorem wantAt {ops : Array Oper} {i : Nat} {o : Oper} (ho : ops[i]? = some o) (h : (ops[i]?).map (·.guard) = some none) (y : Nat → Option Bool) : Region.wanted o y = true := by
  rw [ho] at h
  have : o.guard = none := Option.some.inj h
  simp [Region.wanted, this]
section
variable {a : Act} {o : Oper} {x y : Operand}
theorem ev_move {v : Value} (w : World) (ho : o.op = .move x) (hx : a.eval x = v) : (execOp a.eval o).run Try.prog w = .ok (.value v) w := by unfold execOp; simp only [ho, hx]; rfl
theorem ev_nilCheck {b : Nat} (w : World) (ho : o.op = .nilCheck x) (hx : a.eval x = ptr b) : (execOp a.eval o).run Try.prog w = .ok (.value (ptr b)) w := by unfold execOp; simp only [ho, hx]; unfold ptr; simp [go_sem]
theorem ev_field {t : TypeId} {b k : Nat} (w : World) (ho : o.op = .fieldAddr t x k) (hx : a.eval x = ptr b) (ht : (t = 72 ∧ k = 1) ∨ (t = 109 ∧ k = 1)) : (execOp a.eval o).run Try.prog w = .ok (.value (.pointer (some ⟨b, k, none⟩))) w := by
  unfold execOp
  simp only [ho, hx]
  rcases ht with ⟨rfl, rfl⟩ | ⟨rfl, rfl⟩ <;> kernel_rfl
theorem ev_len {A : Option Addr} {n c : Nat} (w : World) (ho : o.op = .call { callee := .builtin .len, args := #[x], argTypes := #[63] }) (hx : a.eval x = .slice A n c) : (execOp a.eval o).run Try.prog w = .ok (.value (.int .i64 (n : Int))) w := by
  unfold execOp
  simp only [ho, resolve, invoke, builtin, List.map_toArray, List.map_cons, List.map_nil, hx]
  kernel_rfl
theorem ev_max0 {p q : Int} (w : World) (ho : o.op = .call { callee := .builtin .max, args := #[x, .const (.int .i64 0)], argTypes := #[3, 3] }) (hx : a.eval x = .int .i64 p) (hq : max p 0 = q) : (execOp a.eval o).run Try.prog w = .ok (.value (.int .i64 q)) w := by
  have hc : a.eval (.const (.int .i64 0)) = .int .i64 0 := rfl
  have e : (if (0 : Int) > p then (0 : Int) else p) = q := by split <;> omega
  have h2 : Builtin.max2 (.int .i64 p) (.int .i64 0) = pure (.int .i64 (if (0 : Int) > p then (0 : Int) else p)) := rfl
  rw [e] at h2
  unfold execOp
  simp only [ho, resolve, invoke, builtin, List.map_toArray, List.map_cons, List.map_nil, hx, hc, Builtin.max_]
  simp [go_sem, h2]
theorem ev_rem {p q r : Int} (w : World) (ho : o.op = .binOp .rem 3 x y 3) (hx : a.eval x = .int .i64 p) (hy : a.eval y = .int .i64 q) (hp : 0 ≤ p) (hq : 0 < q) (hr : p % q = r) : (execOp a.eval o).run Try.prog w = .ok (.value (.int .i64 r)) w := by
  have h4 : p.tmod q = p % q := Int.tmod_eq_emod_of_nonneg hp
  have h0 : ¬ q = 0 := by omega
  unfold execOp
  simp only [ho, hx, hy]
  simp [go_sem, h4, hr, h0]
theorem ev_makeFunc {f : FuncId} {v : Value} (w : World) (ho : o.op = .makeFunc (.func f) #[x] #[]) (hx : a.eval x = v) : (execOp a.eval o).run Try.prog w = .ok (.value (.func (.func f) #[v] #[])) w := by
  unfold execOp
  simp only [ho, List.map_toArray, List.map_cons, List.map_nil, hx]
  rfl
end
theorem al2_heap (u : World) (o1 o2 : Obj) {b : Nat} (h : b < u.heap.size) : ((u.alloc o1).alloc o2).heap[b]? = u.heap[b]? := (Below.heap_alloc _ _ _ (by rw [World.size_alloc]; omega)).trans (Below.heap_alloc _ _ _ h)
theorem al2_cell (u : World) (o1 o2 : Obj) {a : Addr} (h : a.block < u.heap.size) : ((u.alloc o1).alloc o2).cell? a = u.cell? a := World.cell?_of_block (al2_heap u o1 o2 h)
theorem al2_free (u : World) (o1 o2 : Obj) {a : Addr} (h : a.block < u.heap.size) : ((u.alloc o1).alloc o2).frozen? a = u.frozen? a := by unfold World.frozen?; rw [al2_heap u o1 o2 h]
theorem al2_first (u : World) (o1 o2 : Obj) : ((u.alloc o1).alloc o2).heap[u.heap.size]? = some o1 := (Below.heap_alloc _ _ _ (by rw [World.size_alloc]; omega)).trans (alloc_new' _ _ rfl)
theorem al2_second (u : World) (o1 o2 : Obj) : ((u.alloc o1).alloc o2).heap[u.heap.size + 1]? = some o2 := alloc_new' _ _ (World.size_alloc _ _).symm
theorem al2_size (u : World) (o1 o2 : Obj) : ((u.alloc o1).alloc o2).heap.size = u.heap.size + 2 := by rw [World.size_alloc, World.size_alloc]
/-- A call of a function value; the caller's slots by a name. -/
theorem ownU_dynT {P : Program} {main : Bool} {Z : Addr → Prop} {Stop : Goroutine → World → Prop} {w₀ u : World} {b : Frame} {a : Act} {k : List Item} {cs : List Frame} {ops : Array Oper} {i : Nat} {rest : List Nat} {o : Oper} {x : Operand} {args : Array Operand} {ats : Array TypeId} {f : FuncId} {fi ca : Array Value} {fn : Func} {c : Code} (ho : ops[i]? = some o) (hw : Region.wanted o (yielded ops a.tmps) = true) (hb : b.kind ≠ .early) (hop : o.op = .call { callee := .value x, args, argTypes := ats })
    (hx : a.eval x = .func (.func f) fi ca) (hf : P.funcs[f]? = some fn) (hnm : (fn.name == "runtime.NumGoroutine") = false) (hbd : fn.body = some c)
    (hk : ∀ ts, ts = a.tmps → OwnU P main Z Stop w₀ (G (Frame.enter P f ((fi ++ args.map a.eval) ++ ca) .normal) (b.at ⟨ts, a.defers⟩ (.inRegion ops (i :: rest) :: k) :: cs)) u) : OwnU P main Z Stop w₀ (G (b.at a (.inRegion ops (i :: rest) :: k)) cs) u :=
  ownU_dyn ho hw hb hop hx hf hnm hbd (hk _ rfl)
noncomputable def wsFr (ts : Array Value) : Frame := (base 67).at ⟨ts, []⟩ [.inRegion (opsOf (sel [1, 1] bodyWs)) [2]]
/-- world.spawn, entered. -/
noncomputable def wsIn (wb k : Nat) (fv : Value) (cs : List Frame) : Goroutine := G ((base 67).at ⟨#[ptr wb, fv, .int .i64 (k : Int), undef, undef, undef, undef, undef, undef, undef, undef, undef, undef, undef, undef, undef], []⟩ [.code bodyWs]) cs
theorem ws_own {main : Bool} {Z : Addr → Prop} {Stop : Goroutine → World → Prop} {w₀ u : World} {wb k : Nat} {n : Int} {F : FuncId} {fn : Func} {code : Code} {fi ca : Array Value} {cs : List Frame} (hF : Try.prog.funcs[F]? = some fn) (hnm : (fn.name == "runtime.NumGoroutine") = false) (hbd : fn.body = some code) (hw2 : u.cell? ⟨wb, 2, none⟩ = some (.int .i64 n)) (hf2 : u.frozen? ⟨wb, 2, none⟩ = false) (hwl : wb < u.heap.size) (hnw : IntKind.i64.wrap (n + 1) = n + 1)
    (hk : ∀ ts, OwnU Try.prog main Z Stop w₀ (G (Frame.enter Try.prog F ((fi ++ #[fvK u.heap.size (u.heap.size + 1)]) ++ ca) .normal) (wsFr ts :: cs)) (((u.alloc (.cells #[ptr wb] 65)).alloc (.cells #[.int .i64 (k : Int)] 3)).setCell ⟨wb, 2, none⟩ (.int .i64 (n + 1)))) : OwnU Try.prog main Z Stop w₀ (wsIn wb k (.func (.func F) fi ca) cs) u := by
  unfold wsIn
  refine ownU_seq (x := sel [0] bodyWs) (y := sel [1] bodyWs) ?_
  refine ownU_codeM okL18 (by kernel_rfl) (by decide) ⟨_, Try.func67⟩ fun A d => ?_
  conv => arg 2; whnf
  have hk2 := fun ts => (ownU_tp (A := A) (d := d)).2 (hk ts)
  clear hk
  replace hw2 : (tp u A d).cell? ⟨wb, 2, none⟩ = some (.int .i64 n) := hw2
  replace hf2 : (tp u A d).frozen? ⟨wb, 2, none⟩ = false := hf2
  replace hwl : wb < (tp u A d).heap.size := hwl
  replace hk2 := show ∀ ts, OwnU Try.prog main Z Stop w₀ (G (Frame.enter Try.prog F ((fi ++ #[fvK (tp u A d).heap.size ((tp u A d).heap.size + 1)]) ++ ca) .normal) (wsFr ts :: cs)) ((((tp u A d).alloc (.cells #[ptr wb] 65)).alloc (.cells #[.int .i64 (k : Int)] 3)).setCell ⟨wb, 2, none⟩ (.int .i64 (n + 1))) from hk2
  generalize tp u A d = u1 at *
  unfold ptr at *
  go_wp2_with fail
  refine atEndU ?_
  refine ownU_seq (x := sel [1, 0] bodyWs) (y := sel [1, 1] bodyWs) ?_
  refine ownU_codeM okL18 (by kernel_rfl) (by decide) ⟨_, Try.func67⟩ fun A d => ?_
  conv => arg 2; whnf
  have hw3 : (tp ((u1.alloc (.cells #[.pointer (some ⟨wb, 0, none⟩)] 65)).alloc (.cells #[.int .i64 (k : Int)] 3)) A d).cell? ⟨wb, 2, none⟩ = some (.int .i64 n) := (al2_cell u1 _ _ (a := ⟨wb, 2, none⟩) hwl).trans hw2
  have hf3 : (tp ((u1.alloc (.cells #[.pointer (some ⟨wb, 0, none⟩)] 65)).alloc (.cells #[.int .i64 (k : Int)] 3)) A d).frozen? ⟨wb, 2, none⟩ = false := (al2_free u1 _ _ (a := ⟨wb, 2, none⟩) hwl).trans hf2
  have ht3 : (tp ((u1.alloc (.cells #[.pointer (some ⟨wb, 0, none⟩)] 65)).alloc (.cells #[.int .i64 (k : Int)] 3)) A d).cell? ⟨u1.heap.size, 0, none⟩ = some (.pointer (some ⟨wb, 0, none⟩)) := blk_cell (al2_first u1 _ _) 0 _ rfl
  have hk3 := fun ts => (ownU_tp (u := ((u1.alloc (.cells #[.pointer (some ⟨wb, 0, none⟩)] 65)).alloc (.cells #[.int .i64 (k : Int)] 3)).setCell ⟨wb, 2, none⟩ (.int .i64 (n + 1))) (A := A) (d := d)).2 (hk2 ts)
  replace hk3 := show ∀ ts, OwnU Try.prog main Z Stop w₀ _ ((tp ((u1.alloc (.cells #[.pointer (some ⟨wb, 0, none⟩)] 65)).alloc (.cells #[.int .i64 (k : Int)] 3)) A d).setCell ⟨wb, 2, none⟩ (.int .i64 (n + 1))) from hk3
  have hsz : u1.heap.size + 1 = (u1.alloc (.cells #[.pointer (some ⟨wb, 0, none⟩)] 65)).heap.size := (World.size_alloc _ _).symm
  clear hk2
  generalize tp ((u1.alloc (.cells #[.pointer (some ⟨wb, 0, none⟩)] 65)).alloc (.cells #[.int .i64 (k : Int)] 3)) A d = u2 at *
  dsimp only
  go_wp2_with fail
  refine atEndU ?_
  refine ownU_region (id := 2) (ops := opsOf (sel [1, 1] bodyWs)) ?_
  refine ownU_quiet (i := 0) (rest := [1, 2]) (.func (.func F) fi ca) rfl (by rfl) rfl (by decide) (fun _ => by kernel_rfl) ?_
  refine ownU_quiet (i := 1) (rest := [2]) (fvK u1.heap.size (u1.heap.size + 1)) rfl (by rfl) rfl (by decide) (fun _ => by kernel_rfl) ?_
  refine ownU_dynT (i := 2) (rest := []) (f := F) (fi := fi) (ca := ca) (args := #[.tmp 14]) (ats := #[60]) (x := .tmp 13) (fn := fn) (c := code) rfl (by rfl) (by decide) rfl (by kernel_rfl) hF hnm hbd fun ts _ => ?_
  exact ownU_eq (by kernel_rfl) (hk3 ts)
theorem ev_assign {a : Act} {o : Oper} {x : Operand} (w : World) (ho : o.op = .assign x) : (execOp a.eval o).run Try.prog w = .ok (.value (a.eval x)) w := by unfold execOp; simp only [ho]; rfl
noncomputable def cuFr (ts : Array Value) : Frame := (base 82).at ⟨ts, []⟩ [.inRegion (opsOf (sel [1, 0] bodyCs)) [5, 6], .code .ret]
theorem cu_own {main : Bool} {Z : Addr → Prop} {Stop : Goroutine → World → Prop} {w₀ u : World} {c sb tb fb : Nat} {cs : List Frame} (c0 : u.cell? ⟨c, 0, none⟩ = some (ptr sb)) (hk : ∀ ts, OwnU Try.prog main Z Stop w₀ (spawnIn sb (fvK tb fb) (cuFr ts :: cs)) u) : OwnU Try.prog main Z Stop w₀ (G (Frame.enter Try.prog 82 ((#[ptr c] ++ #[fvK tb fb]) ++ #[]) .normal) cs) u := by
  refine ownU_fr (fr2 := (base 82).at ⟨#[ptr c, fvK tb fb, undef, undef, undef, undef, undef, undef, undef, undef, undef], []⟩ [.code bodyCs]) (by kernel_rfl) ?_
  refine ownU_seq (x := sel [0] bodyCs) (y := sel [1] bodyCs) ?_
  refine ownU_region (id := 0) (ops := opsOf (sel [0] bodyCs)) ?_
  refine ownU_quiet (i := 0) (rest := []) (.int .i64 0) rfl (by rfl) rfl (by decide) (fun _ => by kernel_rfl) ?_
  refine ownU_region_end ?_
  refine ownU_seq (x := sel [1, 0] bodyCs) (y := sel [1, 1] bodyCs) ?_
  refine ownU_region (id := 1) (ops := opsOf (sel [1, 0] bodyCs)) ?_
  refine ownU_quiet (i := 0) (rest := [1, 2, 3, 4, 5, 6]) (ptr c) rfl (by rfl) rfl (by decide) (fun _ => by kernel_rfl) ?_
  refine ownU_quiet (i := 1) (rest := [2, 3, 4, 5, 6]) (ptr c) rfl (by rfl) rfl (by decide) (fun _ => by kernel_rfl) ?_
  refine ownU_quiet (i := 2) (rest := [3, 4, 5, 6]) (.pointer (some ⟨c, 0, none⟩)) rfl (by rfl) rfl (by decide) (fun _ => by kernel_rfl) ?_
  refine ownU_load (i := 3) (rest := [4, 5, 6]) ⟨c, 0, none⟩ (ptr sb) rfl (by rfl) (by decide) loads_sched rfl (by kernel_rfl) c0 ?_
  refine ownU_quiet (i := 4) (rest := [5, 6]) (fvK tb fb) rfl (by rfl) rfl (by decide) (fun _ => by kernel_rfl) ?_
  refine ownU_enterT (i := 5) (rest := [6]) (f := 37) rfl (by rfl) (by decide) rfl Try.func37 (by kernel_rfl) rfl fun ts _ => ?_
  exact ownU_eq (by kernel_rfl) (hk ts)
/-- world.spawn goes on behind its call. -/
noncomputable def wsOn (ts : Array Value) (x : Value) : Frame := (base 67).at ((⟨ts, []⟩ : Act).put (((opsOf (sel [1, 1] bodyWs))[2]?).bind (·.dst)) x) [.inRegion (opsOf (sel [1, 1] bodyWs)) []]
theorem cu_back {main : Bool} {Z : Addr → Prop} {Stop : Goroutine → World → Prop} {w₀ u : World} {ts ts2 : Array Value} {x : Value} {cs : List Frame} (hk : ∀ x, OwnU Try.prog main Z Stop w₀ (G (wsOn ts2 x) cs) u) : OwnU Try.prog main Z Stop w₀ (G ((base 82).at ((⟨ts, []⟩ : Act).put (((opsOf (sel [1, 0] bodyCs))[5]?).bind (·.dst)) x) (.inRegion (opsOf (sel [1, 0] bodyCs)) [6] :: [.code .ret])) (wsFr ts2 :: cs)) u := by
  refine ownU_quiet (i := 6) (rest := []) _ rfl (by rfl) rfl (by decide) (fun w => ev_assign (x := .tmp 10) w rfl) ?_
  refine ownU_region_end ?_
  refine ownU_ret ?_
  refine ownU_leave1 (t := 4) (fn := Try.f82) rfl (by rfl) Try.func82 rfl ?_
  exact hk _
theorem ws_back {main : Bool} {Z : Addr → Prop} {Stop : Goroutine → World → Prop} {w₀ u : World} {ts : Array Value} {x : Value} {cs : List Frame} {b₀ : Frame} {a₀ : Act} {ops : Array Oper} {j : Nat} {rest : List Nat} {k₀ : List Item} (hk : OwnU Try.prog main Z Stop w₀ (G (b₀.at (a₀.put ((ops[j]?).bind (·.dst)) (.tuple #[])) (.inRegion ops rest :: k₀)) cs) u) : OwnU Try.prog main Z Stop w₀ (G (wsOn ts x) (b₀.at a₀ (.inRegion ops (j :: rest) :: k₀) :: cs)) u := by
  unfold wsOn
  refine ownU_region_end ?_
  refine ownU_end ?_
  exact ownU_leave0 (fn := Try.f67) rfl rfl Try.func67 rfl hk
theorem sw_full {main : Bool} {Z : Addr → Prop} {Stop : Goroutine → World → Prop} {w₀ u : World} {wb c nl idx xb : Nat} {S14 : Value} {op : Int} {ts : Array Value} {cs : List Frame} {n : Nat} (h : RnTs ts wb c S14 nl idx) (h7 : ts.getD 7 undef = ptr xb) (h21 : ts.getD 21 undef = .int .i64 op) (h0 : ¬ op = 0) (h1 : ¬ op = 1) (h2 : op = 2) (hw2 : u.cell? ⟨wb, 2, none⟩ = some (.int .i64 (n : Int))) (hn : 20 ≤ n) (hk : ∀ ts', RnTs ts' wb c S14 nl idx → OwnU Try.prog main Z Stop w₀ (G ((base 77).at ⟨ts', []⟩ rnRest) cs) u) : OwnU Try.prog main Z Stop w₀ (rnSw ts cs) u := by
  unfold rnSw
  rw [h.litS h7 h21]
  refine ownU_block (id := 2) (c := sel [1, 4, 4, 1, 1, 0, 4, 1, 1, 4] bodyRn) ?_
  refine ownU_seq (x := sel [1, 4, 4, 1, 1, 0, 4, 1, 1, 4, 0] bodyRn) (y := sel [1, 4, 4, 1, 1, 0, 4, 1, 1, 4, 1] bodyRn) ?_
  refine ownU_region (id := 5) (ops := opsOf (sel [1, 4, 4, 1, 1, 0, 4, 1, 1, 4, 0] bodyRn)) ?_
  refine ownU_quiet (i := 0) (rest := [1]) (.bool false) rfl (by rfl) rfl (by decide) (fun _ => eql_f (p := op) (q := 0) rfl (by kernel_rfl) (by kernel_rfl) (by simp [h0])) ?_
  refine ownU_quiet (i := 1) (rest := []) (.bool false) rfl (by rfl) rfl (by decide) (fun _ => by kernel_rfl) ?_
  refine ownU_region_end ?_
  refine ownU_cond (c := .tmp 37) (x := sel [1, 4, 4, 1, 1, 0, 4, 1, 1, 4, 1, 2] bodyRn) (y := sel [1, 4, 4, 1, 1, 0, 4, 1, 1, 4, 1, 3] bodyRn) (t := false) (by kernel_rfl) ?_
  refine ownU_seq (x := sel [1, 4, 4, 1, 1, 0, 4, 1, 1, 4, 1, 3, 0] bodyRn) (y := sel [1, 4, 4, 1, 1, 0, 4, 1, 1, 4, 1, 3, 1] bodyRn) ?_
  refine ownU_region (id := 7) (ops := opsOf (sel [1, 4, 4, 1, 1, 0, 4, 1, 1, 4, 1, 3, 0] bodyRn)) ?_
  refine ownU_quiet (i := 0) (rest := [1]) (.bool false) rfl (by rfl) rfl (by decide) (fun _ => eql_f (p := op) (q := 1) rfl (by kernel_rfl) (by kernel_rfl) (by simp [h1])) ?_
  refine ownU_quiet (i := 1) (rest := []) (.bool false) rfl (by rfl) rfl (by decide) (fun _ => by kernel_rfl) ?_
  refine ownU_region_end ?_
  refine ownU_cond (c := .tmp 41) (x := sel [1, 4, 4, 1, 1, 0, 4, 1, 1, 4, 1, 3, 1, 2] bodyRn) (y := sel [1, 4, 4, 1, 1, 0, 4, 1, 1, 4, 1, 3, 1, 3] bodyRn) (t := false) (by kernel_rfl) ?_
  refine ownU_seq (x := sel [1, 4, 4, 1, 1, 0, 4, 1, 1, 4, 1, 3, 1, 3, 0] bodyRn) (y := sel [1, 4, 4, 1, 1, 0, 4, 1, 1, 4, 1, 3, 1, 3, 1] bodyRn) ?_
  refine ownU_region (id := 9) (ops := opsOf (sel [1, 4, 4, 1, 1, 0, 4, 1, 1, 4, 1, 3, 1, 3, 0] bodyRn)) ?_
  refine ownU_quiet (i := 0) (rest := [1]) (.bool true) rfl (by rfl) rfl (by decide) (fun _ => eql_f (p := op) (q := 2) rfl (by kernel_rfl) (by kernel_rfl) (by simp [h2])) ?_
  refine ownU_quiet (i := 1) (rest := []) (.bool true) rfl (by rfl) rfl (by decide) (fun _ => by kernel_rfl) ?_
  refine ownU_region_end ?_
  refine ownU_cond (c := .tmp 45) (x := sel [1, 4, 4, 1, 1, 0, 4, 1, 1, 4, 1, 3, 1, 3, 1, 2] bodyRn) (y := sel [1, 4, 4, 1, 1, 0, 4, 1, 1, 4, 1, 3, 1, 3, 1, 3] bodyRn) (t := true) (by kernel_rfl) ?_
  refine ownU_seq (x := sel [1, 4, 4, 1, 1, 0, 4, 1, 1, 4, 1, 3, 1, 3, 1, 2, 0] bodyRn) (y := sel [1, 4, 4, 1, 1, 0, 4, 1, 1, 4, 1, 3, 1, 3, 1, 2, 1] bodyRn) ?_
  refine ownU_region (id := 10) (ops := opsOf (sel [1, 4, 4, 1, 1, 0, 4, 1, 1, 4, 1, 3, 1, 3, 1, 2, 0] bodyRn)) ?_
  refine ownU_quiet (i := 0) (rest := [1, 2, 3, 4]) (ptr wb) rfl (by rfl) rfl (by decide) (fun _ => by kernel_rfl) ?_
  refine ownU_quiet (i := 1) (rest := [2, 3, 4]) (ptr wb) rfl (by rfl) rfl (by decide) (fun _ => by kernel_rfl) ?_
  refine ownU_quiet (i := 2) (rest := [3, 4]) (.pointer (some ⟨wb, 2, none⟩)) rfl (by rfl) rfl (by decide) (fun _ => by kernel_rfl) ?_
  refine ownU_load (i := 3) (rest := [4]) ⟨wb, 2, none⟩ (.int .i64 (n : Int)) rfl (by rfl) (by decide) loads_int rfl (by kernel_rfl) hw2 ?_
  refine ownU_quiet (i := 4) (rest := []) (.bool false) rfl (by rfl) rfl (by decide) (fun _ => lss_v (p := (n : Int)) (q := 20) rfl (by kernel_rfl) (by kernel_rfl) (by simp; omega)) ?_
  refine ownU_region_end ?_
  refine ownU_cond (c := .tmp 51) (x := sel [1, 4, 4, 1, 1, 0, 4, 1, 1, 4, 1, 3, 1, 3, 1, 2, 1, 2] bodyRn) (y := .skip) (t := false) (by kernel_rfl) ?_
  refine ownU_skip ?_
  exact hk _ ⟨by kernel_rfl, by kernel_rfl, by kernel_rfl, by kernel_rfl, by kernel_rfl, by kernel_rfl⟩
noncomputable def rnFrS (ts : Array Value) : Frame := (base 77).at ⟨ts, []⟩ (.inRegion (opsOf (sel [1, 4, 4, 1, 1, 0, 4, 1, 1, 4, 1, 3, 1, 3, 1, 2, 1, 2] bodyRn)) [12] :: rnRest)
set_option maxHeartbeats 8000000 in
theorem sw_spawn {main : Bool} {Z : Addr → Prop} {Stop : Goroutine → World → Prop} {w₀ u : World} {wb c nl idx xb : Nat} {S14 : Value} {op : Int} {ts : Array Value} {cs : List Frame} {n k nF cF : Nat} {nn : Int} {AF : Option Addr} (h : RnTs ts wb c S14 nl idx) (h7 : ts.getD 7 undef = ptr xb) (h21 : ts.getD 21 undef = .int .i64 op) (h0 : ¬ op = 0) (h1 : ¬ op = 1) (h2 : op = 2) (hw2 : u.cell? ⟨wb, 2, none⟩ = some (.int .i64 (n : Int))) (hn : n < 20) (hx1 : u.cell? ⟨xb, 1, none⟩ = some (.int .i64 nn)) (hw1 : u.cell? ⟨wb, 1, none⟩ = some (.slice AF nF cF)) (hnF : 0 < nF) (hk0 : max nn 0 % (nF : Int) = (k : Int))
    (hk : ∀ ts', RnTs ts' wb c S14 nl idx → OwnU Try.prog main Z Stop w₀ (wsIn wb k (.func (.func 82) #[ptr c] #[]) (rnFrS ts' :: cs)) u) : OwnU Try.prog main Z Stop w₀ (rnSw ts cs) u := by
  unfold rnSw
  rw [h.litS h7 h21]
  refine ownU_block (id := 2) (c := sel [1, 4, 4, 1, 1, 0, 4, 1, 1, 4] bodyRn) ?_
  refine ownU_seq (x := sel [1, 4, 4, 1, 1, 0, 4, 1, 1, 4, 0] bodyRn) (y := sel [1, 4, 4, 1, 1, 0, 4, 1, 1, 4, 1] bodyRn) ?_
  refine ownU_region (id := 5) (ops := opsOf (sel [1, 4, 4, 1, 1, 0, 4, 1, 1, 4, 0] bodyRn)) ?_
  refine ownU_quiet (i := 0) (rest := [1]) (.bool false) rfl (by rfl) rfl (by decide) (fun _ => eql_f (p := op) (q := 0) rfl (by kernel_rfl) (by kernel_rfl) (by simp [h0])) ?_
  refine ownU_quiet (i := 1) (rest := []) (.bool false) rfl (by rfl) rfl (by decide) (fun _ => by kernel_rfl) ?_
  refine ownU_region_end ?_
  refine ownU_cond (c := .tmp 37) (x := sel [1, 4, 4, 1, 1, 0, 4, 1, 1, 4, 1, 2] bodyRn) (y := sel [1, 4, 4, 1, 1, 0, 4, 1, 1, 4, 1, 3] bodyRn) (t := false) (by kernel_rfl) ?_
  refine ownU_seq (x := sel [1, 4, 4, 1, 1, 0, 4, 1, 1, 4, 1, 3, 0] bodyRn) (y := sel [1, 4, 4, 1, 1, 0, 4, 1, 1, 4, 1, 3, 1] bodyRn) ?_
  refine ownU_region (id := 7) (ops := opsOf (sel [1, 4, 4, 1, 1, 0, 4, 1, 1, 4, 1, 3, 0] bodyRn)) ?_
  refine ownU_quiet (i := 0) (rest := [1]) (.bool false) rfl (by rfl) rfl (by decide) (fun _ => eql_f (p := op) (q := 1) rfl (by kernel_rfl) (by kernel_rfl) (by simp [h1])) ?_
  refine ownU_quiet (i := 1) (rest := []) (.bool false) rfl (by rfl) rfl (by decide) (fun _ => by kernel_rfl) ?_
  refine ownU_region_end ?_
  refine ownU_cond (c := .tmp 41) (x := sel [1, 4, 4, 1, 1, 0, 4, 1, 1, 4, 1, 3, 1, 2] bodyRn) (y := sel [1, 4, 4, 1, 1, 0, 4, 1, 1, 4, 1, 3, 1, 3] bodyRn) (t := false) (by kernel_rfl) ?_
  refine ownU_seq (x := sel [1, 4, 4, 1, 1, 0, 4, 1, 1, 4, 1, 3, 1, 3, 0] bodyRn) (y := sel [1, 4, 4, 1, 1, 0, 4, 1, 1, 4, 1, 3, 1, 3, 1] bodyRn) ?_
  refine ownU_region (id := 9) (ops := opsOf (sel [1, 4, 4, 1, 1, 0, 4, 1, 1, 4, 1, 3, 1, 3, 0] bodyRn)) ?_
  refine ownU_quiet (i := 0) (rest := [1]) (.bool true) rfl (by rfl) rfl (by decide) (fun _ => eql_f (p := op) (q := 2) rfl (by kernel_rfl) (by kernel_rfl) (by simp [h2])) ?_
  refine ownU_quiet (i := 1) (rest := []) (.bool true) rfl (by rfl) rfl (by decide) (fun _ => by kernel_rfl) ?_
  refine ownU_region_end ?_
  refine ownU_cond (c := .tmp 45) (x := sel [1, 4, 4, 1, 1, 0, 4, 1, 1, 4, 1, 3, 1, 3, 1, 2] bodyRn) (y := sel [1, 4, 4, 1, 1, 0, 4, 1, 1, 4, 1, 3, 1, 3, 1, 3] bodyRn) (t := true) (by kernel_rfl) ?_
  refine ownU_seq (x := sel [1, 4, 4, 1, 1, 0, 4, 1, 1, 4, 1, 3, 1, 3, 1, 2, 0] bodyRn) (y := sel [1, 4, 4, 1, 1, 0, 4, 1, 1, 4, 1, 3, 1, 3, 1, 2, 1] bodyRn) ?_
  refine ownU_region (id := 10) (ops := opsOf (sel [1, 4, 4, 1, 1, 0, 4, 1, 1, 4, 1, 3, 1, 3, 1, 2, 0] bodyRn)) ?_
  refine ownU_quiet (i := 0) (rest := [1, 2, 3, 4]) (ptr wb) rfl (by rfl) rfl (by decide) (fun _ => by kernel_rfl) ?_
  refine ownU_quiet (i := 1) (rest := [2, 3, 4]) (ptr wb) rfl (by rfl) rfl (by decide) (fun _ => by kernel_rfl) ?_
  refine ownU_quiet (i := 2) (rest := [3, 4]) (.pointer (some ⟨wb, 2, none⟩)) rfl (by rfl) rfl (by decide) (fun _ => by kernel_rfl) ?_
  refine ownU_load (i := 3) (rest := [4]) ⟨wb, 2, none⟩ (.int .i64 (n : Int)) rfl (by rfl) (by decide) loads_int rfl (by kernel_rfl) hw2 ?_
  refine ownU_quiet (i := 4) (rest := []) (.bool true) rfl (by rfl) rfl (by decide) (fun _ => lss_v (p := (n : Int)) (q := 20) rfl (by kernel_rfl) (by kernel_rfl) (by simp; omega)) ?_
  refine ownU_region_end ?_
  refine ownU_cond (c := .tmp 51) (x := sel [1, 4, 4, 1, 1, 0, 4, 1, 1, 4, 1, 3, 1, 3, 1, 2, 1, 2] bodyRn) (y := .skip) (t := true) (by kernel_rfl) ?_
  refine ownU_lit (List.toArray (ptr wb :: ptr c :: ts.getD 2 undef :: ts.getD 3 undef :: ts.getD 4 undef :: ts.getD 5 undef :: ts.getD 6 undef :: ptr xb :: ts.getD 8 undef :: ts.getD 9 undef :: ts.getD 10 undef :: ts.getD 11 undef :: ts.getD 12 undef :: ts.getD 13 undef :: S14 :: .int .i64 (nl : Int) :: .int .i64 (idx : Int) :: ts.getD 17 undef :: ts.getD 18 undef :: ts.getD 19 undef :: ts.getD 20 undef :: .int .i64 op :: ts.getD 22 undef :: ts.getD 23 undef :: ts.getD 24 undef :: ts.getD 25 undef :: ts.getD 26 undef :: ts.getD 27 undef :: ts.getD 28 undef :: ts.getD 29 undef :: ts.getD 30 undef :: ts.getD 31 undef :: ts.getD 32 undef :: ts.getD 33 undef :: ts.getD 34 undef :: ts.getD 35 undef :: ts.getD 36 undef :: .bool false :: .bool false :: ts.getD 39 undef :: ts.getD 40 undef :: .bool false :: .bool false :: ts.getD 43 undef :: ts.getD 44 undef :: .bool true :: .bool true :: ptr wb :: ptr wb :: .pointer (some ⟨wb, 2, none⟩) :: .int .i64 (n : Int) :: .bool true :: ts.getD 52 undef :: ts.getD 53 undef :: ts.getD 54 undef :: ts.getD 55 undef :: ts.getD 56 undef :: ts.getD 57 undef :: ts.getD 58 undef :: ts.getD 59 undef :: ts.getD 60 undef :: ts.getD 61 undef :: ts.getD 62 undef :: ts.getD 63 undef :: ts.getD 64 undef :: ts.getD 65 undef :: ts.getD 66 undef :: ts.getD 67 undef :: ts.getD 68 undef :: ts.getD 69 undef :: ts.getD 70 undef :: ts.getD 71 undef :: ts.getD 72 undef :: ts.getD 73 undef :: ts.getD 74 undef :: ts.getD 75 undef :: ts.getD 76 undef :: ts.getD 77 undef :: ts.getD 78 undef :: ts.getD 79 undef :: ts.getD 80 undef :: ts.getD 81 undef :: [])) [] (by kernel_rfl) rfl ?_
  have hmix : Try.prog.follows .mixedOrders = true := by kernel_rfl
  refine ownU_pure (n := 12) (N := 82) (fun i => [ptr wb, ptr c, .func (.func 82) #[ptr c] #[], .pointer (some ⟨xb, 1, none⟩), .int .i64 nn, .int .i64 (max nn 0), ptr wb, ptr wb, .pointer (some ⟨wb, 1, none⟩), .slice AF nF cF, .int .i64 (nF : Int), .int .i64 (k : Int)].getD i undef) hmix (by kernel_rfl) (by kernel_rfl) (fun i hi o ho a rest he hkk => ?_) (fun l hcl hl => ?_) ?_
  · have hv : ∀ (x : Operand) (v : Value), x ∈ o.op.operands → (fillAll (opsOf (sel [1, 4, 4, 1, 1, 0, 4, 1, 1, 4, 1, 3, 1, 3, 1, 2, 1, 2] bodyRn)) (fun i => [ptr wb, ptr c, .func (.func 82) #[ptr c] #[], .pointer (some ⟨xb, 1, none⟩), .int .i64 nn, .int .i64 (max nn 0), ptr wb, ptr wb, .pointer (some ⟨wb, 1, none⟩), .slice AF nF cF, .int .i64 (nF : Int), .int .i64 (k : Int)].getD i undef) 12 ⟨List.toArray (ptr wb :: ptr c :: ts.getD 2 undef :: ts.getD 3 undef :: ts.getD 4 undef :: ts.getD 5 undef :: ts.getD 6 undef :: ptr xb :: ts.getD 8 undef :: ts.getD 9 undef :: ts.getD 10 undef :: ts.getD 11 undef :: ts.getD 12 undef :: ts.getD 13 undef :: S14 :: .int .i64 (nl : Int) :: .int .i64 (idx : Int) :: ts.getD 17 undef :: ts.getD 18 undef :: ts.getD 19 undef :: ts.getD 20 undef :: .int .i64 op :: ts.getD 22 undef :: ts.getD 23 undef :: ts.getD 24 undef :: ts.getD 25 undef :: ts.getD 26 undef :: ts.getD 27 undef :: ts.getD 28 undef :: ts.getD 29 undef :: ts.getD 30 undef :: ts.getD 31 undef :: ts.getD 32 undef :: ts.getD 33 undef :: ts.getD 34 undef :: ts.getD 35 undef :: ts.getD 36 undef :: .bool false :: .bool false :: ts.getD 39 undef :: ts.getD 40 undef :: .bool false :: .bool false :: ts.getD 43 undef :: ts.getD 44 undef :: .bool true :: .bool true :: ptr wb :: ptr wb :: .pointer (some ⟨wb, 2, none⟩) :: .int .i64 (n : Int) :: .bool true :: ts.getD 52 undef :: ts.getD 53 undef :: ts.getD 54 undef :: ts.getD 55 undef :: ts.getD 56 undef :: ts.getD 57 undef :: ts.getD 58 undef :: ts.getD 59 undef :: ts.getD 60 undef :: ts.getD 61 undef :: ts.getD 62 undef :: ts.getD 63 undef :: ts.getD 64 undef :: ts.getD 65 undef :: ts.getD 66 undef :: ts.getD 67 undef :: ts.getD 68 undef :: ts.getD 69 undef :: ts.getD 70 undef :: ts.getD 71 undef :: ts.getD 72 undef :: ts.getD 73 undef :: ts.getD 74 undef :: ts.getD 75 undef :: ts.getD 76 undef :: ts.getD 77 undef :: ts.getD 78 undef :: ts.getD 79 undef :: ts.getD 80 undef :: ts.getD 81 undef :: []), []⟩).eval x = v → a.eval x = v := fun x v hx h => (he x hx).trans h
    have hi' : i = 0 ∨ i = 1 ∨ i = 2 ∨ i = 3 ∨ i = 4 ∨ i = 5 ∨ i = 6 ∨ i = 7 ∨ i = 8 ∨ i = 9 ∨ i = 10 ∨ i = 11 := by omega
    rcases hi' with rfl | rfl | rfl | rfl | rfl | rfl | rfl | rfl | rfl | rfl | rfl | rfl
    · have e : o.op = .move (.tmp 0) := opAt ho rfl
      exact ownU_quiet (i := 0) (rest := rest) (ptr wb) ho (wantAt ho rfl _) (by rw [e]; kernel_rfl) (by decide) (fun w => ev_move w e (hv _ (ptr wb) (by rw [e]; exact Array.mem_of_getElem? (i := 0) rfl) (by kernel_rfl))) hkk
    · have e : o.op = .move (.tmp 1) := opAt ho rfl
      exact ownU_quiet (i := 1) (rest := rest) (ptr c) ho (wantAt ho rfl _) (by rw [e]; kernel_rfl) (by decide) (fun w => ev_move w e (hv _ (ptr c) (by rw [e]; exact Array.mem_of_getElem? (i := 0) rfl) (by kernel_rfl))) hkk
    · have e : o.op = .makeFunc (.func 82) #[.tmp 53] #[] := opAt ho rfl
      exact ownU_quiet (i := 2) (rest := rest) (.func (.func 82) #[ptr c] #[]) ho (wantAt ho rfl _) (by rw [e]; kernel_rfl) (by decide) (fun w => ev_makeFunc w e (hv _ (ptr c) (by rw [e]; exact Array.mem_of_getElem? (i := 0) rfl) (by kernel_rfl))) hkk
    · have e : o.op = .fieldAddr 109 (.tmp 7) 1 := opAt ho rfl
      exact ownU_quiet (i := 3) (rest := rest) (.pointer (some ⟨xb, 1, none⟩)) ho (wantAt ho rfl _) (by rw [e]; kernel_rfl) (by decide) (fun w => ev_field w e (hv _ (ptr xb) (by rw [e]; exact Array.mem_of_getElem? (i := 0) rfl) (by kernel_rfl)) (.inr ⟨rfl, rfl⟩)) hkk
    · have e : o.op = .load 3 (.tmp 55) := opAt ho rfl
      exact ownU_load (i := 4) (rest := rest) ⟨xb, 1, none⟩ (.int .i64 nn) ho (wantAt ho rfl _) (by decide) loads_int e (hv _ (.pointer (some ⟨xb, 1, none⟩)) (by rw [e]; exact Array.mem_of_getElem? (i := 0) rfl) (by kernel_rfl)) hx1 hkk
    · have e : o.op = .call { callee := .builtin .max, args := #[.tmp 56, .const (.int .i64 0)], argTypes := #[3, 3] } := opAt ho rfl
      exact ownU_quiet (i := 5) (rest := rest) (.int .i64 (max nn 0)) ho (wantAt ho rfl _) (by rw [e]; kernel_rfl) (by decide) (fun w => ev_max0 w e (hv _ (.int .i64 nn) (by rw [e]; exact Array.mem_of_getElem? (i := 0) rfl) (by kernel_rfl)) rfl) hkk
    · have e : o.op = .move (.tmp 0) := opAt ho rfl
      exact ownU_quiet (i := 6) (rest := rest) (ptr wb) ho (wantAt ho rfl _) (by rw [e]; kernel_rfl) (by decide) (fun w => ev_move w e (hv _ (ptr wb) (by rw [e]; exact Array.mem_of_getElem? (i := 0) rfl) (by kernel_rfl))) hkk
    · have e : o.op = .nilCheck (.tmp 58) := opAt ho rfl
      exact ownU_quiet (i := 7) (rest := rest) (ptr wb) ho (wantAt ho rfl _) (by rw [e]; kernel_rfl) (by decide) (fun w => ev_nilCheck w e (hv _ (ptr wb) (by rw [e]; exact Array.mem_of_getElem? (i := 0) rfl) (by kernel_rfl))) hkk
    · have e : o.op = .fieldAddr 72 (.tmp 59) 1 := opAt ho rfl
      exact ownU_quiet (i := 8) (rest := rest) (.pointer (some ⟨wb, 1, none⟩)) ho (wantAt ho rfl _) (by rw [e]; kernel_rfl) (by decide) (fun w => ev_field w e (hv _ (ptr wb) (by rw [e]; exact Array.mem_of_getElem? (i := 0) rfl) (by kernel_rfl)) (.inl ⟨rfl, rfl⟩)) hkk
    · have e : o.op = .load 63 (.tmp 60) := opAt ho rfl
      exact ownU_load (i := 9) (rest := rest) ⟨wb, 1, none⟩ (.slice AF nF cF) ho (wantAt ho rfl _) (by decide) loads_funcs e (hv _ (.pointer (some ⟨wb, 1, none⟩)) (by rw [e]; exact Array.mem_of_getElem? (i := 0) rfl) (by kernel_rfl)) hw1 hkk
    · have e : o.op = .call { callee := .builtin .len, args := #[.tmp 61], argTypes := #[63] } := opAt ho rfl
      exact ownU_quiet (i := 10) (rest := rest) (.int .i64 (nF : Int)) ho (wantAt ho rfl _) (by rw [e]; kernel_rfl) (by decide) (fun w => ev_len w e (hv _ (.slice AF nF cF) (by rw [e]; exact Array.mem_of_getElem? (i := 0) rfl) (by kernel_rfl))) hkk
    · have e : o.op = .binOp .rem 3 (.tmp 57) (.tmp 62) 3 := opAt ho rfl
      exact ownU_quiet (i := 11) (rest := rest) (.int .i64 (k : Int)) ho (wantAt ho rfl _) (by rw [e]; kernel_rfl) (by decide) (fun w => ev_rem w e (hv _ (.int .i64 (max nn 0)) (by rw [e]; exact Array.mem_of_getElem? (i := 0) rfl) (by kernel_rfl)) (hv _ (.int .i64 (nF : Int)) (by rw [e]; exact Array.mem_of_getElem? (i := 1) rfl) (by kernel_rfl)) (by omega) (by omega) hk0) hkk
  · have hd : ∀ i j, l i = true → (∃ o e, (opsOf (sel [1, 4, 4, 1, 1, 0, 4, 1, 1, 4, 1, 3, 1, 3, 1, 2, 1, 2] bodyRn))[i]? = some o ∧ e ∈ o.after ∧ Region.binds .any e = true ∧ e.on = j) → l j = true := fun i j hli ⟨o, e, ho, he, hb, hj⟩ => hj ▸ hcl i o ho hli e he hb
    have l0 : l 0 = true := by
      have := hl _ rfl ⟨0, .data⟩ (Array.mem_of_getElem? (i := 0) rfl) rfl
      exact this
    have l2 : l 2 = true := by
      have := hl _ rfl ⟨2, .data⟩ (Array.mem_of_getElem? (i := 1) rfl) rfl
      exact this
    have l11 : l 11 = true := by
      have := hl _ rfl ⟨11, .data⟩ (Array.mem_of_getElem? (i := 2) rfl) rfl
      exact this
    have l5 : l 5 = true := hd 11 5 l11 ⟨_, ⟨5, .data⟩, rfl, Array.mem_of_getElem? (i := 0) rfl, rfl, rfl⟩
    have l10 : l 10 = true := hd 11 10 l11 ⟨_, ⟨10, .data⟩, rfl, Array.mem_of_getElem? (i := 1) rfl, rfl, rfl⟩
    have l1 : l 1 = true := hd 2 1 l2 ⟨_, ⟨1, .data⟩, rfl, Array.mem_of_getElem? (i := 0) rfl, rfl, rfl⟩
    have l4 : l 4 = true := hd 5 4 l5 ⟨_, ⟨4, .data⟩, rfl, Array.mem_of_getElem? (i := 0) rfl, rfl, rfl⟩
    have l9 : l 9 = true := hd 10 9 l10 ⟨_, ⟨9, .data⟩, rfl, Array.mem_of_getElem? (i := 0) rfl, rfl, rfl⟩
    have l3 : l 3 = true := hd 4 3 l4 ⟨_, ⟨3, .data⟩, rfl, Array.mem_of_getElem? (i := 0) rfl, rfl, rfl⟩
    have l8 : l 8 = true := hd 9 8 l9 ⟨_, ⟨8, .data⟩, rfl, Array.mem_of_getElem? (i := 0) rfl, rfl, rfl⟩
    have l7 : l 7 = true := hd 8 7 l8 ⟨_, ⟨7, .data⟩, rfl, Array.mem_of_getElem? (i := 0) rfl, rfl, rfl⟩
    have l6 : l 6 = true := hd 7 6 l7 ⟨_, ⟨6, .data⟩, rfl, Array.mem_of_getElem? (i := 0) rfl, rfl, rfl⟩
    intro i hi
    have hi' : i = 0 ∨ i = 1 ∨ i = 2 ∨ i = 3 ∨ i = 4 ∨ i = 5 ∨ i = 6 ∨ i = 7 ∨ i = 8 ∨ i = 9 ∨ i = 10 ∨ i = 11 := by omega
    rcases hi' with rfl | rfl | rfl | rfl | rfl | rfl | rfl | rfl | rfl | rfl | rfl | rfl <;> assumption
  · skip
    refine ownU_lit (List.toArray (ptr wb :: ptr c :: ts.getD 2 undef :: ts.getD 3 undef :: ts.getD 4 undef :: ts.getD 5 undef :: ts.getD 6 undef :: ptr xb :: ts.getD 8 undef :: ts.getD 9 undef :: ts.getD 10 undef :: ts.getD 11 undef :: ts.getD 12 undef :: ts.getD 13 undef :: S14 :: .int .i64 (nl : Int) :: .int .i64 (idx : Int) :: ts.getD 17 undef :: ts.getD 18 undef :: ts.getD 19 undef :: ts.getD 20 undef :: .int .i64 op :: ts.getD 22 undef :: ts.getD 23 undef :: ts.getD 24 undef :: ts.getD 25 undef :: ts.getD 26 undef :: ts.getD 27 undef :: ts.getD 28 undef :: ts.getD 29 undef :: ts.getD 30 undef :: ts.getD 31 undef :: ts.getD 32 undef :: ts.getD 33 undef :: ts.getD 34 undef :: ts.getD 35 undef :: ts.getD 36 undef :: .bool false :: .bool false :: ts.getD 39 undef :: ts.getD 40 undef :: .bool false :: .bool false :: ts.getD 43 undef :: ts.getD 44 undef :: .bool true :: .bool true :: ptr wb :: ptr wb :: .pointer (some ⟨wb, 2, none⟩) :: .int .i64 (n : Int) :: .bool true :: ptr wb :: ptr c :: .func (.func 82) #[ptr c] #[] :: .pointer (some ⟨xb, 1, none⟩) :: .int .i64 nn :: .int .i64 (max nn 0) :: ptr wb :: ptr wb :: .pointer (some ⟨wb, 1, none⟩) :: .slice AF nF cF :: .int .i64 (nF : Int) :: .int .i64 (k : Int) :: ts.getD 64 undef :: ts.getD 65 undef :: ts.getD 66 undef :: ts.getD 67 undef :: ts.getD 68 undef :: ts.getD 69 undef :: ts.getD 70 undef :: ts.getD 71 undef :: ts.getD 72 undef :: ts.getD 73 undef :: ts.getD 74 undef :: ts.getD 75 undef :: ts.getD 76 undef :: ts.getD 77 undef :: ts.getD 78 undef :: ts.getD 79 undef :: ts.getD 80 undef :: ts.getD 81 undef :: [])) [] (by kernel_rfl) (by kernel_rfl) ?_
    refine ownU_enterT (i := 12) (rest := []) (f := 67) rfl (by kernel_rfl) (by decide) rfl Try.func67 (by kernel_rfl) rfl fun ts' hts => ?_
    have hR : RnTs ts' wb c S14 nl idx := by subst hts; exact ⟨by kernel_rfl, by kernel_rfl, by kernel_rfl, by kernel_rfl, by kernel_rfl, by kernel_rfl⟩
    clear hts
    exact ownU_eq (by kernel_rfl) (hk ts' hR)
end Go.Proofs.Ytolnmdanlggmhaa

/- What holds between the scheduler and the reference's, turn by turn. -/
namespace Go.Proofs.Ytolnmdanlggmhaa
open Go.RowKit Go.Maps Go.Conc
open Go.ConcN (upd upd_ne upd_same)

set_option maxRecDepth 100000
set_option maxHeartbeats 2000000

structure Mt (S : Sch) (m : RS) : Prop where
  len : S.cos.length = m.cos.length
  same : ∀ (i : Nat) (c : CoR) (rc : RCo), S.cos[i]? = some c → m.cos[i]? = some rc → c.st = rc.st ∧ c.txt = rc.txt
  qs : S.qs = m.q.map fun i : Nat => (i : Int) + 1
  cl : S.closed = m.cl
theorem Mt.get {S : Sch} {m : RS} (h : Mt S m) {i : Nat} {rc : RCo} (hi : m.cos[i]? = some rc) : ∃ c, S.cos[i]? = some c ∧ c.st = rc.st ∧ c.txt = rc.txt := by
  have hl : i < S.cos.length := by rw [h.len]; exact (List.getElem?_eq_some_iff.1 hi).1
  exact ⟨_, List.getElem?_eq_getElem hl, h.same i _ rc (List.getElem?_eq_getElem hl) hi⟩
theorem Mt.getS {S : Sch} {m : RS} (h : Mt S m) {i : Nat} {c : CoR} (hi : S.cos[i]? = some c) : ∃ rc, m.cos[i]? = some rc ∧ c.st = rc.st ∧ c.txt = rc.txt := by
  have hl : i < m.cos.length := by rw [← h.len]; exact (List.getElem?_eq_some_iff.1 hi).1
  exact ⟨_, List.getElem?_eq_getElem hl, h.same i c _ hi (List.getElem?_eq_getElem hl)⟩
theorem Mt.notIn {S : Sch} {m : RS} (h : Mt S m) {i : Nat} (hi : i ∉ m.q) : ((i : Int) + 1) ∉ S.qs := fun hm => by
  rw [h.qs] at hm
  obtain ⟨j, hj, e⟩ := List.mem_map.1 hm
  have : j = i := by omega
  exact hi (this ▸ hj)
theorem Mt.can {S : Sch} {m : RS} (h : Mt S m) (id : Int) : coCan S id = rCan m id := by
  unfold coCan rCan
  rw [h.len]
  by_cases h1 : 1 ≤ id
  · by_cases h2 : id ≤ (m.cos.length : Int)
    · have hl : (id - 1).toNat < m.cos.length := by omega
      obtain ⟨c, e1, e2, _⟩ := h.get (List.getElem?_eq_getElem hl)
      rw [e1, List.getElem?_eq_getElem hl]
      simp [e2]
    · simp [h2]
  · simp [h1]

/-- The goroutine of a coroutine that waits: it goes on at the head of run's loop, or is ended. -/
structure RWait (c : CoR) (sb nb tb fb wb f : Nat) (S14 : Value) (nl p : Nat) (g : Goroutine) : Prop where
  back : ∀ {main : Bool} {Z : Addr → Prop} {Stop : Goroutine → World → Prop} {w₀ u : World}, u.cell? ⟨c.b, 0, none⟩ = some (ptr sb) → u.cell? ⟨sb, 3, none⟩ = some (.bool false) → (∀ ts, RnTs ts wb c.b S14 nl p → OwnU Try.prog main Z Stop w₀ (rnHead ts (rnCs wb c.b tb fb f nb c.ch)) u) → OwnU Try.prog main Z Stop w₀ (Conc.served g (.agg #[])) u
  ends : ∀ {main : Bool} {Z : Addr → Prop} {Stop : Goroutine → World → Prop} {w₀ u : World}, u.cell? ⟨c.b, 0, none⟩ = some (ptr sb) → u.cell? ⟨sb, 3, none⟩ = some (.bool true) → OwnU Try.prog main Z Stop w₀ (G ((runFrame c.b nb c.ch (fvK tb fb)).raise [{ v := endV, recovered := false }]) [botR]) u → OwnU Try.prog main Z Stop w₀ (Conc.served g (.agg #[])) u
theorem RWait.st {c c' : CoR} {sb nb tb fb wb f : Nat} {S14 : Value} {nl p : Nat} {g : Goroutine} (h : RWait c sb nb tb fb wb f S14 nl p g) (hb : c'.b = c.b) (hch : c'.ch = c.ch) : RWait c' sb nb tb fb wb f S14 nl p g := by
  obtain ⟨h1, h2⟩ := h
  constructor
  · intro main Z Stop w₀ u a b k
    rw [hb] at a k
    rw [hch] at k
    exact h1 a b k
  · intro main Z Stop w₀ u a b k
    rw [hb] at a k
    rw [hch] at k
    exact h2 a b k
theorem rwait_y {c : CoR} {sb nb tb fb wb f nl idx : Nat} {S14 : Value} {ts : Array Value} {g : Goroutine} (h : RnTs ts wb c.b S14 nl idx) (hidx : idx < 1000000) (hw : Waiter c.b sb (base 77) ⟨ts, []⟩ (opsOf (sel [1, 4, 4, 1, 1, 0, 4, 1, 1, 4, 1, 2] bodyRn)) 1 [] rnRest (rnCs wb c.b tb fb f nb c.ch) g) : RWait c sb nb tb fb wb f S14 nl (idx + 1) g where
  back := fun a b k => hw.back a b (ownU_region_end (rn_next (h.put (d := 40) (by omega) (.tuple #[])) hidx k))
  ends := fun a b k => hw.ends a b (by
    rw [raise_raise rfl]
    refine ownU_unwind rfl rfl Try.func77 ?_
    rw [raise_raise rfl]
    exact ownU_unwind rfl rfl Try.func76 k)
theorem rwait_b {c : CoR} {sb nb tb fb wb f nl idx : Nat} {S14 : Value} {ts : Array Value} {g : Goroutine} (h : RnTs ts wb c.b S14 nl idx) (hidx : idx < 1000000) (hw : Waiter c.b sb (base 77) ⟨ts, []⟩ (opsOf (sel [1, 4, 4, 1, 1, 0, 4, 1, 1, 4, 1, 3, 1, 2] bodyRn)) 1 [] rnRest (rnCs wb c.b tb fb f nb c.ch) g) : RWait c sb nb tb fb wb f S14 nl (idx + 1) g where
  back := fun a b k => hw.back a b (ownU_region_end (rn_next (h.put (d := 44) (by omega) (.tuple #[])) hidx k))
  ends := fun a b k => hw.ends a b (by
    rw [raise_raise rfl]
    refine ownU_unwind rfl rfl Try.func77 ?_
    rw [raise_raise rfl]
    exact ownU_unwind rfl rfl Try.func76 k)

/-- A coroutine's function: the boxes of its two variables. -/
def KFix (own : Nat → Nat) (wb : Nat) (c : CoR) (rc : RCo) (w : World) : Prop := ∃ tb fb, c.f = fvK tb fb ∧ own tb = 8 ∧ w.heap[tb]? = some (.cells #[ptr wb] 65 (0, 0)) ∧ own fb = 8 ∧ w.heap[fb]? = some (.cells #[.int .i64 (rc.f : Int)] 3 (0, 0))
theorem KFix.keep {own own' : Nat → Nat} {wb : Nat} {c c' : CoR} {rc rc' : RCo} {w w' : World} (h : KFix own wb c rc w) (le : OLe own own') (s : Same8 own w w') (hc : c'.f = c.f) (hr : rc'.f = rc.f) : KFix own' wb c' rc' w' := by
  obtain ⟨tb, fb, h1, h2, h3, h4, h5⟩ := h
  exact ⟨tb, fb, hc.trans h1, le.tag h2 (by omega), (s tb (by omega)).trans h3, le.tag h4 (by omega), by rw [hr]; exact (s fb (by omega)).trans h5⟩
/-- How far a coroutine has come. -/
def KSt (W0 : World) (FC : List Row) (sb wb : Nat) (fs : List (List RStep)) (af : Addr) (c : CoR) (rc : RCo) (k : Kid) : Prop :=
  ((rc.st = 1 ∨ rc.st = 2) ∧ ((k.tag = 0 ∧ rc.pos = 0) ∨ (k.tag = 1 ∧ ∃ nb tb fb Al cl, (⟨nb, 0, [ptr c.b]⟩ : Row) ∈ FC ∧ c.f = fvK tb fb ∧ W0.cell? (af.add rc.f) = some (.slice Al (rFn fs rc.f).length cl) ∧ RWait c sb nb tb fb wb rc.f (.slice Al (rFn fs rc.f).length cl) (rFn fs rc.f).length rc.pos k.g))) ∨
  (rc.st ≠ 1 ∧ rc.st ≠ 2 ∧ k.tag ≠ 1)
theorem KSt.mono {W0 : World} {FC FC' : List Row} {sb wb : Nat} {fs : List (List RStep)} {af : Addr} {c : CoR} {rc : RCo} {k : Kid} (h : KSt W0 FC sb wb fs af c rc k) (hF : ∀ r ∈ FC, r ∈ FC') : KSt W0 FC' sb wb fs af c rc k := by
  rcases h with ⟨h1, h2⟩ | h
  · refine .inl ⟨h1, h2.imp id fun ⟨h3, nb, tb, fb, Al, cl, h4, h5⟩ => ⟨h3, nb, tb, fb, Al, cl, hF _ h4, h5⟩⟩
  · exact .inr h

structure MJ (W0 : World) (own : Nat → Nat) (S : Sch) (ks : List Kid) (FC : List Row) (wb : Nat) (fs : List (List RStep)) (af : Addr) (nF cF : Nat) (m : RS) (hole : Nat → Prop) (w : World) : Prop where
  mt : Mt S m
  tr : TrAt own wb S.sb (.slice (some af) nF cF) m.cos.length m.tr w
  fix : ∀ (i : Nat) (c : CoR) (rc : RCo), S.cos[i]? = some c → m.cos[i]? = some rc → KFix own wb c rc w
  st : ∀ (i : Nat) (c : CoR) (rc : RCo) (k : Kid), ¬ hole i → S.cos[i]? = some c → m.cos[i]? = some rc → ks[i]? = some k → KSt W0 FC S.sb wb fs af c rc k
  fr : S.fr + rMeas fs m ≤ 100000

section
variable {W0 : World} {own own' : Nat → Nat} {S S' : Sch} {ks ks' : List Kid} {FC FC' : List Row} {wb nF cF : Nat} {fs : List (List RStep)} {af : Addr} {m m' : RS} {hole hole' : Nat → Prop} {w w' : World} {i : Nat} {c c' : CoR} {rc rc' : RCo}
theorem MJ.keep (J : MJ W0 own S ks FC wb fs af nF cF m hole w) (le : OLe own own') (s : Same6 own w w') (hF : ∀ r ∈ FC, r ∈ FC') : MJ W0 own' S ks FC' wb fs af nF cF m hole w' :=
  ⟨J.mt, J.tr.same6 le s, fun i c rc h1 h2 => (J.fix i c rc h1 h2).keep le s.s8 rfl rfl, fun i c rc k h0 h1 h2 h3 => (J.st i c rc k h0 h1 h2 h3).mono hF, J.fr⟩
theorem MJ.more (J : MJ W0 own S ks FC wb fs af nF cF m hole w) (hh : ∀ i, hole i → hole' i) : MJ W0 own S ks FC wb fs af nF cF m hole' w := ⟨J.mt, J.tr, J.fix, fun i c rc k h0 => J.st i c rc k fun h => h0 (hh i h), J.fr⟩
theorem set_get_ne {α : Type} {l : List α} {i j : Nat} {x : α} (h : j ≠ i) : (l.set i x)[j]? = l[j]? := List.getElem?_set_ne (fun e => h e.symm)
theorem set_get_eq {α : Type} {l : List α} {i : Nat} {x y : α} (h : l[i]? = some y) : (l.set i x)[i]? = some x := List.getElem?_set_self (List.getElem?_eq_some_iff.1 h).1
theorem set_id {α : Type} {l : List α} {i : Nat} {x : α} (h : l[i]? = some x) : l.set i x = l := by
  refine List.ext_getElem? fun j => ?_
  by_cases e : j = i
  · subst e; rw [set_get_eq h, h]
  · exact set_get_ne e
/-- Coroutine i's own step. -/
theorem MJ.upd (J : MJ W0 own S ks FC wb fs af nF cF m (· = i) w) (hi : S.cos[i]? = some c) (hri : m.cos[i]? = some rc) (le : OLe own own') (htr : TrAt own' wb S'.sb (.slice (some af) nF cF) m'.cos.length m'.tr w') (s : Same8 own w w') (hF : ∀ r ∈ FC, r ∈ FC') (hsb : S'.sb = S.sb)
    (hc : S'.cos = S.cos.set i c') (hm : m'.cos = m.cos.set i rc') (hcf : c'.f = c.f) (hrf : rc'.f = rc.f) (hst : c'.st = rc'.st ∧ c'.txt = rc'.txt) (hq : S'.qs = m'.q.map fun i : Nat => (i : Int) + 1) (hcl : S'.closed = m'.cl)
    (hk : ∀ j, j ≠ i → ks'[j]? = ks[j]?) (hki : ¬ hole' i → ∀ k', ks'[i]? = some k' → KSt W0 FC' S.sb wb fs af c' rc' k') (hfr : S'.fr + rMeas fs m' ≤ 100000) : MJ W0 own' S' ks' FC' wb fs af nF cF m' hole' w' := by
  have hcS : ∀ (j : Nat) (d : CoR) (rd : RCo), S'.cos[j]? = some d → m'.cos[j]? = some rd → (j = i ∧ d = c' ∧ rd = rc') ∨ (j ≠ i ∧ S.cos[j]? = some d ∧ m.cos[j]? = some rd) := fun j d rd h1 h2 => by
    rw [hc] at h1
    rw [hm] at h2
    by_cases e : j = i
    · subst e
      rw [set_get_eq hi] at h1
      rw [set_get_eq hri] at h2
      exact .inl ⟨rfl, (Option.some.inj h1).symm, (Option.some.inj h2).symm⟩
    · rw [set_get_ne e] at h1 h2
      exact .inr ⟨e, h1, h2⟩
  refine ⟨⟨by rw [hc, hm, List.length_set, List.length_set]; exact J.mt.len, fun j d rd h1 h2 => ?_, hq, hcl⟩, htr, fun j d rd h1 h2 => ?_, fun j d rd k h0 h1 h2 h3 => ?_, hfr⟩
  · rcases hcS j d rd h1 h2 with ⟨_, rfl, rfl⟩ | ⟨_, h1, h2⟩
    · exact hst
    · exact J.mt.same j d rd h1 h2
  · rcases hcS j d rd h1 h2 with ⟨_, rfl, rfl⟩ | ⟨_, h1, h2⟩
    · exact (J.fix i c rc hi hri).keep le s hcf hrf
    · exact (J.fix j d rd h1 h2).keep le s rfl rfl
  · rw [hsb]
    rcases hcS j d rd h1 h2 with ⟨rfl, rfl, rfl⟩ | ⟨hne, h1, h2⟩
    · exact hki h0 k h3
    · rw [hk j hne] at h3
      exact (J.st j d rd k hne h1 h2 h3).mono hF
/-- A blocked one is woken. -/
theorem MJ.wake {cj : CoR} {rj : RCo} {j : Nat} (J : MJ W0 own S ks FC wb fs af nF cF m hole w) (hj : S.cos[j]? = some cj) (hrj : m.cos[j]? = some rj) (h2 : rj.st = 2) (le : OLe own own') (s : Same6 own w w') : MJ W0 own' (coWake S j cj) ks FC wb fs af nF cF (rWakeC m j rj) hole w' := by
  have hcS : ∀ (x : Nat) (d : CoR) (rd : RCo), (coWake S j cj).cos[x]? = some d → (rWakeC m j rj).cos[x]? = some rd → (x = j ∧ d = { cj with st := 1 } ∧ rd = { rj with st := 1 }) ∨ (x ≠ j ∧ S.cos[x]? = some d ∧ m.cos[x]? = some rd) := fun x d rd h1 h2 => by
    replace h1 : (S.cos.set j { cj with st := 1 })[x]? = some d := h1
    replace h2 : (m.cos.set j { rj with st := 1 })[x]? = some rd := h2
    by_cases e : x = j
    · subst e
      rw [set_get_eq hj] at h1
      rw [set_get_eq hrj] at h2
      exact .inl ⟨rfl, (Option.some.inj h1).symm, (Option.some.inj h2).symm⟩
    · rw [set_get_ne e] at h1 h2
      exact .inr ⟨e, h1, h2⟩
  have hms : rMeas fs (rWakeC m j rj) = rMeas fs m := by
    have h := rMeas_set (fs := fs) (c' := { rj with st := 1 }) hrj
    have e : rW fs { rj with st := 1 } = rW fs rj := by unfold rW rLeft; simp [h2]
    show rMeas fs (rSet m j { rj with st := 1 }) = _
    omega
  have hlen : (rWakeC m j rj).cos.length = m.cos.length := by simp [rWakeC, rSet]
  refine ⟨⟨by show (S.cos.set j _).length = _; rw [List.length_set, hlen]; exact J.mt.len, fun x d rd e1 e2 => ?_, ?_, J.mt.cl⟩, by rw [hlen]; exact J.tr.same6 le s, fun x d rd e1 e2 => ?_, fun x d rd k h0 e1 e2 e3 => ?_, by rw [hms]; exact J.fr⟩
  · rcases hcS x d rd e1 e2 with ⟨_, rfl, rfl⟩ | ⟨_, e1, e2⟩
    · exact ⟨rfl, (J.mt.same j cj rj hj hrj).2⟩
    · exact J.mt.same x d rd e1 e2
  · show S.qs ++ [_] = (m.q ++ [j]).map _
    rw [J.mt.qs, List.map_append]
    rfl
  · rcases hcS x d rd e1 e2 with ⟨_, rfl, rfl⟩ | ⟨_, e1, e2⟩
    · exact (J.fix j cj rj hj hrj).keep le s.s8 rfl rfl
    · exact (J.fix x d rd e1 e2).keep le s.s8 rfl rfl
  · rcases hcS x d rd e1 e2 with ⟨rfl, rfl, rfl⟩ | ⟨_, e1, e2⟩
    · rcases J.st x cj rj k h0 hj hrj e3 with ⟨_, h⟩ | ⟨_, h, _⟩
      · refine .inl ⟨.inl rfl, h.imp id fun ⟨q1, nb, tb, fb, Al, cl, q2, q3, q4, q5⟩ => ⟨q1, nb, tb, fb, Al, cl, q2, q3, q4, q5.st rfl rfl⟩⟩
      · exact absurd h2 h
    · exact J.st x d rd k h0 e1 e2 e3
/-- One coroutine more. -/
theorem MJ.spawn {f tb fb : Nat} {v : Value} (J : MJ W0 own S ks FC wb fs af nF cF m hole w) (hl : ks.length = S.cos.length) (hlt : m.cos.length < 20) (h60 : ∀ l ∈ fs, l.length ≤ 60) (le : OLe own own') (htr : TrAt own' wb S.sb (.slice (some af) nF cF) (m.cos.length + 1) m.tr w') (s : Same8 own w w') (hF : ∀ r ∈ FC, r ∈ FC')
    (hcf : c.f = fvK tb fb) (hcst : c.st = 1) (hctx : c.txt = ByteArray.empty) (ht : own' tb = 8 ∧ w'.heap[tb]? = some (.cells #[ptr wb] 65 (0, 0))) (hf : own' fb = 8 ∧ w'.heap[fb]? = some (.cells #[.int .i64 (f : Int)] 3 (0, 0))) :
    MJ W0 own' { S with v := v, cos := S.cos ++ [c], qs := S.qs ++ [(S.cos.length : Int) + 1] } (ks ++ [⟨0, 0, default⟩]) FC' wb fs af nF cF (rSpawn m f) hole w' := by
  have hlen := J.mt.len
  have hcS : ∀ (x : Nat) (d : CoR) (rd : RCo), (S.cos ++ [c])[x]? = some d → (rSpawn m f).cos[x]? = some rd → (x = S.cos.length ∧ d = c ∧ rd = ⟨f, 0, 1, ByteArray.empty⟩) ∨ (x < S.cos.length ∧ S.cos[x]? = some d ∧ m.cos[x]? = some rd) := fun x d rd h1 h2 => by
    replace h2 : (m.cos ++ [(⟨f, 0, 1, ByteArray.empty⟩ : RCo)])[x]? = some rd := h2
    rcases Nat.lt_or_ge x S.cos.length with e | e
    · rw [List.getElem?_append_left e] at h1
      rw [List.getElem?_append_left (by omega)] at h2
      exact .inr ⟨e, h1, h2⟩
    · rw [List.getElem?_append_right e] at h1
      rw [List.getElem?_append_right (by omega)] at h2
      rcases hx : x - S.cos.length with _ | y
      · rw [show x - m.cos.length = 0 by omega] at h2
        rw [hx] at h1
        simp at h1 h2
        exact .inl ⟨by omega, h1.symm, h2.symm⟩
      · rw [hx] at h1; simp at h1
  have hms := rSpawn_meas (f := f) hlt h60
  refine ⟨⟨by show (S.cos ++ [c]).length = _; rw [rSpawn_len, List.length_append, hlen]; rfl, fun x d rd e1 e2 => ?_, ?_, J.mt.cl⟩, by rw [rSpawn_len]; exact htr, fun x d rd e1 e2 => ?_, fun x d rd k h0 e1 e2 e3 => ?_, by have := J.fr; show S.fr + _ ≤ _; omega⟩
  · rcases hcS x d rd e1 e2 with ⟨_, rfl, rfl⟩ | ⟨_, e1, e2⟩
    · exact ⟨hcst, hctx⟩
    · exact J.mt.same x d rd e1 e2
  · show S.qs ++ [_] = (m.q ++ [m.cos.length]).map _
    rw [J.mt.qs, List.map_append, hlen]
    rfl
  · rcases hcS x d rd e1 e2 with ⟨_, rfl, rfl⟩ | ⟨_, e1, e2⟩
    · exact ⟨tb, fb, hcf, ht.1, ht.2, hf.1, hf.2⟩
    · exact (J.fix x d rd e1 e2).keep le s rfl rfl
  · rcases hcS x d rd e1 e2 with ⟨rfl, rfl, rfl⟩ | ⟨hx, e1, e2⟩
    · rw [List.getElem?_append_right (by omega), hl, Nat.sub_self] at e3
      simp at e3
      subst e3
      exact .inl ⟨.inl rfl, .inl ⟨rfl, rfl⟩⟩
    · rw [List.getElem?_append_left (by omega)] at e3
      exact (J.st x d rd k h0 e1 e2 e3).mono hF
theorem TrAt.agree {F : Value} {nn : Nat} {tr : List ByteArray} {sb : Nat} {u : World} (h : TrAt own wb sb F nn tr u) (f : FI own S FC) (a : Agr own FC u w) : TrAt own wb sb F nn tr w :=
  h.keep (OLe.refl _) fun b hb => a.eq b (by omega) (f.ne (by omega) (by omega) (by omega))
end
end Go.Proofs.Ytolnmdanlggmhaa

/- A turn of a coroutine of CoroMatches and CoroCloses: what the reference's turn does. -/
namespace Go.Proofs.Ytolnmdanlggmhaa
open Go.RowKit Go.Maps Go.Conc
open Go.ConcN (upd upd_ne upd_same)

set_option maxRecDepth 100000
set_option maxHeartbeats 2000000

theorem stp_two8 {own : Nat → Nat} {u : World} (hlt : ∀ b, own b ≠ 0 → b < u.heap.size) (o1 o2 : Obj) : Stp (fun _ => False) own (retagC own 8 (fun b => b = u.heap.size ∨ b = u.heap.size + 1)) u ((u.alloc o1).alloc o2) := by
  refine stp_fresh hlt ((New.alloc u o1).trans (New.alloc _ o2)) (fun b hb => retagC_out (by omega)) fun b hb => ?_
  rw [al2_size]
  by_cases h : b = u.heap.size ∨ b = u.heap.size + 1
  · omega
  · rw [retagC_out h] at hb
    have := hlt b hb
    omega
theorem TrAt.count {own : Nat → Nat} {wb sb n : Nat} {F : Value} {tr : List ByteArray} {u : World} (h : TrAt own wb sb F n tr u) : TrAt own wb sb F (n + 1) tr (u.setCell ⟨wb, 2, none⟩ (.int .i64 ((n : Int) + 1))) := by
  obtain ⟨⟨v, h1, h2, h3⟩, h4⟩ := h
  refine ⟨⟨v, ?_, h2.keep fun g hg => ?_, h3⟩, h4⟩
  · rw [setCell_get, if_pos rfl, h1]
    show some (Obj.cells _ _ _) = _
    rw [show ((n + 1 : Nat) : Int) = (n : Int) + 1 by omega]
    rfl
  · rw [setCell_get, if_neg]
    intro e
    simp only at e
    have := h3 g hg
    rw [← e] at this
    omega
theorem step_cells {W0 : World} {af : Addr} {fs : List (List RStep)} {f k : Nat} {Al : Option Addr} {cl : Nat} {x : RStep} (hFA : FAt W0 (some af) fs) (hf : f < fs.length) (hc : W0.cell? (af.add f) = some (.slice Al (rFn fs f).length cl)) (hx : (rFn fs f)[k]? = some x) :
    ∃ al ps, Al = some al ∧ al.add (k * 3) = ps ∧ W0.cell? ps = some (.int .i64 x.op) ∧ W0.cell? ⟨ps.block, ps.off + 1, none⟩ = some (.int .i64 x.n) ∧ W0.cell? ⟨ps.block, ps.off + 2, none⟩ = some (.string x.text) := by
  obtain ⟨l, hl⟩ : ∃ l, fs[f]? = some l := ⟨_, List.getElem?_eq_getElem hf⟩
  have hfn : rFn fs f = l := by unfold rFn; rw [List.getD_eq_getElem?_getD, hl]; rfl
  obtain ⟨ad, A, c, e, _, h1, h2⟩ := hFA.fn hl
  obtain rfl := Option.some.inj e
  rw [h1] at hc
  injection hc with hc
  injection hc with e1 e2 e3
  subst e1
  rw [hfn] at hx
  obtain ⟨al, ps, e4, e5, _, e6, e7, e8⟩ := step_at h2 hx
  exact ⟨al, ps, e4, e5, e6, e7, e8⟩

section
variable {Post : Value → World → Prop} {E : Env} {h n i nb tb fb wb nF cF : Nat} {fs : List (List RStep)} {af : Addr} {g0 : Goroutine}

theorem CI.rest' {own : Nat → Nat} {S : Sch} {ks : List Kid} {FC : List Row} {Inb : Nat → Option Seat} {w w1 u : World} (C : CI E h own S ks FC n Inb w) (hs : Sim False (ZF FC) u w1) (hkp : Kept (ZF FC) w w1) (hn : New (guardW FC w) u) : CI E h own S ks FC n Inb w1 ∧ Same6 own w w1 := by
  have st : Stp (fun _ => False) own own (guardW FC w) u := hn.stp C.ltG
  obtain ⟨a, C1⟩ := C.step hs hkp st (fun h => h) (C.siG.stp st fun _ h => h.elim) C.fi rfl rfl (fun i c h => ⟨c, h, rfl, rfl⟩)
  exact ⟨C1, same6_step a C.fi st (fun _ h => h.elim) C.lw C.fi⟩
theorem MJ.trace {W0 : World} {own own' : Nat → Nat} {S : Sch} {ks : List Kid} {FC : List Row} {m : RS} {hole : Nat → Prop} {w w' : World} {t : ByteArray} (J : MJ W0 own S ks FC wb fs af nF cF m hole w) (le : OLe own own') (s : Same8 own w w') (htr : TrAt own' wb S.sb (.slice (some af) nF cF) m.cos.length (m.tr ++ [t]) w') : MJ W0 own' S ks FC wb fs af nF cF (rTr m t) hole w' :=
  ⟨⟨J.mt.len, J.mt.same, J.mt.qs, J.mt.cl⟩, htr, fun i c rc h1 h2 => (J.fix i c rc h1 h2).keep le s rfl rfl, J.st, J.fr⟩

/-- A TURN, from where its function goes on. -/
theorem steps_won (hW : E.FC0 = []) (hFA : FAt E.W0 (some af) fs) (hnF : fs.length = nF) (h60 : ∀ l ∈ fs, l.length ≤ 60) (hsz : ∀ l ∈ fs, ∀ x ∈ l, x.text.size ≤ 140737488355328) (hF0 : 0 < nF) : ∀ (k : Nat) {own : Nat → Nat} {S : Sch} {ks : List Kid} {FC : List Row} {Inb : Nat → Option Seat} {w : World} {m : RS} {c : CoR} {rc : RCo} {kd : Kid} {Al : Option Addr} {cl : Nat} {ts : Array Value},
    CI E h own S ks FC n Inb w → S.closed = false → S.cos[i]? = some c → ks[i]? = some kd → kd.tag = 2 → (⟨nb, 0, [ptr c.b]⟩ : Row) ∈ FC → c.f = fvK tb fb → E.W0.cell? (af.add rc.f) = some (.slice Al (rFn fs rc.f).length cl) → RTn fs i m rc → rLeft fs rc ≤ k →
    MJ E.W0 own S ks FC wb fs af nF cF m (· = i) w → RnTs ts wb c.b (.slice Al (rFn fs rc.f).length cl) (rFn fs rc.f).length rc.pos → Inb 0 = some (Seat.one S.sc (.agg #[]) false (· = g0)) →
    (∀ own' S' ks' FC' Inb' w', CI E 0 own' S' ks' FC' n Inb' w' → MJ E.W0 own' S' ks' FC' wb fs af nF cF (rTurn fs i k m) (fun _ => False) w' → S'.sb = S.sb → S'.sc = S.sc → S'.fr = S.fr → Inb' 0 = Inb 0 → OLe own own' → Same8 own w w' → Won Try.prog Post FC' n Inb' 0 (Conc.served g0 (.agg #[])) w') →
    Won Try.prog Post FC n Inb h (rnHead ts (rnCs wb c.b tb fb rc.f nb c.ch)) w := by
  intro k
  induction k with
  | zero => intro own S ks FC Inb w m c rc kd Al cl ts C hcl hi hk ht hbox hcf hsl hT hk0; unfold rLeft at hk0; omega
  | succ k ih =>
    intro own S ks FC Inb w m c rc kd Al cl ts C hcl hi hk ht hbox hcf hsl hT hk0 J hts hI0 next
    have sG := C.siG
    have hgs : (guardW FC w).heap.size = w.heap.size := by simp [guardW]
    have hf : rc.f < fs.length := hT.inv.fin rc (List.mem_of_getElem? hT.get)
    have hfr := J.fr
    have hql := hT.inv.qlen
    have hqs : S.qs.length ≤ 20 := by rw [J.mt.qs, List.length_map]; exact hql
    have hst1 := (J.mt.same i c rc hi hT.get)
    have hnq := J.mt.notIn hT.out
    have hl60 : (rFn fs rc.f).length ≤ 60 := by
      obtain ⟨l, hl⟩ : ∃ l, fs[rc.f]? = some l := ⟨_, List.getElem?_eq_getElem hf⟩
      have hfn : rFn fs rc.f = l := by unfold rFn; rw [List.getD_eq_getElem?_getD, hl]; rfl
      rw [hfn]
      exact h60 l (List.mem_of_getElem? hl)
    cases hx : (rFn fs rc.f)[rc.pos]? with
    | none =>
      have hle : (rFn fs rc.f).length ≤ rc.pos := List.getElem?_eq_none_iff.1 hx
      have eT : rTurn fs i (k + 1) m = rSet m i { rc with st := 3 } := by unfold rTurn; simp only [hT.get, hx]
      refine win_own C.fi.wf (rn_end hts hle (ownU_stop fun w1 hs hkp => ?_))
      obtain ⟨C1, s1⟩ := CI.rest' C hs hkp (New.refl _)
      rw [← hcf]
      refine done_won C1 hi hk ht hbox hI0 fun Inb' w' C2 e s2 => ?_
      refine next own _ _ FC Inb' w' C2 ?_ rfl rfl rfl e (OLe.refl _) (s1.trans s2 (OLe.refl _)).s8
      rw [eT]
      have hms := rMeas_set (fs := fs) (c' := { rc with st := 3 }) hT.get
      have hw0 : rW fs { rc with st := 3 } = 0 := by unfold rW; simp
      refine J.upd hi hT.get (OLe.refl _) ?_ (s1.trans s2 (OLe.refl _)).s8 (fun _ h => h) rfl rfl rfl rfl rfl ⟨rfl, hst1.2⟩ J.mt.qs J.mt.cl (fun j hj => set_get_ne hj) (fun _ k' hk' => ?_) (by show S.fr + _ ≤ _; omega)
      · have := J.tr.same6 (OLe.refl _) (s1.trans s2 (OLe.refl _))
        simpa [rSet] using this
      · rw [set_get_eq hk] at hk'
        obtain rfl := Option.some.inj hk'
        exact .inr ⟨by simp, by simp, by simp⟩
    | some x =>
      have hlt : rc.pos < (rFn fs rc.f).length := (List.getElem?_eq_some_iff.1 hx).1
      obtain ⟨al, ps, rfl, hps, o0, o1, o2⟩ := step_cells hFA hf hsl hx
      have hpos : rc.pos < 1000000 := by omega
      obtain ⟨hT1, hroom⟩ := hT.step hx
      have hk1 : rLeft fs { rc with pos := rc.pos + 1 } ≤ k := by unfold rLeft at hk0 ⊢; simp only; omega
      have hms := rMeas_set (fs := fs) (c' := { rc with pos := rc.pos + 1 }) hT.get
      have hw1 : rW fs { rc with pos := rc.pos + 1 } ≤ rW fs rc := by unfold rW rLeft; simp [hT.st]; omega
      have hnew := New.alloc (guardW FC w) (.cells #[.int .i64 x.op, .int .i64 x.n, .string x.text] 109)
      have st1 : Stp (fun _ => False) own own (guardW FC w) _ := hnew.stp C.ltG
      have si1 : SI own S _ := sG.stp st1 (fun _ h => h.elim)
      have hx0 := alloc_new' (guardW FC w) (.cells #[.int .i64 x.op, .int .i64 x.n, .string x.text] 109) rfl
      have tr0 := J.tr.agree C.fi C.agr
      have tr1 := tr0.keep (w' := (guardW FC w).alloc (.cells #[.int .i64 x.op, .int .i64 x.n, .string x.text] 109)) (OLe.refl _) fun b hb => st1.block b (C.ltG b (by omega)) (fun h => h)
      -- the reference's step
      have J1 : MJ E.W0 own S ks FC wb fs af nF cF (rSet m i { rc with pos := rc.pos + 1 }) (· = i) w :=
        J.upd (c' := c) (rc' := { rc with pos := rc.pos + 1 }) hi hT.get (OLe.refl _) (by simpa [rSet] using J.tr) (Same8.refl _ _) (fun _ h => h) rfl (set_id hi).symm rfl rfl rfl hst1 J.mt.qs J.mt.cl (fun _ _ => rfl) (fun h => absurd rfl h) (by omega)
      refine win_own C.fi.wf (rn_step hts hlt hps (C.old hW o0) (C.old hW o1) (C.old hW o2) fun ts1 hts1 h7 h21 => ?_)
      generalize hu1 : (guardW FC w).alloc (.cells #[.int .i64 x.op, .int .i64 x.n, .string x.text] 109) = u1 at *
      have eT : rTurn fs i (k + 1) m = (if x.op = 0 then rPush (rSet m i { rc with pos := rc.pos + 1 }) i
        else if x.op = 1 then rSet m i { rc with pos := rc.pos + 1, st := 2 }
        else if x.op = 2 then rTurn fs i k (if (rSet m i { rc with pos := rc.pos + 1 }).cos.length < 20 then rSpawn (rSet m i { rc with pos := rc.pos + 1 }) (rNumber fs.length x.n) else rSet m i { rc with pos := rc.pos + 1 })
        else if x.op = 3 then rSet m i { rc with pos := rc.pos + 1, st := 4, txt := x.text }
        else if x.op = 4 then rTurn fs i k (rWake (rSet m i { rc with pos := rc.pos + 1 }) x.n)
        else rTurn fs i k (rTr (rSet m i { rc with pos := rc.pos + 1 }) (rDigit 3 (i + 1) ++ x.text))) := by rw [rTurn]; simp only [hT.get, hx]
      by_cases h0 : x.op = 0
      · rw [if_pos h0] at eT
        refine sw_yield hts1 h7 h21 h0 fun ts2 hts2 => ownU_stop fun w1 hs hkp => ?_
        obtain ⟨C1, s1⟩ := CI.rest' C hs hkp hnew
        unfold rnFrY
        refine yield_won C1 hi hk ht hcl hnq (by omega) hI0 fun own' g Inb' w' hwt C2 e le s2 => ?_
        refine next own' _ _ FC Inb' w' C2 ?_ rfl rfl rfl e le (s1.trans s2 (OLe.refl _)).s8
        rw [eT]
        refine J.upd (c' := c) hi hT.get le ?_ (s1.trans s2 (OLe.refl _)).s8 (fun _ h => h) rfl (set_id hi).symm rfl rfl rfl hst1 ?_ J.mt.cl (fun j hj => set_get_ne hj) (fun _ k' hk' => ?_) ?_
        · have := J.tr.same6 le (s1.trans s2 (OLe.refl _))
          simpa [rPush, rSet] using this
        · show S.qs ++ [_] = (m.q ++ [i]).map _
          rw [J.mt.qs, List.map_append]
          rfl
        · rw [set_get_eq hk] at hk'
          obtain rfl := Option.some.inj hk'
          exact .inl ⟨.inl hT.st, .inr ⟨rfl, nb, tb, fb, some al, cl, hbox, hcf, hsl, rwait_y hts2 hpos hwt⟩⟩
        · show S.fr + rMeas fs (rSet m i { rc with pos := rc.pos + 1 }) ≤ _
          omega
      rw [if_neg h0] at eT
      by_cases h1 : x.op = 1
      · rw [if_pos h1] at eT
        refine sw_block hts1 h7 h21 h0 h1 fun ts2 hts2 => ownU_stop fun w1 hs hkp => ?_
        obtain ⟨C1, s1⟩ := CI.rest' C hs hkp hnew
        unfold rnFrB
        refine block_won C1 hi hk ht hcl hI0 fun g Inb' w' hwt C2 e s2 => ?_
        refine next own _ _ FC Inb' w' C2 ?_ rfl rfl rfl e (OLe.refl _) (s1.trans s2 (OLe.refl _)).s8
        rw [eT]
        have hms2 := rMeas_set (fs := fs) (c' := { rc with pos := rc.pos + 1, st := 2 }) hT.get
        have hw2 : rW fs { rc with pos := rc.pos + 1, st := 2 } ≤ rW fs rc := by unfold rW rLeft; simp [hT.st]; omega
        refine J.upd (c' := { c with st := 2 }) hi hT.get (OLe.refl _) ?_ (s1.trans s2 (OLe.refl _)).s8 (fun _ h => h) rfl rfl rfl rfl rfl ⟨rfl, hst1.2⟩ J.mt.qs J.mt.cl (fun j hj => set_get_ne hj) (fun _ k' hk' => ?_) (by show S.fr + _ ≤ _; omega)
        · have := J.tr.same6 (OLe.refl _) (s1.trans s2 (OLe.refl _))
          simpa [rSet] using this
        · rw [set_get_eq hk] at hk'
          obtain rfl := Option.some.inj hk'
          exact .inl ⟨.inr rfl, .inr ⟨rfl, nb, tb, fb, some al, cl, hbox, hcf, hsl, (rwait_b hts2 hpos hwt).st rfl rfl⟩⟩
      rw [if_neg h1] at eT
      have hnext : ∀ {m2 : RS} {own2 : Nat → Nat} {S2 : Sch} {w2 : World} {Inb2 : Nat → Option Seat}, rTurn fs i (k + 1) m = rTurn fs i k m2 → S2.sb = S.sb → S2.sc = S.sc → S2.fr = S.fr → OLe own own2 → Same8 own w w2 → Inb2 0 = Inb 0 → ∀ own' S' ks' FC' Inb' w', CI E 0 own' S' ks' FC' n Inb' w' → MJ E.W0 own' S' ks' FC' wb fs af nF cF (rTurn fs i k m2) (fun _ => False) w' → S'.sb = S2.sb → S'.sc = S2.sc → S'.fr = S2.fr → Inb' 0 = Inb2 0 → OLe own2 own' → Same8 own2 w2 w' → Won Try.prog Post FC' n Inb' 0 (Conc.served g0 (.agg #[])) w' :=
        fun e e1 e2 e3 le s hI own' S' ks' FC' Inb' w' C' J' f1 f2 f3 f4 le' s' => next own' S' ks' FC' Inb' w' C' (by rw [e]; exact J') (f1.trans e1) (f2.trans e2) (f3.trans e3) (f4.trans hI) (le.trans le') (s.trans s' le)
      by_cases h2 : x.op = 2
      · rw [if_pos h2] at eT
        have hml : (rSet m i { rc with pos := rc.pos + 1 }).cos.length = m.cos.length := by simp [rSet]
        rw [hml] at eT
        obtain ⟨v, hbox6, hrow6, h7v⟩ := tr1.box
        have hwb6 := tr1.wb
        by_cases h20 : m.cos.length < 20
        · rw [if_pos h20] at eT
          have hk0 : max x.n 0 % (nF : Int) = ((rNumber nF x.n : Nat) : Int) := by unfold rNumber; rw [Int.natCast_emod]; congr 1; omega
          have hwl := obj_lt hbox6
          refine sw_spawn (n := m.cos.length) (k := rNumber nF x.n) (nF := nF) (cF := cF) (nn := x.n) (AF := some af) hts1 h7 h21 h0 h1 h2 (blk_cell hbox6 2 _ rfl) h20 (blk_cell hx0 1 _ rfl) (blk_cell hbox6 1 _ rfl) hF0 hk0 fun ts2 hts2 => ?_
          refine ws_own Try.func82 (by kernel_rfl) rfl (blk_cell hbox6 2 _ rfl) (blk_frozen hbox6 2) hwl (wrap_id (by omega) (by omega)) fun ts3 => ?_
          have st2 := stp_two8 st1.lt (.cells #[ptr wb] 65) (.cells #[.int .i64 ((rNumber nF x.n : Nat) : Int)] 3)
          have tr2 := tr1.keep st2.le (w' := (u1.alloc (.cells #[ptr wb] 65)).alloc (.cells #[.int .i64 ((rNumber nF x.n : Nat) : Int)] 3)) fun b hb => st2.block b (st1.lt b (by omega)) (fun h => h)
          have tr3 := tr2.count
          have b1 := al2_first u1 (.cells #[ptr wb] 65) (.cells #[.int .i64 ((rNumber nF x.n : Nat) : Int)] 3)
          have b2 := al2_second u1 (.cells #[ptr wb] 65) (.cells #[.int .i64 ((rNumber nF x.n : Nat) : Int)] 3)
          have t1 : retagC own 8 (fun b => b = u1.heap.size ∨ b = u1.heap.size + 1) u1.heap.size = 8 := retagC_in (fp := fun b => b = u1.heap.size ∨ b = u1.heap.size + 1) (.inl rfl)
          have t2 : retagC own 8 (fun b => b = u1.heap.size ∨ b = u1.heap.size + 1) (u1.heap.size + 1) = 8 := retagC_in (fp := fun b => b = u1.heap.size ∨ b = u1.heap.size + 1) (.inr rfl)
          generalize retagC own 8 (fun b => b = u1.heap.size ∨ b = u1.heap.size + 1) = own1 at *
          have hw1 : own1 wb = 6 := tr2.wb
          have st3 : Stp (· = 6) own1 own1 _ (((u1.alloc (.cells #[ptr wb] 65)).alloc (.cells #[.int .i64 ((rNumber nF x.n : Nat) : Int)] 3)).setCell ⟨wb, 2, none⟩ (.int .i64 ((m.cos.length : Int) + 1))) := stp_setCell (a := ⟨wb, 2, none⟩) st2.lt hw1 _
          have b1' : (((u1.alloc (.cells #[ptr wb] 65)).alloc (.cells #[.int .i64 ((rNumber nF x.n : Nat) : Int)] 3)).setCell ⟨wb, 2, none⟩ (.int .i64 ((m.cos.length : Int) + 1))).heap[u1.heap.size]? = _ := (by rw [setCell_get, if_neg (by simp only; omega)] : _ = _).trans b1
          have b2' : (((u1.alloc (.cells #[ptr wb] 65)).alloc (.cells #[.int .i64 ((rNumber nF x.n : Nat) : Int)] 3)).setCell ⟨wb, 2, none⟩ (.int .i64 ((m.cos.length : Int) + 1))).heap[u1.heap.size + 1]? = _ := (by rw [setCell_get, if_neg (by simp only; omega)] : _ = _).trans b2
          have st : Stp (· = 6) own own1 (guardW FC w) _ := ((st1.trans st2 (fun h => h)).mono (fun _ h => h.elim)).trans st3 (by omega)
          generalize ((u1.alloc (.cells #[ptr wb] 65)).alloc (.cells #[.int .i64 ((rNumber nF x.n : Nat) : Int)] 3)).setCell ⟨wb, 2, none⟩ (.int .i64 ((m.cos.length : Int) + 1)) = u3 at *
          generalize u1.heap.size = tb1 at *
          have si3 : SI own1 S u3 := sG.stp st (fun t h => by omega)
          have fi3 : FI own1 S FC := C.fi.stp (u := guardW FC w) st (fun r hr => by rw [hgs]; exact C.rows r hr)
          refine cu_own (cellsAt_cell (si3.co i c hi) 0 (ptr S.sb) rfl) fun ts4 => ownU_stop fun w1 hs hkp => ?_
          obtain ⟨a, C1⟩ := C.step hs hkp st (by omega) si3 fi3 rfl rfl (fun i c h => ⟨c, h, rfl, rfl⟩)
          have s1 : Same8 own w w1 := same8_step a fi3 st (fun t h => by omega) C.lw C.fi
          have tr4 := tr3.agree fi3 a
          have g1 : own1 tb1 = 8 ∧ w1.heap[tb1]? = _ := ⟨t1, (a.eq tb1 (by omega) (fi3.ne (by omega) (by omega) (by omega))).trans b1'⟩
          have g2 : own1 (tb1 + 1) = 8 ∧ w1.heap[tb1 + 1]? = _ := ⟨t2, (a.eq (tb1 + 1) (by omega) (fi3.ne (by omega) (by omega) (by omega))).trans b2'⟩
          have hSl := J.mt.len
          have hnq2 : ((S.cos.length : Int) + 1) ∉ S.qs := J.mt.notIn (i := S.cos.length) fun hq => by
            obtain ⟨c', e1, _⟩ := hT.inv.rdy _ hq
            have := (List.getElem?_eq_some_iff.1 e1).1
            omega
          unfold cuFr wsFr rnFrS
          refine spawn_won (fn := .func 76) (fi := #[]) (ca := #[ptr tb1, ptr (tb1 + 1)]) C1 hcl (by omega) hnq2 (by omega) fun own2 v2 c2 FC2 w2 hf1 hb1 hs1 hx1 C2 le2 s2 hsub2 => ?_
          refine win_own C2.fi.wf (cu_back fun x2 => ws_back (ownU_region_end (rn_next (hts2.put (d := 64) (by omega) (.tuple #[])) hpos fun ts5 hts5 => ownU_stop fun w3 hs3 hkp3 => ?_)))
          obtain ⟨C3, s3⟩ := CI.rest' C2 hs3 hkp3 (New.refl _)
          have s23 := s2.trans s3 le2
          have J2 : MJ E.W0 own2 { S with v := v2, cos := S.cos ++ [c2], qs := S.qs ++ [(S.cos.length : Int) + 1] } (ks ++ [⟨0, 0, default⟩]) FC2 wb fs af nF cF (rSpawn (rSet m i { rc with pos := rc.pos + 1 }) (rNumber nF x.n)) (· = i) w3 :=
            J1.spawn (c := c2) C.len (by rw [hml]; exact h20) h60 (st.le.trans le2) (by rw [hml]; exact tr4.same6 le2 s23) (s1.trans s23.s8 st.le) hsub2 hf1 hs1 hx1 ⟨le2.tag g1.1 (by omega), (s23 tb1 (by omega)).trans g1.2⟩ ⟨le2.tag g2.1 (by omega), (s23 (tb1 + 1) (by omega)).trans g2.2⟩
          have hil := (List.getElem?_eq_some_iff.1 hi).1
          have hT2 := hT1.spawn (f := rNumber nF x.n) (by rw [hml]; exact h20) (by rw [hnF]; exact Nat.mod_lt _ hF0) h60
          exact ih (rc := { rc with pos := rc.pos + 1 }) C3 hcl (by show (S.cos ++ [c2])[i]? = _; rw [List.getElem?_append_left hil]; exact hi) (by rw [List.getElem?_append_left (List.getElem?_eq_some_iff.1 hk).1]; exact hk) ht (hsub2 _ hbox) hcf hsl hT2 hk1 J2 hts5 hI0 (hnext (by rw [eT, hnF]) rfl rfl rfl (st.le.trans le2) (s1.trans s23.s8 st.le) rfl)
        · rw [if_neg h20] at eT
          refine sw_full (n := m.cos.length) hts1 h7 h21 h0 h1 h2 (blk_cell hbox6 2 _ rfl) (by omega) fun ts2 hts2 => rn_next hts2 hpos fun ts3 hts3 => ownU_stop fun w1 hs hkp => ?_
          obtain ⟨C1, s1⟩ := CI.rest' C hs hkp hnew
          exact ih (rc := { rc with pos := rc.pos + 1 }) C1 hcl hi hk ht hbox hcf hsl hT1 hk1 (J1.keep (OLe.refl _) s1 (fun _ h => h)) hts3 hI0 (hnext eT rfl rfl rfl (OLe.refl _) s1.s8 rfl)
      rw [if_neg h2] at eT
      by_cases h3 : x.op = 3
      · rw [if_pos h3] at eT
        refine sw_panic hts1 h7 h21 h0 h1 h2 h3 (by rw [← hu1] at hx0 ⊢; exact blk_cell hx0 2 _ rfl) (ownU_stop fun w1 hs hkp => ?_)
        obtain ⟨C1, s1⟩ := CI.rest' C hs hkp hnew
        refine panic_won C1 hi hk ht (by rw [hst1.1, hT.st]; omega) (.inr ⟨_, _, rfl, by decide⟩) (text_str x.text) hbox hI0 fun Inb' w' C2 e s2 => ?_
        refine next own _ _ FC Inb' w' C2 ?_ rfl rfl rfl e (OLe.refl _) (s1.trans s2 (OLe.refl _)).s8
        rw [eT]
        have hms2 := rMeas_set (fs := fs) (c' := { rc with pos := rc.pos + 1, st := 4, txt := x.text }) hT.get
        have hw2 : rW fs { rc with pos := rc.pos + 1, st := 4, txt := x.text } = 0 := by unfold rW; simp
        refine J.upd (c' := { c with st := 4, txt := x.text }) hi hT.get (OLe.refl _) ?_ (s1.trans s2 (OLe.refl _)).s8 (fun _ h => h) rfl rfl rfl rfl rfl ⟨rfl, rfl⟩ J.mt.qs J.mt.cl (fun j hj => set_get_ne hj) (fun _ k' hk' => ?_) (by show S.fr + _ ≤ _; omega)
        · have := J.tr.same6 (OLe.refl _) (s1.trans s2 (OLe.refl _))
          simpa [rSet] using this
        · rw [set_get_eq hk] at hk'
          obtain rfl := Option.some.inj hk'
          exact .inr ⟨by simp, by simp, by simp⟩
      rw [if_neg h3] at eT
      by_cases h4 : x.op = 4
      · rw [if_pos h4] at eT
        have hmc := J1.mt.can x.n
        by_cases hcan : rCan (rSet m i { rc with pos := rc.pos + 1 }) x.n = true
        · have hcan' := hcan
          unfold rCan at hcan'
          simp only [Bool.and_eq_true, decide_eq_true_eq] at hcan'
          obtain ⟨q1, q2, q3⟩ := hcan'
          obtain ⟨j, hj⟩ : ∃ j : Nat, x.n = (j : Int) + 1 := ⟨(x.n - 1).toNat, by omega⟩
          rw [hj] at q2 q3
          rw [show ((j : Int) + 1 - 1).toNat = j by omega] at q3
          have hjl : j < (rSet m i { rc with pos := rc.pos + 1 }).cos.length := by omega
          obtain ⟨rj, hrj⟩ : ∃ rj, (rSet m i { rc with pos := rc.pos + 1 }).cos[j]? = some rj := ⟨_, List.getElem?_eq_getElem hjl⟩
          rw [hrj] at q3
          simp only [Option.any_some, beq_iff_eq] at q3
          obtain ⟨cj, hcj, hcs, _⟩ := J1.mt.get hrj
          have hji : j ≠ i := fun e => by
            subst e
            rw [hT1.get] at hrj
            obtain rfl := Option.some.inj hrj
            have := hT.st
            simp only at q3
            omega
          have hjq : j ∉ (rSet m i { rc with pos := rc.pos + 1 }).q := fun hq => by
            obtain ⟨c', e1, e2⟩ := hT1.inv.rdy j hq
            rw [hrj] at e1
            obtain rfl := Option.some.inj e1
            omega
          have hjnq := J1.mt.notIn hjq
          have eW : rWake (rSet m i { rc with pos := rc.pos + 1 }) x.n = rWakeC (rSet m i { rc with pos := rc.pos + 1 }) j rj := by
            unfold rWake
            rw [if_pos hcan, hj, show ((j : Int) + 1 - 1).toNat = j by omega, hrj]
          have hcjst : cj.st = 2 := by rw [hcs, q3]
          have hlt1 : ∀ b, own b ≠ 0 → b < u1.heap.size := st1.lt
          obtain ⟨v, hbox6, _, _⟩ := tr1.box
          refine sw_wake (sb := S.sb) (n := x.n) (Qw := fun u' => ∃ own', SI own' (coWake S j cj) u' ∧ Stp (fun t => t = 2 ∨ t = 4) own own' u1 u') hts1 h7 h21 h0 h1 h2 h3 h4 (blk_cell hbox6 0 _ rfl) (blk_cell hx0 1 _ rfl) (fun A d => ?_) fun ts2 u2 hts2 ⟨own2, si2, st2⟩ => rn_next hts2 hpos fun ts3 hts3 => ownU_stop fun w1 hs hkp => ?_
          · rw [hj]
            refine (wake_on (si1.tp A d) hlt1 hcj hcjst hjnq (by omega)).mono ?_
            rintro e w' ⟨rfl, own', a, b⟩
            exact ⟨⟨_, rfl⟩, own', a, b.unl⟩
          · have st : Stp (fun t => t = 2 ∨ t = 4) own own2 (guardW FC w) u2 := (st1.mono (fun _ h => h.elim)).trans st2 (by omega)
            have fi2 : FI own2 (coWake S j cj) FC := by
              have f1 := C.fi.stp (u := guardW FC w) st (fun r hr => by rw [hgs]; exact C.rows r hr)
              have f2 := f1.setCo hcj { cj with st := 1 } rfl rfl rfl
              exact ⟨f2.wf, f2.rco, f2.rsb, f2.off⟩
            obtain ⟨a, C1⟩ := C.step (S' := coWake S j cj) hs hkp st (by omega) si2 fi2 rfl (by simp [coWake]) (hkid_set hcj rfl rfl)
            have s1 : Same6 own w w1 := same6_step a fi2 st (fun t h => by omega) C.lw C.fi
            have J2 := J1.wake hcj hrj q3 st.le s1
            rw [eW] at eT
            have hT2 : RTn fs i (rWakeC (rSet m i { rc with pos := rc.pos + 1 }) j rj) { rc with pos := rc.pos + 1 } := by rw [← eW]; exact hT1.wake
            have hi2 : (coWake S j cj).cos[i]? = some c := (set_get_ne (fun e => hji e.symm)).trans hi
            exact ih (rc := { rc with pos := rc.pos + 1 }) C1 hcl hi2 hk ht hbox hcf hsl hT2 hk1 J2 hts3 hI0 (hnext eT rfl rfl rfl st.le s1.s8 rfl)
        · have hcan0 : rCan (rSet m i { rc with pos := rc.pos + 1 }) x.n = false := by simpa using hcan
          have eW : rWake (rSet m i { rc with pos := rc.pos + 1 }) x.n = rSet m i { rc with pos := rc.pos + 1 } := by unfold rWake; rw [if_neg hcan]
          obtain ⟨v, hbox6, _, _⟩ := tr1.box
          refine sw_wake (sb := S.sb) (n := x.n) (Qw := fun u' => New u1 u') hts1 h7 h21 h0 h1 h2 h3 h4 (blk_cell hbox6 0 _ rfl) (blk_cell hx0 1 _ rfl) (fun A d => ?_) fun ts2 u2 hts2 hn2 => rn_next hts2 hpos fun ts3 hts3 => ownU_stop fun w1 hs hkp => ?_
          · refine (wake_off (si1.tp A d) (hmc.trans hcan0)).mono ?_
            rintro e w' ⟨rfl, hn⟩
            exact ⟨⟨_, rfl⟩, ⟨hn.os, hn.output, hn.size, hn.block⟩⟩
          · obtain ⟨C1, s1⟩ := CI.rest' C hs hkp (hnew.trans hn2)
            rw [eW] at eT
            exact ih (rc := { rc with pos := rc.pos + 1 }) C1 hcl hi hk ht hbox hcf hsl hT1 hk1 (J1.keep (OLe.refl _) s1 (fun _ h => h)) hts3 hI0 (hnext eT rfl rfl rfl (OLe.refl _) s1.s8 rfl)
      rw [if_neg h4] at eT
      have hil : i < m.cos.length := (List.getElem?_eq_some_iff.1 hT.get).1
      have hl20 := hT.inv.len
      have hro := hT.inv.room
      obtain ⟨l, hl⟩ : ∃ l, fs[rc.f]? = some l := ⟨_, List.getElem?_eq_getElem hf⟩
      have hfn : rFn fs rc.f = l := by unfold rFn; rw [List.getD_eq_getElem?_getD, hl]; rfl
      have hxl : x ∈ l := by rw [← hfn]; exact List.mem_of_getElem? hx
      refine sw_trace (own := own) (sb := S.sb) (i := i) (n := m.cos.length) (F := .slice (some af) nF cF) (tr := m.tr) (text := x.text) hts1 h7 h21 h0 h1 h2 h3 h4 tr1 st1.lt (blk_cell hx0 2 _ rfl) (fun A d => id_at (tp u1 A d) S.sb i c ((si1.tp A d).co i c hi)) (by omega) (hsz l (List.mem_of_getElem? hl) x hxl) (by omega) fun ts2 own2 u2 hts2 tr2 st2 => rn_next hts2 hpos fun ts3 hts3 => ownU_stop fun w1 hs hkp => ?_
      have st : Stp (fun t => t = 6 ∨ t = 7) own own2 (guardW FC w) u2 := (st1.mono (fun _ h => h.elim)).trans st2 (by omega)
      have fi2 : FI own2 S FC := C.fi.stp (u := guardW FC w) st (fun r hr => by rw [hgs]; exact C.rows r hr)
      obtain ⟨a, C1⟩ := C.step hs hkp st (by omega) (sG.stp st fun t h => by omega) fi2 rfl rfl (fun i c h => ⟨c, h, rfl, rfl⟩)
      have s1 : Same8 own w w1 := same8_step a fi2 st (fun t h => by omega) C.lw C.fi
      have J2 := J1.trace (t := rDigit 3 (i + 1) ++ x.text) st.le s1 (by simpa [rSet] using tr2.agree fi2 a)
      exact ih (rc := { rc with pos := rc.pos + 1 }) C1 hcl hi hk ht hbox hcf hsl (hT1.trace (by exact hroom)) hk1 J2 hts3 hI0 (hnext eT rfl rfl rfl st.le s1 rfl)
end
end Go.Proofs.Ytolnmdanlggmhaa

/- Run and Close of CoroMatches and CoroCloses: what the reference's do. -/
namespace Go.Proofs.Ytolnmdanlggmhaa
open Go.RowKit Go.Maps Go.Conc
open Go.ConcN (upd upd_ne upd_same)

set_option maxRecDepth 100000
set_option maxHeartbeats 2000000

section
variable {Post : Value → World → Prop} {E : Env} {wb nF cF : Nat} {fs : List (List RStep)} {af : Addr} {cs : List Frame} {b₀ : Frame} {a₀ : Act} {ops : Array Oper} {j : Nat} {rest : List Nat} {k₀ : List Item}

/-- RUN. -/
theorem run_laps (hW : E.FC0 = []) (hFA : FAt E.W0 (some af) fs) (hnF : fs.length = nF) (h60 : ∀ l ∈ fs, l.length ≤ 60) (hsz : ∀ l ∈ fs, ∀ x ∈ l, x.text.size ≤ 140737488355328) (hF0 : 0 < nF) : ∀ (N : Nat) {own : Nat → Nat} {S : Sch} {ks : List Kid} {FC : List Row} {n : Nat} {Inb : Nat → Option Seat} {w : World} {g : Goroutine} {t : Int} {m : RS},
    CI E 0 own S ks FC n Inb w → RInv fs m → rMeas fs m ≤ N → S.fr + rMeas fs m ≤ 90000 → MJ E.W0 own S ks FC wb fs af nF cF m (fun _ => False) w → 0 ≤ t → t + N < 1000000 → AtHead g S.sb t (b₀.at a₀ (.inRegion ops (j :: rest) :: k₀) :: cs) →
    (∀ own' S' ks' FC' n' Inb' w', CI E 0 own' S' ks' FC' n' Inb' w' → MJ E.W0 own' S' ks' FC' wb fs af nF cF (rRun fs N m).1 (fun _ => False) w' → S'.fr + rMeas fs (rRun fs N m).1 ≤ 90000 → S'.sb = S.sb → OLe own own' → Same8 own w w' →
      Won Try.prog Post FC' n' Inb' 0 (G (b₀.at (a₀.put ((ops[j]?).bind (·.dst)) (.int .i64 (t + ((rRun fs N m).2 : Nat)))) (.inRegion ops rest :: k₀)) cs) w') → Won Try.prog Post FC n Inb 0 g w := by
  intro N
  induction N with
  | zero =>
    intro own S ks FC n Inb w g t m C hI hN hfr J ht0 ht1 hg next
    have hov := rRun_over h60 (by omega) 0 hI hN
    have e : rRun fs 0 m = (m, 0) := rRun_stop fs (by simpa [rRun] using hov) 0
    rw [e] at next hov
    have e2 : t + ((0 : Nat) : Int) = t := by omega
    refine loop_end C hg ?_ fun w1 C1 s1 => ?_
    · rcases hov with h | h
      · exact .inr (by rw [J.mt.qs, h]; rfl)
      · exact .inl (by rw [J.mt.cl]; exact h)
    · have := next own S ks FC n Inb w1 C1 (J.keep (OLe.refl _) s1 fun _ h => h) hfr rfl (OLe.refl _) s1.s8
      simp only [e2] at this
      exact this
  | succ N ih =>
    intro own S ks FC n Inb w g t m C hI hN hfr J ht0 ht1 hg next
    by_cases hstop : m.q = [] ∨ m.cl = true
    · have e : rRun fs (N + 1) m = (m, 0) := rRun_stop fs hstop (N + 1)
      rw [e] at next
      have e2 : t + ((0 : Nat) : Int) = t := by omega
      refine loop_end C hg ?_ fun w1 C1 s1 => ?_
      · rcases hstop with h | h
        · exact .inr (by rw [J.mt.qs, h]; rfl)
        · exact .inl (by rw [J.mt.cl]; exact h)
      · have := next own S ks FC n Inb w1 C1 (J.keep (OLe.refl _) s1 fun _ h => h) hfr rfl (OLe.refl _) s1.s8
        simp only [e2] at this
        exact this
    · cases hq : m.q with
      | nil => exact absurd (.inl hq) hstop
      | cons i q =>
        have hclf : m.cl = false := by cases h : m.cl with
          | false => rfl
          | true => exact absurd (.inr h) hstop
        obtain ⟨rc, hrc, hrst, hT⟩ := hI.turn hq
        obtain ⟨hI2, hm2, hcl2⟩ := hI.lap h60 (by omega) hq hrc
        have hstep := rRun_step fs hq hclf hrc N
        rw [hstep] at next
        obtain ⟨c, hci, hcst, hctx⟩ := J.mt.get hrc
        obtain ⟨k, hki, hko⟩ := C.kidAt hci
        have hqs : S.qs = ((i : Int) + 1) :: q.map fun i : Nat => (i : Int) + 1 := by rw [J.mt.qs, hq]; rfl
        have hcl : S.closed = false := by rw [J.mt.cl]; exact hclf
        have hf : rc.f < fs.length := hI.fin rc (List.mem_of_getElem? hrc)
        obtain ⟨l, hl⟩ : ∃ l, fs[rc.f]? = some l := ⟨_, List.getElem?_eq_getElem hf⟩
        have hfn : rFn fs rc.f = l := by unfold rFn; rw [List.getD_eq_getElem?_getD, hl]; rfl
        obtain ⟨ad, Al, cl, ead, _, hsl, _⟩ := hFA.fn hl
        obtain rfl := Option.some.inj ead
        rw [← hfn] at hsl
        refine loop_turn (i := i) (c := c) (x := (i : Int) + 1) (xs := q.map fun i : Nat => (i : Int) + 1) (m' := t + 1) C hg hcl hqs hci rfl (wrap_id (by omega) (by omega)) fun own1 Inb1 w1 g1 f1 hg1 hs1 C1 le1 s1 hI1 => ?_
        have J1 : MJ E.W0 own1 { S with fr := S.fr + 1, qs := q.map fun i : Nat => (i : Int) + 1 } ks FC wb fs af nF cF { m with q := q } (fun _ => False) w1 := by
          have J' := J.keep le1 s1 fun _ h => h
          exact ⟨⟨J'.mt.len, J'.mt.same, rfl, J'.mt.cl⟩, J'.tr, J'.fix, J'.st, by show S.fr + 1 + rMeas fs m ≤ _; omega⟩
        -- behind the turn
        have after : ∀ own' S' ks' FC' n' Inb' w', CI E 0 own' S' ks' FC' n' Inb' w' → MJ E.W0 own' S' ks' FC' wb fs af nF cF (rTurn fs i (rLeft fs rc) { m with q := q }) (fun _ => False) w' → S'.sb = S.sb → S'.fr = S.fr + 1 → OLe own own' → Same8 own w w' → Won Try.prog Post FC' n' Inb' 0 (Conc.served g1 (.agg #[])) w' := fun own' S' ks' FC' n' Inb' w' C' J' e1 e2 le s8 => by
          refine ih (t := t + 1) C' hI2 (by omega) (by omega) J' (by omega) (by omega) (by rw [e1]; exact hg1) fun own2 S2 ks2 FC2 n2 Inb2 w2 C2 J2 hfr2 f1 le2 s2 => ?_
          have := next own2 S2 ks2 FC2 n2 Inb2 w2 C2 J2 hfr2 (f1.trans e1) (le.trans le2) (s8.trans s2 le)
          have e3 : t + (((rRun fs N (rTurn fs i (rLeft fs rc) { m with q := q })).2 + 1 : Nat) : Int) = t + 1 + ((rRun fs N (rTurn fs i (rLeft fs rc) { m with q := q })).2 : Nat) := by omega
          simp only [e3] at this
          exact this
        obtain ⟨tb, fb, hcf, _, _, _, _⟩ := J1.fix i c rc hci hrc
        have hKS := J1.st i c rc k (fun h => h) hci hrc hki
        rcases hKS with ⟨_, hKS⟩ | ⟨h, _⟩
        · have ht01 : k.tag ≤ 1 := by rcases hKS with ⟨h, _⟩ | ⟨h, _⟩ <;> omega
          refine turn_any C1 hci hki ht01 hs1 hI1 (fun ht FC2 Inb2 nb w2 C2 e2 hrow hsub s2 => ?_) fun ht w2 C2 s2 => ?_
          · have hpos : rc.pos = 0 := by rcases hKS with ⟨_, h⟩ | ⟨h, _⟩
                                         · exact h
                                         · omega
            have hc2 : (S.cos.set i { c with begun := true })[i]? = some { c with begun := true } := set_get_eq hci
            have hk2 : (ks.set i ⟨2, n, default⟩)[i]? = some ⟨2, n, default⟩ := set_get_eq hki
            have J2 : MJ E.W0 own1 { { S with fr := S.fr + 1, qs := q.map fun i : Nat => (i : Int) + 1 } with cos := S.cos.set i { c with begun := true } } (ks.set i ⟨2, n, default⟩) FC2 wb fs af nF cF { m with q := q } (· = i) w2 :=
              (J1.more (hole' := (· = i)) fun _ h => h.elim).upd (c' := { c with begun := true }) (rc' := rc) hci hrc (OLe.refl _) (J1.tr.same6 (OLe.refl _) s2) s2.s8 hsub rfl rfl (set_id hrc).symm rfl rfl ⟨hcst, hctx⟩ rfl J1.mt.cl (fun x hx => set_get_ne hx) (fun h => absurd rfl h) (by show S.fr + 1 + rMeas fs m ≤ _; omega)
            obtain ⟨tb, fb, hcf, h8t, hbt, h8f, hbf⟩ := J2.fix i { c with begun := true } rc hc2 hrc
            refine won_kf fun hK => ?_
            have sG := C2.siG
            have hn : (guardW FC2 w2).cell? ⟨nb, 0, none⟩ = some (ptr c.b) := by rw [guard_cell C2.fi.wf hK]; exact kf_cell hK hrow
            have c2 : (guardW FC2 w2).cell? ⟨c.b, 2, none⟩ = some (fvK tb fb) := by rw [← hcf]; exact cellsAt_cell (sG.co i _ hc2) 2 c.f rfl
            have ctb : (guardW FC2 w2).cell? ⟨tb, 0, none⟩ = some (ptr wb) := blk_cell ((C2.agr.eq tb (by omega) (C2.fi.ne (by omega) (by omega) (by omega))).symm ▸ hbt) 0 _ rfl
            have cfb : (guardW FC2 w2).cell? ⟨fb, 0, none⟩ = some (.int .i64 (rc.f : Int)) := blk_cell ((C2.agr.eq fb (by omega) (C2.fi.ne (by omega) (by omega) (by omega))).symm ▸ hbf) 0 _ rfl
            obtain ⟨v, hbox, _, _⟩ := (J2.tr.agree C2.fi C2.agr).box
            refine win_own C2.fi.wf (rn_start c2 hn ctb cfb (blk_cell hbox 1 _ rfl) (by omega) (C2.old hW hsl) fun ts hts => ownU_stop fun w3 hs hkp => ?_)
            obtain ⟨C3, s3⟩ := CI.rest' C2 hs hkp (New.refl _)
            rw [← hpos] at hts
            refine steps_won hW hFA hnF h60 hsz hF0 (rLeft fs rc) (c := { c with begun := true }) (rc := rc) C3 hcl hc2 hk2 rfl hrow hcf hsl hT (Nat.le_refl _) (J2.keep (OLe.refl _) s3 fun _ h => h) hts (e2.trans hI1) fun own' S' ks' FC' Inb' w' C' J' f1 f2 f3 _ le s8 => ?_
            exact after own' S' ks' FC' _ Inb' w' C' J' f1 f3 (le1.trans le) (((s1.s8.trans s2.s8 le1).trans s3.s8 le1).trans s8 le1)
          · rcases hKS with ⟨h, _⟩ | ⟨_, nb, tb, fb, Al2, cl2, hrow, hcf, hsl2, hwt⟩
            · omega
            · have hk2 : (ks.set i ⟨2, k.j, k.g⟩)[i]? = some ⟨2, k.j, k.g⟩ := set_get_eq hki
              have J2 : MJ E.W0 own1 { S with fr := S.fr + 1, qs := q.map fun i : Nat => (i : Int) + 1 } (ks.set i ⟨2, k.j, k.g⟩) FC wb fs af nF cF { m with q := q } (· = i) w2 :=
                (J1.more (hole' := (· = i)) fun _ h => h.elim).upd (c' := c) (rc' := rc) hci hrc (OLe.refl _) (J1.tr.same6 (OLe.refl _) s2) s2.s8 (fun _ h => h) rfl (set_id hci).symm (set_id hrc).symm rfl rfl ⟨hcst, hctx⟩ rfl J1.mt.cl (fun x hx => set_get_ne hx) (fun h => absurd rfl h) (by show S.fr + 1 + rMeas fs m ≤ _; omega)
              have sG := C2.siG
              have c0 := cellsAt_cell (sG.co i c hci) 0 (ptr S.sb) rfl
              have s3 := cellsAt_cell sG.sch 3 (.bool false) (by rw [show ({ S with fr := S.fr + 1, qs := q.map fun i : Nat => (i : Int) + 1 } : Sch).closed = false from hcl]; rfl)
              refine win_own C2.fi.wf (hwt.back c0 s3 fun ts hts => ownU_stop fun w3 hs hkp => ?_)
              obtain ⟨C3, s3'⟩ := CI.rest' C2 hs hkp (New.refl _)
              refine steps_won hW hFA hnF h60 hsz hF0 (rLeft fs rc) (c := c) (rc := rc) C3 hcl hci hk2 rfl hrow hcf hsl2 hT (Nat.le_refl _) (J2.keep (OLe.refl _) s3' fun _ h => h) hts hI1 fun own' S' ks' FC' Inb' w' C' J' f1 f2 f3 _ le s8 => ?_
              exact after own' S' ks' FC' _ Inb' w' C' J' f1 f3 (le1.trans le) (((s1.s8.trans s2.s8 le1).trans s3'.s8 le1).trans s8 le1)
        · exact absurd hrst h
end
end Go.Proofs.Ytolnmdanlggmhaa

/- Close of CoroMatches and CoroCloses: what the reference's does. -/
namespace Go.Proofs.Ytolnmdanlggmhaa
open Go.RowKit Go.Maps Go.Conc
open Go.ConcN (upd upd_ne upd_same)

set_option maxRecDepth 100000
set_option maxHeartbeats 2000000

/-- The scheduler, were it open. -/
def Sch.open' (S : Sch) (b : Bool) : Sch := { S with closed := b }
section
variable {Post : Value → World → Prop} {E : Env} {wb nF cF : Nat} {fs : List (List RStep)} {af : Addr} {cs : List Frame} {κ : CallKind} {m : RS}

theorem endTo_meas (fs : List (List RStep)) (m : RS) (i : Nat) : rMeas fs (endTo m i) ≤ rMeas fs m := by
  unfold rMeas
  rw [endTo_len]
  have key : ∀ (l : List RCo), (l.map fun c => rW fs (rEnd c)).sum ≤ (l.map (rW fs)).sum := fun l => by
    induction l with
    | nil => simp
    | cons c l ih =>
      have : rW fs (rEnd c) ≤ rW fs c := by
        unfold rEnd
        split
        · unfold rW; simp
        · exact Nat.le_refl _
      simp only [List.map_cons, List.sum_cons]
      omega
  have e : ((endTo m i).cos.map (rW fs)).sum ≤ (m.cos.map (rW fs)).sum := by
    unfold endTo
    simp only [List.map_append, List.map_map, List.sum_append]
    have h1 := key (m.cos.take i)
    have h2 : (m.cos.map (rW fs)).sum = ((m.cos.take i).map (rW fs)).sum + ((m.cos.drop i).map (rW fs)).sum := by rw [← List.sum_append, ← List.map_append, List.take_append_drop]
    rw [h2]
    have h3 : ((m.cos.take i).map (rW fs ∘ rEnd)).sum = ((m.cos.take i).map fun c => rW fs (rEnd c)).sum := rfl
    omega
  omega

/-- CLOSE. -/
theorem close_laps (hκ : κ ≠ .early) : ∀ (r i : Nat) {own : Nat → Nat} {S : Sch} {ks : List Kid} {FC : List Row} {n : Nat} {Inb : Nat → Option Seat} {w : World} {g : Goroutine}, i + r = S.cos.length → m.cos.length ≤ 20 →
    CI E 0 own S ks FC n Inb w → S.closed = true → MJ E.W0 own (S.open' m.cl) ks FC wb fs af nF cF (endTo m i) (fun _ => False) w → S.fr + rMeas fs m ≤ 90000 → AtClose κ g S.sb S.v S.cos.length i (endCnt m i : Nat) cs →
    (∀ own' S' ks' Inb' w' g', ClOut κ (endCnt m m.cos.length : Nat) cs g' → CI E 0 own' S' ks' FC n Inb' w' → S'.closed = true → MJ E.W0 own' (S'.open' m.cl) ks' FC wb fs af nF cF (endTo m m.cos.length) (fun _ => False) w' → S'.sb = S.sb → OLe own own' → Same8 own w w' → Won Try.prog Post FC n Inb' 0 g' w') → Won Try.prog Post FC n Inb 0 g w := by
  intro r
  induction r with
  | zero =>
    intro i own S ks FC n Inb w g hr hl20 C hcl J hfr hg next
    have hlen : S.cos.length = m.cos.length := by have := J.mt.len; rw [endTo_len] at this; exact this
    have hi : i = m.cos.length := by omega
    subst hi
    refine close_end_won hκ C hg (by omega) fun g' w' hg' C1 s1 => ?_
    exact next own S ks Inb w' g' hg' C1 hcl (J.keep (OLe.refl _) s1 fun _ h => h) rfl (OLe.refl _) s1.s8
  | succ r ih =>
    intro i own S ks FC n Inb w g hr hl20 C hcl J hfr hg next
    have hlen : S.cos.length = m.cos.length := by have := J.mt.len; rw [endTo_len] at this; exact this
    have hil : i < S.cos.length := by omega
    obtain ⟨rc, hrc⟩ : ∃ rc, m.cos[i]? = some rc := ⟨_, List.getElem?_eq_getElem (by omega)⟩
    have hrc' := endTo_get hrc
    obtain ⟨c, hci, hcst, hctx⟩ := J.mt.get hrc'
    replace hci : S.cos[i]? = some c := hci
    obtain ⟨k, hki, hko⟩ := C.kidAt hci
    have hcn := endCnt_next hrc
    have hen := endTo_next hrc
    have hcle : endCnt m i ≤ 20 := by
      have h1 := List.countP_le_length (p := fun c : RCo => c.st == 1 || c.st == 2) (l := m.cos.take i)
      rw [List.length_take] at h1
      unfold endCnt
      omega
    have hms : rMeas fs (endTo m (i + 1)) ≤ rMeas fs m := endTo_meas fs m (i + 1)
    have hKS := J.st i c rc k (fun h => h) hci hrc' hki
    by_cases hst : rc.st = 1 ∨ rc.st = 2
    · have hcs : c.st = 1 ∨ c.st = 2 := by rw [hcst]; exact hst
      rw [if_pos hst] at hcn
      have hre : rEnd rc = { rc with st := 5 } := by unfold rEnd; rw [if_pos hst]
      rw [hre] at hen
      -- what holds behind this one
      have fin : ∀ {own2 : Nat → Nat} {ks2 : List Kid} {w2 : World} {c2 : CoR}, c2.f = c.f → c2.st = 5 → c2.txt = c.txt → OLe own own2 → Same6 own w w2 → (∀ x, x ≠ i → ks2[x]? = ks[x]?) → (∀ k', ks2[i]? = some k' → k'.tag ≠ 1) → MJ E.W0 own2 (({ S with cos := S.cos.set i c2 } : Sch).open' m.cl) ks2 FC wb fs af nF cF (endTo m (i + 1)) (fun _ => False) w2 := fun {own2 ks2 w2 c2} e1 e2 e3 le s hk2 hkt => by
        refine (J.more (hole' := (· = i)) fun _ h => h.elim).upd (c' := c2) (rc' := { rc with st := 5 }) hci hrc' le ?_ s.s8 (fun _ h => h) rfl rfl (by rw [hen]; rfl) e1 rfl ⟨e2, by rw [e3, hctx]⟩ ?_ ?_ hk2 (fun _ k' hk' => .inr ⟨by simp, by simp, hkt k' hk'⟩) (by show S.fr + _ ≤ _; omega)
        · have := J.tr.same6 le s
          rw [endTo_len] at this ⊢
          exact this
        · exact J.mt.qs
        · exact J.mt.cl
      rcases hKS with ⟨_, ⟨ht, _⟩ | ⟨ht, nb, tb, fb, Al, cl, hrow, hcf, _, hwt⟩⟩ | ⟨h1, h2, _⟩
      · have hb := hko.2.1 ht
        refine close_mark_won hκ C hg hci hcs hb (by omega) fun g1 w1 hg1 C1 s1 => ?_
        refine ih (i + 1) (by simp; omega) hl20 C1 hcl (fin (c2 := { c with st := 5 }) rfl rfl rfl (OLe.refl _) s1 (fun _ _ => rfl) fun k' hk' => ?_) hfr (by rw [hcn]; simp only [List.length_set]; exact hg1) fun own' S' ks' Inb' w' g' a1 a2 a3 a4 a5 a6 a7 => next own' S' ks' Inb' w' g' a1 a2 a3 a4 a5 a6 (s1.s8.trans a7 (OLe.refl _))
        rw [hki] at hk'
        obtain rfl := Option.some.inj hk'
        omega
      · refine close_turn_won hκ C hg hci hcs hki ht (by omega) fun fr Inb1 w1 hfr1 hI1 C1 s1 => ?_
        have sG := C1.siG
        have c0 := cellsAt_cell (sG.co i c hci) 0 (ptr S.sb) rfl
        have s3 := cellsAt_cell sG.sch 3 (.bool true) (by rw [hcl]; rfl)
        have hk2 : (ks.set i ⟨2, k.j, k.g⟩)[i]? = some ⟨2, k.j, k.g⟩ := set_get_eq hki
        refine win_own C1.fi.wf (hwt.ends c0 s3 (ownU_stop fun w2 hs hkp => ?_))
        obtain ⟨C2, s2⟩ := CI.rest' C1 hs hkp (New.refl _)
        refine ended_won C2 hci hk2 rfl hrow hI1 fun Inb3 w3 C3 e3 s3' => ?_
        have hi3 : (S.cos.set i { c with st := 5 })[i]? = some { c with st := 5 } := set_get_eq hci
        refine close_after (i := i) (c2 := { c with st := 5 }) C3 hfr1 hi3 rfl fun g4 w4 hg4 C4 s4 => ?_
        simp only [List.set_set] at C4
        have s14 : Same6 own w w4 := ((s1.trans s2 (OLe.refl _)).trans s3' (OLe.refl _)).trans s4 (OLe.refl _)
        refine ih (i + 1) (by simp; omega) hl20 C4 hcl (fin (c2 := { c with st := 5 }) rfl rfl rfl (OLe.refl _) s14 (fun x hx => set_get_ne hx) fun k' hk' => ?_) hfr (by rw [hcn]; simp only [List.length_set]; exact hg4) fun own' S' ks' Inb' w' g' a1 a2 a3 a4 a5 a6 a7 => next own' S' ks' Inb' w' g' a1 a2 a3 a4 a5 a6 (s14.s8.trans a7 (OLe.refl _))
        rw [set_get_eq hki] at hk'
        obtain rfl := Option.some.inj hk'
        simp
      · rcases hst with h | h
        · exact absurd h h1
        · exact absurd h h2
    · rw [if_neg hst] at hcn
      have hes := endTo_same hrc hst
      refine close_skip_won hκ C hg hci ⟨by rw [hcst]; exact fun e => hst (.inl e), by rw [hcst]; exact fun e => hst (.inr e)⟩ fun g1 w1 hg1 C1 s1 => ?_
      refine ih (i + 1) (by omega) hl20 C1 hcl (by rw [hes]; exact J.keep (OLe.refl _) s1 fun _ h => h) hfr (by rw [hcn]; exact hg1) fun own' S' ks' Inb' w' g' a1 a2 a3 a4 a5 a6 a7 => next own' S' ks' Inb' w' g' a1 a2 a3 a4 a5 a6 (s1.s8.trans a7 (OLe.refl _))
end
end Go.Proofs.Ytolnmdanlggmhaa
