/- Run, in company: its pieces. (Printed by gen_run.py.) -/
import Derived.Test.YtolnmdanlggmhaaKg
namespace Go.Proofs.Ytolnmdanlggmhaa
open Go.RowKit Go.Maps Go.Conc
open Go.ConcN (upd upd_ne upd_same)

set_option maxRecDepth 100000
set_option maxHeartbeats 2000000

noncomputable abbrev bodyRun : Code := Try.f42.body.getD .skip
theorem get_u {u : World} {own : Nat → Nat} {S : Sch} {i : Nat} {c : CoR} (si : SI own S u) (hi : S.cos[i]? = some c) (A : Nat → Question → Nat) (d : Nat) : Calls Try.prog 66 #[ptr S.sb, .int .i64 ((i : Int) + 1)] (tp u A d) fun e w' => e = .returned (ptr c.b) ∧ ∃ A d, w' = tp u A d := by
  obtain ⟨A0, cap, hv, _, _⟩ := si.row.slice
  rw [List.length_map] at hv
  have hs := (si.tp A d).sch
  have hr := (si.tp A d).row
  rw [hv] at hs hr
  have hl := si.lim
  exact (get_at (tp u A d) S.sb S.qb S.sc S.cos.length cap A0 S.closed _ i (ptr c.b) hs hr (by rw [List.getElem?_map, hi]; rfl) (by omega)).mono fun _ _ ⟨h1, h2⟩ => ⟨h1, A, d, h2⟩
theorem pop_u {u : World} {own : Nat → Nat} {S : Sch} {x : Int} {xs : List Int} (si : SI own S u) (hlt : ∀ b, own b ≠ 0 → b < u.heap.size) (hq : S.qs = x :: xs) (hx1 : 0 ≤ x) (hx2 : x < 1000000) (A : Nat → Question → Nat) (d : Nat) :
    Calls Try.prog 16 #[ptr S.qb] (tp u A d) fun e w' => e = .returned (.tuple #[.int .i64 x, .bool true]) ∧ ∃ own', SI own' { S with fr := S.fr + 1, qs := xs } w' ∧ Stp (· = 2) own own' u w' := by
  have hlim := si.limq
  have hqu := (si.tp A d).qu
  rw [hq] at hqu hlim
  simp only [List.length_cons] at hlim
  refine (pop_i S.qb S.fr x xs (tp u A d) hqu (int_wf (by omega) (by omega)) (by omega)).mono ?_
  rintro e w' ⟨rfl, hq', hst⟩
  refine ⟨rfl, ?_⟩
  obtain ⟨own', h1, h2⟩ := (si.tp A d).queue hlt hq' hst (by omega)
  exact ⟨own', h1, h2.unl⟩
theorem pop_nil_u {u : World} {own : Nat → Nat} {S : Sch} (si : SI own S u) (hq : S.qs = []) (A : Nat → Question → Nat) (d : Nat) :
    Calls Try.prog 16 #[ptr S.qb] (tp u A d) fun e w' => e = .returned (.tuple #[.int .i64 0, .bool false]) ∧ ∃ A d, w' = tp u A d := by
  have hqu := (si.tp A d).qu
  rw [hq] at hqu
  exact (pop_nil_i S.qb S.fr (tp u A d) hqu).mono fun _ _ ⟨h1, h2⟩ => ⟨h1, A, d, h2⟩

/-- Run, entered; at the head of its loop, having made m turns. -/
noncomputable def runIn (sb : Nat) (cs : List Frame) : Goroutine := G ((base 42).at ⟨#[ptr sb, undef, undef, undef, undef, undef, undef, undef, undef, undef, undef, undef, undef, undef, undef, undef, undef, undef, undef, undef, undef, undef, undef, undef, undef, undef], []⟩ [.code bodyRun]) cs
def runTs (sb : Nat) (m : Int) (p4 p5 p6 p7 p8 p9 p10 p11 p12 p13 p14 p15 p16 p17 p18 p19 p20 p21 p22 p23 p24 : Value) : Array Value := #[ptr sb, undef, .int .i64 0, .int .i64 m, p4, p5, p6, p7, p8, p9, p10, p11, p12, p13, p14, p15, p16, p17, p18, p19, p20, p21, p22, p23, p24, undef]
theorem run_enter {main : Bool} {Z : Addr → Prop} {Stop : Goroutine → World → Prop} {w₀ u : World} {sb : Nat} {cs : List Frame} (hk : OwnU Try.prog main Z Stop w₀ (G ((base 42).at ⟨runTs sb 0 undef undef undef undef undef undef undef undef undef undef undef undef undef undef undef undef undef undef undef undef undef, []⟩ (.code (sel [1, 1, 0, 4, 4] bodyRun) :: [.inLoop (sel [1, 1, 0, 4, 4] bodyRun), .inBlock 0, .code (sel [1, 1, 1] bodyRun)])) cs) u) : OwnU Try.prog main Z Stop w₀ (runIn sb cs) u := by
  unfold runIn
  refine ownU_seq (x := sel [0] bodyRun) (y := sel [1] bodyRun) ?_
  refine ownU_region (id := 0) (ops := opsOf (sel [0] bodyRun)) ?_
  refine ownU_quiet (i := 0) (rest := []) (.int .i64 0) rfl (by rfl) rfl (by decide) (fun _ => by kernel_rfl) ?_
  refine ownU_region_end ?_
  refine ownU_seq (x := sel [1, 0] bodyRun) (y := sel [1, 1] bodyRun) ?_
  refine ownU_region (id := 1) (ops := opsOf (sel [1, 0] bodyRun)) ?_
  refine ownU_quiet (i := 0) (rest := []) (.int .i64 0) rfl (by rfl) rfl (by decide) (fun _ => by kernel_rfl) ?_
  refine ownU_region_end ?_
  refine ownU_seq (x := sel [1, 1, 0] bodyRun) (y := sel [1, 1, 1] bodyRun) ?_
  refine ownU_block (id := 0) (c := sel [1, 1, 0, 4] bodyRun) ?_
  refine ownU_loop (c := sel [1, 1, 0, 4, 4] bodyRun) ?_
  exact ownU_eq (by kernel_rfl) hk
theorem run_exit_closed {main : Bool} {Z : Addr → Prop} {Stop : Goroutine → World → Prop} {w₀ u : World} {sb qb sc : Nat} {v : Value} {m : Int} {p4 p5 p6 p7 p8 p9 p10 p11 p12 p13 p14 p15 p16 p17 p18 p19 p20 p21 p22 p23 p24 : Value} {b₀ : Frame} {a₀ : Act} {ops : Array Oper} {j : Nat} {rest : List Nat} {k₀ : List Item} {cs : List Frame} (h : SchAt u sb qb sc v true) (hk : OwnU Try.prog main Z Stop w₀ (G (b₀.at (a₀.put ((ops[j]?).bind (·.dst)) (.int .i64 m)) (.inRegion ops rest :: k₀)) cs) u) : OwnU Try.prog main Z Stop w₀ (G ((base 42).at ⟨runTs sb m p4 p5 p6 p7 p8 p9 p10 p11 p12 p13 p14 p15 p16 p17 p18 p19 p20 p21 p22 p23 p24, []⟩ (.code (sel [1, 1, 0, 4, 4] bodyRun) :: [.inLoop (sel [1, 1, 0, 4, 4] bodyRun), .inBlock 0, .code (sel [1, 1, 1] bodyRun)])) (b₀.at a₀ (.inRegion ops (j :: rest) :: k₀) :: cs)) u := by
  have hclo := closed_u h
  refine ownU_seq (x := sel [1, 1, 0, 4, 4, 0] bodyRun) (y := sel [1, 1, 0, 4, 4, 1] bodyRun) ?_
  refine ownU_seq (x := sel [1, 1, 0, 4, 4, 0, 0] bodyRun) (y := sel [1, 1, 0, 4, 4, 0, 1] bodyRun) ?_
  refine ownU_region (id := 2) (ops := opsOf (sel [1, 1, 0, 4, 4, 0, 0] bodyRun)) ?_
  refine ownU_quiet (i := 0) (rest := [1, 2]) (ptr sb) rfl (by rfl) rfl (by decide) (fun _ => by kernel_rfl) ?_
  refine ownU_callK (i := 1) (rest := [2]) (L := lone18) (R := fun e w' => e = .returned (.bool true) ∧ ∃ A d, w' = tp u A d) okL18 (by decide) rfl rfl (by kernel_rfl) (by rfl) (by decide) (fun A d => calls_eq (by kernel_rfl) (hclo A d)) (fun e w h => ⟨_, h.1⟩) fun z u' hR => ?_
  obtain ⟨e, A, d, rfl⟩ := hR
  injection e with e
  subst e
  refine ownU_tp.2 ?_
  refine ownU_quiet (i := 2) (rest := []) (.bool false) rfl (by rfl) rfl (by decide) (fun _ => by kernel_rfl) ?_
  refine ownU_region_end ?_
  refine ownU_cond (c := .tmp 8) (x := .skip) (y := .exit 0) (t := false) (by kernel_rfl) ?_
  refine ownU_exit (k' := [.code (sel [1, 1, 1] bodyRun)]) rfl ?_
  refine ownU_seq (x := sel [1, 1, 1, 0] bodyRun) (y := .ret) ?_
  refine ownU_region (id := 7) (ops := opsOf (sel [1, 1, 1, 0] bodyRun)) ?_
  refine ownU_quiet (i := 0) (rest := [1]) (.int .i64 m) rfl (by rfl) rfl (by decide) (fun _ => by kernel_rfl) ?_
  refine ownU_quiet (i := 1) (rest := []) (.int .i64 m) rfl (by rfl) rfl (by decide) (fun _ => by kernel_rfl) ?_
  refine ownU_region_end ?_
  refine ownU_ret ?_
  refine ownU_leave1 (t := 2) (fn := Try.f42) rfl (by rfl) Try.func42 rfl ?_
  exact ownU_eq (by kernel_rfl) hk
theorem run_exit {main : Bool} {Z : Addr → Prop} {Stop : Goroutine → World → Prop} {w₀ u : World} {own : Nat → Nat} {S : Sch} {sb qb : Nat} {m : Int} {p4 p5 p6 p7 p8 p9 p10 p11 p12 p13 p14 p15 p16 p17 p18 p19 p20 p21 p22 p23 p24 : Value} {b₀ : Frame} {a₀ : Act} {ops : Array Oper} {j : Nat} {rest : List Nat} {k₀ : List Item} {cs : List Frame} (si : SI own S u) (hsb : S.sb = sb) (hqb : S.qb = qb) (hcl : S.closed = false) (hq : S.qs = []) (hk : OwnU Try.prog main Z Stop w₀ (G (b₀.at (a₀.put ((ops[j]?).bind (·.dst)) (.int .i64 m)) (.inRegion ops rest :: k₀)) cs) u) : OwnU Try.prog main Z Stop w₀ (G ((base 42).at ⟨runTs sb m p4 p5 p6 p7 p8 p9 p10 p11 p12 p13 p14 p15 p16 p17 p18 p19 p20 p21 p22 p23 p24, []⟩ (.code (sel [1, 1, 0, 4, 4] bodyRun) :: [.inLoop (sel [1, 1, 0, 4, 4] bodyRun), .inBlock 0, .code (sel [1, 1, 1] bodyRun)])) (b₀.at a₀ (.inRegion ops (j :: rest) :: k₀) :: cs)) u := by
  have hsch := si.sch
  rw [hcl] at hsch
  have hclo := closed_u hsch
  have hpop := pop_nil_u si hq
  have s1 := cellsAt_cell hsch 1 (ptr S.qb) rfl
  rw [hsb] at s1 hclo
  rw [hqb] at s1
  refine ownU_seq (x := sel [1, 1, 0, 4, 4, 0] bodyRun) (y := sel [1, 1, 0, 4, 4, 1] bodyRun) ?_
  refine ownU_seq (x := sel [1, 1, 0, 4, 4, 0, 0] bodyRun) (y := sel [1, 1, 0, 4, 4, 0, 1] bodyRun) ?_
  refine ownU_region (id := 2) (ops := opsOf (sel [1, 1, 0, 4, 4, 0, 0] bodyRun)) ?_
  refine ownU_quiet (i := 0) (rest := [1, 2]) (ptr sb) rfl (by rfl) rfl (by decide) (fun _ => by kernel_rfl) ?_
  refine ownU_callK (i := 1) (rest := [2]) (L := lone18) (R := fun e w' => e = .returned (.bool false) ∧ ∃ A d, w' = tp u A d) okL18 (by decide) rfl rfl (by kernel_rfl) (by rfl) (by decide) (fun A d => calls_eq (by kernel_rfl) (hclo A d)) (fun e w h => ⟨_, h.1⟩) fun z u' hR => ?_
  obtain ⟨e, A, d, rfl⟩ := hR
  injection e with e
  subst e
  refine ownU_tp.2 ?_
  refine ownU_quiet (i := 2) (rest := []) (.bool true) rfl (by rfl) rfl (by decide) (fun _ => by kernel_rfl) ?_
  refine ownU_region_end ?_
  refine ownU_cond (c := .tmp 8) (x := .skip) (y := .exit 0) (t := true) (by kernel_rfl) ?_
  refine ownU_skip ?_
  refine ownU_block (id := 1) (c := sel [1, 1, 0, 4, 4, 1, 4] bodyRun) ?_
  refine ownU_seq (x := sel [1, 1, 0, 4, 4, 1, 4, 0] bodyRun) (y := sel [1, 1, 0, 4, 4, 1, 4, 1] bodyRun) ?_
  refine ownU_region (id := 3) (ops := opsOf (sel [1, 1, 0, 4, 4, 1, 4, 0] bodyRun)) ?_
  refine ownU_quiet (i := 0) (rest := [1, 2, 3, 4, 5, 6, 7, 8, 9]) (ptr sb) rfl (by rfl) rfl (by decide) (fun _ => by kernel_rfl) ?_
  refine ownU_quiet (i := 1) (rest := [2, 3, 4, 5, 6, 7, 8, 9]) (ptr sb) rfl (by rfl) rfl (by decide) (fun _ => by kernel_rfl) ?_
  refine ownU_quiet (i := 2) (rest := [3, 4, 5, 6, 7, 8, 9]) (.pointer (some ⟨sb, 1, none⟩)) rfl (by rfl) rfl (by decide) (fun _ => by kernel_rfl) ?_
  refine ownU_load (i := 3) (rest := [4, 5, 6, 7, 8, 9]) ⟨sb, 1, none⟩ (ptr qb) rfl (by rfl) (by decide) loads_queue rfl (by kernel_rfl) s1 ?_
  refine ownU_callK (i := 4) (rest := [5, 6, 7, 8, 9]) (L := lone18) (R := fun e w' => e = .returned (.tuple #[.int .i64 0, .bool false]) ∧ ∃ A d, w' = tp u A d) okL18 (by decide) rfl rfl (by kernel_rfl) (by rfl) (by decide) (fun A d => calls_eq (args' := #[ptr S.qb]) (by rw [hqb]; kernel_rfl) (hpop A d)) (fun e w h => ⟨_, h.1⟩) fun z u1 hR => ?_
  obtain ⟨e, A, d, rfl⟩ := hR
  injection e with e
  subst e
  refine ownU_tp.2 ?_
  refine ownU_quiet (i := 5) (rest := [6, 7, 8, 9]) (.tuple #[.int .i64 0, .bool false]) rfl (by rfl) rfl (by decide) (fun _ => by kernel_rfl) ?_
  refine ownU_quiet (i := 6) (rest := [7, 8, 9]) (.int .i64 0) rfl (by rfl) rfl (by decide) (fun _ => by kernel_rfl) ?_
  refine ownU_quiet (i := 7) (rest := [8, 9]) (.bool false) rfl (by rfl) rfl (by decide) (fun _ => by kernel_rfl) ?_
  refine ownU_quiet (i := 8) (rest := [9]) (.int .i64 0) rfl (by rfl) rfl (by decide) (fun _ => by kernel_rfl) ?_
  refine ownU_quiet (i := 9) (rest := []) (.bool false) rfl (by rfl) rfl (by decide) (fun _ => by kernel_rfl) ?_
  refine ownU_region_end ?_
  refine ownU_seq (x := sel [1, 1, 0, 4, 4, 1, 4, 1, 0] bodyRun) (y := sel [1, 1, 0, 4, 4, 1, 4, 1, 1] bodyRun) ?_
  refine ownU_seq (x := sel [1, 1, 0, 4, 4, 1, 4, 1, 0, 0] bodyRun) (y := sel [1, 1, 0, 4, 4, 1, 4, 1, 0, 1] bodyRun) ?_
  refine ownU_region (id := 4) (ops := opsOf (sel [1, 1, 0, 4, 4, 1, 4, 1, 0, 0] bodyRun)) ?_
  refine ownU_quiet (i := 0) (rest := [1]) (.bool false) rfl (by rfl) rfl (by decide) (fun _ => by kernel_rfl) ?_
  refine ownU_quiet (i := 1) (rest := []) (.bool true) rfl (by rfl) rfl (by decide) (fun _ => by kernel_rfl) ?_
  refine ownU_region_end ?_
  refine ownU_cond (c := .tmp 18) (x := .exit 0) (y := .skip) (t := true) (by kernel_rfl) ?_
  refine ownU_exit (k' := [.code (sel [1, 1, 1] bodyRun)]) rfl ?_
  refine ownU_seq (x := sel [1, 1, 1, 0] bodyRun) (y := .ret) ?_
  refine ownU_region (id := 7) (ops := opsOf (sel [1, 1, 1, 0] bodyRun)) ?_
  refine ownU_quiet (i := 0) (rest := [1]) (.int .i64 m) rfl (by rfl) rfl (by decide) (fun _ => by kernel_rfl) ?_
  refine ownU_quiet (i := 1) (rest := []) (.int .i64 m) rfl (by rfl) rfl (by decide) (fun _ => by kernel_rfl) ?_
  refine ownU_region_end ?_
  refine ownU_ret ?_
  refine ownU_leave1 (t := 2) (fn := Try.f42) rfl (by rfl) Try.func42 rfl ?_
  exact ownU_eq (by kernel_rfl) hk
/-- Run's frame at its call of turn. -/
def turnTs (sb qb : Nat) (m x : Int) (b : Nat) (p22 p23 p24 : Value) : Array Value := #[ptr sb, undef, .int .i64 0, .int .i64 m, .int .i64 x, .bool true, ptr sb, .bool false, .bool true, .tuple #[.int .i64 x, .bool true], ptr sb, ptr sb, .pointer (some ⟨sb, 1, none⟩), ptr qb, .tuple #[.int .i64 x, .bool true], .int .i64 x, .bool true, .bool true, .bool false, ptr sb, .int .i64 x, ptr b, p22, p23, p24, undef]
noncomputable def turnFr (sb qb : Nat) (m x : Int) (b : Nat) (p22 p23 p24 : Value) : Frame := (base 42).at ⟨turnTs sb qb m x b p22 p23 p24, []⟩ [.inRegion (opsOf (sel [1, 1, 0, 4, 4, 1, 4, 1, 1, 0] bodyRun)) [3], .code (sel [1, 1, 0, 4, 4, 1, 4, 1, 1, 1] bodyRun), .inBlock 1, .inLoop (sel [1, 1, 0, 4, 4] bodyRun), .inBlock 0, .code (sel [1, 1, 1] bodyRun)]
theorem run_turn {main : Bool} {Z : Addr → Prop} {Stop : Goroutine → World → Prop} {w₀ u : World} {own : Nat → Nat} {S : Sch} {sb qb i : Nat} {c : CoR} {m x : Int} {xs : List Int} {p4 p5 p6 p7 p8 p9 p10 p11 p12 p13 p14 p15 p16 p17 p18 p19 p20 p21 p22 p23 p24 : Value} {cs : List Frame} (si : SI own S u) (hlt : ∀ b, own b ≠ 0 → b < u.heap.size) (hsb : S.sb = sb) (hqb : S.qb = qb) (hcl : S.closed = false) (hq : S.qs = x :: xs) (hi : S.cos[i]? = some c) (hx : (i : Int) + 1 = x)
    (hk : ∀ own' u', SI own' { S with fr := S.fr + 1, qs := xs } u' → Stp (· = 2) own own' u u' → OwnU Try.prog main Z Stop w₀ (turnIn c.b (turnFr sb qb m x c.b p22 p23 p24 :: cs)) u') :
    OwnU Try.prog main Z Stop w₀ (G ((base 42).at ⟨runTs sb m p4 p5 p6 p7 p8 p9 p10 p11 p12 p13 p14 p15 p16 p17 p18 p19 p20 p21 p22 p23 p24, []⟩ (.code (sel [1, 1, 0, 4, 4] bodyRun) :: [.inLoop (sel [1, 1, 0, 4, 4] bodyRun), .inBlock 0, .code (sel [1, 1, 1] bodyRun)])) cs) u := by
  have hsch := si.sch
  rw [hcl] at hsch
  have hclo := closed_u hsch
  have hlim := si.lim
  have hil : i < S.cos.length := (List.getElem?_eq_some_iff.1 hi).1
  have hpop := pop_u si hlt hq (by omega) (by omega)
  have s1 := cellsAt_cell hsch 1 (ptr S.qb) rfl
  rw [hsb] at s1 hclo
  rw [hqb] at s1
  refine ownU_seq (x := sel [1, 1, 0, 4, 4, 0] bodyRun) (y := sel [1, 1, 0, 4, 4, 1] bodyRun) ?_
  refine ownU_seq (x := sel [1, 1, 0, 4, 4, 0, 0] bodyRun) (y := sel [1, 1, 0, 4, 4, 0, 1] bodyRun) ?_
  refine ownU_region (id := 2) (ops := opsOf (sel [1, 1, 0, 4, 4, 0, 0] bodyRun)) ?_
  refine ownU_quiet (i := 0) (rest := [1, 2]) (ptr sb) rfl (by rfl) rfl (by decide) (fun _ => by kernel_rfl) ?_
  refine ownU_callK (i := 1) (rest := [2]) (L := lone18) (R := fun e w' => e = .returned (.bool false) ∧ ∃ A d, w' = tp u A d) okL18 (by decide) rfl rfl (by kernel_rfl) (by rfl) (by decide) (fun A d => calls_eq (by kernel_rfl) (hclo A d)) (fun e w h => ⟨_, h.1⟩) fun z u' hR => ?_
  obtain ⟨e, A, d, rfl⟩ := hR
  injection e with e
  subst e
  refine ownU_tp.2 ?_
  refine ownU_quiet (i := 2) (rest := []) (.bool true) rfl (by rfl) rfl (by decide) (fun _ => by kernel_rfl) ?_
  refine ownU_region_end ?_
  refine ownU_cond (c := .tmp 8) (x := .skip) (y := .exit 0) (t := true) (by kernel_rfl) ?_
  refine ownU_skip ?_
  refine ownU_block (id := 1) (c := sel [1, 1, 0, 4, 4, 1, 4] bodyRun) ?_
  refine ownU_seq (x := sel [1, 1, 0, 4, 4, 1, 4, 0] bodyRun) (y := sel [1, 1, 0, 4, 4, 1, 4, 1] bodyRun) ?_
  refine ownU_region (id := 3) (ops := opsOf (sel [1, 1, 0, 4, 4, 1, 4, 0] bodyRun)) ?_
  refine ownU_quiet (i := 0) (rest := [1, 2, 3, 4, 5, 6, 7, 8, 9]) (ptr sb) rfl (by rfl) rfl (by decide) (fun _ => by kernel_rfl) ?_
  refine ownU_quiet (i := 1) (rest := [2, 3, 4, 5, 6, 7, 8, 9]) (ptr sb) rfl (by rfl) rfl (by decide) (fun _ => by kernel_rfl) ?_
  refine ownU_quiet (i := 2) (rest := [3, 4, 5, 6, 7, 8, 9]) (.pointer (some ⟨sb, 1, none⟩)) rfl (by rfl) rfl (by decide) (fun _ => by kernel_rfl) ?_
  refine ownU_load (i := 3) (rest := [4, 5, 6, 7, 8, 9]) ⟨sb, 1, none⟩ (ptr qb) rfl (by rfl) (by decide) loads_queue rfl (by kernel_rfl) s1 ?_
  refine ownU_callK (i := 4) (rest := [5, 6, 7, 8, 9]) (L := lone18) (R := fun e w' => e = .returned (.tuple #[.int .i64 x, .bool true]) ∧ ∃ own', SI own' { S with fr := S.fr + 1, qs := xs } w' ∧ Stp (· = 2) own own' u w') okL18 (by decide) rfl rfl (by kernel_rfl) (by rfl) (by decide) (fun A d => calls_eq (args' := #[ptr S.qb]) (by rw [hqb]; kernel_rfl) (hpop A d)) (fun e w h => ⟨_, h.1⟩) fun z u1 hR => ?_
  obtain ⟨e, own1, si1, st1⟩ := hR
  injection e with e
  subst e
  refine ownU_quiet (i := 5) (rest := [6, 7, 8, 9]) (.tuple #[.int .i64 x, .bool true]) rfl (by rfl) rfl (by decide) (fun _ => by kernel_rfl) ?_
  refine ownU_quiet (i := 6) (rest := [7, 8, 9]) (.int .i64 x) rfl (by rfl) rfl (by decide) (fun _ => by kernel_rfl) ?_
  refine ownU_quiet (i := 7) (rest := [8, 9]) (.bool true) rfl (by rfl) rfl (by decide) (fun _ => by kernel_rfl) ?_
  refine ownU_quiet (i := 8) (rest := [9]) (.int .i64 x) rfl (by rfl) rfl (by decide) (fun _ => by kernel_rfl) ?_
  refine ownU_quiet (i := 9) (rest := []) (.bool true) rfl (by rfl) rfl (by decide) (fun _ => by kernel_rfl) ?_
  refine ownU_region_end ?_
  refine ownU_seq (x := sel [1, 1, 0, 4, 4, 1, 4, 1, 0] bodyRun) (y := sel [1, 1, 0, 4, 4, 1, 4, 1, 1] bodyRun) ?_
  refine ownU_seq (x := sel [1, 1, 0, 4, 4, 1, 4, 1, 0, 0] bodyRun) (y := sel [1, 1, 0, 4, 4, 1, 4, 1, 0, 1] bodyRun) ?_
  refine ownU_region (id := 4) (ops := opsOf (sel [1, 1, 0, 4, 4, 1, 4, 1, 0, 0] bodyRun)) ?_
  refine ownU_quiet (i := 0) (rest := [1]) (.bool true) rfl (by rfl) rfl (by decide) (fun _ => by kernel_rfl) ?_
  refine ownU_quiet (i := 1) (rest := []) (.bool false) rfl (by rfl) rfl (by decide) (fun _ => by kernel_rfl) ?_
  refine ownU_region_end ?_
  refine ownU_cond (c := .tmp 18) (x := .exit 0) (y := .skip) (t := false) (by kernel_rfl) ?_
  refine ownU_skip ?_
  refine ownU_seq (x := sel [1, 1, 0, 4, 4, 1, 4, 1, 1, 0] bodyRun) (y := sel [1, 1, 0, 4, 4, 1, 4, 1, 1, 1] bodyRun) ?_
  have hget := get_u si1 hi
  rw [hx, hsb] at hget
  refine ownU_region (id := 5) (ops := opsOf (sel [1, 1, 0, 4, 4, 1, 4, 1, 1, 0] bodyRun)) ?_
  refine ownU_quiet (i := 0) (rest := [1, 2, 3]) (ptr sb) rfl (by rfl) rfl (by decide) (fun _ => by kernel_rfl) ?_
  refine ownU_quiet (i := 1) (rest := [2, 3]) (.int .i64 x) rfl (by rfl) rfl (by decide) (fun _ => by kernel_rfl) ?_
  refine ownU_callK (i := 2) (rest := [3]) (L := lone18) (R := fun e w' => e = .returned (ptr c.b) ∧ ∃ A d, w' = tp u1 A d) okL18 (by decide) rfl rfl (by kernel_rfl) (by rfl) (by decide) (fun A d => calls_eq (by kernel_rfl) (hget A d)) (fun e w h => ⟨_, h.1⟩) fun z u' hR => ?_
  obtain ⟨e, A, d, rfl⟩ := hR
  injection e with e
  subst e
  refine ownU_tp.2 ?_
  refine ownU_enter (i := 3) (rest := []) (f := 64) rfl (by rfl) (by decide) rfl Try.func64 (by kernel_rfl) rfl ?_
  exact ownU_eq (by kernel_rfl) (hk own1 u1 si1 st1)
theorem run_next {main : Bool} {Z : Addr → Prop} {Stop : Goroutine → World → Prop} {w₀ u : World} {sb qb b : Nat} {m m' x : Int} {p22 p23 p24 : Value} {cs : List Frame} (hm : IntKind.i64.wrap (m + 1) = m')
    (hk : OwnU Try.prog main Z Stop w₀ (G ((base 42).at ⟨runTs sb m' (.int .i64 x) (.bool true) (ptr sb) (.bool false) (.bool true) (.tuple #[.int .i64 x, .bool true]) (ptr sb) (ptr sb) (.pointer (some ⟨sb, 1, none⟩)) (ptr qb) (.tuple #[.int .i64 x, .bool true]) (.int .i64 x) (.bool true) (.bool true) (.bool false) (ptr sb) (.int .i64 x) (ptr b) (.tuple #[]) (.int .i64 m) (.int .i64 m'), []⟩ (.code (sel [1, 1, 0, 4, 4] bodyRun) :: [.inLoop (sel [1, 1, 0, 4, 4] bodyRun), .inBlock 0, .code (sel [1, 1, 1] bodyRun)])) cs) u) :
    OwnU Try.prog main Z Stop w₀ (G ((base 42).at ((⟨turnTs sb qb m x b p22 p23 p24, []⟩ : Act).put (((opsOf (sel [1, 1, 0, 4, 4, 1, 4, 1, 1, 0] bodyRun))[3]?).bind (·.dst)) (.tuple #[])) (.inRegion (opsOf (sel [1, 1, 0, 4, 4, 1, 4, 1, 1, 0] bodyRun)) [] :: [.code (sel [1, 1, 0, 4, 4, 1, 4, 1, 1, 1] bodyRun), .inBlock 1, .inLoop (sel [1, 1, 0, 4, 4] bodyRun), .inBlock 0, .code (sel [1, 1, 1] bodyRun)])) cs) u := by
  refine ownU_region_end ?_
  refine ownU_region (id := 6) (ops := opsOf (sel [1, 1, 0, 4, 4, 1, 4, 1, 1, 1] bodyRun)) ?_
  refine ownU_quiet (i := 0) (rest := [1, 2]) (.int .i64 m) rfl (by rfl) rfl (by decide) (fun _ => by kernel_rfl) ?_
  refine ownU_quiet (i := 1) (rest := [2]) (.int .i64 m') rfl (by rfl) rfl (by decide) (fun _ => by subst hm; kernel_rfl) ?_
  refine ownU_quiet (i := 2) (rest := []) (.int .i64 m') rfl (by rfl) rfl (by decide) (fun _ => by kernel_rfl) ?_
  refine ownU_region_end ?_
  refine ownU_inBlock ?_
  refine ownU_inLoop ?_
  exact ownU_eq (by kernel_rfl) hk
end Go.Proofs.Ytolnmdanlggmhaa

/- Run, told by the crew: one turn after the other. (Printed in part by a program.) -/
namespace Go.Proofs.Ytolnmdanlggmhaa
open Go.RowKit Go.Maps Go.Conc
open Go.ConcN (upd upd_ne upd_same)

set_option maxRecDepth 100000
set_option maxHeartbeats 2000000

/-- g is on its way to the head of Run's loop, m turns made. -/
def AtHead (g : Goroutine) (sb : Nat) (m : Int) (cs : List Frame) : Prop := ∀ {main : Bool} {Z : Addr → Prop} {Stop : Goroutine → World → Prop} {w₀ u : World}, (∀ p4 p5 p6 p7 p8 p9 p10 p11 p12 p13 p14 p15 p16 p17 p18 p19 p20 p21 p22 p23 p24 : Value, OwnU Try.prog main Z Stop w₀ (G ((base 42).at ⟨runTs sb m p4 p5 p6 p7 p8 p9 p10 p11 p12 p13 p14 p15 p16 p17 p18 p19 p20 p21 p22 p23 p24, []⟩ (.code (sel [1, 1, 0, 4, 4] bodyRun) :: [.inLoop (sel [1, 1, 0, 4, 4] bodyRun), .inBlock 0, .code (sel [1, 1, 1] bodyRun)])) cs) u) → OwnU Try.prog main Z Stop w₀ g u
theorem atHead_in {sb : Nat} {cs : List Frame} : AtHead (runIn sb cs) sb 0 cs := fun hk => run_enter (hk _ _ _ _ _ _ _ _ _ _ _ _ _ _ _ _ _ _ _ _ _)
/-- Main's record at its seat in turn. -/
noncomputable def seatOf (c : CoR) (sb sc : Nat) (cs : List Frame) : Goroutine := if c.begun then turnSeat' (.bool true) (.bool false) undef undef undef undef c.b c.ch sb sc cs else turnSeat c.b c.ch sb sc cs
theorem seat_back {main : Bool} {Z : Addr → Prop} {Stop : Goroutine → World → Prop} {w₀ u : World} {c : CoR} {sb sc : Nat} {b₀ : Frame} {a₀ : Act} {ops : Array Oper} {i : Nat} {rest : List Nat} {k : List Item} {cs : List Frame}
    (hk : OwnU Try.prog main Z Stop w₀ (G (b₀.at (a₀.put ((ops[i]?).bind (·.dst)) (.tuple #[])) (.inRegion ops rest :: k)) cs) u) : OwnU Try.prog main Z Stop w₀ (Conc.served (seatOf c sb sc (b₀.at a₀ (.inRegion ops (i :: rest) :: k) :: cs)) (.agg #[])) u := by
  unfold seatOf
  split
  · exact turn_back hk
  · rw [turnSeat_eq]; exact turn_back hk
theorem atHead_seat {c : CoR} {sb sc qb b : Nat} {m m' x : Int} {p22 p23 p24 : Value} {cs : List Frame} (hm : IntKind.i64.wrap (m + 1) = m') : AtHead (Conc.served (seatOf c sb sc (turnFr sb qb m x b p22 p23 p24 :: cs)) (.agg #[])) sb m' cs := fun hk => by
  unfold turnFr
  exact seat_back (run_next hm (hk _ _ _ _ _ _ _ _ _ _ _ _ _ _ _ _ _ _ _ _ _))

section
variable {Post : Value → World → Prop} {E : Env} {own : Nat → Nat} {S : Sch} {ks : List Kid} {FC : List Row} {n : Nat} {Inb : Nat → Option Seat} {w : World} {cs : List Frame} {i : Nat} {c : CoR} {k : Kid} {g : Goroutine} {m m' x : Int} {xs : List Int}

/-- ONE TURN of Run's loop, up to turn. -/
theorem loop_turn (C : CI E 0 own S ks FC n Inb w) (hg : AtHead g S.sb m cs) (hcl : S.closed = false) (hq : S.qs = x :: xs) (hi : S.cos[i]? = some c) (hx : (i : Int) + 1 = x) (hm : IntKind.i64.wrap (m + 1) = m')
    (hturn : ∀ own' Inb' w' g0 fr, AtHead (Conc.served g0 (.agg #[])) S.sb m' cs → g0 = seatOf c S.sb S.sc (fr :: cs) → CI E 0 own' { S with fr := S.fr + 1, qs := xs } ks FC n Inb' w' → OLe own own' → Same6 own w w' → Inb' 0 = some (Seat.one S.sc (.agg #[]) false (· = g0)) → Won Try.prog Post FC n Inb' 0 (turnIn c.b (fr :: cs)) w') :
    Won Try.prog Post FC n Inb 0 g w := by
  refine win_own C.fi.wf (hg fun p4 p5 p6 p7 p8 p9 p10 p11 p12 p13 p14 p15 p16 p17 p18 p19 p20 p21 p22 p23 p24 => run_turn C.siG C.ltG rfl rfl hcl hq hi hx fun own' u' si' st => ownU_stop fun w1 hs hkp => ?_)
  have fi' : FI own' { S with fr := S.fr + 1, qs := xs } FC := by
    have := C.fi.stp (u := guardW FC w) st (fun r hr => by simpa [guardW] using C.rows r hr)
    exact ⟨this.wf, this.rco, this.rsb, this.off⟩
  obtain ⟨a, C1⟩ := C.step (S' := { S with fr := S.fr + 1, qs := xs }) hs hkp st (by omega) si' fi' rfl rfl (fun i c h => ⟨c, h, rfl, rfl⟩)
  have s1 : Same6 own w w1 := same6_step a fi' st (fun t h => by omega) C.lw C.fi
  obtain ⟨kk, hkk⟩ := C1.si.scAt
  refine win_reseat (c := S.sc) (z := .agg #[]) (home := (· = seatOf c S.sb S.sc (turnFr S.sb S.qb m x c.b p22 p23 p24 :: cs))) (fun y s hy hs' => C1.freshSc y s hy hs') hkk ?_
  exact hturn own' _ w1 _ _ (atHead_seat hm) rfl (C1.seat (.agg #[]) _) st.le s1 (upd_same _ _ _)

/-- THE LOOP ENDS: nobody is ready, or the scheduler is closed. -/
theorem loop_end {b₀ : Frame} {a₀ : Act} {ops : Array Oper} {j : Nat} {rest : List Nat} {k₀ : List Item} (C : CI E 0 own S ks FC n Inb w) (hg : AtHead g S.sb m (b₀.at a₀ (.inRegion ops (j :: rest) :: k₀) :: cs)) (hq : S.closed = true ∨ S.qs = [])
    (next : ∀ w', CI E 0 own S ks FC n Inb w' → Same6 own w w' → Won Try.prog Post FC n Inb 0 (G (b₀.at (a₀.put ((ops[j]?).bind (·.dst)) (.int .i64 m)) (.inRegion ops rest :: k₀)) cs) w') : Won Try.prog Post FC n Inb 0 g w := by
  have key : OwnU Try.prog (0 == 0) (ZF FC) (fun g' w' => Won Try.prog Post FC n Inb 0 g' w') w (G (b₀.at (a₀.put ((ops[j]?).bind (·.dst)) (.int .i64 m)) (.inRegion ops rest :: k₀)) cs) (guardW FC w) := ownU_stop fun w1 hs hkp => by
    obtain ⟨a, C1⟩ := C.step hs hkp (Stp.refl C.ltG (T := fun _ => False)) (fun h => h) C.siG C.fi rfl rfl (fun i c h => ⟨c, h, rfl, rfl⟩)
    exact next w1 C1 (same6_step a C.fi (Stp.refl C.ltG (T := fun _ => False)) (fun _ h => h.elim) C.lw C.fi)
  cases hcl : S.closed with
  | true => exact win_own C.fi.wf (hg fun p4 p5 p6 p7 p8 p9 p10 p11 p12 p13 p14 p15 p16 p17 p18 p19 p20 p21 p22 p23 p24 => by
      have h := C.siG.sch
      rw [hcl] at h
      exact run_exit_closed h key)
  | false =>
    have hq' : S.qs = [] := by rcases hq with e | e; · rw [hcl] at e; cases e
                               · exact e
    exact win_own C.fi.wf (hg fun p4 p5 p6 p7 p8 p9 p10 p11 p12 p13 p14 p15 p16 p17 p18 p19 p20 p21 p22 p23 p24 => run_exit C.siG rfl rfl hcl hq' key)

/-- A turn, of whoever is ready. -/
theorem turn_any (C : CI E 0 own S ks FC n Inb w) (hi : S.cos[i]? = some c) (hk : ks[i]? = some k) (ht : k.tag ≤ 1) {g0 : Goroutine} (hg0 : g0 = seatOf c S.sb S.sc cs) (hI0 : Inb 0 = some (Seat.one S.sc (.agg #[]) false (· = g0)))
    (hA : k.tag = 0 → ∀ FC' Inb' nb w', CI E n own { S with cos := S.cos.set i { c with begun := true } } (ks.set i ⟨2, n, default⟩) FC' (n + 1) Inb' w' → Inb' 0 = Inb 0 → (⟨nb, 0, [ptr c.b]⟩ : Row) ∈ FC' → (∀ r ∈ FC, r ∈ FC') → Same6 own w w' →
      Won Try.prog Post FC' (n + 1) Inb' n (Conc.served (runSeat c.b c.ch nb) (.agg #[])) w')
    (hB : k.tag = 1 → ∀ w', CI E k.j own S (ks.set i ⟨2, k.j, k.g⟩) FC n Inb w' → Same6 own w w' → Won Try.prog Post FC n Inb k.j (Conc.served k.g (.agg #[])) w') : Won Try.prog Post FC n Inb 0 (turnIn c.b cs) w := by
  have hko := C.kid i c k hi hk
  rcases Nat.lt_or_ge k.tag 1 with h | h
  · have h0 : k.tag = 0 := by omega
    have hb := hko.2.1 h0
    refine turn_unborn C hi hk h0 ?_ (hA h0)
    rw [hI0, hg0]
    unfold seatOf
    rw [hb]
    rfl
  · have h1 : k.tag = 1 := by omega
    have hb := (hko.2.2.1 h1).1
    refine turn_begun C hi hk h1 ?_ (hB h1)
    rw [hI0, hg0]
    unfold seatOf
    rw [hb]
    rfl
end
end Go.Proofs.Ytolnmdanlggmhaa

/- Close, in company: its pieces. (Printed by gen_close.py.) -/
namespace Go.Proofs.Ytolnmdanlggmhaa
open Go.RowKit Go.Maps Go.Conc
open Go.ConcN (upd upd_ne upd_same)

set_option maxRecDepth 100000
set_option maxHeartbeats 2000000

noncomputable abbrev bodyCl : Code := Try.f36.body.getD .skip
def clB (κ : CallKind) : Frame := { (default : Frame) with fn := 36, kind := κ }

/-- Close, entered (called, or deferred); at the head of its loop: index i, m ended. -/
noncomputable def closeIn (κ : CallKind) (sb : Nat) (cs : List Frame) : Goroutine := G ((clB κ).at ⟨List.toArray (ptr sb :: undef :: undef :: undef :: undef :: undef :: undef :: undef :: undef :: undef :: undef :: undef :: undef :: undef :: undef :: undef :: undef :: undef :: undef :: undef :: undef :: undef :: undef :: undef :: undef :: undef :: undef :: undef :: undef :: undef :: undef :: undef :: undef :: undef :: undef :: undef :: undef :: undef :: undef :: undef :: undef :: undef :: undef :: undef :: undef :: []), []⟩ [.code bodyCl]) cs
def clTs (sb : Nat) (v : Value) (len i m : Int) (p1 p4 p5 p17 p18 p19 p20 p21 p22 p23 p24 p25 p26 p27 p28 p29 p30 p31 p32 p33 p34 p35 p36 p37 p38 p39 p40 p41 p42 p43 p44 : Value) : Array Value := List.toArray (ptr sb :: p1 :: .int .i64 0 :: .int .i64 m :: p4 :: p5 :: ptr sb :: .bool false :: ptr sb :: ptr sb :: .pointer (some ⟨sb, 3, none⟩) :: ptr sb :: ptr sb :: .pointer (some ⟨sb, 0, none⟩) :: v :: .int .i64 len :: .int .i64 i :: p17 :: p18 :: p19 :: p20 :: p21 :: p22 :: p23 :: p24 :: p25 :: p26 :: p27 :: p28 :: p29 :: p30 :: p31 :: p32 :: p33 :: p34 :: p35 :: p36 :: p37 :: p38 :: p39 :: p40 :: p41 :: p42 :: p43 :: p44 :: [])
/-- g is on its way to the head of Close's loop. -/
def AtClose (κ : CallKind) (g : Goroutine) (sb : Nat) (v : Value) (len i m : Int) (cs : List Frame) : Prop := ∀ {main : Bool} {Z : Addr → Prop} {Stop : Goroutine → World → Prop} {w₀ u : World}, (∀ p1 p4 p5 p17 p18 p19 p20 p21 p22 p23 p24 p25 p26 p27 p28 p29 p30 p31 p32 p33 p34 p35 p36 p37 p38 p39 p40 p41 p42 p43 p44 : Value, OwnU Try.prog main Z Stop w₀ (G ((clB κ).at ⟨clTs sb v len i m p1 p4 p5 p17 p18 p19 p20 p21 p22 p23 p24 p25 p26 p27 p28 p29 p30 p31 p32 p33 p34 p35 p36 p37 p38 p39 p40 p41 p42 p43 p44, []⟩ (.code (sel [1, 1, 1, 1, 0, 1, 4, 4] bodyCl) :: [.inLoop (sel [1, 1, 1, 1, 0, 1, 4, 4] bodyCl), .inBlock 0, .code (sel [1, 1, 1, 1, 1] bodyCl)])) cs) u) → OwnU Try.prog main Z Stop w₀ g u
/-- Close leaves, having ended m. -/
def ClOut (κ : CallKind) (m : Int) (cs : List Frame) (g : Goroutine) : Prop := ∃ ts todo, ts.getD 2 undef = .int .i64 m ∧ g = G { (clB κ).at ⟨ts, []⟩ todo with mode := .returning } cs
theorem clOut_normal {main : Bool} {Z : Addr → Prop} {Stop : Goroutine → World → Prop} {w₀ u : World} {m : Int} {g : Goroutine} {b₀ : Frame} {a₀ : Act} {ops : Array Oper} {j : Nat} {rest : List Nat} {k₀ : List Item} {cs : List Frame} (h : ClOut .normal m (b₀.at a₀ (.inRegion ops (j :: rest) :: k₀) :: cs) g)
    (hk : OwnU Try.prog main Z Stop w₀ (G (b₀.at (a₀.put ((ops[j]?).bind (·.dst)) (.int .i64 m)) (.inRegion ops rest :: k₀)) cs) u) : OwnU Try.prog main Z Stop w₀ g u := by
  obtain ⟨ts, todo, h2, rfl⟩ := h
  refine ownU_leave1 (t := 2) (fn := Try.f36) rfl rfl Try.func36 rfl ?_
  rw [show (⟨ts, []⟩ : Act).tmps.getD 2 undef = .int .i64 m from h2]
  exact hk
theorem clOut_deferred {main : Bool} {Z : Addr → Prop} {Stop : Goroutine → World → Prop} {w₀ u : World} {m : Int} {g : Goroutine} {fr : Frame} {cs : List Frame} (h : ClOut .deferred m (fr :: cs) g) (hm : fr.mode = .returning)
    (hk : OwnU Try.prog main Z Stop w₀ (G fr cs) u) : OwnU Try.prog main Z Stop w₀ g u := by
  obtain ⟨ts, todo, h2, rfl⟩ := h
  refine ownU_still rfl (fun w => ?_) hk
  have hf : Try.prog.funcs[36]? = some Try.f36 := Try.func36
  have hr : (results Try.f36 ts).run Try.prog w = .ok (ts.getD 2 undef) w := results_tmp (t := 2) rfl ts Try.prog w
  have he : (results Try.f36 ts).events Try.prog w #[] = #[] := events_results_tmp (t := 2) rfl _ _
  rw [stepG_unw (by simp)]
  simp [unwind, Frame.at, clB, hf, hr, he, doReturn, hm, seen_none, GStep.after, G]

theorem close_again {main : Bool} {Z : Addr → Prop} {Stop : Goroutine → World → Prop} {w₀ u : World} {κ : CallKind} {cs : List Frame} (hκ : κ ≠ .early) {sb qb sc : Nat} {v : Value} (h : SchAt u sb qb sc v true) (hk : ∀ g, ClOut κ 0 cs g → OwnU Try.prog main Z Stop w₀ g u) : OwnU Try.prog main Z Stop w₀ (closeIn κ sb cs) u := by
  have hclo := closed_u h
  unfold closeIn
  refine ownU_seq (x := sel [0] bodyCl) (y := sel [1] bodyCl) ?_
  refine ownU_region (id := 0) (ops := opsOf (sel [0] bodyCl)) ?_
  refine ownU_quiet (i := 0) (rest := []) (.int .i64 0) rfl (by rfl) rfl hκ (fun _ => by kernel_rfl) ?_
  refine ownU_region_end ?_
  refine ownU_seq (x := sel [1, 0] bodyCl) (y := sel [1, 1] bodyCl) ?_
  refine ownU_seq (x := sel [1, 0, 0] bodyCl) (y := sel [1, 0, 1] bodyCl) ?_
  refine ownU_region (id := 1) (ops := opsOf (sel [1, 0, 0] bodyCl)) ?_
  refine ownU_quiet (i := 0) (rest := [1]) (ptr sb) rfl (by rfl) rfl hκ (fun _ => by kernel_rfl) ?_
  refine ownU_callK (i := 1) (rest := []) (L := lone18) (R := fun e w' => e = .returned (.bool true) ∧ ∃ A d, w' = tp u A d) okL18 (by decide) rfl rfl (by kernel_rfl) (by rfl) hκ (fun A d => calls_eq (by kernel_rfl) (hclo A d)) (fun e w h => ⟨_, h.1⟩) fun z u' hR => ?_
  obtain ⟨e, A, d, rfl⟩ := hR
  injection e with e
  subst e
  refine ownU_tp.2 ?_
  refine ownU_region_end ?_
  refine ownU_cond (c := .tmp 7) (x := sel [1, 0, 1, 2] bodyCl) (y := .skip) (t := true) (by kernel_rfl) ?_
  refine ownU_seq (x := sel [1, 0, 1, 2, 0] bodyCl) (y := .ret) ?_
  refine ownU_region (id := 2) (ops := opsOf (sel [1, 0, 1, 2, 0] bodyCl)) ?_
  refine ownU_quiet (i := 0) (rest := []) (.int .i64 0) rfl (by rfl) rfl hκ (fun _ => by kernel_rfl) ?_
  refine ownU_region_end ?_
  refine ownU_lit (List.toArray (ptr sb :: undef :: .int .i64 0 :: undef :: undef :: undef :: ptr sb :: .bool true :: undef :: undef :: undef :: undef :: undef :: undef :: undef :: undef :: undef :: undef :: undef :: undef :: undef :: undef :: undef :: undef :: undef :: undef :: undef :: undef :: undef :: undef :: undef :: undef :: undef :: undef :: undef :: undef :: undef :: undef :: undef :: undef :: undef :: undef :: undef :: undef :: undef :: [])) [] (by kernel_rfl) (by kernel_rfl) ?_
  refine ownU_ret ?_
  exact hk _ ⟨_, _, rfl, rfl⟩
theorem close_enter {main : Bool} {Z : Addr → Prop} {Stop : Goroutine → World → Prop} {w₀ u : World} {κ : CallKind} {cs : List Frame} (hκ : κ ≠ .early) {sb qb sc n0 cap : Nat} {A0 : Option Addr} {v : Value} {len : Int} (h : SchAt u sb qb sc v false) (hv : Value.slice A0 n0 cap = v) (hln : (n0 : Int) = len)
    (hk : ∀ g, AtClose κ g sb v len 0 0 cs → OwnU Try.prog main Z Stop w₀ g (u.setCell ⟨sb, 3, none⟩ (.bool true))) : OwnU Try.prog main Z Stop w₀ (closeIn κ sb cs) u := by
  have hclo := closed_u h
  have s0 := cellsAt_cell h 0 v rfl
  have s3 := cellsAt_cell h 3 (.bool false) rfl
  have f3 := cellsAt_free h 3 (by omega)
  have hk' := hk (G ((clB κ).at ⟨clTs sb v len 0 0 undef undef undef undef undef undef undef undef undef undef undef undef undef undef undef undef undef undef undef undef undef undef undef undef undef undef undef undef undef undef undef, []⟩ (.code (sel [1, 1, 1, 1, 0, 1, 4, 4] bodyCl) :: [.inLoop (sel [1, 1, 1, 1, 0, 1, 4, 4] bodyCl), .inBlock 0, .code (sel [1, 1, 1, 1, 1] bodyCl)])) cs) (fun hh => hh undef undef undef undef undef undef undef undef undef undef undef undef undef undef undef undef undef undef undef undef undef undef undef undef undef undef undef undef undef undef undef)
  clear h hk
  unfold closeIn
  refine ownU_seq (x := sel [0] bodyCl) (y := sel [1] bodyCl) ?_
  refine ownU_region (id := 0) (ops := opsOf (sel [0] bodyCl)) ?_
  refine ownU_quiet (i := 0) (rest := []) (.int .i64 0) rfl (by rfl) rfl hκ (fun _ => by kernel_rfl) ?_
  refine ownU_region_end ?_
  refine ownU_seq (x := sel [1, 0] bodyCl) (y := sel [1, 1] bodyCl) ?_
  refine ownU_seq (x := sel [1, 0, 0] bodyCl) (y := sel [1, 0, 1] bodyCl) ?_
  refine ownU_region (id := 1) (ops := opsOf (sel [1, 0, 0] bodyCl)) ?_
  refine ownU_quiet (i := 0) (rest := [1]) (ptr sb) rfl (by rfl) rfl hκ (fun _ => by kernel_rfl) ?_
  refine ownU_callK (i := 1) (rest := []) (L := lone18) (R := fun e w' => e = .returned (.bool false) ∧ ∃ A d, w' = tp u A d) okL18 (by decide) rfl rfl (by kernel_rfl) (by rfl) hκ (fun A d => calls_eq (by kernel_rfl) (hclo A d)) (fun e w h => ⟨_, h.1⟩) fun z u' hR => ?_
  obtain ⟨e, A, d, rfl⟩ := hR
  injection e with e
  subst e
  refine ownU_tp.2 ?_
  refine ownU_region_end ?_
  refine ownU_cond (c := .tmp 7) (x := sel [1, 0, 1, 2] bodyCl) (y := .skip) (t := false) (by kernel_rfl) ?_
  refine ownU_skip ?_
  refine ownU_seq (x := sel [1, 1, 0] bodyCl) (y := sel [1, 1, 1] bodyCl) ?_
  refine ownU_region (id := 3) (ops := opsOf (sel [1, 1, 0] bodyCl)) ?_
  refine ownU_quiet (i := 0) (rest := [1, 2, 3]) (ptr sb) rfl (by rfl) rfl hκ (fun _ => by kernel_rfl) ?_
  refine ownU_quiet (i := 1) (rest := [2, 3]) (ptr sb) rfl (by rfl) rfl hκ (fun _ => by kernel_rfl) ?_
  refine ownU_quiet (i := 2) (rest := [3]) (.pointer (some ⟨sb, 3, none⟩)) rfl (by rfl) rfl hκ (fun _ => by kernel_rfl) ?_
  refine ownU_store (i := 3) (rest := []) ⟨sb, 3, none⟩ (.bool true) rfl (by rfl) rfl hκ (fun w e1 e2 => store_op (stores_bool _) rfl (by kernel_rfl) (by kernel_rfl) (e1.trans s3) (e2.trans f3)) ?_
  have s0 : (u.setCell ⟨sb, 3, none⟩ (.bool true)).cell? ⟨sb, 0, none⟩ = some v := by rw [setCell_cell_ne _ _ _ _ rfl (by simp)]; exact s0
  generalize u.setCell ⟨sb, 3, none⟩ (.bool true) = u1 at *
  refine ownU_region_end ?_
  refine ownU_seq (x := sel [1, 1, 1, 0] bodyCl) (y := sel [1, 1, 1, 1] bodyCl) ?_
  refine ownU_region (id := 4) (ops := opsOf (sel [1, 1, 1, 0] bodyCl)) ?_
  refine ownU_quiet (i := 0) (rest := []) (.int .i64 0) rfl (by rfl) rfl hκ (fun _ => by kernel_rfl) ?_
  refine ownU_region_end ?_
  refine ownU_seq (x := sel [1, 1, 1, 1, 0] bodyCl) (y := sel [1, 1, 1, 1, 1] bodyCl) ?_
  refine ownU_seq (x := sel [1, 1, 1, 1, 0, 0] bodyCl) (y := sel [1, 1, 1, 1, 0, 1] bodyCl) ?_
  refine ownU_region (id := 5) (ops := opsOf (sel [1, 1, 1, 1, 0, 0] bodyCl)) ?_
  refine ownU_quiet (i := 0) (rest := [1, 2, 3, 4, 5]) (ptr sb) rfl (by rfl) rfl hκ (fun _ => by kernel_rfl) ?_
  refine ownU_quiet (i := 1) (rest := [2, 3, 4, 5]) (ptr sb) rfl (by rfl) rfl hκ (fun _ => by kernel_rfl) ?_
  refine ownU_quiet (i := 2) (rest := [3, 4, 5]) (.pointer (some ⟨sb, 0, none⟩)) rfl (by rfl) rfl hκ (fun _ => by kernel_rfl) ?_
  refine ownU_load (i := 3) (rest := [4, 5]) ⟨sb, 0, none⟩ (v) rfl (by rfl) hκ loads_cos rfl (by kernel_rfl) s0 ?_
  refine ownU_quiet (i := 4) (rest := [5]) (.int .i64 len) rfl (by rfl) rfl hκ (fun _ => by subst hv; subst hln; kernel_rfl) ?_
  refine ownU_quiet (i := 5) (rest := []) (.int .i64 0) rfl (by rfl) rfl hκ (fun _ => by kernel_rfl) ?_
  refine ownU_region_end ?_
  refine ownU_block (id := 0) (c := sel [1, 1, 1, 1, 0, 1, 4] bodyCl) ?_
  refine ownU_loop (c := sel [1, 1, 1, 1, 0, 1, 4, 4] bodyCl) ?_
  exact ownU_eq (by kernel_rfl) hk'
theorem lss_v {a : Act} {o : Oper} {x y : Operand} {t t' : TypeId} {p q : Int} {r : Bool} {w : World} (ho : o.op = .binOp .lss t x y t') (hx : a.eval x = .int .i64 p) (hy : a.eval y = .int .i64 q) (hr : decide (p < q) = r) : (execOp a.eval o).run Try.prog w = .ok (.value (.bool r)) w := by
  unfold execOp
  simp only [ho, hx, hy]
  simp [go_sem, ← hr]
theorem close_exit {main : Bool} {Z : Addr → Prop} {Stop : Goroutine → World → Prop} {w₀ u : World} {κ : CallKind} {cs : List Frame} (hκ : κ ≠ .early) {sb : Nat} {v : Value} {len i m : Int} {p1 p4 p5 p17 p18 p19 p20 p21 p22 p23 p24 p25 p26 p27 p28 p29 p30 p31 p32 p33 p34 p35 p36 p37 p38 p39 p40 p41 p42 p43 p44 : Value} (hi : len ≤ i) (hk : ∀ g, ClOut κ m cs g → OwnU Try.prog main Z Stop w₀ g u) : OwnU Try.prog main Z Stop w₀ (G ((clB κ).at ⟨clTs sb v len i m p1 p4 p5 p17 p18 p19 p20 p21 p22 p23 p24 p25 p26 p27 p28 p29 p30 p31 p32 p33 p34 p35 p36 p37 p38 p39 p40 p41 p42 p43 p44, []⟩ (.code (sel [1, 1, 1, 1, 0, 1, 4, 4] bodyCl) :: [.inLoop (sel [1, 1, 1, 1, 0, 1, 4, 4] bodyCl), .inBlock 0, .code (sel [1, 1, 1, 1, 1] bodyCl)])) cs) u := by
  refine ownU_seq (x := sel [1, 1, 1, 1, 0, 1, 4, 4, 0] bodyCl) (y := sel [1, 1, 1, 1, 0, 1, 4, 4, 1] bodyCl) ?_
  refine ownU_region (id := 6) (ops := opsOf (sel [1, 1, 1, 1, 0, 1, 4, 4, 0] bodyCl)) ?_
  refine ownU_quiet (i := 0) (rest := []) (.bool false) rfl (by rfl) rfl hκ (fun _ => lss_v (p := i) (q := len) rfl (by kernel_rfl) (by kernel_rfl) (by simp; omega)) ?_
  refine ownU_region_end ?_
  refine ownU_seq (x := sel [1, 1, 1, 1, 0, 1, 4, 4, 1, 0] bodyCl) (y := sel [1, 1, 1, 1, 0, 1, 4, 4, 1, 1] bodyCl) ?_
  refine ownU_cond (c := .tmp 17) (x := .skip) (y := .exit 0) (t := false) (by kernel_rfl) ?_
  refine ownU_exit (k' := [.code (sel [1, 1, 1, 1, 1] bodyCl)]) rfl ?_
  refine ownU_seq (x := sel [1, 1, 1, 1, 1, 0] bodyCl) (y := .ret) ?_
  refine ownU_region (id := 14) (ops := opsOf (sel [1, 1, 1, 1, 1, 0] bodyCl)) ?_
  refine ownU_quiet (i := 0) (rest := [1]) (.int .i64 m) rfl (by rfl) rfl hκ (fun _ => by kernel_rfl) ?_
  refine ownU_quiet (i := 1) (rest := []) (.int .i64 m) rfl (by rfl) rfl hκ (fun _ => by kernel_rfl) ?_
  refine ownU_region_end ?_
  refine ownU_lit (List.toArray (ptr sb :: p1 :: .int .i64 m :: .int .i64 m :: p4 :: p5 :: ptr sb :: .bool false :: ptr sb :: ptr sb :: .pointer (some ⟨sb, 3, none⟩) :: ptr sb :: ptr sb :: .pointer (some ⟨sb, 0, none⟩) :: v :: .int .i64 len :: .int .i64 i :: .bool false :: p18 :: p19 :: p20 :: p21 :: p22 :: p23 :: p24 :: p25 :: p26 :: p27 :: p28 :: p29 :: p30 :: p31 :: p32 :: p33 :: p34 :: p35 :: p36 :: p37 :: p38 :: p39 :: p40 :: p41 :: p42 :: p43 :: .int .i64 m :: [])) [] (by kernel_rfl) (by kernel_rfl) ?_
  refine ownU_ret ?_
  exact hk _ ⟨_, _, rfl, rfl⟩
theorem neq_v {a : Act} {o : Oper} {x y : Operand} {p q : Int} {r : Bool} {w : World} (ho : o.op = .binOp .neq 3 x y 3) (hx : a.eval x = .int .i64 p) (hy : a.eval y = .int .i64 q) (hr : decide (p ≠ q) = r) : (execOp a.eval o).run Try.prog w = .ok (.value (.bool r)) w := by
  unfold execOp
  simp only [ho, hx, hy]
  simp [go_sem, ← hr]
  try (by_cases h : p = q <;> simp [h])
theorem close_skip {main : Bool} {Z : Addr → Prop} {Stop : Goroutine → World → Prop} {w₀ u : World} {κ : CallKind} {cs : List Frame} (hκ : κ ≠ .early) {sb cb : Nat} {v : Value} {len i i' m st : Int} {ad : Addr} {p1 p4 p5 p17 p18 p19 p20 p21 p22 p23 p24 p25 p26 p27 p28 p29 p30 p31 p32 p33 p34 p35 p36 p37 p38 p39 p40 p41 p42 p43 p44 : Value} (hi : i < len) (hi' : IntKind.i64.wrap (i + 1) = i') (hidx : ∀ {a : Act} {o : Oper} {x y : Operand} (w : World), o.op = .indexAddr 88 x y → a.eval x = v → a.eval y = .int .i64 i → (execOp a.eval o).run Try.prog w = .ok (.value (.pointer (some ad))) w) (hcell : u.cell? ad = some (ptr cb)) (c5 : u.cell? ⟨cb, 5, none⟩ = some (.int .i64 st)) (hst : st ≠ 1 ∧ st ≠ 2)
    (hk : ∀ g, AtClose κ g sb v len i' m cs → OwnU Try.prog main Z Stop w₀ g u) : OwnU Try.prog main Z Stop w₀ (G ((clB κ).at ⟨clTs sb v len i m p1 p4 p5 p17 p18 p19 p20 p21 p22 p23 p24 p25 p26 p27 p28 p29 p30 p31 p32 p33 p34 p35 p36 p37 p38 p39 p40 p41 p42 p43 p44, []⟩ (.code (sel [1, 1, 1, 1, 0, 1, 4, 4] bodyCl) :: [.inLoop (sel [1, 1, 1, 1, 0, 1, 4, 4] bodyCl), .inBlock 0, .code (sel [1, 1, 1, 1, 1] bodyCl)])) cs) u := by
  refine ownU_seq (x := sel [1, 1, 1, 1, 0, 1, 4, 4, 0] bodyCl) (y := sel [1, 1, 1, 1, 0, 1, 4, 4, 1] bodyCl) ?_
  refine ownU_region (id := 6) (ops := opsOf (sel [1, 1, 1, 1, 0, 1, 4, 4, 0] bodyCl)) ?_
  refine ownU_quiet (i := 0) (rest := []) (.bool true) rfl (by rfl) rfl hκ (fun _ => lss_v (p := i) (q := len) rfl (by kernel_rfl) (by kernel_rfl) (by simp; omega)) ?_
  refine ownU_region_end ?_
  refine ownU_seq (x := sel [1, 1, 1, 1, 0, 1, 4, 4, 1, 0] bodyCl) (y := sel [1, 1, 1, 1, 0, 1, 4, 4, 1, 1] bodyCl) ?_
  refine ownU_cond (c := .tmp 17) (x := .skip) (y := .exit 0) (t := true) (by kernel_rfl) ?_
  refine ownU_skip ?_
  refine ownU_seq (x := sel [1, 1, 1, 1, 0, 1, 4, 4, 1, 1, 0] bodyCl) (y := sel [1, 1, 1, 1, 0, 1, 4, 4, 1, 1, 1] bodyCl) ?_
  refine ownU_block (id := 1) (c := sel [1, 1, 1, 1, 0, 1, 4, 4, 1, 1, 0, 4] bodyCl) ?_
  refine ownU_seq (x := sel [1, 1, 1, 1, 0, 1, 4, 4, 1, 1, 0, 4, 0] bodyCl) (y := sel [1, 1, 1, 1, 0, 1, 4, 4, 1, 1, 0, 4, 1] bodyCl) ?_
  refine ownU_region (id := 7) (ops := opsOf (sel [1, 1, 1, 1, 0, 1, 4, 4, 1, 1, 0, 4, 0] bodyCl)) ?_
  refine ownU_quiet (i := 0) (rest := [1, 2]) (.pointer (some ad)) rfl (by rfl) rfl hκ (fun w => hidx w rfl (by kernel_rfl) (by kernel_rfl)) ?_
  refine ownU_load (i := 1) (rest := [2]) ad (ptr cb) rfl (by rfl) hκ loads_co rfl (by kernel_rfl) hcell ?_
  refine ownU_quiet (i := 2) (rest := []) (ptr cb) rfl (by rfl) rfl hκ (fun _ => by kernel_rfl) ?_
  refine ownU_region_end ?_
  refine ownU_seq (x := sel [1, 1, 1, 1, 0, 1, 4, 4, 1, 1, 0, 4, 1, 0] bodyCl) (y := sel [1, 1, 1, 1, 0, 1, 4, 4, 1, 1, 0, 4, 1, 1] bodyCl) ?_
  refine ownU_seq (x := sel [1, 1, 1, 1, 0, 1, 4, 4, 1, 1, 0, 4, 1, 0, 0] bodyCl) (y := sel [1, 1, 1, 1, 0, 1, 4, 4, 1, 1, 0, 4, 1, 0, 1] bodyCl) ?_
  refine ownU_region (id := 8) (ops := opsOf (sel [1, 1, 1, 1, 0, 1, 4, 4, 1, 1, 0, 4, 1, 0, 0] bodyCl)) ?_
  refine ownU_quiet (i := 0) (rest := [1, 2, 3, 4, 5, 6, 7, 8, 9, 10, 11]) (ptr cb) rfl (by rfl) rfl hκ (fun _ => by kernel_rfl) ?_
  refine ownU_quiet (i := 1) (rest := [2, 3, 4, 5, 6, 7, 8, 9, 10, 11]) (ptr cb) rfl (by rfl) rfl hκ (fun _ => by kernel_rfl) ?_
  refine ownU_quiet (i := 2) (rest := [3, 4, 5, 6, 7, 8, 9, 10, 11]) (.pointer (some ⟨cb, 5, none⟩)) rfl (by rfl) rfl hκ (fun _ => by kernel_rfl) ?_
  refine ownU_load (i := 3) (rest := [4, 5, 6, 7, 8, 9, 10, 11]) ⟨cb, 5, none⟩ (.int .i64 st) rfl (by rfl) hκ loads_int rfl (by kernel_rfl) c5 ?_
  refine ownU_quiet (i := 4) (rest := [5, 6, 7, 8, 9, 10, 11]) (.bool true) rfl (by rfl) rfl hκ (fun _ => neq_v (p := st) (q := 1) rfl (by kernel_rfl) (by kernel_rfl) (decide_eq_true hst.1)) ?_
  refine ownU_quiet (i := 5) (rest := [6, 7, 8, 9, 10, 11]) (.bool true) rfl (by rfl) rfl hκ (fun _ => by kernel_rfl) ?_
  refine ownU_quiet (i := 6) (rest := [7, 8, 9, 10, 11]) (ptr cb) rfl (by kernel_rfl) rfl hκ (fun _ => by kernel_rfl) ?_
  refine ownU_quiet (i := 7) (rest := [8, 9, 10, 11]) (ptr cb) rfl (by kernel_rfl) rfl hκ (fun _ => by kernel_rfl) ?_
  refine ownU_quiet (i := 8) (rest := [9, 10, 11]) (.pointer (some ⟨cb, 5, none⟩)) rfl (by kernel_rfl) rfl hκ (fun _ => by kernel_rfl) ?_
  refine ownU_load (i := 9) (rest := [10, 11]) ⟨cb, 5, none⟩ (.int .i64 st) rfl (by kernel_rfl) hκ loads_int rfl (by kernel_rfl) c5 ?_
  refine ownU_quiet (i := 10) (rest := [11]) (.bool true) rfl (by kernel_rfl) rfl hκ (fun _ => neq_v (p := st) (q := 2) rfl (by kernel_rfl) (by kernel_rfl) (decide_eq_true hst.2)) ?_
  refine ownU_quiet (i := 11) (rest := []) (.bool true) rfl (by rfl) rfl hκ (fun _ => by kernel_rfl) ?_
  refine ownU_region_end ?_
  refine ownU_cond (c := .tmp 31) (x := .exit 1) (y := .skip) (t := true) (by kernel_rfl) ?_
  refine ownU_exit (k' := [.code (sel [1, 1, 1, 1, 0, 1, 4, 4, 1, 1, 1] bodyCl), .inLoop (sel [1, 1, 1, 1, 0, 1, 4, 4] bodyCl), .inBlock 0, .code (sel [1, 1, 1, 1, 1] bodyCl)]) rfl ?_
  refine ownU_region (id := 13) (ops := opsOf (sel [1, 1, 1, 1, 0, 1, 4, 4, 1, 1, 1] bodyCl)) ?_
  refine ownU_quiet (i := 0) (rest := [1]) (.int .i64 i') rfl (by rfl) rfl hκ (fun _ => by subst hi'; kernel_rfl) ?_
  refine ownU_quiet (i := 1) (rest := []) (.int .i64 i') rfl (by rfl) rfl hκ (fun _ => by kernel_rfl) ?_
  refine ownU_region_end ?_
  refine ownU_inLoop ?_
  exact ownU_eq (by kernel_rfl) (hk (G ((clB κ).at ⟨clTs sb v len i' m p1 p4 (ptr cb) (.bool true) (.pointer (some ad)) (ptr cb) (ptr cb) (ptr cb) (.pointer (some ⟨cb, 5, none⟩)) (.int .i64 st) (.bool true) (.bool true) (ptr cb) (ptr cb) (.pointer (some ⟨cb, 5, none⟩)) (.int .i64 st) (.bool true) (.bool true) p32 p33 p34 p35 p36 p37 p38 p39 p40 p41 p42 (.int .i64 i') p44, []⟩ (.code (sel [1, 1, 1, 1, 0, 1, 4, 4] bodyCl) :: [.inLoop (sel [1, 1, 1, 1, 0, 1, 4, 4] bodyCl), .inBlock 0, .code (sel [1, 1, 1, 1, 1] bodyCl)])) cs) (fun hh => hh p1 p4 (ptr cb) (.bool true) (.pointer (some ad)) (ptr cb) (ptr cb) (ptr cb) (.pointer (some ⟨cb, 5, none⟩)) (.int .i64 st) (.bool true) (.bool true) (ptr cb) (ptr cb) (.pointer (some ⟨cb, 5, none⟩)) (.int .i64 st) (.bool true) (.bool true) p32 p33 p34 p35 p36 p37 p38 p39 p40 p41 p42 (.int .i64 i') p44))
/-- Close's frame at its call of turn. -/
def ClTurn (κ : CallKind) (fr : Frame) (sb : Nat) (v : Value) (len i' m' : Int) (cb : Nat) : Prop := ∃ (b₀ : Frame) (a₀ : Act) (ops : Array Oper) (j : Nat) (rest : List Nat) (k₀ : List Item), fr = b₀.at a₀ (.inRegion ops (j :: rest) :: k₀) ∧ ∀ {main : Bool} {Z : Addr → Prop} {Stop : Goroutine → World → Prop} {w₀ u : World} {cs : List Frame} {x : Value}, u.cell? ⟨cb, 5, none⟩ = some x → u.frozen? ⟨cb, 5, none⟩ = false →
    (∀ g, AtClose κ g sb v len i' m' cs → OwnU Try.prog main Z Stop w₀ g (u.setCell ⟨cb, 5, none⟩ (.int .i64 5))) → OwnU Try.prog main Z Stop w₀ (G (b₀.at (a₀.put ((ops[j]?).bind (·.dst)) (.tuple #[])) (.inRegion ops rest :: k₀)) cs) u
theorem clTurn_mk {κ : CallKind} (hκ : κ ≠ .early) {sb cb : Nat} {v : Value} {len i i' m' : Int} {p1 p4 p17 p18 p19 p20 p21 p22 p23 p24 p25 p26 p27 p28 p29 p30 p31 p32 p33 p34 p35 p36 p37 p39 p40 p41 p42 p43 p44 : Value} (hi' : IntKind.i64.wrap (i + 1) = i') : ClTurn κ ((clB κ).at ⟨List.toArray (ptr sb :: p1 :: .int .i64 0 :: .int .i64 m' :: p4 :: ptr cb :: ptr sb :: .bool false :: ptr sb :: ptr sb :: .pointer (some ⟨sb, 3, none⟩) :: ptr sb :: ptr sb :: .pointer (some ⟨sb, 0, none⟩) :: v :: .int .i64 len :: .int .i64 i :: p17 :: p18 :: p19 :: p20 :: p21 :: p22 :: p23 :: p24 :: p25 :: p26 :: p27 :: p28 :: p29 :: p30 :: p31 :: p32 :: p33 :: p34 :: p35 :: p36 :: p37 :: ptr cb :: p39 :: p40 :: p41 :: p42 :: p43 :: p44 :: []), []⟩ [.inRegion (opsOf (sel [1, 1, 1, 1, 0, 1, 4, 4, 1, 1, 0, 4, 1, 1, 1, 0, 1, 2] bodyCl)) [1], .code (sel [1, 1, 1, 1, 0, 1, 4, 4, 1, 1, 0, 4, 1, 1, 1, 1] bodyCl), .inBlock 1, .code (sel [1, 1, 1, 1, 0, 1, 4, 4, 1, 1, 1] bodyCl), .inLoop (sel [1, 1, 1, 1, 0, 1, 4, 4] bodyCl), .inBlock 0, .code (sel [1, 1, 1, 1, 1] bodyCl)]) sb v len i' m' cb := by
  refine ⟨_, _, _, _, _, _, rfl, fun {main Z Stop w₀ u cs x} c5 f5 hk => ?_⟩
  refine ownU_region_end ?_
  refine ownU_region (id := 12) (ops := opsOf (sel [1, 1, 1, 1, 0, 1, 4, 4, 1, 1, 0, 4, 1, 1, 1, 1] bodyCl)) ?_
  refine ownU_quiet (i := 0) (rest := [1, 2, 3]) (ptr cb) rfl (by rfl) rfl hκ (fun _ => by kernel_rfl) ?_
  refine ownU_quiet (i := 1) (rest := [2, 3]) (ptr cb) rfl (by rfl) rfl hκ (fun _ => by kernel_rfl) ?_
  refine ownU_quiet (i := 2) (rest := [3]) (.pointer (some ⟨cb, 5, none⟩)) rfl (by rfl) rfl hκ (fun _ => by kernel_rfl) ?_
  refine ownU_store (i := 3) (rest := []) ⟨cb, 5, none⟩ (.int .i64 5) rfl (by rfl) rfl hκ (fun w e1 e2 => store_op (stores_int _) rfl (by kernel_rfl) (by kernel_rfl) (e1.trans c5) (e2.trans f5)) ?_
  refine ownU_region_end ?_
  refine ownU_inBlock ?_
  refine ownU_region (id := 13) (ops := opsOf (sel [1, 1, 1, 1, 0, 1, 4, 4, 1, 1, 1] bodyCl)) ?_
  refine ownU_quiet (i := 0) (rest := [1]) (.int .i64 i') rfl (by rfl) rfl hκ (fun _ => by subst hi'; kernel_rfl) ?_
  refine ownU_quiet (i := 1) (rest := []) (.int .i64 i') rfl (by rfl) rfl hκ (fun _ => by kernel_rfl) ?_
  refine ownU_region_end ?_
  refine ownU_inLoop ?_
  exact ownU_eq (by kernel_rfl) (hk (G ((clB κ).at ⟨clTs sb v len i' m' p1 p4 (ptr cb) p17 p18 p19 p20 p21 p22 p23 p24 p25 p26 p27 p28 p29 p30 p31 p32 p33 p34 p35 p36 p37 (ptr cb) (.tuple #[]) (ptr cb) (ptr cb) (.pointer (some ⟨cb, 5, none⟩)) (.int .i64 i') p44, []⟩ (.code (sel [1, 1, 1, 1, 0, 1, 4, 4] bodyCl) :: [.inLoop (sel [1, 1, 1, 1, 0, 1, 4, 4] bodyCl), .inBlock 0, .code (sel [1, 1, 1, 1, 1] bodyCl)])) cs) (fun hh => hh p1 p4 (ptr cb) p17 p18 p19 p20 p21 p22 p23 p24 p25 p26 p27 p28 p29 p30 p31 p32 p33 p34 p35 p36 p37 (ptr cb) (.tuple #[]) (ptr cb) (ptr cb) (.pointer (some ⟨cb, 5, none⟩)) (.int .i64 i') p44))
theorem close_mark1 {main : Bool} {Z : Addr → Prop} {Stop : Goroutine → World → Prop} {w₀ u : World} {κ : CallKind} {cs : List Frame} (hκ : κ ≠ .early) {sb cb : Nat} {v : Value} {len i i' m m' st : Int} {ad : Addr} {p1 p4 p5 p17 p18 p19 p20 p21 p22 p23 p24 p25 p26 p27 p28 p29 p30 p31 p32 p33 p34 p35 p36 p37 p38 p39 p40 p41 p42 p43 p44 : Value} (hi : i < len) (hi' : IntKind.i64.wrap (i + 1) = i') (hidx : ∀ {a : Act} {o : Oper} {x y : Operand} (w : World), o.op = .indexAddr 88 x y → a.eval x = v → a.eval y = .int .i64 i → (execOp a.eval o).run Try.prog w = .ok (.value (.pointer (some ad))) w) (hcell : u.cell? ad = some (ptr cb)) (c5 : u.cell? ⟨cb, 5, none⟩ = some (.int .i64 st)) (hst : st = 1) (c4 : u.cell? ⟨cb, 4, none⟩ = some (.bool false)) (hm' : IntKind.i64.wrap (m + 1) = m') (f5 : u.frozen? ⟨cb, 5, none⟩ = false)
    (hk : ∀ g, AtClose κ g sb v len i' m' cs → OwnU Try.prog main Z Stop w₀ g (u.setCell ⟨cb, 5, none⟩ (.int .i64 5))) : OwnU Try.prog main Z Stop w₀ (G ((clB κ).at ⟨clTs sb v len i m p1 p4 p5 p17 p18 p19 p20 p21 p22 p23 p24 p25 p26 p27 p28 p29 p30 p31 p32 p33 p34 p35 p36 p37 p38 p39 p40 p41 p42 p43 p44, []⟩ (.code (sel [1, 1, 1, 1, 0, 1, 4, 4] bodyCl) :: [.inLoop (sel [1, 1, 1, 1, 0, 1, 4, 4] bodyCl), .inBlock 0, .code (sel [1, 1, 1, 1, 1] bodyCl)])) cs) u := by
  refine ownU_seq (x := sel [1, 1, 1, 1, 0, 1, 4, 4, 0] bodyCl) (y := sel [1, 1, 1, 1, 0, 1, 4, 4, 1] bodyCl) ?_
  refine ownU_region (id := 6) (ops := opsOf (sel [1, 1, 1, 1, 0, 1, 4, 4, 0] bodyCl)) ?_
  refine ownU_quiet (i := 0) (rest := []) (.bool true) rfl (by rfl) rfl hκ (fun _ => lss_v (p := i) (q := len) rfl (by kernel_rfl) (by kernel_rfl) (by simp; omega)) ?_
  refine ownU_region_end ?_
  refine ownU_seq (x := sel [1, 1, 1, 1, 0, 1, 4, 4, 1, 0] bodyCl) (y := sel [1, 1, 1, 1, 0, 1, 4, 4, 1, 1] bodyCl) ?_
  refine ownU_cond (c := .tmp 17) (x := .skip) (y := .exit 0) (t := true) (by kernel_rfl) ?_
  refine ownU_skip ?_
  refine ownU_seq (x := sel [1, 1, 1, 1, 0, 1, 4, 4, 1, 1, 0] bodyCl) (y := sel [1, 1, 1, 1, 0, 1, 4, 4, 1, 1, 1] bodyCl) ?_
  refine ownU_block (id := 1) (c := sel [1, 1, 1, 1, 0, 1, 4, 4, 1, 1, 0, 4] bodyCl) ?_
  refine ownU_seq (x := sel [1, 1, 1, 1, 0, 1, 4, 4, 1, 1, 0, 4, 0] bodyCl) (y := sel [1, 1, 1, 1, 0, 1, 4, 4, 1, 1, 0, 4, 1] bodyCl) ?_
  refine ownU_region (id := 7) (ops := opsOf (sel [1, 1, 1, 1, 0, 1, 4, 4, 1, 1, 0, 4, 0] bodyCl)) ?_
  refine ownU_quiet (i := 0) (rest := [1, 2]) (.pointer (some ad)) rfl (by rfl) rfl hκ (fun w => hidx w rfl (by kernel_rfl) (by kernel_rfl)) ?_
  refine ownU_load (i := 1) (rest := [2]) ad (ptr cb) rfl (by rfl) hκ loads_co rfl (by kernel_rfl) hcell ?_
  refine ownU_quiet (i := 2) (rest := []) (ptr cb) rfl (by rfl) rfl hκ (fun _ => by kernel_rfl) ?_
  refine ownU_region_end ?_
  refine ownU_seq (x := sel [1, 1, 1, 1, 0, 1, 4, 4, 1, 1, 0, 4, 1, 0] bodyCl) (y := sel [1, 1, 1, 1, 0, 1, 4, 4, 1, 1, 0, 4, 1, 1] bodyCl) ?_
  refine ownU_seq (x := sel [1, 1, 1, 1, 0, 1, 4, 4, 1, 1, 0, 4, 1, 0, 0] bodyCl) (y := sel [1, 1, 1, 1, 0, 1, 4, 4, 1, 1, 0, 4, 1, 0, 1] bodyCl) ?_
  refine ownU_region (id := 8) (ops := opsOf (sel [1, 1, 1, 1, 0, 1, 4, 4, 1, 1, 0, 4, 1, 0, 0] bodyCl)) ?_
  refine ownU_quiet (i := 0) (rest := [1, 2, 3, 4, 5, 6, 7, 8, 9, 10, 11]) (ptr cb) rfl (by rfl) rfl hκ (fun _ => by kernel_rfl) ?_
  refine ownU_quiet (i := 1) (rest := [2, 3, 4, 5, 6, 7, 8, 9, 10, 11]) (ptr cb) rfl (by rfl) rfl hκ (fun _ => by kernel_rfl) ?_
  refine ownU_quiet (i := 2) (rest := [3, 4, 5, 6, 7, 8, 9, 10, 11]) (.pointer (some ⟨cb, 5, none⟩)) rfl (by rfl) rfl hκ (fun _ => by kernel_rfl) ?_
  refine ownU_load (i := 3) (rest := [4, 5, 6, 7, 8, 9, 10, 11]) ⟨cb, 5, none⟩ (.int .i64 st) rfl (by rfl) hκ loads_int rfl (by kernel_rfl) c5 ?_
  refine ownU_quiet (i := 4) (rest := [5, 6, 7, 8, 9, 10, 11]) (.bool false) rfl (by rfl) rfl hκ (fun _ => neq_v (p := st) (q := 1) rfl (by kernel_rfl) (by kernel_rfl) (by rw [hst]; decide)) ?_
  refine ownU_quiet (i := 5) (rest := [6, 7, 8, 9, 10, 11]) (.bool false) rfl (by rfl) rfl hκ (fun _ => by kernel_rfl) ?_
  refine ownU_unwanted (i := 6) (rest := [7, 8, 9, 10, 11]) rfl (by kernel_rfl) ?_
  refine ownU_unwanted (i := 7) (rest := [8, 9, 10, 11]) rfl (by kernel_rfl) ?_
  refine ownU_unwanted (i := 8) (rest := [9, 10, 11]) rfl (by kernel_rfl) ?_
  refine ownU_unwanted (i := 9) (rest := [10, 11]) rfl (by kernel_rfl) ?_
  refine ownU_unwanted (i := 10) (rest := [11]) rfl (by kernel_rfl) ?_
  refine ownU_quiet (i := 11) (rest := []) (.bool false) rfl (by rfl) rfl hκ (fun _ => by kernel_rfl) ?_
  refine ownU_region_end ?_
  refine ownU_cond (c := .tmp 31) (x := .exit 1) (y := .skip) (t := false) (by kernel_rfl) ?_
  refine ownU_skip ?_
  refine ownU_seq (x := sel [1, 1, 1, 1, 0, 1, 4, 4, 1, 1, 0, 4, 1, 1, 0] bodyCl) (y := sel [1, 1, 1, 1, 0, 1, 4, 4, 1, 1, 0, 4, 1, 1, 1] bodyCl) ?_
  refine ownU_region (id := 9) (ops := opsOf (sel [1, 1, 1, 1, 0, 1, 4, 4, 1, 1, 0, 4, 1, 1, 0] bodyCl)) ?_
  refine ownU_quiet (i := 0) (rest := [1, 2]) (.int .i64 m) rfl (by rfl) rfl hκ (fun _ => by kernel_rfl) ?_
  refine ownU_quiet (i := 1) (rest := [2]) (.int .i64 m') rfl (by rfl) rfl hκ (fun _ => by subst hm'; kernel_rfl) ?_
  refine ownU_quiet (i := 2) (rest := []) (.int .i64 m') rfl (by rfl) rfl hκ (fun _ => by kernel_rfl) ?_
  refine ownU_region_end ?_
  refine ownU_seq (x := sel [1, 1, 1, 1, 0, 1, 4, 4, 1, 1, 0, 4, 1, 1, 1, 0] bodyCl) (y := sel [1, 1, 1, 1, 0, 1, 4, 4, 1, 1, 0, 4, 1, 1, 1, 1] bodyCl) ?_
  refine ownU_seq (x := sel [1, 1, 1, 1, 0, 1, 4, 4, 1, 1, 0, 4, 1, 1, 1, 0, 0] bodyCl) (y := sel [1, 1, 1, 1, 0, 1, 4, 4, 1, 1, 0, 4, 1, 1, 1, 0, 1] bodyCl) ?_
  refine ownU_region (id := 10) (ops := opsOf (sel [1, 1, 1, 1, 0, 1, 4, 4, 1, 1, 0, 4, 1, 1, 1, 0, 0] bodyCl)) ?_
  refine ownU_quiet (i := 0) (rest := [1, 2, 3]) (ptr cb) rfl (by rfl) rfl hκ (fun _ => by kernel_rfl) ?_
  refine ownU_quiet (i := 1) (rest := [2, 3]) (ptr cb) rfl (by rfl) rfl hκ (fun _ => by kernel_rfl) ?_
  refine ownU_quiet (i := 2) (rest := [3]) (.pointer (some ⟨cb, 4, none⟩)) rfl (by rfl) rfl hκ (fun _ => by kernel_rfl) ?_
  refine ownU_load (i := 3) (rest := []) ⟨cb, 4, none⟩ (.bool false) rfl (by rfl) hκ loads_bool rfl (by kernel_rfl) c4 ?_
  refine ownU_region_end ?_
  refine ownU_cond (c := .tmp 37) (x := sel [1, 1, 1, 1, 0, 1, 4, 4, 1, 1, 0, 4, 1, 1, 1, 0, 1, 2] bodyCl) (y := .skip) (t := false) (by kernel_rfl) ?_
  refine ownU_skip ?_
  refine ownU_region (id := 12) (ops := opsOf (sel [1, 1, 1, 1, 0, 1, 4, 4, 1, 1, 0, 4, 1, 1, 1, 1] bodyCl)) ?_
  refine ownU_quiet (i := 0) (rest := [1, 2, 3]) (ptr cb) rfl (by rfl) rfl hκ (fun _ => by kernel_rfl) ?_
  refine ownU_quiet (i := 1) (rest := [2, 3]) (ptr cb) rfl (by rfl) rfl hκ (fun _ => by kernel_rfl) ?_
  refine ownU_quiet (i := 2) (rest := [3]) (.pointer (some ⟨cb, 5, none⟩)) rfl (by rfl) rfl hκ (fun _ => by kernel_rfl) ?_
  refine ownU_store (i := 3) (rest := []) ⟨cb, 5, none⟩ (.int .i64 5) rfl (by rfl) rfl hκ (fun w e1 e2 => store_op (stores_int _) rfl (by kernel_rfl) (by kernel_rfl) (e1.trans c5) (e2.trans f5)) ?_
  refine ownU_region_end ?_
  refine ownU_inBlock ?_
  refine ownU_region (id := 13) (ops := opsOf (sel [1, 1, 1, 1, 0, 1, 4, 4, 1, 1, 1] bodyCl)) ?_
  refine ownU_quiet (i := 0) (rest := [1]) (.int .i64 i') rfl (by rfl) rfl hκ (fun _ => by subst hi'; kernel_rfl) ?_
  refine ownU_quiet (i := 1) (rest := []) (.int .i64 i') rfl (by rfl) rfl hκ (fun _ => by kernel_rfl) ?_
  refine ownU_region_end ?_
  refine ownU_inLoop ?_
  exact ownU_eq (by kernel_rfl) (hk (G ((clB κ).at ⟨clTs sb v len i' m' p1 p4 (ptr cb) (.bool true) (.pointer (some ad)) (ptr cb) (ptr cb) (ptr cb) (.pointer (some ⟨cb, 5, none⟩)) (.int .i64 st) (.bool false) (.bool false) undef undef undef undef undef (.bool false) (.int .i64 m) (.int .i64 m') (ptr cb) (ptr cb) (.pointer (some ⟨cb, 4, none⟩)) (.bool false) p38 p39 (ptr cb) (ptr cb) (.pointer (some ⟨cb, 5, none⟩)) (.int .i64 i') p44, []⟩ (.code (sel [1, 1, 1, 1, 0, 1, 4, 4] bodyCl) :: [.inLoop (sel [1, 1, 1, 1, 0, 1, 4, 4] bodyCl), .inBlock 0, .code (sel [1, 1, 1, 1, 1] bodyCl)])) cs) (fun hh => hh p1 p4 (ptr cb) (.bool true) (.pointer (some ad)) (ptr cb) (ptr cb) (ptr cb) (.pointer (some ⟨cb, 5, none⟩)) (.int .i64 st) (.bool false) (.bool false) undef undef undef undef undef (.bool false) (.int .i64 m) (.int .i64 m') (ptr cb) (ptr cb) (.pointer (some ⟨cb, 4, none⟩)) (.bool false) p38 p39 (ptr cb) (ptr cb) (.pointer (some ⟨cb, 5, none⟩)) (.int .i64 i') p44))
theorem close_turn1 {main : Bool} {Z : Addr → Prop} {Stop : Goroutine → World → Prop} {w₀ u : World} {κ : CallKind} {cs : List Frame} (hκ : κ ≠ .early) {sb cb : Nat} {v : Value} {len i i' m m' st : Int} {ad : Addr} {p1 p4 p5 p17 p18 p19 p20 p21 p22 p23 p24 p25 p26 p27 p28 p29 p30 p31 p32 p33 p34 p35 p36 p37 p38 p39 p40 p41 p42 p43 p44 : Value} (hi : i < len) (hi' : IntKind.i64.wrap (i + 1) = i') (hidx : ∀ {a : Act} {o : Oper} {x y : Operand} (w : World), o.op = .indexAddr 88 x y → a.eval x = v → a.eval y = .int .i64 i → (execOp a.eval o).run Try.prog w = .ok (.value (.pointer (some ad))) w) (hcell : u.cell? ad = some (ptr cb)) (c5 : u.cell? ⟨cb, 5, none⟩ = some (.int .i64 st)) (hst : st = 1) (c4 : u.cell? ⟨cb, 4, none⟩ = some (.bool true)) (hm' : IntKind.i64.wrap (m + 1) = m')
    (hk : ∀ fr, ClTurn κ fr sb v len i' m' cb → OwnU Try.prog main Z Stop w₀ (turnIn cb (fr :: cs)) u) : OwnU Try.prog main Z Stop w₀ (G ((clB κ).at ⟨clTs sb v len i m p1 p4 p5 p17 p18 p19 p20 p21 p22 p23 p24 p25 p26 p27 p28 p29 p30 p31 p32 p33 p34 p35 p36 p37 p38 p39 p40 p41 p42 p43 p44, []⟩ (.code (sel [1, 1, 1, 1, 0, 1, 4, 4] bodyCl) :: [.inLoop (sel [1, 1, 1, 1, 0, 1, 4, 4] bodyCl), .inBlock 0, .code (sel [1, 1, 1, 1, 1] bodyCl)])) cs) u := by
  refine ownU_seq (x := sel [1, 1, 1, 1, 0, 1, 4, 4, 0] bodyCl) (y := sel [1, 1, 1, 1, 0, 1, 4, 4, 1] bodyCl) ?_
  refine ownU_region (id := 6) (ops := opsOf (sel [1, 1, 1, 1, 0, 1, 4, 4, 0] bodyCl)) ?_
  refine ownU_quiet (i := 0) (rest := []) (.bool true) rfl (by rfl) rfl hκ (fun _ => lss_v (p := i) (q := len) rfl (by kernel_rfl) (by kernel_rfl) (by simp; omega)) ?_
  refine ownU_region_end ?_
  refine ownU_seq (x := sel [1, 1, 1, 1, 0, 1, 4, 4, 1, 0] bodyCl) (y := sel [1, 1, 1, 1, 0, 1, 4, 4, 1, 1] bodyCl) ?_
  refine ownU_cond (c := .tmp 17) (x := .skip) (y := .exit 0) (t := true) (by kernel_rfl) ?_
  refine ownU_skip ?_
  refine ownU_seq (x := sel [1, 1, 1, 1, 0, 1, 4, 4, 1, 1, 0] bodyCl) (y := sel [1, 1, 1, 1, 0, 1, 4, 4, 1, 1, 1] bodyCl) ?_
  refine ownU_block (id := 1) (c := sel [1, 1, 1, 1, 0, 1, 4, 4, 1, 1, 0, 4] bodyCl) ?_
  refine ownU_seq (x := sel [1, 1, 1, 1, 0, 1, 4, 4, 1, 1, 0, 4, 0] bodyCl) (y := sel [1, 1, 1, 1, 0, 1, 4, 4, 1, 1, 0, 4, 1] bodyCl) ?_
  refine ownU_region (id := 7) (ops := opsOf (sel [1, 1, 1, 1, 0, 1, 4, 4, 1, 1, 0, 4, 0] bodyCl)) ?_
  refine ownU_quiet (i := 0) (rest := [1, 2]) (.pointer (some ad)) rfl (by rfl) rfl hκ (fun w => hidx w rfl (by kernel_rfl) (by kernel_rfl)) ?_
  refine ownU_load (i := 1) (rest := [2]) ad (ptr cb) rfl (by rfl) hκ loads_co rfl (by kernel_rfl) hcell ?_
  refine ownU_quiet (i := 2) (rest := []) (ptr cb) rfl (by rfl) rfl hκ (fun _ => by kernel_rfl) ?_
  refine ownU_region_end ?_
  refine ownU_seq (x := sel [1, 1, 1, 1, 0, 1, 4, 4, 1, 1, 0, 4, 1, 0] bodyCl) (y := sel [1, 1, 1, 1, 0, 1, 4, 4, 1, 1, 0, 4, 1, 1] bodyCl) ?_
  refine ownU_seq (x := sel [1, 1, 1, 1, 0, 1, 4, 4, 1, 1, 0, 4, 1, 0, 0] bodyCl) (y := sel [1, 1, 1, 1, 0, 1, 4, 4, 1, 1, 0, 4, 1, 0, 1] bodyCl) ?_
  refine ownU_region (id := 8) (ops := opsOf (sel [1, 1, 1, 1, 0, 1, 4, 4, 1, 1, 0, 4, 1, 0, 0] bodyCl)) ?_
  refine ownU_quiet (i := 0) (rest := [1, 2, 3, 4, 5, 6, 7, 8, 9, 10, 11]) (ptr cb) rfl (by rfl) rfl hκ (fun _ => by kernel_rfl) ?_
  refine ownU_quiet (i := 1) (rest := [2, 3, 4, 5, 6, 7, 8, 9, 10, 11]) (ptr cb) rfl (by rfl) rfl hκ (fun _ => by kernel_rfl) ?_
  refine ownU_quiet (i := 2) (rest := [3, 4, 5, 6, 7, 8, 9, 10, 11]) (.pointer (some ⟨cb, 5, none⟩)) rfl (by rfl) rfl hκ (fun _ => by kernel_rfl) ?_
  refine ownU_load (i := 3) (rest := [4, 5, 6, 7, 8, 9, 10, 11]) ⟨cb, 5, none⟩ (.int .i64 st) rfl (by rfl) hκ loads_int rfl (by kernel_rfl) c5 ?_
  refine ownU_quiet (i := 4) (rest := [5, 6, 7, 8, 9, 10, 11]) (.bool false) rfl (by rfl) rfl hκ (fun _ => neq_v (p := st) (q := 1) rfl (by kernel_rfl) (by kernel_rfl) (by rw [hst]; decide)) ?_
  refine ownU_quiet (i := 5) (rest := [6, 7, 8, 9, 10, 11]) (.bool false) rfl (by rfl) rfl hκ (fun _ => by kernel_rfl) ?_
  refine ownU_unwanted (i := 6) (rest := [7, 8, 9, 10, 11]) rfl (by kernel_rfl) ?_
  refine ownU_unwanted (i := 7) (rest := [8, 9, 10, 11]) rfl (by kernel_rfl) ?_
  refine ownU_unwanted (i := 8) (rest := [9, 10, 11]) rfl (by kernel_rfl) ?_
  refine ownU_unwanted (i := 9) (rest := [10, 11]) rfl (by kernel_rfl) ?_
  refine ownU_unwanted (i := 10) (rest := [11]) rfl (by kernel_rfl) ?_
  refine ownU_quiet (i := 11) (rest := []) (.bool false) rfl (by rfl) rfl hκ (fun _ => by kernel_rfl) ?_
  refine ownU_region_end ?_
  refine ownU_cond (c := .tmp 31) (x := .exit 1) (y := .skip) (t := false) (by kernel_rfl) ?_
  refine ownU_skip ?_
  refine ownU_seq (x := sel [1, 1, 1, 1, 0, 1, 4, 4, 1, 1, 0, 4, 1, 1, 0] bodyCl) (y := sel [1, 1, 1, 1, 0, 1, 4, 4, 1, 1, 0, 4, 1, 1, 1] bodyCl) ?_
  refine ownU_region (id := 9) (ops := opsOf (sel [1, 1, 1, 1, 0, 1, 4, 4, 1, 1, 0, 4, 1, 1, 0] bodyCl)) ?_
  refine ownU_quiet (i := 0) (rest := [1, 2]) (.int .i64 m) rfl (by rfl) rfl hκ (fun _ => by kernel_rfl) ?_
  refine ownU_quiet (i := 1) (rest := [2]) (.int .i64 m') rfl (by rfl) rfl hκ (fun _ => by subst hm'; kernel_rfl) ?_
  refine ownU_quiet (i := 2) (rest := []) (.int .i64 m') rfl (by rfl) rfl hκ (fun _ => by kernel_rfl) ?_
  refine ownU_region_end ?_
  refine ownU_seq (x := sel [1, 1, 1, 1, 0, 1, 4, 4, 1, 1, 0, 4, 1, 1, 1, 0] bodyCl) (y := sel [1, 1, 1, 1, 0, 1, 4, 4, 1, 1, 0, 4, 1, 1, 1, 1] bodyCl) ?_
  refine ownU_seq (x := sel [1, 1, 1, 1, 0, 1, 4, 4, 1, 1, 0, 4, 1, 1, 1, 0, 0] bodyCl) (y := sel [1, 1, 1, 1, 0, 1, 4, 4, 1, 1, 0, 4, 1, 1, 1, 0, 1] bodyCl) ?_
  refine ownU_region (id := 10) (ops := opsOf (sel [1, 1, 1, 1, 0, 1, 4, 4, 1, 1, 0, 4, 1, 1, 1, 0, 0] bodyCl)) ?_
  refine ownU_quiet (i := 0) (rest := [1, 2, 3]) (ptr cb) rfl (by rfl) rfl hκ (fun _ => by kernel_rfl) ?_
  refine ownU_quiet (i := 1) (rest := [2, 3]) (ptr cb) rfl (by rfl) rfl hκ (fun _ => by kernel_rfl) ?_
  refine ownU_quiet (i := 2) (rest := [3]) (.pointer (some ⟨cb, 4, none⟩)) rfl (by rfl) rfl hκ (fun _ => by kernel_rfl) ?_
  refine ownU_load (i := 3) (rest := []) ⟨cb, 4, none⟩ (.bool true) rfl (by rfl) hκ loads_bool rfl (by kernel_rfl) c4 ?_
  refine ownU_region_end ?_
  refine ownU_cond (c := .tmp 37) (x := sel [1, 1, 1, 1, 0, 1, 4, 4, 1, 1, 0, 4, 1, 1, 1, 0, 1, 2] bodyCl) (y := .skip) (t := true) (by kernel_rfl) ?_
  refine ownU_region (id := 11) (ops := opsOf (sel [1, 1, 1, 1, 0, 1, 4, 4, 1, 1, 0, 4, 1, 1, 1, 0, 1, 2] bodyCl)) ?_
  refine ownU_quiet (i := 0) (rest := [1]) (ptr cb) rfl (by rfl) rfl hκ (fun _ => by kernel_rfl) ?_
  refine ownU_enter (i := 1) (rest := []) (f := 64) rfl (by rfl) hκ rfl Try.func64 (by kernel_rfl) rfl ?_
  exact ownU_eq (by kernel_rfl) (hk ((clB κ).at ⟨List.toArray (ptr sb :: p1 :: .int .i64 0 :: .int .i64 m' :: p4 :: ptr cb :: ptr sb :: .bool false :: ptr sb :: ptr sb :: .pointer (some ⟨sb, 3, none⟩) :: ptr sb :: ptr sb :: .pointer (some ⟨sb, 0, none⟩) :: v :: .int .i64 len :: .int .i64 i :: .bool true :: .pointer (some ad) :: ptr cb :: ptr cb :: ptr cb :: .pointer (some ⟨cb, 5, none⟩) :: .int .i64 st :: .bool false :: .bool false :: undef :: undef :: undef :: undef :: undef :: .bool false :: .int .i64 m :: .int .i64 m' :: ptr cb :: ptr cb :: .pointer (some ⟨cb, 4, none⟩) :: .bool true :: ptr cb :: p39 :: p40 :: p41 :: p42 :: p43 :: p44 :: []), []⟩ [.inRegion (opsOf (sel [1, 1, 1, 1, 0, 1, 4, 4, 1, 1, 0, 4, 1, 1, 1, 0, 1, 2] bodyCl)) [1], .code (sel [1, 1, 1, 1, 0, 1, 4, 4, 1, 1, 0, 4, 1, 1, 1, 1] bodyCl), .inBlock 1, .code (sel [1, 1, 1, 1, 0, 1, 4, 4, 1, 1, 1] bodyCl), .inLoop (sel [1, 1, 1, 1, 0, 1, 4, 4] bodyCl), .inBlock 0, .code (sel [1, 1, 1, 1, 1] bodyCl)]) (clTurn_mk hκ hi'))
theorem close_mark2 {main : Bool} {Z : Addr → Prop} {Stop : Goroutine → World → Prop} {w₀ u : World} {κ : CallKind} {cs : List Frame} (hκ : κ ≠ .early) {sb cb : Nat} {v : Value} {len i i' m m' st : Int} {ad : Addr} {p1 p4 p5 p17 p18 p19 p20 p21 p22 p23 p24 p25 p26 p27 p28 p29 p30 p31 p32 p33 p34 p35 p36 p37 p38 p39 p40 p41 p42 p43 p44 : Value} (hi : i < len) (hi' : IntKind.i64.wrap (i + 1) = i') (hidx : ∀ {a : Act} {o : Oper} {x y : Operand} (w : World), o.op = .indexAddr 88 x y → a.eval x = v → a.eval y = .int .i64 i → (execOp a.eval o).run Try.prog w = .ok (.value (.pointer (some ad))) w) (hcell : u.cell? ad = some (ptr cb)) (c5 : u.cell? ⟨cb, 5, none⟩ = some (.int .i64 st)) (hst : st = 2) (c4 : u.cell? ⟨cb, 4, none⟩ = some (.bool false)) (hm' : IntKind.i64.wrap (m + 1) = m') (f5 : u.frozen? ⟨cb, 5, none⟩ = false)
    (hk : ∀ g, AtClose κ g sb v len i' m' cs → OwnU Try.prog main Z Stop w₀ g (u.setCell ⟨cb, 5, none⟩ (.int .i64 5))) : OwnU Try.prog main Z Stop w₀ (G ((clB κ).at ⟨clTs sb v len i m p1 p4 p5 p17 p18 p19 p20 p21 p22 p23 p24 p25 p26 p27 p28 p29 p30 p31 p32 p33 p34 p35 p36 p37 p38 p39 p40 p41 p42 p43 p44, []⟩ (.code (sel [1, 1, 1, 1, 0, 1, 4, 4] bodyCl) :: [.inLoop (sel [1, 1, 1, 1, 0, 1, 4, 4] bodyCl), .inBlock 0, .code (sel [1, 1, 1, 1, 1] bodyCl)])) cs) u := by
  refine ownU_seq (x := sel [1, 1, 1, 1, 0, 1, 4, 4, 0] bodyCl) (y := sel [1, 1, 1, 1, 0, 1, 4, 4, 1] bodyCl) ?_
  refine ownU_region (id := 6) (ops := opsOf (sel [1, 1, 1, 1, 0, 1, 4, 4, 0] bodyCl)) ?_
  refine ownU_quiet (i := 0) (rest := []) (.bool true) rfl (by rfl) rfl hκ (fun _ => lss_v (p := i) (q := len) rfl (by kernel_rfl) (by kernel_rfl) (by simp; omega)) ?_
  refine ownU_region_end ?_
  refine ownU_seq (x := sel [1, 1, 1, 1, 0, 1, 4, 4, 1, 0] bodyCl) (y := sel [1, 1, 1, 1, 0, 1, 4, 4, 1, 1] bodyCl) ?_
  refine ownU_cond (c := .tmp 17) (x := .skip) (y := .exit 0) (t := true) (by kernel_rfl) ?_
  refine ownU_skip ?_
  refine ownU_seq (x := sel [1, 1, 1, 1, 0, 1, 4, 4, 1, 1, 0] bodyCl) (y := sel [1, 1, 1, 1, 0, 1, 4, 4, 1, 1, 1] bodyCl) ?_
  refine ownU_block (id := 1) (c := sel [1, 1, 1, 1, 0, 1, 4, 4, 1, 1, 0, 4] bodyCl) ?_
  refine ownU_seq (x := sel [1, 1, 1, 1, 0, 1, 4, 4, 1, 1, 0, 4, 0] bodyCl) (y := sel [1, 1, 1, 1, 0, 1, 4, 4, 1, 1, 0, 4, 1] bodyCl) ?_
  refine ownU_region (id := 7) (ops := opsOf (sel [1, 1, 1, 1, 0, 1, 4, 4, 1, 1, 0, 4, 0] bodyCl)) ?_
  refine ownU_quiet (i := 0) (rest := [1, 2]) (.pointer (some ad)) rfl (by rfl) rfl hκ (fun w => hidx w rfl (by kernel_rfl) (by kernel_rfl)) ?_
  refine ownU_load (i := 1) (rest := [2]) ad (ptr cb) rfl (by rfl) hκ loads_co rfl (by kernel_rfl) hcell ?_
  refine ownU_quiet (i := 2) (rest := []) (ptr cb) rfl (by rfl) rfl hκ (fun _ => by kernel_rfl) ?_
  refine ownU_region_end ?_
  refine ownU_seq (x := sel [1, 1, 1, 1, 0, 1, 4, 4, 1, 1, 0, 4, 1, 0] bodyCl) (y := sel [1, 1, 1, 1, 0, 1, 4, 4, 1, 1, 0, 4, 1, 1] bodyCl) ?_
  refine ownU_seq (x := sel [1, 1, 1, 1, 0, 1, 4, 4, 1, 1, 0, 4, 1, 0, 0] bodyCl) (y := sel [1, 1, 1, 1, 0, 1, 4, 4, 1, 1, 0, 4, 1, 0, 1] bodyCl) ?_
  refine ownU_region (id := 8) (ops := opsOf (sel [1, 1, 1, 1, 0, 1, 4, 4, 1, 1, 0, 4, 1, 0, 0] bodyCl)) ?_
  refine ownU_quiet (i := 0) (rest := [1, 2, 3, 4, 5, 6, 7, 8, 9, 10, 11]) (ptr cb) rfl (by rfl) rfl hκ (fun _ => by kernel_rfl) ?_
  refine ownU_quiet (i := 1) (rest := [2, 3, 4, 5, 6, 7, 8, 9, 10, 11]) (ptr cb) rfl (by rfl) rfl hκ (fun _ => by kernel_rfl) ?_
  refine ownU_quiet (i := 2) (rest := [3, 4, 5, 6, 7, 8, 9, 10, 11]) (.pointer (some ⟨cb, 5, none⟩)) rfl (by rfl) rfl hκ (fun _ => by kernel_rfl) ?_
  refine ownU_load (i := 3) (rest := [4, 5, 6, 7, 8, 9, 10, 11]) ⟨cb, 5, none⟩ (.int .i64 st) rfl (by rfl) hκ loads_int rfl (by kernel_rfl) c5 ?_
  refine ownU_quiet (i := 4) (rest := [5, 6, 7, 8, 9, 10, 11]) (.bool true) rfl (by rfl) rfl hκ (fun _ => neq_v (p := st) (q := 1) rfl (by kernel_rfl) (by kernel_rfl) (by rw [hst]; decide)) ?_
  refine ownU_quiet (i := 5) (rest := [6, 7, 8, 9, 10, 11]) (.bool true) rfl (by rfl) rfl hκ (fun _ => by kernel_rfl) ?_
  refine ownU_quiet (i := 6) (rest := [7, 8, 9, 10, 11]) (ptr cb) rfl (by kernel_rfl) rfl hκ (fun _ => by kernel_rfl) ?_
  refine ownU_quiet (i := 7) (rest := [8, 9, 10, 11]) (ptr cb) rfl (by kernel_rfl) rfl hκ (fun _ => by kernel_rfl) ?_
  refine ownU_quiet (i := 8) (rest := [9, 10, 11]) (.pointer (some ⟨cb, 5, none⟩)) rfl (by kernel_rfl) rfl hκ (fun _ => by kernel_rfl) ?_
  refine ownU_load (i := 9) (rest := [10, 11]) ⟨cb, 5, none⟩ (.int .i64 st) rfl (by kernel_rfl) hκ loads_int rfl (by kernel_rfl) c5 ?_
  refine ownU_quiet (i := 10) (rest := [11]) (.bool false) rfl (by kernel_rfl) rfl hκ (fun _ => neq_v (p := st) (q := 2) rfl (by kernel_rfl) (by kernel_rfl) (by rw [hst]; decide)) ?_
  refine ownU_quiet (i := 11) (rest := []) (.bool false) rfl (by rfl) rfl hκ (fun _ => by kernel_rfl) ?_
  refine ownU_region_end ?_
  refine ownU_cond (c := .tmp 31) (x := .exit 1) (y := .skip) (t := false) (by kernel_rfl) ?_
  refine ownU_skip ?_
  refine ownU_seq (x := sel [1, 1, 1, 1, 0, 1, 4, 4, 1, 1, 0, 4, 1, 1, 0] bodyCl) (y := sel [1, 1, 1, 1, 0, 1, 4, 4, 1, 1, 0, 4, 1, 1, 1] bodyCl) ?_
  refine ownU_region (id := 9) (ops := opsOf (sel [1, 1, 1, 1, 0, 1, 4, 4, 1, 1, 0, 4, 1, 1, 0] bodyCl)) ?_
  refine ownU_quiet (i := 0) (rest := [1, 2]) (.int .i64 m) rfl (by rfl) rfl hκ (fun _ => by kernel_rfl) ?_
  refine ownU_quiet (i := 1) (rest := [2]) (.int .i64 m') rfl (by rfl) rfl hκ (fun _ => by subst hm'; kernel_rfl) ?_
  refine ownU_quiet (i := 2) (rest := []) (.int .i64 m') rfl (by rfl) rfl hκ (fun _ => by kernel_rfl) ?_
  refine ownU_region_end ?_
  refine ownU_seq (x := sel [1, 1, 1, 1, 0, 1, 4, 4, 1, 1, 0, 4, 1, 1, 1, 0] bodyCl) (y := sel [1, 1, 1, 1, 0, 1, 4, 4, 1, 1, 0, 4, 1, 1, 1, 1] bodyCl) ?_
  refine ownU_seq (x := sel [1, 1, 1, 1, 0, 1, 4, 4, 1, 1, 0, 4, 1, 1, 1, 0, 0] bodyCl) (y := sel [1, 1, 1, 1, 0, 1, 4, 4, 1, 1, 0, 4, 1, 1, 1, 0, 1] bodyCl) ?_
  refine ownU_region (id := 10) (ops := opsOf (sel [1, 1, 1, 1, 0, 1, 4, 4, 1, 1, 0, 4, 1, 1, 1, 0, 0] bodyCl)) ?_
  refine ownU_quiet (i := 0) (rest := [1, 2, 3]) (ptr cb) rfl (by rfl) rfl hκ (fun _ => by kernel_rfl) ?_
  refine ownU_quiet (i := 1) (rest := [2, 3]) (ptr cb) rfl (by rfl) rfl hκ (fun _ => by kernel_rfl) ?_
  refine ownU_quiet (i := 2) (rest := [3]) (.pointer (some ⟨cb, 4, none⟩)) rfl (by rfl) rfl hκ (fun _ => by kernel_rfl) ?_
  refine ownU_load (i := 3) (rest := []) ⟨cb, 4, none⟩ (.bool false) rfl (by rfl) hκ loads_bool rfl (by kernel_rfl) c4 ?_
  refine ownU_region_end ?_
  refine ownU_cond (c := .tmp 37) (x := sel [1, 1, 1, 1, 0, 1, 4, 4, 1, 1, 0, 4, 1, 1, 1, 0, 1, 2] bodyCl) (y := .skip) (t := false) (by kernel_rfl) ?_
  refine ownU_skip ?_
  refine ownU_region (id := 12) (ops := opsOf (sel [1, 1, 1, 1, 0, 1, 4, 4, 1, 1, 0, 4, 1, 1, 1, 1] bodyCl)) ?_
  refine ownU_quiet (i := 0) (rest := [1, 2, 3]) (ptr cb) rfl (by rfl) rfl hκ (fun _ => by kernel_rfl) ?_
  refine ownU_quiet (i := 1) (rest := [2, 3]) (ptr cb) rfl (by rfl) rfl hκ (fun _ => by kernel_rfl) ?_
  refine ownU_quiet (i := 2) (rest := [3]) (.pointer (some ⟨cb, 5, none⟩)) rfl (by rfl) rfl hκ (fun _ => by kernel_rfl) ?_
  refine ownU_store (i := 3) (rest := []) ⟨cb, 5, none⟩ (.int .i64 5) rfl (by rfl) rfl hκ (fun w e1 e2 => store_op (stores_int _) rfl (by kernel_rfl) (by kernel_rfl) (e1.trans c5) (e2.trans f5)) ?_
  refine ownU_region_end ?_
  refine ownU_inBlock ?_
  refine ownU_region (id := 13) (ops := opsOf (sel [1, 1, 1, 1, 0, 1, 4, 4, 1, 1, 1] bodyCl)) ?_
  refine ownU_quiet (i := 0) (rest := [1]) (.int .i64 i') rfl (by rfl) rfl hκ (fun _ => by subst hi'; kernel_rfl) ?_
  refine ownU_quiet (i := 1) (rest := []) (.int .i64 i') rfl (by rfl) rfl hκ (fun _ => by kernel_rfl) ?_
  refine ownU_region_end ?_
  refine ownU_inLoop ?_
  exact ownU_eq (by kernel_rfl) (hk (G ((clB κ).at ⟨clTs sb v len i' m' p1 p4 (ptr cb) (.bool true) (.pointer (some ad)) (ptr cb) (ptr cb) (ptr cb) (.pointer (some ⟨cb, 5, none⟩)) (.int .i64 st) (.bool true) (.bool true) (ptr cb) (ptr cb) (.pointer (some ⟨cb, 5, none⟩)) (.int .i64 st) (.bool false) (.bool false) (.int .i64 m) (.int .i64 m') (ptr cb) (ptr cb) (.pointer (some ⟨cb, 4, none⟩)) (.bool false) p38 p39 (ptr cb) (ptr cb) (.pointer (some ⟨cb, 5, none⟩)) (.int .i64 i') p44, []⟩ (.code (sel [1, 1, 1, 1, 0, 1, 4, 4] bodyCl) :: [.inLoop (sel [1, 1, 1, 1, 0, 1, 4, 4] bodyCl), .inBlock 0, .code (sel [1, 1, 1, 1, 1] bodyCl)])) cs) (fun hh => hh p1 p4 (ptr cb) (.bool true) (.pointer (some ad)) (ptr cb) (ptr cb) (ptr cb) (.pointer (some ⟨cb, 5, none⟩)) (.int .i64 st) (.bool true) (.bool true) (ptr cb) (ptr cb) (.pointer (some ⟨cb, 5, none⟩)) (.int .i64 st) (.bool false) (.bool false) (.int .i64 m) (.int .i64 m') (ptr cb) (ptr cb) (.pointer (some ⟨cb, 4, none⟩)) (.bool false) p38 p39 (ptr cb) (ptr cb) (.pointer (some ⟨cb, 5, none⟩)) (.int .i64 i') p44))
theorem close_turn2 {main : Bool} {Z : Addr → Prop} {Stop : Goroutine → World → Prop} {w₀ u : World} {κ : CallKind} {cs : List Frame} (hκ : κ ≠ .early) {sb cb : Nat} {v : Value} {len i i' m m' st : Int} {ad : Addr} {p1 p4 p5 p17 p18 p19 p20 p21 p22 p23 p24 p25 p26 p27 p28 p29 p30 p31 p32 p33 p34 p35 p36 p37 p38 p39 p40 p41 p42 p43 p44 : Value} (hi : i < len) (hi' : IntKind.i64.wrap (i + 1) = i') (hidx : ∀ {a : Act} {o : Oper} {x y : Operand} (w : World), o.op = .indexAddr 88 x y → a.eval x = v → a.eval y = .int .i64 i → (execOp a.eval o).run Try.prog w = .ok (.value (.pointer (some ad))) w) (hcell : u.cell? ad = some (ptr cb)) (c5 : u.cell? ⟨cb, 5, none⟩ = some (.int .i64 st)) (hst : st = 2) (c4 : u.cell? ⟨cb, 4, none⟩ = some (.bool true)) (hm' : IntKind.i64.wrap (m + 1) = m')
    (hk : ∀ fr, ClTurn κ fr sb v len i' m' cb → OwnU Try.prog main Z Stop w₀ (turnIn cb (fr :: cs)) u) : OwnU Try.prog main Z Stop w₀ (G ((clB κ).at ⟨clTs sb v len i m p1 p4 p5 p17 p18 p19 p20 p21 p22 p23 p24 p25 p26 p27 p28 p29 p30 p31 p32 p33 p34 p35 p36 p37 p38 p39 p40 p41 p42 p43 p44, []⟩ (.code (sel [1, 1, 1, 1, 0, 1, 4, 4] bodyCl) :: [.inLoop (sel [1, 1, 1, 1, 0, 1, 4, 4] bodyCl), .inBlock 0, .code (sel [1, 1, 1, 1, 1] bodyCl)])) cs) u := by
  refine ownU_seq (x := sel [1, 1, 1, 1, 0, 1, 4, 4, 0] bodyCl) (y := sel [1, 1, 1, 1, 0, 1, 4, 4, 1] bodyCl) ?_
  refine ownU_region (id := 6) (ops := opsOf (sel [1, 1, 1, 1, 0, 1, 4, 4, 0] bodyCl)) ?_
  refine ownU_quiet (i := 0) (rest := []) (.bool true) rfl (by rfl) rfl hκ (fun _ => lss_v (p := i) (q := len) rfl (by kernel_rfl) (by kernel_rfl) (by simp; omega)) ?_
  refine ownU_region_end ?_
  refine ownU_seq (x := sel [1, 1, 1, 1, 0, 1, 4, 4, 1, 0] bodyCl) (y := sel [1, 1, 1, 1, 0, 1, 4, 4, 1, 1] bodyCl) ?_
  refine ownU_cond (c := .tmp 17) (x := .skip) (y := .exit 0) (t := true) (by kernel_rfl) ?_
  refine ownU_skip ?_
  refine ownU_seq (x := sel [1, 1, 1, 1, 0, 1, 4, 4, 1, 1, 0] bodyCl) (y := sel [1, 1, 1, 1, 0, 1, 4, 4, 1, 1, 1] bodyCl) ?_
  refine ownU_block (id := 1) (c := sel [1, 1, 1, 1, 0, 1, 4, 4, 1, 1, 0, 4] bodyCl) ?_
  refine ownU_seq (x := sel [1, 1, 1, 1, 0, 1, 4, 4, 1, 1, 0, 4, 0] bodyCl) (y := sel [1, 1, 1, 1, 0, 1, 4, 4, 1, 1, 0, 4, 1] bodyCl) ?_
  refine ownU_region (id := 7) (ops := opsOf (sel [1, 1, 1, 1, 0, 1, 4, 4, 1, 1, 0, 4, 0] bodyCl)) ?_
  refine ownU_quiet (i := 0) (rest := [1, 2]) (.pointer (some ad)) rfl (by rfl) rfl hκ (fun w => hidx w rfl (by kernel_rfl) (by kernel_rfl)) ?_
  refine ownU_load (i := 1) (rest := [2]) ad (ptr cb) rfl (by rfl) hκ loads_co rfl (by kernel_rfl) hcell ?_
  refine ownU_quiet (i := 2) (rest := []) (ptr cb) rfl (by rfl) rfl hκ (fun _ => by kernel_rfl) ?_
  refine ownU_region_end ?_
  refine ownU_seq (x := sel [1, 1, 1, 1, 0, 1, 4, 4, 1, 1, 0, 4, 1, 0] bodyCl) (y := sel [1, 1, 1, 1, 0, 1, 4, 4, 1, 1, 0, 4, 1, 1] bodyCl) ?_
  refine ownU_seq (x := sel [1, 1, 1, 1, 0, 1, 4, 4, 1, 1, 0, 4, 1, 0, 0] bodyCl) (y := sel [1, 1, 1, 1, 0, 1, 4, 4, 1, 1, 0, 4, 1, 0, 1] bodyCl) ?_
  refine ownU_region (id := 8) (ops := opsOf (sel [1, 1, 1, 1, 0, 1, 4, 4, 1, 1, 0, 4, 1, 0, 0] bodyCl)) ?_
  refine ownU_quiet (i := 0) (rest := [1, 2, 3, 4, 5, 6, 7, 8, 9, 10, 11]) (ptr cb) rfl (by rfl) rfl hκ (fun _ => by kernel_rfl) ?_
  refine ownU_quiet (i := 1) (rest := [2, 3, 4, 5, 6, 7, 8, 9, 10, 11]) (ptr cb) rfl (by rfl) rfl hκ (fun _ => by kernel_rfl) ?_
  refine ownU_quiet (i := 2) (rest := [3, 4, 5, 6, 7, 8, 9, 10, 11]) (.pointer (some ⟨cb, 5, none⟩)) rfl (by rfl) rfl hκ (fun _ => by kernel_rfl) ?_
  refine ownU_load (i := 3) (rest := [4, 5, 6, 7, 8, 9, 10, 11]) ⟨cb, 5, none⟩ (.int .i64 st) rfl (by rfl) hκ loads_int rfl (by kernel_rfl) c5 ?_
  refine ownU_quiet (i := 4) (rest := [5, 6, 7, 8, 9, 10, 11]) (.bool true) rfl (by rfl) rfl hκ (fun _ => neq_v (p := st) (q := 1) rfl (by kernel_rfl) (by kernel_rfl) (by rw [hst]; decide)) ?_
  refine ownU_quiet (i := 5) (rest := [6, 7, 8, 9, 10, 11]) (.bool true) rfl (by rfl) rfl hκ (fun _ => by kernel_rfl) ?_
  refine ownU_quiet (i := 6) (rest := [7, 8, 9, 10, 11]) (ptr cb) rfl (by kernel_rfl) rfl hκ (fun _ => by kernel_rfl) ?_
  refine ownU_quiet (i := 7) (rest := [8, 9, 10, 11]) (ptr cb) rfl (by kernel_rfl) rfl hκ (fun _ => by kernel_rfl) ?_
  refine ownU_quiet (i := 8) (rest := [9, 10, 11]) (.pointer (some ⟨cb, 5, none⟩)) rfl (by kernel_rfl) rfl hκ (fun _ => by kernel_rfl) ?_
  refine ownU_load (i := 9) (rest := [10, 11]) ⟨cb, 5, none⟩ (.int .i64 st) rfl (by kernel_rfl) hκ loads_int rfl (by kernel_rfl) c5 ?_
  refine ownU_quiet (i := 10) (rest := [11]) (.bool false) rfl (by kernel_rfl) rfl hκ (fun _ => neq_v (p := st) (q := 2) rfl (by kernel_rfl) (by kernel_rfl) (by rw [hst]; decide)) ?_
  refine ownU_quiet (i := 11) (rest := []) (.bool false) rfl (by rfl) rfl hκ (fun _ => by kernel_rfl) ?_
  refine ownU_region_end ?_
  refine ownU_cond (c := .tmp 31) (x := .exit 1) (y := .skip) (t := false) (by kernel_rfl) ?_
  refine ownU_skip ?_
  refine ownU_seq (x := sel [1, 1, 1, 1, 0, 1, 4, 4, 1, 1, 0, 4, 1, 1, 0] bodyCl) (y := sel [1, 1, 1, 1, 0, 1, 4, 4, 1, 1, 0, 4, 1, 1, 1] bodyCl) ?_
  refine ownU_region (id := 9) (ops := opsOf (sel [1, 1, 1, 1, 0, 1, 4, 4, 1, 1, 0, 4, 1, 1, 0] bodyCl)) ?_
  refine ownU_quiet (i := 0) (rest := [1, 2]) (.int .i64 m) rfl (by rfl) rfl hκ (fun _ => by kernel_rfl) ?_
  refine ownU_quiet (i := 1) (rest := [2]) (.int .i64 m') rfl (by rfl) rfl hκ (fun _ => by subst hm'; kernel_rfl) ?_
  refine ownU_quiet (i := 2) (rest := []) (.int .i64 m') rfl (by rfl) rfl hκ (fun _ => by kernel_rfl) ?_
  refine ownU_region_end ?_
  refine ownU_seq (x := sel [1, 1, 1, 1, 0, 1, 4, 4, 1, 1, 0, 4, 1, 1, 1, 0] bodyCl) (y := sel [1, 1, 1, 1, 0, 1, 4, 4, 1, 1, 0, 4, 1, 1, 1, 1] bodyCl) ?_
  refine ownU_seq (x := sel [1, 1, 1, 1, 0, 1, 4, 4, 1, 1, 0, 4, 1, 1, 1, 0, 0] bodyCl) (y := sel [1, 1, 1, 1, 0, 1, 4, 4, 1, 1, 0, 4, 1, 1, 1, 0, 1] bodyCl) ?_
  refine ownU_region (id := 10) (ops := opsOf (sel [1, 1, 1, 1, 0, 1, 4, 4, 1, 1, 0, 4, 1, 1, 1, 0, 0] bodyCl)) ?_
  refine ownU_quiet (i := 0) (rest := [1, 2, 3]) (ptr cb) rfl (by rfl) rfl hκ (fun _ => by kernel_rfl) ?_
  refine ownU_quiet (i := 1) (rest := [2, 3]) (ptr cb) rfl (by rfl) rfl hκ (fun _ => by kernel_rfl) ?_
  refine ownU_quiet (i := 2) (rest := [3]) (.pointer (some ⟨cb, 4, none⟩)) rfl (by rfl) rfl hκ (fun _ => by kernel_rfl) ?_
  refine ownU_load (i := 3) (rest := []) ⟨cb, 4, none⟩ (.bool true) rfl (by rfl) hκ loads_bool rfl (by kernel_rfl) c4 ?_
  refine ownU_region_end ?_
  refine ownU_cond (c := .tmp 37) (x := sel [1, 1, 1, 1, 0, 1, 4, 4, 1, 1, 0, 4, 1, 1, 1, 0, 1, 2] bodyCl) (y := .skip) (t := true) (by kernel_rfl) ?_
  refine ownU_region (id := 11) (ops := opsOf (sel [1, 1, 1, 1, 0, 1, 4, 4, 1, 1, 0, 4, 1, 1, 1, 0, 1, 2] bodyCl)) ?_
  refine ownU_quiet (i := 0) (rest := [1]) (ptr cb) rfl (by rfl) rfl hκ (fun _ => by kernel_rfl) ?_
  refine ownU_enter (i := 1) (rest := []) (f := 64) rfl (by rfl) hκ rfl Try.func64 (by kernel_rfl) rfl ?_
  exact ownU_eq (by kernel_rfl) (hk ((clB κ).at ⟨List.toArray (ptr sb :: p1 :: .int .i64 0 :: .int .i64 m' :: p4 :: ptr cb :: ptr sb :: .bool false :: ptr sb :: ptr sb :: .pointer (some ⟨sb, 3, none⟩) :: ptr sb :: ptr sb :: .pointer (some ⟨sb, 0, none⟩) :: v :: .int .i64 len :: .int .i64 i :: .bool true :: .pointer (some ad) :: ptr cb :: ptr cb :: ptr cb :: .pointer (some ⟨cb, 5, none⟩) :: .int .i64 st :: .bool true :: .bool true :: ptr cb :: ptr cb :: .pointer (some ⟨cb, 5, none⟩) :: .int .i64 st :: .bool false :: .bool false :: .int .i64 m :: .int .i64 m' :: ptr cb :: ptr cb :: .pointer (some ⟨cb, 4, none⟩) :: .bool true :: ptr cb :: p39 :: p40 :: p41 :: p42 :: p43 :: p44 :: []), []⟩ [.inRegion (opsOf (sel [1, 1, 1, 1, 0, 1, 4, 4, 1, 1, 0, 4, 1, 1, 1, 0, 1, 2] bodyCl)) [1], .code (sel [1, 1, 1, 1, 0, 1, 4, 4, 1, 1, 0, 4, 1, 1, 1, 1] bodyCl), .inBlock 1, .code (sel [1, 1, 1, 1, 0, 1, 4, 4, 1, 1, 1] bodyCl), .inLoop (sel [1, 1, 1, 1, 0, 1, 4, 4] bodyCl), .inBlock 0, .code (sel [1, 1, 1, 1, 1] bodyCl)]) (clTurn_mk hκ hi'))
end Go.Proofs.Ytolnmdanlggmhaa

/- Close, told by the crew. -/
namespace Go.Proofs.Ytolnmdanlggmhaa
open Go.RowKit Go.Maps Go.Conc
open Go.ConcN (upd upd_ne upd_same)

set_option maxRecDepth 100000
set_option maxHeartbeats 2000000

theorem idx_v {a : Act} {o : Oper} {x y : Operand} {A : Addr} {n cap i : Nat} (w : World) (ho : o.op = .indexAddr 88 x y) (hx : a.eval x = .slice (some A) n cap) (hy : a.eval y = .int .i64 (i : Int)) (hi : i < n) : (execOp a.eval o).run Try.prog w = .ok (.value (.pointer (some (A.add i)))) w := by
  have hs := Try.underlying88
  unfold execOp
  simp only [ho, hx, hy]
  simp [go_sem, hs, hi]
/-- The place of a coroutine in the scheduler's slice. -/
theorem co_place {own : Nat → Nat} {S : Sch} {u : World} {i : Nat} {c : CoR} (si : SI own S u) (hi : S.cos[i]? = some c) : ∃ ad, u.cell? ad = some (ptr c.b) ∧ ∀ {a : Act} {o : Oper} {x y : Operand} (w : World), o.op = .indexAddr 88 x y → a.eval x = S.v → a.eval y = .int .i64 (i : Int) → (execOp a.eval o).run Try.prog w = .ok (.value (.pointer (some ad))) w := by
  obtain ⟨A0, cap, hv, _, _⟩ := si.row.slice
  have hr := si.row
  rw [hv] at hr
  obtain ⟨ad, hA, _, hcell⟩ := hr.rd.at' i (ptr c.b) (by rw [List.getElem?_map, hi]; rfl)
  subst hA
  have hl := (List.getElem?_eq_some_iff.1 hi).1
  refine ⟨ad.add i, hcell, fun {a o x y} w ho hx hy => idx_v w ho (hx.trans hv) hy (by simpa using hl)⟩

section
variable {Post : Value → World → Prop} {E : Env} {own : Nat → Nat} {S : Sch} {ks : List Kid} {FC : List Row} {n : Nat} {Inb : Nat → Option Seat} {w : World} {cs : List Frame} {i : Nat} {c : CoR} {k : Kid} {g : Goroutine} {κ : CallKind} {m : Int}

theorem CI.rest0 (C : CI E 0 own S ks FC n Inb w) {w1 : World} (hs : Sim False (ZF FC) (guardW FC w) w1) (hkp : Kept (ZF FC) w w1) : CI E 0 own S ks FC n Inb w1 ∧ Same6 own w w1 := by
  obtain ⟨a, C1⟩ := C.step hs hkp (Stp.refl C.ltG (T := fun _ => False)) (fun h => h) C.siG C.fi rfl rfl (fun i c h => ⟨c, h, rfl, rfl⟩)
  exact ⟨C1, same6_step a C.fi (Stp.refl C.ltG (T := fun _ => False)) (fun _ h => h.elim) C.lw C.fi⟩

theorem close_skip_won (hκ : κ ≠ .early) (C : CI E 0 own S ks FC n Inb w) (hg : AtClose κ g S.sb S.v S.cos.length i m cs) (hi : S.cos[i]? = some c) (hst : c.st ≠ 1 ∧ c.st ≠ 2)
    (next : ∀ g' w', AtClose κ g' S.sb S.v S.cos.length ((i + 1 : Nat) : Int) m cs → CI E 0 own S ks FC n Inb w' → Same6 own w w' → Won Try.prog Post FC n Inb 0 g' w') : Won Try.prog Post FC n Inb 0 g w := by
  obtain ⟨ad, hcell, hidx⟩ := co_place C.siG hi
  have c5 := cellsAt_cell (C.siG.co i c hi) 5 (.int .i64 c.st) rfl
  have hil : i < S.cos.length := (List.getElem?_eq_some_iff.1 hi).1
  have hl := C.si.lim
  refine win_own C.fi.wf (hg fun {p1 p4 p5 p17 p18 p19 p20 p21 p22 p23 p24 p25 p26 p27 p28 p29 p30 p31 p32 p33 p34 p35 p36 p37 p38 p39 p40 p41 p42 p43 p44} => close_skip hκ (by omega) (wrap_id (x := (i : Int) + 1) (by omega) (by omega)) hidx hcell c5 hst fun g' hg' => ownU_stop fun w1 hs hkp => ?_)
  obtain ⟨C1, s1⟩ := C.rest0 hs hkp
  exact next g' w1 (by rw [show ((i + 1 : Nat) : Int) = (i : Int) + 1 by omega]; exact hg') C1 s1

theorem close_mark_won (hκ : κ ≠ .early) (C : CI E 0 own S ks FC n Inb w) (hg : AtClose κ g S.sb S.v S.cos.length i m cs) (hi : S.cos[i]? = some c) (hst : c.st = 1 ∨ c.st = 2) (hb : c.begun = false) (hm : 0 ≤ m ∧ m < 1000000)
    (next : ∀ g' w', AtClose κ g' S.sb S.v S.cos.length ((i + 1 : Nat) : Int) (m + 1) cs → CI E 0 own { S with cos := S.cos.set i { c with st := 5 } } ks FC n Inb w' → Same6 own w w' → Won Try.prog Post FC n Inb 0 g' w') : Won Try.prog Post FC n Inb 0 g w := by
  obtain ⟨ad, hcell, hidx⟩ := co_place C.siG hi
  have c5 := cellsAt_cell (C.siG.co i c hi) 5 (.int .i64 c.st) rfl
  have c4 := cellsAt_cell (C.siG.co i c hi) 4 (.bool false) (by rw [← hb]; rfl)
  have f5 := cellsAt_free (C.siG.co i c hi) 5 (by omega)
  have hil : i < S.cos.length := (List.getElem?_eq_some_iff.1 hi).1
  have hl := C.si.lim
  have hcm := List.mem_of_getElem? hi
  have key : ∀ g', AtClose κ g' S.sb S.v S.cos.length ((i : Int) + 1) (m + 1) cs → OwnU Try.prog (0 == 0) (ZF FC) (fun g' w' => Won Try.prog Post FC n Inb 0 g' w') w g' ((guardW FC w).setCell ⟨c.b, 5, none⟩ (.int .i64 5)) := fun g' hg' => ownU_stop fun w1 hs hkp => by
    have st : Stp (· = 4) own own (guardW FC w) ((guardW FC w).setCell ⟨c.b, 5, none⟩ (.int .i64 5)) := stp_setCell C.ltG (C.si.oco c hcm) _
    have fi' : FI own { S with cos := S.cos.set i { c with st := 5 } } FC := C.fi.setCo hi { c with st := 5 } rfl rfl rfl
    obtain ⟨a, C1⟩ := C.step (S' := { S with cos := S.cos.set i { c with st := 5 } }) hs hkp st (by omega) (C.siG.setCo hi { c with st := 5 } 5 (.int .i64 5) rfl rfl rfl) fi' rfl (by simp) (hkid_set hi rfl rfl)
    have s1 : Same6 own w w1 := same6_step a fi' st (fun t h => by omega) C.lw C.fi
    exact next g' w1 (by rw [show ((i + 1 : Nat) : Int) = (i : Int) + 1 by omega]; exact hg') C1 s1
  rcases hst with hst | hst
  · exact win_own C.fi.wf (hg fun {p1 p4 p5 p17 p18 p19 p20 p21 p22 p23 p24 p25 p26 p27 p28 p29 p30 p31 p32 p33 p34 p35 p36 p37 p38 p39 p40 p41 p42 p43 p44} => close_mark1 hκ (by omega) (wrap_id (x := (i : Int) + 1) (by omega) (by omega)) hidx hcell c5 hst c4 (wrap_id (by omega) (by omega)) f5 key)
  · exact win_own C.fi.wf (hg fun {p1 p4 p5 p17 p18 p19 p20 p21 p22 p23 p24 p25 p26 p27 p28 p29 p30 p31 p32 p33 p34 p35 p36 p37 p38 p39 p40 p41 p42 p43 p44} => close_mark2 hκ (by omega) (wrap_id (x := (i : Int) + 1) (by omega) (by omega)) hidx hcell c5 hst c4 (wrap_id (by omega) (by omega)) f5 key)

/-- Behind a turn that Close has made. -/
theorem close_after {c2 : CoR} {sb : Nat} {v : Value} {len i' m' : Int} {cb : Nat} {fr : Frame} (C : CI E 0 own S ks FC n Inb w) (hfr : ClTurn κ fr sb v len i' m' cb) {c0 : CoR} {sc : Nat} (hi : S.cos[i]? = some c2) (hcb : c2.b = cb)
    (next : ∀ g' w', AtClose κ g' sb v len i' m' cs → CI E 0 own { S with cos := S.cos.set i { c2 with st := 5 } } ks FC n Inb w' → Same6 own w w' → Won Try.prog Post FC n Inb 0 g' w') : Won Try.prog Post FC n Inb 0 (Conc.served (seatOf c0 sb sc (fr :: cs)) (.agg #[])) w := by
  subst hcb
  obtain ⟨b₀, a₀, ops, j, rest, k₀, rfl, hb⟩ := hfr
  have c5 := cellsAt_cell (C.siG.co i c2 hi) 5 (.int .i64 c2.st) rfl
  have f5 := cellsAt_free (C.siG.co i c2 hi) 5 (by omega)
  have hcm := List.mem_of_getElem? hi
  refine win_own C.fi.wf (seat_back (hb c5 f5 fun g' hg' => ownU_stop fun w1 hs hkp => ?_))
  have st : Stp (· = 4) own own (guardW FC w) ((guardW FC w).setCell ⟨c2.b, 5, none⟩ (.int .i64 5)) := stp_setCell C.ltG (C.si.oco c2 hcm) _
  have fi' : FI own { S with cos := S.cos.set i { c2 with st := 5 } } FC := C.fi.setCo hi { c2 with st := 5 } rfl rfl rfl
  have si' := C.siG.setCo hi { c2 with st := 5 } 5 (.int .i64 5) rfl rfl rfl
  obtain ⟨a, C1⟩ := C.step (S' := { S with cos := S.cos.set i { c2 with st := 5 } }) hs hkp st (by omega) si' fi' rfl (by simp) (hkid_set hi rfl rfl)
  exact next g' w1 hg' C1 (same6_step a fi' st (fun t h => by omega) C.lw C.fi)

theorem close_turn_won (hκ : κ ≠ .early) (C : CI E 0 own S ks FC n Inb w) (hg : AtClose κ g S.sb S.v S.cos.length i m cs) (hi : S.cos[i]? = some c) (hst : c.st = 1 ∨ c.st = 2) (hk : ks[i]? = some k) (ht : k.tag = 1) (hm : 0 ≤ m ∧ m < 1000000)
    (hkid : ∀ fr Inb' w', ClTurn κ fr S.sb S.v S.cos.length ((i + 1 : Nat) : Int) (m + 1) c.b → Inb' 0 = some (Seat.one S.sc (.agg #[]) false (· = seatOf c S.sb S.sc (fr :: cs))) → CI E k.j own S (ks.set i ⟨2, k.j, k.g⟩) FC n Inb' w' → Same6 own w w' → Won Try.prog Post FC n Inb' k.j (Conc.served k.g (.agg #[])) w') : Won Try.prog Post FC n Inb 0 g w := by
  have hb := ((C.kid i c k hi hk).2.2.1 ht).1
  obtain ⟨ad, hcell, hidx⟩ := co_place C.siG hi
  have c5 := cellsAt_cell (C.siG.co i c hi) 5 (.int .i64 c.st) rfl
  have c4 := cellsAt_cell (C.siG.co i c hi) 4 (.bool true) (by rw [← hb]; rfl)
  have hil : i < S.cos.length := (List.getElem?_eq_some_iff.1 hi).1
  have hl := C.si.lim
  have key : ∀ fr, ClTurn κ fr S.sb S.v S.cos.length ((i : Int) + 1) (m + 1) c.b → OwnU Try.prog (0 == 0) (ZF FC) (fun g' w' => Won Try.prog Post FC n Inb 0 g' w') w (turnIn c.b (fr :: cs)) (guardW FC w) := fun fr hfr => ownU_stop fun w1 hs hkp => by
    obtain ⟨C1, s1⟩ := C.rest0 hs hkp
    obtain ⟨kk, hkk⟩ := C1.si.scAt
    refine win_reseat (c := S.sc) (z := .agg #[]) (home := (· = seatOf c S.sb S.sc (fr :: cs))) (fun y s hy hs' => C1.freshSc y s hy hs') hkk ?_
    have hseat : (upd Inb 0 (some (Seat.one S.sc (.agg #[]) false (· = seatOf c S.sb S.sc (fr :: cs))))) 0 = some (Seat.one S.sc (.agg #[]) false (· = seatOf c S.sb S.sc (fr :: cs))) := upd_same _ _ _
    refine turn_any (C1.seat (.agg #[]) _) hi hk (by omega) rfl hseat (fun h => by omega) fun _ w' C2 s2 => ?_
    exact hkid fr _ w' (by rw [show ((i + 1 : Nat) : Int) = (i : Int) + 1 by omega]; exact hfr) hseat C2 (s1.trans s2 (OLe.refl _))
  rcases hst with hst | hst
  · exact win_own C.fi.wf (hg fun {p1 p4 p5 p17 p18 p19 p20 p21 p22 p23 p24 p25 p26 p27 p28 p29 p30 p31 p32 p33 p34 p35 p36 p37 p38 p39 p40 p41 p42 p43 p44} => close_turn1 hκ (by omega) (wrap_id (x := (i : Int) + 1) (by omega) (by omega)) hidx hcell c5 hst c4 (wrap_id (by omega) (by omega)) key)
  · exact win_own C.fi.wf (hg fun {p1 p4 p5 p17 p18 p19 p20 p21 p22 p23 p24 p25 p26 p27 p28 p29 p30 p31 p32 p33 p34 p35 p36 p37 p38 p39 p40 p41 p42 p43 p44} => close_turn2 hκ (by omega) (wrap_id (x := (i : Int) + 1) (by omega) (by omega)) hidx hcell c5 hst c4 (wrap_id (by omega) (by omega)) key)

theorem close_end_won (hκ : κ ≠ .early) (C : CI E 0 own S ks FC n Inb w) (hg : AtClose κ g S.sb S.v S.cos.length i m cs) (hi : S.cos.length ≤ i)
    (next : ∀ g' w', ClOut κ m cs g' → CI E 0 own S ks FC n Inb w' → Same6 own w w' → Won Try.prog Post FC n Inb 0 g' w') : Won Try.prog Post FC n Inb 0 g w := by
  refine win_own C.fi.wf (hg fun {p1 p4 p5 p17 p18 p19 p20 p21 p22 p23 p24 p25 p26 p27 p28 p29 p30 p31 p32 p33 p34 p35 p36 p37 p38 p39 p40 p41 p42 p43 p44} => close_exit hκ (by omega) fun g' hg' => ownU_stop fun w1 hs hkp => ?_)
  obtain ⟨C1, s1⟩ := C.rest0 hs hkp
  exact next g' w1 hg' C1 s1

theorem close_enter_won (hκ : κ ≠ .early) (C : CI E 0 own S ks FC n Inb w) (hcl : S.closed = false)
    (next : ∀ g' w', AtClose κ g' S.sb S.v S.cos.length 0 0 cs → CI E 0 own { S with closed := true } ks FC n Inb w' → Same6 own w w' → Won Try.prog Post FC n Inb 0 g' w') : Won Try.prog Post FC n Inb 0 (closeIn κ S.sb cs) w := by
  obtain ⟨A0, cap, hv, _, _⟩ := C.si.row.slice
  rw [List.length_map] at hv
  have hsch := C.siG.sch
  rw [hcl] at hsch
  refine win_own C.fi.wf (close_enter hκ hsch hv.symm rfl fun g' hg' => ownU_stop fun w1 hs hkp => ?_)
  have st : Stp (· = 1) own own (guardW FC w) ((guardW FC w).setCell ⟨S.sb, 3, none⟩ (.bool true)) := stp_setCell C.ltG C.si.osb _
  obtain ⟨a, C1⟩ := C.step (S' := { S with closed := true }) hs hkp st (by omega) C.siG.close C.fi.close rfl rfl (fun i c h => ⟨c, h, rfl, rfl⟩)
  exact next g' w1 hg' C1 (same6_step a C.fi.close st (fun t h => by omega) C.lw C.fi)
theorem close_again_won (hκ : κ ≠ .early) (C : CI E 0 own S ks FC n Inb w) (hcl : S.closed = true)
    (next : ∀ g' w', ClOut κ 0 cs g' → CI E 0 own S ks FC n Inb w' → Same6 own w w' → Won Try.prog Post FC n Inb 0 g' w') : Won Try.prog Post FC n Inb 0 (closeIn κ S.sb cs) w := by
  have hsch := C.siG.sch
  rw [hcl] at hsch
  refine win_own C.fi.wf (close_again hκ hsch fun g' hg' => ownU_stop fun w1 hs hkp => ?_)
  obtain ⟨C1, s1⟩ := C.rest0 hs hkp
  exact next g' w1 hg' C1 s1
/-- Close, where all have ended. -/
theorem close_done_won (hκ : κ ≠ .early) (hall : ∀ c ∈ S.cos, c.st ≠ 1 ∧ c.st ≠ 2) : ∀ (r i : Nat) {g : Goroutine} {w : World}, i + r = S.cos.length → CI E 0 own S ks FC n Inb w → AtClose κ g S.sb S.v S.cos.length i m cs →
    (∀ g' w', ClOut κ m cs g' → CI E 0 own S ks FC n Inb w' → Same6 own w w' → Won Try.prog Post FC n Inb 0 g' w') → Won Try.prog Post FC n Inb 0 g w := by
  intro r
  induction r with
  | zero => exact fun i {g w} hr C hg next => close_end_won hκ C hg (by omega) next
  | succ r ih =>
    intro i g w hr C hg next
    have hl : i < S.cos.length := by omega
    refine close_skip_won hκ C hg (List.getElem?_eq_getElem hl) (hall _ (List.getElem_mem hl)) fun g' w' hg' C' s' => ?_
    exact ih (i + 1) (by omega) C' hg' fun g2 w2 h2 C2 s2 => next g2 w2 h2 C2 (s'.trans s2 (OLe.refl _))
end
end Go.Proofs.Ytolnmdanlggmhaa

/- New, in company; a crew without coroutines. (Printed by gen_new.py.) -/
namespace Go.Proofs.Ytolnmdanlggmhaa
open Go.RowKit Go.Maps Go.Conc
open Go.ConcN (upd upd_ne upd_same)

set_option maxRecDepth 100000
set_option maxHeartbeats 2000000

noncomputable abbrev bodyN : Code := Try.f35.body.getD .skip
noncomputable def newIn (cs : List Frame) : Goroutine := G ((base 35).at ⟨#[undef, undef, undef, undef, undef], []⟩ [.code bodyN]) cs
/-- New at the box that makes the scheduler's block. -/
noncomputable def newBox (qb sc : Nat) (cs : List Frame) : Goroutine := G ((base 35).at ⟨#[.pointer none, ptr qb, .chan (some sc), .agg #[.slice none 0 0, ptr qb, .chan (some sc), .bool false], undef], []⟩ [.inRegion (opsOf (sel [1, 0] bodyN)) [3, 4], .code .ret]) cs
noncomputable def newBoxed (qb sc sb : Nat) (cs : List Frame) : Goroutine := G ((base 35).at ⟨#[.pointer none, ptr qb, .chan (some sc), .agg #[.slice none 0 0, ptr qb, .chan (some sc), .bool false], ptr sb], []⟩ [.inRegion (opsOf (sel [1, 0] bodyN)) [4], .code .ret]) cs
theorem newBox_at {main : Bool} {qb sc : Nat} {cs : List Frame} (w : World) : stepG Try.prog main (newBox qb sc cs) w = .go (newBoxed qb sc w.heap.size cs) { w with heap := w.heap.push (.cells #[.slice none 0 0, ptr qb, .chan (some sc), .bool false] 90) } := by
  have e : newBoxed qb sc w.heap.size cs = G ((base 35).at ((⟨#[.pointer none, ptr qb, .chan (some sc), .agg #[.slice none 0 0, ptr qb, .chan (some sc), .bool false], undef], []⟩ : Act).put (some 4) (ptr w.heap.size)) [.inRegion (opsOf (sel [1, 0] bodyN)) [4], .code .ret]) cs := by kernel_rfl
  rw [e]
  exact value_quiet (ops := opsOf (sel [1, 0] bodyN)) (i := 3) (rest := [4]) (z := ptr w.heap.size) rfl (by rfl) (by decide) (by kernel_rfl) (by kernel_rfl)
theorem new_leave {main : Bool} {Z : Addr → Prop} {Stop : Goroutine → World → Prop} {w₀ u : World} {qb sc sb : Nat} {b₀ : Frame} {a₀ : Act} {ops : Array Oper} {j : Nat} {rest : List Nat} {k₀ : List Item} {cs : List Frame}
    (hk : OwnU Try.prog main Z Stop w₀ (G (b₀.at (a₀.put ((ops[j]?).bind (·.dst)) (ptr sb)) (.inRegion ops rest :: k₀)) cs) u) : OwnU Try.prog main Z Stop w₀ (newBoxed qb sc sb (b₀.at a₀ (.inRegion ops (j :: rest) :: k₀) :: cs)) u := by
  unfold newBoxed
  refine ownU_quiet (i := 4) (rest := []) (ptr sb) rfl (by rfl) rfl (by decide) (fun _ => by kernel_rfl) ?_
  refine ownU_region_end ?_
  refine ownU_ret ?_
  refine ownU_leave1 (t := 0) (fn := Try.f35) rfl (by rfl) Try.func35 rfl ?_
  exact ownU_eq (by kernel_rfl) hk

/-- What New has made, but for the scheduler's block. -/
structure Made (u u' : World) (qb sc : Nat) : Prop where
  new : New u u'
  qu : ∃ fp, Qui u' fp qb 0 [] ∧ ∀ i, fp i → u.heap.size ≤ i ∧ i ≠ sc ∧ i < u'.heap.size
  ch : u'.heap[sc]? = some (.chan 0 #[] false 0 0 false)
  lo : u.heap.size ≤ sc
theorem qnew_u (u : World) (A : Nat → Question → Nat) (d : Nat) : Calls Try.prog 14 #[.slice none 0 0] (tp u A d) fun e w' => e = .returned (ptr (u.heap.size + 1)) ∧ Qui w' (fun i => u.heap.size ≤ i ∧ i < w'.heap.size) (u.heap.size + 1) 0 [] ∧ New u w' := by
  refine (new_i none 0 0 [] (tp u A d) u.heap.size (Rd.nil _ _ _) (Nat.le_refl _) (by simp) (by omega)).mono ?_
  rintro e w' ⟨rfl, hq, hb⟩
  exact ⟨rfl, hq.tight, hb.os, hb.output, hb.size, hb.block⟩

theorem new_own {main : Bool} {Z : Addr → Prop} {Stop : Goroutine → World → Prop} {w₀ u : World} {cs : List Frame}
    (hk : ∀ qb sc u', Made u u' qb sc → OwnU Try.prog main Z Stop w₀ (newBox qb sc cs) u') : OwnU Try.prog main Z Stop w₀ (newIn cs) u := by
  unfold newIn
  refine ownU_seq (x := sel [0] bodyN) (y := sel [1] bodyN) ?_
  refine ownU_region (id := 0) (ops := opsOf (sel [0] bodyN)) ?_
  refine ownU_quiet (i := 0) (rest := []) (.pointer none) rfl (by rfl) rfl (by decide) (fun _ => by kernel_rfl) ?_
  refine ownU_region_end ?_
  refine ownU_lit #[.pointer none, undef, undef, undef, undef] [] (by kernel_rfl) (by kernel_rfl) ?_
  refine ownU_seq (x := sel [1, 0] bodyN) (y := .ret) ?_
  have hlast : ∀ qb sc u' A d, Made u u' qb sc → SchedU Try.prog main Z Stop w₀ (base 35) (opsOf (sel [1, 0] bodyN)) [.code .ret] cs 3 #[true, true, false, false, false] ⟨#[.pointer none, ptr qb, .chan (some sc), undef, undef], []⟩ (tp u' A d) := by
    intro qb sc u' A d hm t
    rw [go_one (i := 2) (by kernel_rfl), go_one (i := 3) (by kernel_rfl), go_one (i := 4) (by kernel_rfl)]
    refine ownU_quiet (i := 2) (.agg #[.slice none 0 0, ptr qb, .chan (some sc), .bool false]) rfl (by rfl) rfl (by decide) (fun _ => by kernel_rfl) ?_
    refine ownU_tp.2 ?_
    exact ownU_eq (by kernel_rfl) (hk qb sc u' hm)
  refine schedU_start (n := 5) (by kernel_rfl) rfl fun A d => ?_
  refine schedU_succ (rs := [0, 1]) (by kernel_rfl) (by decide) fun i hi t => ?_
  have hi' : i = 0 ∨ i = 1 := by simpa using hi
  rcases hi' with rfl | rfl
  · skip
    refine ownU_callK (i := 0) (L := lone18) (R := fun e w' => e = .returned (ptr (u.heap.size + 1)) ∧ Qui w' (fun i => u.heap.size ≤ i ∧ i < w'.heap.size) (u.heap.size + 1) 0 [] ∧ New u w') okL18 (by decide) rfl rfl (by kernel_rfl) (by rfl) (by decide) (fun A d => calls_eq (by kernel_rfl) (qnew_u u A d)) (fun e w h => ⟨_, h.1⟩) fun z u1 hR => ?_
    obtain ⟨e, hq, hn⟩ := hR
    injection e with e
    subst e
    refine schedU_to (act := ⟨#[.pointer none, ptr (u.heap.size + 1), undef, undef, undef], []⟩) (l := #[true, false, false, false, false]) (by kernel_rfl) (by kernel_rfl) (schedU_succ (rs := [1]) (by kernel_rfl) (by decide) fun i hi t => ?_) t
    have hi' : i = 1 := by simpa using hi
    subst hi'
    refine ownU_newV (fun n => .chan (some n)) (.chan 0 #[] false 0 0 false) (i := 1) rfl (by rfl) rfl (by decide) (fun _ => by kernel_rfl) ?_
    have hm : Made u (u1.alloc (.chan 0 #[] false 0 0 false)) (u.heap.size + 1) u1.heap.size := ⟨hn.trans (New.alloc u1 _), ⟨_, hq.keep fun i _ hl => Below.heap_alloc _ _ _ hl, fun i hi => ⟨hi.1, by omega, by rw [World.size_alloc]; omega⟩⟩, alloc_new' _ _ rfl, hn.size⟩
    exact schedU_to (by kernel_rfl) (by kernel_rfl) (hlast _ _ _ u1.tape u1.drawn hm) t
  · skip
    refine ownU_newV (fun n => .chan (some n)) (.chan 0 #[] false 0 0 false) (i := 1) rfl (by rfl) rfl (by decide) (fun _ => by kernel_rfl) ?_
    refine schedU_to (act := ⟨#[.pointer none, undef, .chan (some u.heap.size), undef, undef], []⟩) (l := #[false, true, false, false, false]) (by kernel_rfl) (by kernel_rfl) (schedU_succ (rs := [0]) (by kernel_rfl) (by decide) fun i hi t => ?_) t
    have hi' : i = 0 := by simpa using hi
    subst hi'
    have hu : New u ((tp u A d).alloc (.chan 0 #[] false 0 0 false)) := ⟨rfl, rfl, by rw [World.size_alloc]; exact Nat.le_succ _, fun b hb => Below.heap_alloc _ _ _ hb⟩
    have hs : ((tp u A d).alloc (.chan 0 #[] false 0 0 false)).heap.size = u.heap.size + 1 := by rw [World.size_alloc]; rfl
    have hc : ((tp u A d).alloc (.chan 0 #[] false 0 0 false)).heap[u.heap.size]? = some (.chan 0 #[] false 0 0 false) := alloc_new' _ _ rfl
    generalize (tp u A d).alloc (.chan 0 #[] false 0 0 false) = u0 at *
    refine ownU_callK (i := 0) (L := lone18) (R := fun e w' => e = .returned (ptr (u0.heap.size + 1)) ∧ Qui w' (fun i => u0.heap.size ≤ i ∧ i < w'.heap.size) (u0.heap.size + 1) 0 [] ∧ New u0 w') okL18 (by decide) rfl rfl (by kernel_rfl) (by rfl) (by decide) (fun A d => calls_eq (by kernel_rfl) (qnew_u u0 A d)) (fun e w h => ⟨_, h.1⟩) fun z u1 hR => ?_
    obtain ⟨e, hq, hn⟩ := hR
    injection e with e
    subst e
    have hm : Made u u1 (u0.heap.size + 1) u.heap.size := ⟨hu.trans hn, ⟨_, hq, fun i hi => ⟨by omega, by omega, hi.2⟩⟩, (hn.block _ (by omega)).trans hc, Nat.le_refl _⟩
    exact schedU_to (by kernel_rfl) (by kernel_rfl) (hlast _ _ _ u1.tape u1.drawn hm) t

/-- What is there before a scheduler is made. -/
structure Ground (FC : List Row) (n : Nat) (Inb : Nat → Option Seat) (w : World) : Prop where
  wf : WfF FC
  rows : ∀ r ∈ FC, r.b < w.heap.size
  top : ∀ x s, Inb x = some s → x < n
  chs : ∀ x s r, Inb x = some s → s.has r → r < w.heap.size
  n0 : 0 < n
  none0 : Inb 0 = none
def emptyS (sb qb sc : Nat) : Sch := ⟨sb, qb, sc, .slice none 0 0, 0, [], [], false⟩

theorem new_won {Post : Value → World → Prop} {FC : List Row} {n : Nat} {Inb : Nat → Option Seat} {w : World} {b₀ : Frame} {a₀ : Act} {ops : Array Oper} {j : Nat} {rest : List Nat} {k₀ : List Item} {cs : List Frame} (H : Ground FC n Inb w)
    (next : ∀ own sb qb sc FC' w', CI ⟨w, FC, Inb⟩ 0 own (emptyS sb qb sc) [] FC' n Inb w' → (∀ b, own b ≤ 5) → (∀ r ∈ FC, r ∈ FC') → Won Try.prog Post FC' n Inb 0 (G (b₀.at (a₀.put ((ops[j]?).bind (·.dst)) (ptr sb)) (.inRegion ops rest :: k₀)) cs) w') :
    Won Try.prog Post FC n Inb 0 (newIn (b₀.at a₀ (.inRegion ops (j :: rest) :: k₀) :: cs)) w := by
  have hgs : (guardW FC w).heap.size = w.heap.size := by simp [guardW]
  refine win_own H.wf (new_own fun qb sc u' hm => ownU_stop fun w1 hs hkp => ?_)
  obtain ⟨fp, hq, hfp⟩ := hm.qu
  have hlo := hm.lo
  rw [hgs] at hlo
  have hsz := hs.size
  have hscl : sc < u'.heap.size := obj_lt hm.ch
  -- the tags of what is new
  have st : Stp (fun _ => False) (fun _ => 0) (retagC (retagC (fun _ => 0) 2 fp) 5 (· = sc)) (guardW FC w) u' := by
    refine ⟨hm.new.os, hm.new.output, hm.new.size, fun b hb _ => hm.new.block b hb, fun b hb => absurd rfl hb, fun b _ hb => ?_, fun b hb => ?_⟩
    · by_cases e : b = sc
      · rw [e, hgs]; exact hlo
      · rw [tag_ne e] at hb
        by_cases h : fp b
        · exact (hfp b h).1
        · rw [retagC_out h] at hb; exact absurd rfl hb
    · by_cases e : b = sc
      · rw [e]; exact hscl
      · rw [tag_ne e] at hb
        by_cases h : fp b
        · exact (hfp b h).2.2
        · rw [retagC_out h] at hb; exact absurd rfl hb
  have lw0 : LW (fun _ => 0) w := fun b hb => absurd rfl hb
  obtain ⟨a, lw1, ex⟩ := cross H.wf lw0 hs hkp st (fun h => h)
  generalize hown : retagC (retagC (fun _ => 0) 2 fp) 5 (· = sc) = own1 at *
  have h5 : own1 sc = 5 := by rw [← hown]; exact tag_eq rfl
  have h2 : ∀ b, fp b → own1 b = 2 := fun b hb => by rw [← hown, tag_ne (hfp b hb).2.1]; exact retagC_in hb
  have hall : ∀ b, own1 b ≤ 5 := fun b => by
    rw [← hown]
    by_cases e : b = sc
    · rw [tag_eq e]; omega
    · rw [tag_ne e]
      by_cases h : fp b
      · rw [retagC_in h]; omega
      · rw [retagC_out h]; omega
  have hge : ∀ b, own1 b ≠ 0 → w.heap.size ≤ b := fun b hb => by have := st.new b rfl hb; rw [hgs] at this; exact this
  have hnr : ∀ b, own1 b ≠ 0 → ∀ r ∈ FC, r.b ≠ b := fun b hb r hr e => by have := hge b hb; have := H.rows r hr; omega
  have hq1 : Qui w1 fp qb 0 [] := hq.keep fun i hi _ => a.eq i (by rw [h2 i hi]; omega) (hnr i (by rw [h2 i hi]; omega))
  have hch1 : w1.heap[sc]? = some (.chan 0 #[] false 0 0 false) := (a.eq sc (by rw [h5]; omega) (hnr sc (by rw [h5]; omega))).trans hm.ch
  clear hs hkp st a hq
  refine win_box (lo := 2) (t := 90) (xs := [.chan (some sc)]) (c := #[.slice none 0 0, ptr qb, .chan (some sc), .bool false]) (g' := fun sb => newBoxed qb sc sb (b₀.at a₀ (.inRegion ops (j :: rest) :: k₀) :: cs)) (fun i x hx => ?_) rfl (fun w => newBox_at w) fun d => ?_
  · rcases i with _ | i <;> simp at hx ⊢
    exact hx
  have hsb0 : own1 w1.heap.size = 0 := Classical.byContradiction fun h => by have := (lw1 _ h).1; omega
  have hl1 : ∀ b, b < w1.heap.size → ({ w1.at d with heap := w1.heap.push (.cells #[.slice none 0 0, ptr qb, .chan (some sc), .bool false] 90) } : World).heap[b]? = w1.heap[b]? := fun b hb => by
    show (w1.heap.push _)[b]? = _
    rw [Array.getElem?_push, if_neg (by omega)]
  have hblk : ({ w1.at d with heap := w1.heap.push (.cells #[.slice none 0 0, ptr qb, .chan (some sc), .bool false] 90) } : World).heap[w1.heap.size]? = some (.cells #[.slice none 0 0, ptr qb, .chan (some sc), .bool false] 90 (0, 0)) := by simp
  have hsz2 : ({ w1.at d with heap := w1.heap.push (.cells #[.slice none 0 0, ptr qb, .chan (some sc), .bool false] 90) } : World).heap.size = w1.heap.size + 1 := by simp
  have hex2 : Ext (fun b => w.heap.size ≤ b) FC w { w1.at d with heap := w1.heap.push (.cells #[.slice none 0 0, ptr qb, .chan (some sc), .bool false] 90) } := by
    refine ⟨ex.os, ex.tape, ex.output, by rw [hsz2]; have := ex.size; omega, fun b hb hn hr => ?_, fun r hr hb hn c t hc => ?_⟩
    · rw [hl1 b (by have := ex.size; omega)]
      exact ex.eq b hb (fun h => h rfl) hr
    · have := ex.row r hr hb (fun h => h rfl) c t hc
      exact cellsAt_keep this (hl1 _ (cellsAt_lt this))
  generalize hw2 : ({ w1.at d with heap := w1.heap.push (.cells #[.slice none 0 0, ptr qb, .chan (some sc), .bool false] 90) } : World) = w2 at *
  generalize hsb : w1.heap.size = sb at *
  have hts : ∀ b, retagC own1 1 (· = sb) b ≠ 0 → b = sb ∨ own1 b ≠ 0 := fun b hb => by
    by_cases e : b = sb
    · exact .inl e
    · rw [tag_ne e] at hb; exact .inr hb
  have htk : ∀ b, own1 b ≠ 0 → retagC own1 1 (· = sb) b = own1 b := fun b hb => tag_ne fun e => hb (by rw [e, hsb0])
  have C : CI ⟨w, FC, Inb⟩ 0 (retagC own1 1 (· = sb)) (emptyS sb qb sc) [] (⟨sb, 2, [.chan (some sc)]⟩ :: FC) n Inb w2 := by
    refine ⟨⟨⟨(0, 0), hblk, fun o h => by omega⟩, QRow.nil _, (hq1.keep fun i hi _ => hl1 i (by have := (lw1 i (by rw [h2 i hi]; omega)).1; omega)).mono fun i hi => (htk i (by rw [h2 i hi]; omega)).trans (h2 i hi), fun i c hc => by simp [emptyS] at hc, tag_eq rfl, fun g hg => (by cases hg), fun c hc => (by cases hc), fun c hc => (by cases hc), (htk sc (by rw [h5]; omega)).trans h5, fun c hc => (by cases hc), ⟨0, (hl1 sc (by have := (lw1 sc (by rw [h5]; omega)).1; omega)).trans hch1⟩, by simp [emptyS], by simp [emptyS], by simp [emptyS], by simp [emptyS]⟩,
      ⟨⟨?_, fun r hr => ?_⟩, fun i c hc => by simp [emptyS] at hc, List.mem_cons_self, fun r hr => ?_⟩, fun b hb => ?_, fun r hr => ?_, hex2, fun b hb => ?_, fun r hr => List.mem_cons_of_mem _ hr, fun r hr => ?_, rfl, fun i c k hc => by simp [emptyS] at hc, fun x s hx => ?_, fun x s hx => .inr (.inr (.inl hx)), fun x s r hx hr => H.chs x s r hx hr, H.top, fun s hs => ?_, H.n0, fun i i' k k' hk => by simp at hk⟩
    · rw [List.map_cons, List.nodup_cons]
      refine ⟨fun h => ?_, H.wf.nodup⟩
      obtain ⟨r, hr, e⟩ := List.mem_map.1 h
      have := H.rows r hr
      have := ex.size
      simp only at e
      omega
    · rcases List.mem_cons.1 hr with rfl | hr
      · simp
      · exact H.wf.some r hr
    · rcases List.mem_cons.1 hr with rfl | hr
      · exact .inr (.inl (tag_eq rfl))
      · refine .inl (Classical.byContradiction fun h => ?_)
        have := H.rows r hr
        have := ex.size
        rcases hts _ h with e | e
        · omega
        · have := hge _ e; omega
    · rcases hts b hb with e | e
      · subst e
        rw [hblk, hsz2]
        refine ⟨by omega, ?_⟩
        rintro (⟨_, _, e⟩ | ⟨_, _, e⟩) <;> cases e
      · have := lw1 b e
        rw [hl1 b (by omega)]
        exact ⟨by omega, this.2⟩
    · rw [hsz2]
      rcases List.mem_cons.1 hr with rfl | hr
      · simp
      · have := H.rows r hr; have := ex.size; omega
    · rcases hts b hb with e | e
      · have := ex.size; show w.heap.size ≤ b; omega
      · exact hge b e
    · rcases List.mem_cons.1 hr with rfl | hr
      · exact .inr (by have := ex.size; show w.heap.size ≤ sb; omega)
      · exact .inl hr
    · refine ⟨hx, ?_⟩
      have : x ≠ 0 := fun e => by
        subst e
        have h0 := H.none0
        have hx' : Inb 0 = some s := hx
        rw [h0] at hx'; cases hx'
      exact ⟨this, this⟩
    · rw [H.none0] at hs; cases hs
  refine win_own C.fi.wf (new_leave (ownU_stop fun w3 hs hkp => ?_))
  obtain ⟨C1, _⟩ := C.rest0 hs hkp
  refine next _ sb qb sc _ w3 C1 (fun b => ?_) fun r hr => List.mem_cons_of_mem _ hr
  by_cases e : b = sb
  · rw [tag_eq e]; omega
  · rw [tag_ne e]; exact hall b
end Go.Proofs.Ytolnmdanlggmhaa
