/- CoroNil, walked. (Printed by gen_conil.py.) -/
import Derived.Test.YtolnmdanlggmhaaKi
namespace Go.Proofs.Ytolnmdanlggmhaa
open Go.RowKit Go.Maps Go.Conc
open Go.ConcN (upd upd_ne upd_same)

set_option maxRecDepth 100000
set_option maxHeartbeats 4000000

noncomputable abbrev bodyCn : Code := Try.f10.body.getD .skip

noncomputable def runNil (cs : List Frame) : Goroutine := G ((base 42).at ⟨#[.pointer none, undef, undef, undef, undef, undef, undef, undef, undef, undef, undef, undef, undef, undef, undef, undef, undef, undef, undef, undef, undef, undef, undef, undef, undef, undef], []⟩ [.code bodyRun]) cs
theorem run_nil {main : Bool} {Z : Addr → Prop} {Stop : Goroutine → World → Prop} {w₀ u : World} {b₀ : Frame} {a₀ : Act} {ops : Array Oper} {j : Nat} {rest : List Nat} {k₀ : List Item} {cs : List Frame} (hk : OwnU Try.prog main Z Stop w₀ (G (b₀.at (a₀.put ((ops[j]?).bind (·.dst)) (.int .i64 0)) (.inRegion ops rest :: k₀)) cs) u) : OwnU Try.prog main Z Stop w₀ (runNil (b₀.at a₀ (.inRegion ops (j :: rest) :: k₀) :: cs)) u := by
  unfold runNil
  refine ownU_seq (x := sel [0] bodyRun) (y := sel [1] bodyRun) ?_
  refine ownU_region (id := 0) (ops := opsOf (sel [0] bodyRun)) ?_
  refine ownU_quiet (i := 0) (rest := []) (.int .i64 0) rfl (by rfl) rfl (by decide) (fun _ => by kernel_rfl) ?_
  refine ownU_region_end ?_
  refine ownU_seq (x := sel [1, 0] bodyRun) (y := sel [1, 1] bodyRun) ?_
  refine ownU_region (id := 1) (ops := opsOf (sel [1, 0] bodyRun)) ?_
  refine ownU_quiet (i := 0) (rest := []) (.int .i64 0) rfl (by rfl) rfl (by decide) (fun _ => by kernel_rfl) ?_
  refine ownU_region_end ?_
  refine ownU_seq (x := sel [1, 1, 0] bodyRun) (y := sel [1, 1, 1] bodyRun) ?_
  refine ownU_block (id := 0) (c := sel [1, 1, 0, 4] bodyRun) ?_
  refine ownU_loop (c := sel [1, 1, 0, 4, 4] bodyRun) ?_
  refine ownU_seq (x := sel [1, 1, 0, 4, 4, 0] bodyRun) (y := sel [1, 1, 0, 4, 4, 1] bodyRun) ?_
  refine ownU_seq (x := sel [1, 1, 0, 4, 4, 0, 0] bodyRun) (y := sel [1, 1, 0, 4, 4, 0, 1] bodyRun) ?_
  refine ownU_region (id := 2) (ops := opsOf (sel [1, 1, 0, 4, 4, 0, 0] bodyRun)) ?_
  refine ownU_quiet (i := 0) (rest := [1, 2]) (.pointer none) rfl (by rfl) rfl (by decide) (fun _ => by kernel_rfl) ?_
  refine ownU_callK (i := 1) (rest := [2]) (L := lone18) (R := fun e w' => e = .returned (.bool true) ∧ ∃ A d, w' = tp u A d) okL18 (by decide) rfl rfl (by kernel_rfl) (by rfl) (by decide) (fun A d => calls_eq (by kernel_rfl) (closed_nil_u (u := u) A d)) (fun e w h => ⟨_, h.1⟩) fun z u' hR => ?_
  obtain ⟨e, A, d, rfl⟩ := hR
  injection e with e
  subst e
  refine ownU_tp.2 ?_
  refine ownU_quiet (i := 2) (rest := []) (.bool false) rfl (by rfl) rfl (by decide) (fun _ => by kernel_rfl) ?_
  refine ownU_region_end ?_
  refine ownU_cond (c := .tmp 8) (x := .skip) (y := .exit 0) (t := false) (by kernel_rfl) ?_
  refine ownU_exit (k' := [.code (sel [1, 1, 1] bodyRun)]) rfl ?_
  refine ownU_seq (x := sel [1, 1, 1, 0] bodyRun) (y := .ret) ?_
  refine ownU_region (id := 7) (ops := opsOf (sel [1, 1, 1, 0] bodyRun)) ?_
  refine ownU_quiet (i := 0) (rest := [1]) (.int .i64 0) rfl (by rfl) rfl (by decide) (fun _ => by kernel_rfl) ?_
  refine ownU_quiet (i := 1) (rest := []) (.int .i64 0) rfl (by rfl) rfl (by decide) (fun _ => by kernel_rfl) ?_
  refine ownU_region_end ?_
  refine ownU_ret ?_
  refine ownU_leave1 (t := 2) (fn := Try.f42) rfl (by rfl) Try.func42 rfl ?_
  exact ownU_eq (by kernel_rfl) hk

noncomputable def nilIn (id : Int) : Goroutine := G ((base 10).at ⟨List.toArray (.int .i64 id :: undef :: undef :: undef :: undef :: undef :: undef :: undef :: undef :: undef :: undef :: undef :: undef :: undef :: undef :: undef :: undef :: undef :: undef :: undef :: undef :: undef :: undef :: undef :: undef :: undef :: undef :: undef :: undef :: undef :: undef :: undef :: undef :: undef :: undef :: undef :: undef :: undef :: undef :: undef :: undef :: undef :: undef :: undef :: undef :: undef :: undef :: undef :: undef :: undef :: undef :: undef :: undef :: undef :: undef :: undef :: undef :: undef :: undef :: undef :: undef :: undef :: undef :: undef :: undef :: undef :: undef :: undef :: undef :: undef :: undef :: undef :: undef :: []), []⟩ [.code bodyCn]) []
theorem nil_a {main : Bool} {Z : Addr → Prop} {Stop : Goroutine → World → Prop} {w₀ u : World} {id : Int} (hk : OwnU Try.prog main Z Stop w₀ (newIn (((base 10).at ⟨List.toArray (.int .i64 id :: undef :: .bool false :: .pointer none :: undef :: undef :: undef :: undef :: undef :: undef :: undef :: undef :: undef :: undef :: undef :: undef :: undef :: undef :: undef :: undef :: undef :: undef :: undef :: undef :: undef :: undef :: undef :: undef :: undef :: undef :: undef :: undef :: undef :: undef :: undef :: undef :: undef :: undef :: undef :: undef :: undef :: undef :: undef :: undef :: undef :: undef :: undef :: undef :: undef :: undef :: undef :: undef :: undef :: undef :: undef :: undef :: undef :: undef :: undef :: undef :: undef :: undef :: undef :: undef :: undef :: undef :: undef :: undef :: undef :: undef :: undef :: undef :: undef :: []), []⟩ (.inRegion (opsOf (sel [1, 1, 0] bodyCn)) (0 :: [1]) :: [.code (sel [1, 1, 1] bodyCn)])) :: [])) u) : OwnU Try.prog main Z Stop w₀ (nilIn id) u := by
  unfold nilIn
  refine ownU_seq (x := sel [0] bodyCn) (y := sel [1] bodyCn) ?_
  refine ownU_region (id := 0) (ops := opsOf (sel [0] bodyCn)) ?_
  refine ownU_quiet (i := 0) (rest := []) (.bool false) rfl (by rfl) rfl (by decide) (fun _ => by kernel_rfl) ?_
  refine ownU_region_end ?_
  refine ownU_seq (x := sel [1, 0] bodyCn) (y := sel [1, 1] bodyCn) ?_
  refine ownU_region (id := 1) (ops := opsOf (sel [1, 0] bodyCn)) ?_
  refine ownU_quiet (i := 0) (rest := []) (.pointer none) rfl (by rfl) rfl (by decide) (fun _ => by kernel_rfl) ?_
  refine ownU_region_end ?_
  refine ownU_seq (x := sel [1, 1, 0] bodyCn) (y := sel [1, 1, 1] bodyCn) ?_
  refine ownU_region (id := 2) (ops := opsOf (sel [1, 1, 0] bodyCn)) ?_
  refine ownU_enter (i := 0) (rest := [1]) (f := 35) rfl (by rfl) (by decide) rfl Try.func35 (by kernel_rfl) rfl ?_
  exact ownU_eq (by kernel_rfl) hk
theorem nil_b {main : Bool} {Z : Addr → Prop} {Stop : Goroutine → World → Prop} {w₀ u : World} {id : Int} {sb : Nat} (hk : OwnU Try.prog main Z Stop w₀ (aliveIn (((base 10).at ⟨List.toArray (.int .i64 id :: undef :: .bool false :: .pointer none :: ptr sb :: ptr sb :: ptr sb :: undef :: undef :: undef :: undef :: undef :: undef :: undef :: undef :: undef :: undef :: undef :: undef :: undef :: undef :: undef :: undef :: undef :: undef :: undef :: undef :: undef :: undef :: undef :: undef :: undef :: undef :: undef :: undef :: undef :: undef :: undef :: undef :: undef :: undef :: undef :: undef :: undef :: undef :: undef :: undef :: undef :: undef :: undef :: undef :: undef :: undef :: undef :: undef :: undef :: undef :: undef :: undef :: undef :: undef :: undef :: undef :: undef :: undef :: undef :: undef :: undef :: undef :: undef :: undef :: undef :: undef :: []), [clDefer sb]⟩ (.inRegion (opsOf (sel [1, 1, 1, 1, 0] bodyCn)) (0 :: [1, 2, 3, 4, 5, 6, 7, 8, 9, 10, 11, 12, 13, 14, 15, 16, 17, 18, 19, 20, 21, 22, 23, 24, 25, 26, 27, 28, 29, 30, 31, 32, 33, 34, 35, 36, 37, 38, 39, 40, 41, 42, 43, 44, 45, 46, 47, 48, 49, 50, 51, 52, 53, 54, 55, 56, 57, 58, 59, 60, 61, 62, 63, 64, 65, 66]) :: [.code .ret])) :: [])) u) : OwnU Try.prog main Z Stop w₀ (G ((base 10).at ((⟨List.toArray (.int .i64 id :: undef :: .bool false :: .pointer none :: undef :: undef :: undef :: undef :: undef :: undef :: undef :: undef :: undef :: undef :: undef :: undef :: undef :: undef :: undef :: undef :: undef :: undef :: undef :: undef :: undef :: undef :: undef :: undef :: undef :: undef :: undef :: undef :: undef :: undef :: undef :: undef :: undef :: undef :: undef :: undef :: undef :: undef :: undef :: undef :: undef :: undef :: undef :: undef :: undef :: undef :: undef :: undef :: undef :: undef :: undef :: undef :: undef :: undef :: undef :: undef :: undef :: undef :: undef :: undef :: undef :: undef :: undef :: undef :: undef :: undef :: undef :: undef :: undef :: []), []⟩ : Act).put (((opsOf (sel [1, 1, 0] bodyCn))[0]?).bind (·.dst)) (ptr sb)) (.inRegion (opsOf (sel [1, 1, 0] bodyCn)) [1] :: [.code (sel [1, 1, 1] bodyCn)])) []) u := by
  refine ownU_quiet (i := 1) (rest := []) (ptr sb) rfl (by rfl) rfl (by decide) (fun _ => by kernel_rfl) ?_
  refine ownU_region_end ?_
  refine ownU_seq (x := sel [1, 1, 1, 0] bodyCn) (y := sel [1, 1, 1, 1] bodyCn) ?_
  refine ownU_region (id := 3) (ops := opsOf (sel [1, 1, 1, 0] bodyCn)) ?_
  refine ownU_quiet (i := 0) (rest := [1]) (ptr sb) rfl (by rfl) rfl (by decide) (fun _ => by kernel_rfl) ?_
  refine ownU_defer (i := 1) (rest := []) (d := clDefer sb) rfl (by rfl) (by decide) (fun _ => by kernel_rfl) (fun _ => by kernel_rfl) ?_
  refine ownU_region_end ?_
  refine ownU_seq (x := sel [1, 1, 1, 1, 0] bodyCn) (y := .ret) ?_
  refine ownU_region (id := 4) (ops := opsOf (sel [1, 1, 1, 1, 0] bodyCn)) ?_
  refine ownU_lit (List.toArray (.int .i64 id :: undef :: .bool false :: .pointer none :: ptr sb :: ptr sb :: ptr sb :: undef :: undef :: undef :: undef :: undef :: undef :: undef :: undef :: undef :: undef :: undef :: undef :: undef :: undef :: undef :: undef :: undef :: undef :: undef :: undef :: undef :: undef :: undef :: undef :: undef :: undef :: undef :: undef :: undef :: undef :: undef :: undef :: undef :: undef :: undef :: undef :: undef :: undef :: undef :: undef :: undef :: undef :: undef :: undef :: undef :: undef :: undef :: undef :: undef :: undef :: undef :: undef :: undef :: undef :: undef :: undef :: undef :: undef :: undef :: undef :: undef :: undef :: undef :: undef :: undef :: undef :: [])) [clDefer sb] (by kernel_rfl) (by kernel_rfl) ?_
  refine ownU_enter (i := 0) (rest := [1, 2, 3, 4, 5, 6, 7, 8, 9, 10, 11, 12, 13, 14, 15, 16, 17, 18, 19, 20, 21, 22, 23, 24, 25, 26, 27, 28, 29, 30, 31, 32, 33, 34, 35, 36, 37, 38, 39, 40, 41, 42, 43, 44, 45, 46, 47, 48, 49, 50, 51, 52, 53, 54, 55, 56, 57, 58, 59, 60, 61, 62, 63, 64, 65, 66]) (f := 34) rfl (by rfl) (by decide) rfl Try.func34 (by kernel_rfl) rfl ?_
  exact ownU_eq (by kernel_rfl) hk
/-- CoroNil on its way out. -/
noncomputable def nilOut (ts : Array Value) : Frame := { (base 10).at ⟨ts, []⟩ [.code .ret] with mode := .returning }
theorem nil_c {main : Bool} {Z : Addr → Prop} {Stop : Goroutine → World → Prop} {w₀ u : World} {id : Int} {own : Nat → Nat} {sb qb sc : Nat} (si : SI own (emptyS sb qb sc) u)
    (hk : ∀ ts u', New u u' → ts.getD 2 undef = .bool true → OwnU Try.prog main Z Stop w₀ (closeIn .deferred sb [nilOut ts]) u') : OwnU Try.prog main Z Stop w₀ (G ((base 10).at ((⟨List.toArray (.int .i64 id :: undef :: .bool false :: .pointer none :: ptr sb :: ptr sb :: ptr sb :: undef :: undef :: undef :: undef :: undef :: undef :: undef :: undef :: undef :: undef :: undef :: undef :: undef :: undef :: undef :: undef :: undef :: undef :: undef :: undef :: undef :: undef :: undef :: undef :: undef :: undef :: undef :: undef :: undef :: undef :: undef :: undef :: undef :: undef :: undef :: undef :: undef :: undef :: undef :: undef :: undef :: undef :: undef :: undef :: undef :: undef :: undef :: undef :: undef :: undef :: undef :: undef :: undef :: undef :: undef :: undef :: undef :: undef :: undef :: undef :: undef :: undef :: undef :: undef :: undef :: undef :: []), [clDefer sb]⟩ : Act).put (((opsOf (sel [1, 1, 1, 1, 0] bodyCn))[0]?).bind (·.dst)) (.bool true)) (.inRegion (opsOf (sel [1, 1, 1, 1, 0] bodyCn)) [1, 2, 3, 4, 5, 6, 7, 8, 9, 10, 11, 12, 13, 14, 15, 16, 17, 18, 19, 20, 21, 22, 23, 24, 25, 26, 27, 28, 29, 30, 31, 32, 33, 34, 35, 36, 37, 38, 39, 40, 41, 42, 43, 44, 45, 46, 47, 48, 49, 50, 51, 52, 53, 54, 55, 56, 57, 58, 59, 60, 61, 62, 63, 64, 65, 66] :: [.code .ret])) []) u := by
  have hsch : ∀ (u' : World) {A : Nat → Question → Nat} {d : Nat}, New u u' → SchAt (tp u' A d) sb qb sc (.slice none 0 0) false := fun u' A d hn => cellsAt_keep si.sch (hn.block _ (cellsAt_lt si.sch))
  refine ownU_quiet (i := 1) (rest := [2, 3, 4, 5, 6, 7, 8, 9, 10, 11, 12, 13, 14, 15, 16, 17, 18, 19, 20, 21, 22, 23, 24, 25, 26, 27, 28, 29, 30, 31, 32, 33, 34, 35, 36, 37, 38, 39, 40, 41, 42, 43, 44, 45, 46, 47, 48, 49, 50, 51, 52, 53, 54, 55, 56, 57, 58, 59, 60, 61, 62, 63, 64, 65, 66]) (.bool true) rfl (by rfl) rfl (by decide) (fun _ => by kernel_rfl) ?_
  refine ownU_quiet (i := 2) (rest := [3, 4, 5, 6, 7, 8, 9, 10, 11, 12, 13, 14, 15, 16, 17, 18, 19, 20, 21, 22, 23, 24, 25, 26, 27, 28, 29, 30, 31, 32, 33, 34, 35, 36, 37, 38, 39, 40, 41, 42, 43, 44, 45, 46, 47, 48, 49, 50, 51, 52, 53, 54, 55, 56, 57, 58, 59, 60, 61, 62, 63, 64, 65, 66]) (.pointer none) rfl (by kernel_rfl) rfl (by decide) (fun _ => by kernel_rfl) ?_
  refine ownU_callK (i := 3) (rest := [4, 5, 6, 7, 8, 9, 10, 11, 12, 13, 14, 15, 16, 17, 18, 19, 20, 21, 22, 23, 24, 25, 26, 27, 28, 29, 30, 31, 32, 33, 34, 35, 36, 37, 38, 39, 40, 41, 42, 43, 44, 45, 46, 47, 48, 49, 50, 51, 52, 53, 54, 55, 56, 57, 58, 59, 60, 61, 62, 63, 64, 65, 66]) (L := lone18) (R := fun e w' => e = .returned (.int .i64 0) ∧ New u w') okL18 (by decide) rfl rfl (by kernel_rfl) (by kernel_rfl) (by decide) (fun A d => calls_eq (args' := #[.pointer none, .func (.func 48) #[] #[]]) (by kernel_rfl) ((spawn_nil (tp u A d) _).mono fun _ _ h => ⟨h.1, new_id h.2⟩)) (fun e w h => ⟨_, h.1⟩) fun z u1 hR => ?_
  obtain ⟨e, hn⟩ := hR
  injection e with e
  subst e
  have hnew := hn
  clear hn
  refine ownU_quiet (i := 4) (rest := [5, 6, 7, 8, 9, 10, 11, 12, 13, 14, 15, 16, 17, 18, 19, 20, 21, 22, 23, 24, 25, 26, 27, 28, 29, 30, 31, 32, 33, 34, 35, 36, 37, 38, 39, 40, 41, 42, 43, 44, 45, 46, 47, 48, 49, 50, 51, 52, 53, 54, 55, 56, 57, 58, 59, 60, 61, 62, 63, 64, 65, 66]) (.bool true) rfl (by kernel_rfl) rfl (by decide) (fun _ => by kernel_rfl) ?_
  refine ownU_quiet (i := 5) (rest := [6, 7, 8, 9, 10, 11, 12, 13, 14, 15, 16, 17, 18, 19, 20, 21, 22, 23, 24, 25, 26, 27, 28, 29, 30, 31, 32, 33, 34, 35, 36, 37, 38, 39, 40, 41, 42, 43, 44, 45, 46, 47, 48, 49, 50, 51, 52, 53, 54, 55, 56, 57, 58, 59, 60, 61, 62, 63, 64, 65, 66]) (.bool true) rfl (by rfl) rfl (by decide) (fun _ => by kernel_rfl) ?_
  refine ownU_quiet (i := 6) (rest := [7, 8, 9, 10, 11, 12, 13, 14, 15, 16, 17, 18, 19, 20, 21, 22, 23, 24, 25, 26, 27, 28, 29, 30, 31, 32, 33, 34, 35, 36, 37, 38, 39, 40, 41, 42, 43, 44, 45, 46, 47, 48, 49, 50, 51, 52, 53, 54, 55, 56, 57, 58, 59, 60, 61, 62, 63, 64, 65, 66]) (.bool true) rfl (by rfl) rfl (by decide) (fun _ => by kernel_rfl) ?_
  refine ownU_quiet (i := 7) (rest := [8, 9, 10, 11, 12, 13, 14, 15, 16, 17, 18, 19, 20, 21, 22, 23, 24, 25, 26, 27, 28, 29, 30, 31, 32, 33, 34, 35, 36, 37, 38, 39, 40, 41, 42, 43, 44, 45, 46, 47, 48, 49, 50, 51, 52, 53, 54, 55, 56, 57, 58, 59, 60, 61, 62, 63, 64, 65, 66]) (.pointer none) rfl (by kernel_rfl) rfl (by decide) (fun _ => by kernel_rfl) ?_
  refine ownU_quiet (i := 8) (rest := [9, 10, 11, 12, 13, 14, 15, 16, 17, 18, 19, 20, 21, 22, 23, 24, 25, 26, 27, 28, 29, 30, 31, 32, 33, 34, 35, 36, 37, 38, 39, 40, 41, 42, 43, 44, 45, 46, 47, 48, 49, 50, 51, 52, 53, 54, 55, 56, 57, 58, 59, 60, 61, 62, 63, 64, 65, 66]) (.int .i64 id) rfl (by kernel_rfl) rfl (by decide) (fun _ => by kernel_rfl) ?_
  refine ownU_callK (i := 9) (rest := [10, 11, 12, 13, 14, 15, 16, 17, 18, 19, 20, 21, 22, 23, 24, 25, 26, 27, 28, 29, 30, 31, 32, 33, 34, 35, 36, 37, 38, 39, 40, 41, 42, 43, 44, 45, 46, 47, 48, 49, 50, 51, 52, 53, 54, 55, 56, 57, 58, 59, 60, 61, 62, 63, 64, 65, 66]) (L := lone18) (R := fun e w' => e = .returned (.bool false) ∧ New u1 w') okL18 (by decide) rfl rfl (by kernel_rfl) (by kernel_rfl) (by decide) (fun A d => calls_eq (args' := #[.pointer none, .int .i64 id]) (by kernel_rfl) ((wake_none (get_nil (tp u1 A d) id)).mono fun _ _ h => ⟨h.1, new_of h.2⟩)) (fun e w h => ⟨_, h.1⟩) fun z u2 hR => ?_
  obtain ⟨e, hn⟩ := hR
  injection e with e
  subst e
  replace hnew := hnew.trans hn
  clear hn
  refine ownU_quiet (i := 10) (rest := [11, 12, 13, 14, 15, 16, 17, 18, 19, 20, 21, 22, 23, 24, 25, 26, 27, 28, 29, 30, 31, 32, 33, 34, 35, 36, 37, 38, 39, 40, 41, 42, 43, 44, 45, 46, 47, 48, 49, 50, 51, 52, 53, 54, 55, 56, 57, 58, 59, 60, 61, 62, 63, 64, 65, 66]) (.bool true) rfl (by kernel_rfl) rfl (by decide) (fun _ => by kernel_rfl) ?_
  refine ownU_quiet (i := 11) (rest := [12, 13, 14, 15, 16, 17, 18, 19, 20, 21, 22, 23, 24, 25, 26, 27, 28, 29, 30, 31, 32, 33, 34, 35, 36, 37, 38, 39, 40, 41, 42, 43, 44, 45, 46, 47, 48, 49, 50, 51, 52, 53, 54, 55, 56, 57, 58, 59, 60, 61, 62, 63, 64, 65, 66]) (.bool true) rfl (by rfl) rfl (by decide) (fun _ => by kernel_rfl) ?_
  refine ownU_quiet (i := 12) (rest := [13, 14, 15, 16, 17, 18, 19, 20, 21, 22, 23, 24, 25, 26, 27, 28, 29, 30, 31, 32, 33, 34, 35, 36, 37, 38, 39, 40, 41, 42, 43, 44, 45, 46, 47, 48, 49, 50, 51, 52, 53, 54, 55, 56, 57, 58, 59, 60, 61, 62, 63, 64, 65, 66]) (.bool true) rfl (by rfl) rfl (by decide) (fun _ => by kernel_rfl) ?_
  refine ownU_quiet (i := 13) (rest := [14, 15, 16, 17, 18, 19, 20, 21, 22, 23, 24, 25, 26, 27, 28, 29, 30, 31, 32, 33, 34, 35, 36, 37, 38, 39, 40, 41, 42, 43, 44, 45, 46, 47, 48, 49, 50, 51, 52, 53, 54, 55, 56, 57, 58, 59, 60, 61, 62, 63, 64, 65, 66]) (.pointer none) rfl (by kernel_rfl) rfl (by decide) (fun _ => by kernel_rfl) ?_
  refine ownU_lit (List.toArray (.int .i64 id :: undef :: .bool false :: .pointer none :: ptr sb :: ptr sb :: ptr sb :: .bool true :: .bool true :: .pointer none :: .int .i64 0 :: .bool true :: .bool true :: .bool true :: .pointer none :: .int .i64 id :: .bool false :: .bool true :: .bool true :: .bool true :: .pointer none :: undef :: undef :: undef :: undef :: undef :: undef :: undef :: undef :: undef :: undef :: undef :: undef :: undef :: undef :: undef :: undef :: undef :: undef :: undef :: undef :: undef :: undef :: undef :: undef :: undef :: undef :: undef :: undef :: undef :: undef :: undef :: undef :: undef :: undef :: undef :: undef :: undef :: undef :: undef :: undef :: undef :: undef :: undef :: undef :: undef :: undef :: undef :: undef :: undef :: undef :: undef :: undef :: [])) [clDefer sb] (by kernel_rfl) (by kernel_rfl) ?_
  refine ownU_enter (i := 14) (rest := [15, 16, 17, 18, 19, 20, 21, 22, 23, 24, 25, 26, 27, 28, 29, 30, 31, 32, 33, 34, 35, 36, 37, 38, 39, 40, 41, 42, 43, 44, 45, 46, 47, 48, 49, 50, 51, 52, 53, 54, 55, 56, 57, 58, 59, 60, 61, 62, 63, 64, 65, 66]) (f := 42) rfl (by kernel_rfl) (by decide) rfl Try.func42 (by kernel_rfl) rfl ?_
  refine ownU_eq (g := runNil (((base 10).at ⟨List.toArray (.int .i64 id :: undef :: .bool false :: .pointer none :: ptr sb :: ptr sb :: ptr sb :: .bool true :: .bool true :: .pointer none :: .int .i64 0 :: .bool true :: .bool true :: .bool true :: .pointer none :: .int .i64 id :: .bool false :: .bool true :: .bool true :: .bool true :: .pointer none :: undef :: undef :: undef :: undef :: undef :: undef :: undef :: undef :: undef :: undef :: undef :: undef :: undef :: undef :: undef :: undef :: undef :: undef :: undef :: undef :: undef :: undef :: undef :: undef :: undef :: undef :: undef :: undef :: undef :: undef :: undef :: undef :: undef :: undef :: undef :: undef :: undef :: undef :: undef :: undef :: undef :: undef :: undef :: undef :: undef :: undef :: undef :: undef :: undef :: undef :: undef :: undef :: []), [clDefer sb]⟩ (.inRegion (opsOf (sel [1, 1, 1, 1, 0] bodyCn)) (14 :: [15, 16, 17, 18, 19, 20, 21, 22, 23, 24, 25, 26, 27, 28, 29, 30, 31, 32, 33, 34, 35, 36, 37, 38, 39, 40, 41, 42, 43, 44, 45, 46, 47, 48, 49, 50, 51, 52, 53, 54, 55, 56, 57, 58, 59, 60, 61, 62, 63, 64, 65, 66]) :: [.code .ret])) :: [])) (by kernel_rfl) ?_
  refine run_nil ?_
  refine ownU_quiet (i := 15) (rest := [16, 17, 18, 19, 20, 21, 22, 23, 24, 25, 26, 27, 28, 29, 30, 31, 32, 33, 34, 35, 36, 37, 38, 39, 40, 41, 42, 43, 44, 45, 46, 47, 48, 49, 50, 51, 52, 53, 54, 55, 56, 57, 58, 59, 60, 61, 62, 63, 64, 65, 66]) (.bool true) rfl (by kernel_rfl) rfl (by decide) (fun _ => by kernel_rfl) ?_
  refine ownU_quiet (i := 16) (rest := [17, 18, 19, 20, 21, 22, 23, 24, 25, 26, 27, 28, 29, 30, 31, 32, 33, 34, 35, 36, 37, 38, 39, 40, 41, 42, 43, 44, 45, 46, 47, 48, 49, 50, 51, 52, 53, 54, 55, 56, 57, 58, 59, 60, 61, 62, 63, 64, 65, 66]) (.bool true) rfl (by rfl) rfl (by decide) (fun _ => by kernel_rfl) ?_
  refine ownU_quiet (i := 17) (rest := [18, 19, 20, 21, 22, 23, 24, 25, 26, 27, 28, 29, 30, 31, 32, 33, 34, 35, 36, 37, 38, 39, 40, 41, 42, 43, 44, 45, 46, 47, 48, 49, 50, 51, 52, 53, 54, 55, 56, 57, 58, 59, 60, 61, 62, 63, 64, 65, 66]) (.bool true) rfl (by rfl) rfl (by decide) (fun _ => by kernel_rfl) ?_
  refine ownU_quiet (i := 18) (rest := [19, 20, 21, 22, 23, 24, 25, 26, 27, 28, 29, 30, 31, 32, 33, 34, 35, 36, 37, 38, 39, 40, 41, 42, 43, 44, 45, 46, 47, 48, 49, 50, 51, 52, 53, 54, 55, 56, 57, 58, 59, 60, 61, 62, 63, 64, 65, 66]) (.pointer none) rfl (by kernel_rfl) rfl (by decide) (fun _ => by kernel_rfl) ?_
  refine ownU_quiet (i := 19) (rest := [20, 21, 22, 23, 24, 25, 26, 27, 28, 29, 30, 31, 32, 33, 34, 35, 36, 37, 38, 39, 40, 41, 42, 43, 44, 45, 46, 47, 48, 49, 50, 51, 52, 53, 54, 55, 56, 57, 58, 59, 60, 61, 62, 63, 64, 65, 66]) (.int .i64 id) rfl (by kernel_rfl) rfl (by decide) (fun _ => by kernel_rfl) ?_
  refine ownU_callK (i := 20) (rest := [21, 22, 23, 24, 25, 26, 27, 28, 29, 30, 31, 32, 33, 34, 35, 36, 37, 38, 39, 40, 41, 42, 43, 44, 45, 46, 47, 48, 49, 50, 51, 52, 53, 54, 55, 56, 57, 58, 59, 60, 61, 62, 63, 64, 65, 66]) (L := lone18) (R := fun e w' => e = .returned (.int .i64 0) ∧ New u2 w') okL18 (by decide) rfl rfl (by kernel_rfl) (by kernel_rfl) (by decide) (fun A d => calls_eq (args' := #[.pointer none, .int .i64 id]) (by kernel_rfl) ((state_none (get_nil (tp u2 A d) id)).mono fun _ _ h => ⟨h.1, new_of h.2⟩)) (fun e w h => ⟨_, h.1⟩) fun z u3 hR => ?_
  obtain ⟨e, hn⟩ := hR
  injection e with e
  subst e
  replace hnew := hnew.trans hn
  clear hn
  refine ownU_quiet (i := 21) (rest := [22, 23, 24, 25, 26, 27, 28, 29, 30, 31, 32, 33, 34, 35, 36, 37, 38, 39, 40, 41, 42, 43, 44, 45, 46, 47, 48, 49, 50, 51, 52, 53, 54, 55, 56, 57, 58, 59, 60, 61, 62, 63, 64, 65, 66]) (.bool true) rfl (by kernel_rfl) rfl (by decide) (fun _ => by kernel_rfl) ?_
  refine ownU_quiet (i := 22) (rest := [23, 24, 25, 26, 27, 28, 29, 30, 31, 32, 33, 34, 35, 36, 37, 38, 39, 40, 41, 42, 43, 44, 45, 46, 47, 48, 49, 50, 51, 52, 53, 54, 55, 56, 57, 58, 59, 60, 61, 62, 63, 64, 65, 66]) (.bool true) rfl (by rfl) rfl (by decide) (fun _ => by kernel_rfl) ?_
  refine ownU_quiet (i := 23) (rest := [24, 25, 26, 27, 28, 29, 30, 31, 32, 33, 34, 35, 36, 37, 38, 39, 40, 41, 42, 43, 44, 45, 46, 47, 48, 49, 50, 51, 52, 53, 54, 55, 56, 57, 58, 59, 60, 61, 62, 63, 64, 65, 66]) (.bool true) rfl (by rfl) rfl (by decide) (fun _ => by kernel_rfl) ?_
  refine ownU_quiet (i := 24) (rest := [25, 26, 27, 28, 29, 30, 31, 32, 33, 34, 35, 36, 37, 38, 39, 40, 41, 42, 43, 44, 45, 46, 47, 48, 49, 50, 51, 52, 53, 54, 55, 56, 57, 58, 59, 60, 61, 62, 63, 64, 65, 66]) (.pointer none) rfl (by kernel_rfl) rfl (by decide) (fun _ => by kernel_rfl) ?_
  refine ownU_quiet (i := 25) (rest := [26, 27, 28, 29, 30, 31, 32, 33, 34, 35, 36, 37, 38, 39, 40, 41, 42, 43, 44, 45, 46, 47, 48, 49, 50, 51, 52, 53, 54, 55, 56, 57, 58, 59, 60, 61, 62, 63, 64, 65, 66]) (.int .i64 id) rfl (by kernel_rfl) rfl (by decide) (fun _ => by kernel_rfl) ?_
  refine ownU_callK (i := 26) (rest := [27, 28, 29, 30, 31, 32, 33, 34, 35, 36, 37, 38, 39, 40, 41, 42, 43, 44, 45, 46, 47, 48, 49, 50, 51, 52, 53, 54, 55, 56, 57, 58, 59, 60, 61, 62, 63, 64, 65, 66]) (L := lone18) (R := fun e w' => e = .returned (.string ByteArray.empty) ∧ New u3 w') okL18 (by decide) rfl rfl (by kernel_rfl) (by kernel_rfl) (by decide) (fun A d => calls_eq (args' := #[.pointer none, .int .i64 id]) (by kernel_rfl) ((text_none (get_nil (tp u3 A d) id)).mono fun _ _ h => ⟨h.1, new_of h.2⟩)) (fun e w h => ⟨_, h.1⟩) fun z u4 hR => ?_
  obtain ⟨e, hn⟩ := hR
  injection e with e
  subst e
  replace hnew := hnew.trans hn
  clear hn
  refine ownU_quiet (i := 27) (rest := [28, 29, 30, 31, 32, 33, 34, 35, 36, 37, 38, 39, 40, 41, 42, 43, 44, 45, 46, 47, 48, 49, 50, 51, 52, 53, 54, 55, 56, 57, 58, 59, 60, 61, 62, 63, 64, 65, 66]) (.bool true) rfl (by kernel_rfl) rfl (by decide) (fun _ => by kernel_rfl) ?_
  refine ownU_quiet (i := 28) (rest := [29, 30, 31, 32, 33, 34, 35, 36, 37, 38, 39, 40, 41, 42, 43, 44, 45, 46, 47, 48, 49, 50, 51, 52, 53, 54, 55, 56, 57, 58, 59, 60, 61, 62, 63, 64, 65, 66]) (.bool true) rfl (by rfl) rfl (by decide) (fun _ => by kernel_rfl) ?_
  refine ownU_quiet (i := 29) (rest := [30, 31, 32, 33, 34, 35, 36, 37, 38, 39, 40, 41, 42, 43, 44, 45, 46, 47, 48, 49, 50, 51, 52, 53, 54, 55, 56, 57, 58, 59, 60, 61, 62, 63, 64, 65, 66]) (.bool true) rfl (by rfl) rfl (by decide) (fun _ => by kernel_rfl) ?_
  refine ownU_quiet (i := 30) (rest := [31, 32, 33, 34, 35, 36, 37, 38, 39, 40, 41, 42, 43, 44, 45, 46, 47, 48, 49, 50, 51, 52, 53, 54, 55, 56, 57, 58, 59, 60, 61, 62, 63, 64, 65, 66]) (.pointer none) rfl (by kernel_rfl) rfl (by decide) (fun _ => by kernel_rfl) ?_
  refine ownU_quiet (i := 31) (rest := [32, 33, 34, 35, 36, 37, 38, 39, 40, 41, 42, 43, 44, 45, 46, 47, 48, 49, 50, 51, 52, 53, 54, 55, 56, 57, 58, 59, 60, 61, 62, 63, 64, 65, 66]) (.int .i64 id) rfl (by kernel_rfl) rfl (by decide) (fun _ => by kernel_rfl) ?_
  refine ownU_callK (i := 32) (rest := [33, 34, 35, 36, 37, 38, 39, 40, 41, 42, 43, 44, 45, 46, 47, 48, 49, 50, 51, 52, 53, 54, 55, 56, 57, 58, 59, 60, 61, 62, 63, 64, 65, 66]) (L := lone18) (R := fun e w' => e = .returned (.int .i64 0) ∧ New u4 w') okL18 (by decide) rfl rfl (by kernel_rfl) (by kernel_rfl) (by decide) (fun A d => calls_eq (args' := #[.pointer none, .int .i64 id]) (by kernel_rfl) ((count_nil (tp u4 A d) id).mono fun _ _ h => ⟨h.1, new_id h.2⟩)) (fun e w h => ⟨_, h.1⟩) fun z u5 hR => ?_
  obtain ⟨e, hn⟩ := hR
  injection e with e
  subst e
  replace hnew := hnew.trans hn
  clear hn
  refine ownU_quiet (i := 33) (rest := [34, 35, 36, 37, 38, 39, 40, 41, 42, 43, 44, 45, 46, 47, 48, 49, 50, 51, 52, 53, 54, 55, 56, 57, 58, 59, 60, 61, 62, 63, 64, 65, 66]) (.bool true) rfl (by kernel_rfl) rfl (by decide) (fun _ => by kernel_rfl) ?_
  refine ownU_quiet (i := 34) (rest := [35, 36, 37, 38, 39, 40, 41, 42, 43, 44, 45, 46, 47, 48, 49, 50, 51, 52, 53, 54, 55, 56, 57, 58, 59, 60, 61, 62, 63, 64, 65, 66]) (.bool true) rfl (by rfl) rfl (by decide) (fun _ => by kernel_rfl) ?_
  refine ownU_quiet (i := 35) (rest := [36, 37, 38, 39, 40, 41, 42, 43, 44, 45, 46, 47, 48, 49, 50, 51, 52, 53, 54, 55, 56, 57, 58, 59, 60, 61, 62, 63, 64, 65, 66]) (.bool true) rfl (by rfl) rfl (by decide) (fun _ => by kernel_rfl) ?_
  refine ownU_quiet (i := 36) (rest := [37, 38, 39, 40, 41, 42, 43, 44, 45, 46, 47, 48, 49, 50, 51, 52, 53, 54, 55, 56, 57, 58, 59, 60, 61, 62, 63, 64, 65, 66]) (.pointer none) rfl (by kernel_rfl) rfl (by decide) (fun _ => by kernel_rfl) ?_
  refine ownU_lit (List.toArray (.int .i64 id :: undef :: .bool false :: .pointer none :: ptr sb :: ptr sb :: ptr sb :: .bool true :: .bool true :: .pointer none :: .int .i64 0 :: .bool true :: .bool true :: .bool true :: .pointer none :: .int .i64 id :: .bool false :: .bool true :: .bool true :: .bool true :: .pointer none :: .int .i64 0 :: .bool true :: .bool true :: .bool true :: .pointer none :: .int .i64 id :: .int .i64 0 :: .bool true :: .bool true :: .bool true :: .pointer none :: .int .i64 id :: .string ByteArray.empty :: .bool true :: .bool true :: .bool true :: .pointer none :: .int .i64 id :: .int .i64 0 :: .bool true :: .bool true :: .bool true :: .pointer none :: undef :: undef :: undef :: undef :: undef :: undef :: undef :: undef :: undef :: undef :: undef :: undef :: undef :: undef :: undef :: undef :: undef :: undef :: undef :: undef :: undef :: undef :: undef :: undef :: undef :: undef :: undef :: undef :: undef :: [])) [clDefer sb] (by kernel_rfl) (by kernel_rfl) ?_
  refine ownU_enter (i := 37) (rest := [38, 39, 40, 41, 42, 43, 44, 45, 46, 47, 48, 49, 50, 51, 52, 53, 54, 55, 56, 57, 58, 59, 60, 61, 62, 63, 64, 65, 66]) (f := 36) rfl (by kernel_rfl) (by decide) rfl Try.func36 (by kernel_rfl) rfl ?_
  refine ownU_eq (g := closeNil .normal (((base 10).at ⟨List.toArray (.int .i64 id :: undef :: .bool false :: .pointer none :: ptr sb :: ptr sb :: ptr sb :: .bool true :: .bool true :: .pointer none :: .int .i64 0 :: .bool true :: .bool true :: .bool true :: .pointer none :: .int .i64 id :: .bool false :: .bool true :: .bool true :: .bool true :: .pointer none :: .int .i64 0 :: .bool true :: .bool true :: .bool true :: .pointer none :: .int .i64 id :: .int .i64 0 :: .bool true :: .bool true :: .bool true :: .pointer none :: .int .i64 id :: .string ByteArray.empty :: .bool true :: .bool true :: .bool true :: .pointer none :: .int .i64 id :: .int .i64 0 :: .bool true :: .bool true :: .bool true :: .pointer none :: undef :: undef :: undef :: undef :: undef :: undef :: undef :: undef :: undef :: undef :: undef :: undef :: undef :: undef :: undef :: undef :: undef :: undef :: undef :: undef :: undef :: undef :: undef :: undef :: undef :: undef :: undef :: undef :: undef :: []), [clDefer sb]⟩ (.inRegion (opsOf (sel [1, 1, 1, 1, 0] bodyCn)) (37 :: [38, 39, 40, 41, 42, 43, 44, 45, 46, 47, 48, 49, 50, 51, 52, 53, 54, 55, 56, 57, 58, 59, 60, 61, 62, 63, 64, 65, 66]) :: [.code .ret])) :: [])) (by kernel_rfl) ?_
  refine close_nil (by decide) fun g hg => clOut_normal hg ?_
  refine ownU_quiet (i := 38) (rest := [39, 40, 41, 42, 43, 44, 45, 46, 47, 48, 49, 50, 51, 52, 53, 54, 55, 56, 57, 58, 59, 60, 61, 62, 63, 64, 65, 66]) (.bool true) rfl (by kernel_rfl) rfl (by decide) (fun _ => by kernel_rfl) ?_
  refine ownU_quiet (i := 39) (rest := [40, 41, 42, 43, 44, 45, 46, 47, 48, 49, 50, 51, 52, 53, 54, 55, 56, 57, 58, 59, 60, 61, 62, 63, 64, 65, 66]) (.bool true) rfl (by rfl) rfl (by decide) (fun _ => by kernel_rfl) ?_
  refine ownU_quiet (i := 40) (rest := [41, 42, 43, 44, 45, 46, 47, 48, 49, 50, 51, 52, 53, 54, 55, 56, 57, 58, 59, 60, 61, 62, 63, 64, 65, 66]) (.bool true) rfl (by rfl) rfl (by decide) (fun _ => by kernel_rfl) ?_
  refine ownU_quiet (i := 41) (rest := [42, 43, 44, 45, 46, 47, 48, 49, 50, 51, 52, 53, 54, 55, 56, 57, 58, 59, 60, 61, 62, 63, 64, 65, 66]) (.pointer none) rfl (by kernel_rfl) rfl (by decide) (fun _ => by kernel_rfl) ?_
  refine ownU_callK (i := 42) (rest := [43, 44, 45, 46, 47, 48, 49, 50, 51, 52, 53, 54, 55, 56, 57, 58, 59, 60, 61, 62, 63, 64, 65, 66]) (L := lone18) (R := fun e w' => e = .returned (.bool true) ∧ New u5 w') okL18 (by decide) rfl rfl (by kernel_rfl) (by kernel_rfl) (by decide) (fun A d => calls_eq (args' := #[.pointer none]) (by kernel_rfl) ((closed_nil (tp u5 A d)).mono fun _ _ h => ⟨h.1, new_id h.2⟩)) (fun e w h => ⟨_, h.1⟩) fun z u6 hR => ?_
  obtain ⟨e, hn⟩ := hR
  injection e with e
  subst e
  replace hnew := hnew.trans hn
  clear hn
  refine ownU_quiet (i := 43) (rest := [44, 45, 46, 47, 48, 49, 50, 51, 52, 53, 54, 55, 56, 57, 58, 59, 60, 61, 62, 63, 64, 65, 66]) (.bool true) rfl (by rfl) rfl (by decide) (fun _ => by kernel_rfl) ?_
  refine ownU_quiet (i := 44) (rest := [45, 46, 47, 48, 49, 50, 51, 52, 53, 54, 55, 56, 57, 58, 59, 60, 61, 62, 63, 64, 65, 66]) (.bool true) rfl (by rfl) rfl (by decide) (fun _ => by kernel_rfl) ?_
  refine ownU_quiet (i := 45) (rest := [46, 47, 48, 49, 50, 51, 52, 53, 54, 55, 56, 57, 58, 59, 60, 61, 62, 63, 64, 65, 66]) (ptr sb) rfl (by kernel_rfl) rfl (by decide) (fun _ => by kernel_rfl) ?_
  refine ownU_quiet (i := 46) (rest := [47, 48, 49, 50, 51, 52, 53, 54, 55, 56, 57, 58, 59, 60, 61, 62, 63, 64, 65, 66]) (.int .i64 id) rfl (by kernel_rfl) rfl (by decide) (fun _ => by kernel_rfl) ?_
  refine ownU_callK (i := 47) (rest := [48, 49, 50, 51, 52, 53, 54, 55, 56, 57, 58, 59, 60, 61, 62, 63, 64, 65, 66]) (L := lone18) (R := fun e w' => e = .returned (.int .i64 0) ∧ New u6 w') okL18 (by decide) rfl rfl (by kernel_rfl) (by kernel_rfl) (by decide) (fun A d => calls_eq (args' := #[ptr sb, .int .i64 id]) (by kernel_rfl) ((state_none (get_out (tp u6 A d) sb qb sc 0 0 none false id (hsch u6 hnew) (by omega))).mono fun _ _ h => ⟨h.1, new_of h.2⟩)) (fun e w h => ⟨_, h.1⟩) fun z u7 hR => ?_
  obtain ⟨e, hn⟩ := hR
  injection e with e
  subst e
  replace hnew := hnew.trans hn
  clear hn
  refine ownU_quiet (i := 48) (rest := [49, 50, 51, 52, 53, 54, 55, 56, 57, 58, 59, 60, 61, 62, 63, 64, 65, 66]) (.bool true) rfl (by kernel_rfl) rfl (by decide) (fun _ => by kernel_rfl) ?_
  refine ownU_quiet (i := 49) (rest := [50, 51, 52, 53, 54, 55, 56, 57, 58, 59, 60, 61, 62, 63, 64, 65, 66]) (.bool true) rfl (by rfl) rfl (by decide) (fun _ => by kernel_rfl) ?_
  refine ownU_quiet (i := 50) (rest := [51, 52, 53, 54, 55, 56, 57, 58, 59, 60, 61, 62, 63, 64, 65, 66]) (.bool true) rfl (by rfl) rfl (by decide) (fun _ => by kernel_rfl) ?_
  refine ownU_quiet (i := 51) (rest := [52, 53, 54, 55, 56, 57, 58, 59, 60, 61, 62, 63, 64, 65, 66]) (ptr sb) rfl (by kernel_rfl) rfl (by decide) (fun _ => by kernel_rfl) ?_
  refine ownU_quiet (i := 52) (rest := [53, 54, 55, 56, 57, 58, 59, 60, 61, 62, 63, 64, 65, 66]) (.int .i64 id) rfl (by kernel_rfl) rfl (by decide) (fun _ => by kernel_rfl) ?_
  refine ownU_callK (i := 53) (rest := [54, 55, 56, 57, 58, 59, 60, 61, 62, 63, 64, 65, 66]) (L := lone18) (R := fun e w' => e = .returned (.bool false) ∧ New u7 w') okL18 (by decide) rfl rfl (by kernel_rfl) (by kernel_rfl) (by decide) (fun A d => calls_eq (args' := #[ptr sb, .int .i64 id]) (by kernel_rfl) ((wake_none (get_out (tp u7 A d) sb qb sc 0 0 none false id (hsch u7 hnew) (by omega))).mono fun _ _ h => ⟨h.1, new_of h.2⟩)) (fun e w h => ⟨_, h.1⟩) fun z u8 hR => ?_
  obtain ⟨e, hn⟩ := hR
  injection e with e
  subst e
  replace hnew := hnew.trans hn
  clear hn
  refine ownU_quiet (i := 54) (rest := [55, 56, 57, 58, 59, 60, 61, 62, 63, 64, 65, 66]) (.bool true) rfl (by kernel_rfl) rfl (by decide) (fun _ => by kernel_rfl) ?_
  refine ownU_quiet (i := 55) (rest := [56, 57, 58, 59, 60, 61, 62, 63, 64, 65, 66]) (.bool true) rfl (by rfl) rfl (by decide) (fun _ => by kernel_rfl) ?_
  refine ownU_quiet (i := 56) (rest := [57, 58, 59, 60, 61, 62, 63, 64, 65, 66]) (.bool true) rfl (by rfl) rfl (by decide) (fun _ => by kernel_rfl) ?_
  refine ownU_quiet (i := 57) (rest := [58, 59, 60, 61, 62, 63, 64, 65, 66]) (ptr sb) rfl (by kernel_rfl) rfl (by decide) (fun _ => by kernel_rfl) ?_
  have siR := si.keep (u' := u8) (OLe.refl _) fun b hb _ => hnew.block b hb
  refine ownU_lit (List.toArray (.int .i64 id :: undef :: .bool false :: .pointer none :: ptr sb :: ptr sb :: ptr sb :: .bool true :: .bool true :: .pointer none :: .int .i64 0 :: .bool true :: .bool true :: .bool true :: .pointer none :: .int .i64 id :: .bool false :: .bool true :: .bool true :: .bool true :: .pointer none :: .int .i64 0 :: .bool true :: .bool true :: .bool true :: .pointer none :: .int .i64 id :: .int .i64 0 :: .bool true :: .bool true :: .bool true :: .pointer none :: .int .i64 id :: .string ByteArray.empty :: .bool true :: .bool true :: .bool true :: .pointer none :: .int .i64 id :: .int .i64 0 :: .bool true :: .bool true :: .bool true :: .pointer none :: .int .i64 0 :: .bool true :: .bool true :: .bool true :: .pointer none :: .bool true :: .bool true :: .bool true :: ptr sb :: .int .i64 id :: .int .i64 0 :: .bool true :: .bool true :: .bool true :: ptr sb :: .int .i64 id :: .bool false :: .bool true :: .bool true :: .bool true :: ptr sb :: undef :: undef :: undef :: undef :: undef :: undef :: undef :: undef :: [])) [clDefer sb] (by kernel_rfl) (by kernel_rfl) ?_
  refine ownU_enter (i := 58) (rest := [59, 60, 61, 62, 63, 64, 65, 66]) (f := 42) rfl (by kernel_rfl) (by decide) rfl Try.func42 (by kernel_rfl) rfl ?_
  refine ownU_eq (g := runIn sb (((base 10).at ⟨List.toArray (.int .i64 id :: undef :: .bool false :: .pointer none :: ptr sb :: ptr sb :: ptr sb :: .bool true :: .bool true :: .pointer none :: .int .i64 0 :: .bool true :: .bool true :: .bool true :: .pointer none :: .int .i64 id :: .bool false :: .bool true :: .bool true :: .bool true :: .pointer none :: .int .i64 0 :: .bool true :: .bool true :: .bool true :: .pointer none :: .int .i64 id :: .int .i64 0 :: .bool true :: .bool true :: .bool true :: .pointer none :: .int .i64 id :: .string ByteArray.empty :: .bool true :: .bool true :: .bool true :: .pointer none :: .int .i64 id :: .int .i64 0 :: .bool true :: .bool true :: .bool true :: .pointer none :: .int .i64 0 :: .bool true :: .bool true :: .bool true :: .pointer none :: .bool true :: .bool true :: .bool true :: ptr sb :: .int .i64 id :: .int .i64 0 :: .bool true :: .bool true :: .bool true :: ptr sb :: .int .i64 id :: .bool false :: .bool true :: .bool true :: .bool true :: ptr sb :: undef :: undef :: undef :: undef :: undef :: undef :: undef :: undef :: []), [clDefer sb]⟩ (.inRegion (opsOf (sel [1, 1, 1, 1, 0] bodyCn)) (58 :: [59, 60, 61, 62, 63, 64, 65, 66]) :: [.code .ret])) :: [])) (by kernel_rfl) ?_
  refine run_enter (run_exit siR rfl rfl rfl rfl ?_)
  refine ownU_quiet (i := 59) (rest := [60, 61, 62, 63, 64, 65, 66]) (.bool true) rfl (by kernel_rfl) rfl (by decide) (fun _ => by kernel_rfl) ?_
  refine ownU_quiet (i := 60) (rest := [61, 62, 63, 64, 65, 66]) (.bool true) rfl (by rfl) rfl (by decide) (fun _ => by kernel_rfl) ?_
  refine ownU_quiet (i := 61) (rest := [62, 63, 64, 65, 66]) (.bool true) rfl (by rfl) rfl (by decide) (fun _ => by kernel_rfl) ?_
  refine ownU_quiet (i := 62) (rest := [63, 64, 65, 66]) (ptr sb) rfl (by kernel_rfl) rfl (by decide) (fun _ => by kernel_rfl) ?_
  refine ownU_callK (i := 63) (rest := [64, 65, 66]) (L := lone18) (R := fun e w' => e = .returned (.bool false) ∧ New u8 w') okL18 (by decide) rfl rfl (by kernel_rfl) (by kernel_rfl) (by decide) (fun A d => calls_eq (args' := #[ptr sb]) (by kernel_rfl) ((closed_at (tp u8 A d) sb qb sc _ false (hsch u8 hnew)).mono fun _ _ h => ⟨h.1, new_id h.2⟩)) (fun e w h => ⟨_, h.1⟩) fun z u9 hR => ?_
  obtain ⟨e, hn⟩ := hR
  injection e with e
  subst e
  replace hnew := hnew.trans hn
  clear hn
  refine ownU_quiet (i := 64) (rest := [65, 66]) (.bool true) rfl (by kernel_rfl) rfl (by decide) (fun _ => by kernel_rfl) ?_
  refine ownU_quiet (i := 65) (rest := [66]) (.bool true) rfl (by rfl) rfl (by decide) (fun _ => by kernel_rfl) ?_
  refine ownU_quiet (i := 66) (rest := []) (.bool true) rfl (by rfl) rfl (by decide) (fun _ => by kernel_rfl) ?_
  refine ownU_region_end ?_
  refine ownU_lit (List.toArray (.int .i64 id :: undef :: .bool true :: .pointer none :: ptr sb :: ptr sb :: ptr sb :: .bool true :: .bool true :: .pointer none :: .int .i64 0 :: .bool true :: .bool true :: .bool true :: .pointer none :: .int .i64 id :: .bool false :: .bool true :: .bool true :: .bool true :: .pointer none :: .int .i64 0 :: .bool true :: .bool true :: .bool true :: .pointer none :: .int .i64 id :: .int .i64 0 :: .bool true :: .bool true :: .bool true :: .pointer none :: .int .i64 id :: .string ByteArray.empty :: .bool true :: .bool true :: .bool true :: .pointer none :: .int .i64 id :: .int .i64 0 :: .bool true :: .bool true :: .bool true :: .pointer none :: .int .i64 0 :: .bool true :: .bool true :: .bool true :: .pointer none :: .bool true :: .bool true :: .bool true :: ptr sb :: .int .i64 id :: .int .i64 0 :: .bool true :: .bool true :: .bool true :: ptr sb :: .int .i64 id :: .bool false :: .bool true :: .bool true :: .bool true :: ptr sb :: .int .i64 0 :: .bool true :: .bool true :: .bool true :: ptr sb :: .bool false :: .bool true :: .bool true :: [])) [clDefer sb] (by kernel_rfl) (by kernel_rfl) ?_
  refine ownU_ret ?_
  refine ownU_deferred (args := #[ptr sb]) (ca := #[]) (ds := []) (by simp) rfl Try.func36 (by kernel_rfl) rfl ?_
  exact ownU_eq (by kernel_rfl) (hk (List.toArray (.int .i64 id :: undef :: .bool true :: .pointer none :: ptr sb :: ptr sb :: ptr sb :: .bool true :: .bool true :: .pointer none :: .int .i64 0 :: .bool true :: .bool true :: .bool true :: .pointer none :: .int .i64 id :: .bool false :: .bool true :: .bool true :: .bool true :: .pointer none :: .int .i64 0 :: .bool true :: .bool true :: .bool true :: .pointer none :: .int .i64 id :: .int .i64 0 :: .bool true :: .bool true :: .bool true :: .pointer none :: .int .i64 id :: .string ByteArray.empty :: .bool true :: .bool true :: .bool true :: .pointer none :: .int .i64 id :: .int .i64 0 :: .bool true :: .bool true :: .bool true :: .pointer none :: .int .i64 0 :: .bool true :: .bool true :: .bool true :: .pointer none :: .bool true :: .bool true :: .bool true :: ptr sb :: .int .i64 id :: .int .i64 0 :: .bool true :: .bool true :: .bool true :: ptr sb :: .int .i64 id :: .bool false :: .bool true :: .bool true :: .bool true :: ptr sb :: .int .i64 0 :: .bool true :: .bool true :: .bool true :: ptr sb :: .bool false :: .bool true :: .bool true :: [])) _ hnew rfl)
end Go.Proofs.Ytolnmdanlggmhaa

/- CoroNil: for every number the law returns true (its run, on whatever schedule). -/
namespace Go.Proofs.Ytolnmdanlggmhaa
open Go.RowKit Go.Maps Go.Conc
open Go.ConcN (upd upd_ne upd_same)

set_option maxRecDepth 100000
set_option maxHeartbeats 2000000

theorem ground_start (W : World) : Ground [] 1 (fun _ => none) W := ⟨⟨by simp, fun r hr => (by cases hr)⟩, fun r hr => (by cases hr), fun x s h => (by cases h), fun x s r h => (by cases h), by omega, rfl⟩

theorem law_nil (id : Int) (W : World) : ∃ M last o w' t', runNT Try.prog (M + 1) (solo (G (Frame.enter Try.prog 10 #[.int .i64 id] .normal) []) W) #[] = (.ended o w', t') ∧
    runN Try.prog M (solo (G (Frame.enter Try.prog 10 #[.int .i64 id] .normal) []) W) = .next last ∧ step Try.prog last = .ended o w' ∧ Conc.Good Try.prog (LawPost W) last o w' t' := by
  have e : G (Frame.enter Try.prog 10 #[.int .i64 id] .normal) [] = nilIn id := by kernel_rfl
  rw [e]
  refine wins_start ?_
  have H := ground_start W
  refine win_own H.wf (nil_a (ownU_stop fun w1 hs hkp => ?_))
  obtain ⟨H1, ex1⟩ := ground_own H hs hkp (New.refl _)
  clear hs hkp
  refine new_won H1 fun own sb qb sc FC1 w2 C2 hall hsub1 => ?_
  refine win_own C2.fi.wf (nil_b (id := id) (sb := sb) (ownU_stop fun w3 hs hkp => ?_))
  obtain ⟨C3, _⟩ := C2.rest0 hs hkp
  clear hs hkp
  obtain ⟨H3, hf3⟩ := C3.ends (fun k hk => by cases hk) rfl
  rw [hf3] at H3
  refine alive_won H3 fun FC4 n4 w4 H4 hsub4 hsup4 ex4 hn4 => ?_
  refine won_kf fun hK4 => ?_
  obtain ⟨C4, _⟩ := C3.over H4 hsub4 hsup4 ex4 hK4 hn4
  refine win_own C4.fi.wf (nil_c C4.siG fun ts u' hnew h0 => ownU_stop fun w5 hs hkp => ?_)
  have st5 : Stp (fun _ => False) own own (guardW FC4 w4) u' := hnew.stp C4.ltG
  obtain ⟨a5, C5⟩ := C4.step hs hkp st5 (fun h => h) (C4.siG.stp st5 fun t h => h.elim) C4.fi rfl rfl (fun i c h => ⟨c, h, rfl, rfl⟩)
  clear hs hkp st5 a5
  refine close_enter_won (S := emptyS sb qb sc) (by decide) C5 rfl fun g6 w6 hg6 C6 _ => ?_
  refine close_done_won (by decide) (S := { emptyS sb qb sc with closed := true }) (by simp [emptyS]) 0 0 rfl C6 hg6 fun g7 w7 hg7 C7 _ => ?_
  refine win_own C7.fi.wf (clOut_deferred hg7 rfl (ownU_stop fun w8 hs hkp => ?_))
  obtain ⟨C8, _⟩ := C7.rest0 hs hkp
  refine won_end Try.func10 (t := 2) rfl (by kernel_rfl) (fun i hi => rfl) h0 ?_
  have hb := C8.base
  refine Ext.below (B := W.heap.size) ((ext_none ex1 fun b _ h => h).then hb (fun b hb h => ?_) (fun r hr => hr) (fun r hr => .inl hr)) (Nat.le_refl _)
  have := ex1.size
  have h' : w1.heap.size ≤ b := h
  omega
end Go.Proofs.Ytolnmdanlggmhaa
