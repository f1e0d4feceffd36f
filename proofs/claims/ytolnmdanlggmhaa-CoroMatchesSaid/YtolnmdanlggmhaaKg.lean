/- Spawn, in company. (Printed by gen_spawn.py.) -/
import Derived.Test.YtolnmdanlggmhaaKf
import Derived.Test.YtolnmdanlggmhaaKd
namespace Go.Proofs.Ytolnmdanlggmhaa
open Go.RowKit Go.Maps Go.Conc
open Go.ConcN (upd upd_ne upd_same)

set_option maxRecDepth 100000
set_option maxHeartbeats 2000000

noncomputable abbrev bodyS : Code := Try.f37.body.getD .skip
theorem closed_u {u : World} {sb qb sc : Nat} {v : Value} {cl : Bool} (h : SchAt u sb qb sc v cl) (A : Nat → Question → Nat) (d : Nat) : Calls Try.prog 50 #[ptr sb] (tp u A d) fun e w' => e = .returned (.bool cl) ∧ ∃ A d, w' = tp u A d :=
  (closed_at (tp u A d) sb qb sc v cl h).mono fun _ _ ⟨h1, h2⟩ => ⟨h1, A, d, h2⟩
/-- Spawn, entered. -/
noncomputable def spawnIn (sb : Nat) (fv : Value) (cs : List Frame) : Goroutine := G ((base 37).at ⟨List.toArray (ptr sb :: fv :: undef :: undef :: undef :: undef :: undef :: undef :: undef :: undef :: undef :: undef :: undef :: undef :: undef :: undef :: undef :: undef :: undef :: undef :: undef :: undef :: undef :: undef :: undef :: undef :: undef :: undef :: undef :: undef :: undef :: undef :: undef :: undef :: undef :: undef :: undef :: undef :: undef :: undef :: undef :: undef :: []), []⟩ [.code bodyS]) cs
/-- The slots, as far as the region has come. -/
def spAct (sb : Nat) (v : Value) (n : Int) (id : Int) (fv : Value) (chb : Nat) (nb : Nat) (l : Array Bool) : Act := ⟨List.toArray ((ptr sb) :: fv :: undef :: undef :: (.int .i64 0) :: (cond (l.getD 11 false) (ptr nb) (undef)) :: (ptr sb) :: (.bool false) :: (cond (l.getD 0 false) (ptr sb) (undef)) :: (cond (l.getD 1 false) (ptr sb) (undef)) :: (cond (l.getD 2 false) (ptr sb) (undef)) :: (cond (l.getD 3 false) (.pointer (some ⟨sb, 0, none⟩)) (undef)) :: (cond (l.getD 4 false) (v) (undef)) :: (cond (l.getD 5 false) (.int .i64 n) (undef)) :: (cond (l.getD 6 false) (.int .i64 id) (undef)) :: (cond (l.getD 7 false) (fv) (undef)) :: (cond (l.getD 8 false) (.chan (some chb)) (undef)) :: (cond (l.getD 9 false) (.agg #[ptr sb, .int .i64 id, fv, .chan (some chb), .bool false, .int .i64 1, .string ByteArray.empty]) (undef)) :: (cond (l.getD 10 false) (ptr nb) (undef)) :: undef :: undef :: undef :: undef :: undef :: undef :: undef :: undef :: undef :: undef :: undef :: undef :: undef :: undef :: undef :: undef :: undef :: undef :: undef :: undef :: undef :: undef :: undef :: []), []⟩
def spSt (main : Bool) (Z : Addr → Prop) (Stop : Goroutine → World → Prop) (w₀ : World) (k : List Item) (cs : List Frame) (sb : Nat) (v : Value) (n : Int) (id : Int) (fv : Value) (chb : Nat) (nb : Nat) (f : Nat) (l : Array Bool) (w : World) : Prop :=
  ∀ A d, SchedU Try.prog main Z Stop w₀ (base 37) (opsOf (sel [1, 1, 0] bodyS)) k cs f l (spAct sb v n id fv chb nb l) (tp w A d)
/-- .. at the box that makes the coroutine's block. -/
noncomputable def spawnBox (sb : Nat) (v : Value) (n id : Int) (fv : Value) (chb : Nat) (cs : List Frame) : Goroutine := G ((base 37).at (spAct sb v n id fv chb 0 #[true, true, true, true, true, true, true, true, true, true, false, false]) [.inRegion (opsOf (sel [1, 1, 0] bodyS)) [10, 11], .code (sel [1, 1, 1] bodyS)]) cs
theorem spawn_own1 {main : Bool} {Z : Addr → Prop} {Stop : Goroutine → World → Prop} {w₀ u : World} {cs : List Frame} {sb qb sc n0 cap : Nat} {A0 : Option Addr} {fv : Value} {fn : Fn} {fi ca : Array Value} {id : Int} (hfv : Value.func fn fi ca = fv) (h : SchAt u sb qb sc (.slice A0 n0 cap) false) (hid : IntKind.i64.wrap ((n0 : Int) + 1) = id)
    (hk : OwnU Try.prog main Z Stop w₀ (spawnBox sb (.slice A0 n0 cap) n0 id fv u.heap.size cs) (u.alloc (.chan 0 #[] false 0 0 false))) : OwnU Try.prog main Z Stop w₀ (spawnIn sb fv cs) u := by
  have hclo := closed_u h
  have s0 := cellsAt_cell h 0 (.slice A0 n0 cap) rfl
  have hnew : New u (u.alloc (.chan 0 #[] false 0 0 false)) := New.alloc u _
  have s0a := hnew.cell s0
  generalize hv : Value.slice A0 n0 cap = v at *
  clear h
  unfold spawnIn
  refine ownU_seq (x := sel [0] bodyS) (y := sel [1] bodyS) ?_
  refine ownU_region (id := 0) (ops := opsOf (sel [0] bodyS)) ?_
  refine ownU_quiet (i := 0) (rest := []) (.int .i64 0) rfl (by rfl) rfl (by decide) (fun _ => by kernel_rfl) ?_
  refine ownU_region_end ?_
  refine ownU_seq (x := sel [1, 0] bodyS) (y := sel [1, 1] bodyS) ?_
  refine ownU_seq (x := sel [1, 0, 0] bodyS) (y := sel [1, 0, 1] bodyS) ?_
  refine ownU_region (id := 1) (ops := opsOf (sel [1, 0, 0] bodyS)) ?_
  refine ownU_quiet (i := 0) (rest := [1]) (ptr sb) rfl (by rfl) rfl (by decide) (fun _ => by kernel_rfl) ?_
  refine ownU_callK (i := 1) (rest := []) (L := lone18) (R := fun e w' => e = .returned (.bool false) ∧ ∃ A d, w' = tp u A d) okL18 (by decide) rfl rfl (by kernel_rfl) (by rfl) (by decide) (fun A d => calls_eq (by kernel_rfl) (hclo A d)) (fun e w h => ⟨_, h.1⟩) fun z u' hR => ?_
  obtain ⟨e, A, d, rfl⟩ := hR
  injection e with e
  subst e
  refine ownU_tp.2 ?_
  refine ownU_region_end ?_
  refine ownU_cond (c := .tmp 7) (x := sel [1, 0, 1, 2] bodyS) (y := .skip) (t := false) (by kernel_rfl) ?_
  refine ownU_skip ?_
  refine ownU_seq (x := sel [1, 1, 0] bodyS) (y := sel [1, 1, 1] bodyS) ?_
  have hlast : spSt main Z Stop w₀ [.code (sel [1, 1, 1] bodyS)] cs sb v (n0 : Int) id fv u.heap.size 0 3 #[true, true, true, true, true, true, true, true, true, false, false, false] (u.alloc (.chan 0 #[] false 0 0 false)) := by
    intro A d t
    rw [go_one (i := 9) (by kernel_rfl), go_one (i := 10) (by kernel_rfl), go_one (i := 11) (by kernel_rfl)]
    refine ownU_quiet (i := 9) (.agg #[ptr sb, .int .i64 id, fv, .chan (some u.heap.size), .bool false, .int .i64 1, .string ByteArray.empty]) rfl (by rfl) rfl (by decide) (fun _ => by subst hfv; kernel_rfl) ?_
    refine ownU_tp.2 ?_
    exact ownU_eq (by kernel_rfl) hk
  have hn_8_9_10_11 : spSt main Z Stop w₀ [.code (sel [1, 1, 1] bodyS)] cs sb v (n0 : Int) id fv u.heap.size 0 4 #[true, true, true, true, true, true, true, true, false, false, false, false] (u) := by
    intro A d
    refine schedU_succ (rs := [8]) (by kernel_rfl) (by decide) fun i hi t => ?_
    have hi' : i = 8 := by simpa using hi
    subst hi'
    refine ownU_newV (fun n => .chan (some n)) (.chan 0 #[] false 0 0 false) (i := 8) rfl (by rfl) rfl (by decide) (fun _ => by kernel_rfl) ?_
    exact schedU_to (by kernel_rfl) (by kernel_rfl) (hlast _ _) t
  have hn_7_9_10_11 : spSt main Z Stop w₀ [.code (sel [1, 1, 1] bodyS)] cs sb v (n0 : Int) id fv u.heap.size 0 4 #[true, true, true, true, true, true, true, false, true, false, false, false] (u.alloc (.chan 0 #[] false 0 0 false)) := by
    intro A d
    refine schedU_succ (rs := [7]) (by kernel_rfl) (by decide) fun i hi t => ?_
    have hi' : i = 7 := by simpa using hi
    subst hi'
    refine ownU_quiet (i := 7) (fv) rfl (by rfl) rfl (by decide) (fun _ => by kernel_rfl) ?_
    exact schedU_to (by kernel_rfl) (by kernel_rfl) (hlast _ _) t
  have hn_6_9_10_11 : spSt main Z Stop w₀ [.code (sel [1, 1, 1] bodyS)] cs sb v (n0 : Int) id fv u.heap.size 0 4 #[true, true, true, true, true, true, false, true, true, false, false, false] (u.alloc (.chan 0 #[] false 0 0 false)) := by
    intro A d
    refine schedU_succ (rs := [6]) (by kernel_rfl) (by decide) fun i hi t => ?_
    have hi' : i = 6 := by simpa using hi
    subst hi'
    refine ownU_quiet (i := 6) (.int .i64 id) rfl (by rfl) rfl (by decide) (fun _ => by subst hid; kernel_rfl) ?_
    exact schedU_to (by kernel_rfl) (by kernel_rfl) (hlast _ _) t
  have hn_0_9_10_11 : spSt main Z Stop w₀ [.code (sel [1, 1, 1] bodyS)] cs sb v (n0 : Int) id fv u.heap.size 0 4 #[false, true, true, true, true, true, true, true, true, false, false, false] (u.alloc (.chan 0 #[] false 0 0 false)) := by
    intro A d
    refine schedU_succ (rs := [0]) (by kernel_rfl) (by decide) fun i hi t => ?_
    have hi' : i = 0 := by simpa using hi
    subst hi'
    refine ownU_quiet (i := 0) (ptr sb) rfl (by rfl) rfl (by decide) (fun _ => by kernel_rfl) ?_
    exact schedU_to (by kernel_rfl) (by kernel_rfl) (hlast _ _) t
  have hn_7_8_9_10_11 : spSt main Z Stop w₀ [.code (sel [1, 1, 1] bodyS)] cs sb v (n0 : Int) id fv u.heap.size 0 5 #[true, true, true, true, true, true, true, false, false, false, false, false] (u) := by
    intro A d
    refine schedU_succ (rs := [7, 8]) (by kernel_rfl) (by decide) fun i hi t => ?_
    have hi' : i = 7 ∨ i = 8 := by simpa using hi
    rcases hi' with rfl | rfl
    · skip
      refine ownU_quiet (i := 7) (fv) rfl (by rfl) rfl (by decide) (fun _ => by kernel_rfl) ?_
      exact schedU_to (by kernel_rfl) (by kernel_rfl) (hn_8_9_10_11 _ _) t
    · skip
      refine ownU_newV (fun n => .chan (some n)) (.chan 0 #[] false 0 0 false) (i := 8) rfl (by rfl) rfl (by decide) (fun _ => by kernel_rfl) ?_
      exact schedU_to (by kernel_rfl) (by kernel_rfl) (hn_7_9_10_11 _ _) t
  have hn_6_8_9_10_11 : spSt main Z Stop w₀ [.code (sel [1, 1, 1] bodyS)] cs sb v (n0 : Int) id fv u.heap.size 0 5 #[true, true, true, true, true, true, false, true, false, false, false, false] (u) := by
    intro A d
    refine schedU_succ (rs := [6, 8]) (by kernel_rfl) (by decide) fun i hi t => ?_
    have hi' : i = 6 ∨ i = 8 := by simpa using hi
    rcases hi' with rfl | rfl
    · skip
      refine ownU_quiet (i := 6) (.int .i64 id) rfl (by rfl) rfl (by decide) (fun _ => by subst hid; kernel_rfl) ?_
      exact schedU_to (by kernel_rfl) (by kernel_rfl) (hn_8_9_10_11 _ _) t
    · skip
      refine ownU_newV (fun n => .chan (some n)) (.chan 0 #[] false 0 0 false) (i := 8) rfl (by rfl) rfl (by decide) (fun _ => by kernel_rfl) ?_
      exact schedU_to (by kernel_rfl) (by kernel_rfl) (hn_6_9_10_11 _ _) t
  have hn_6_7_9_10_11 : spSt main Z Stop w₀ [.code (sel [1, 1, 1] bodyS)] cs sb v (n0 : Int) id fv u.heap.size 0 5 #[true, true, true, true, true, true, false, false, true, false, false, false] (u.alloc (.chan 0 #[] false 0 0 false)) := by
    intro A d
    refine schedU_succ (rs := [6, 7]) (by kernel_rfl) (by decide) fun i hi t => ?_
    have hi' : i = 6 ∨ i = 7 := by simpa using hi
    rcases hi' with rfl | rfl
    · skip
      refine ownU_quiet (i := 6) (.int .i64 id) rfl (by rfl) rfl (by decide) (fun _ => by subst hid; kernel_rfl) ?_
      exact schedU_to (by kernel_rfl) (by kernel_rfl) (hn_7_9_10_11 _ _) t
    · skip
      refine ownU_quiet (i := 7) (fv) rfl (by rfl) rfl (by decide) (fun _ => by kernel_rfl) ?_
      exact schedU_to (by kernel_rfl) (by kernel_rfl) (hn_6_9_10_11 _ _) t
  have hn_5_6_9_10_11 : spSt main Z Stop w₀ [.code (sel [1, 1, 1] bodyS)] cs sb v (n0 : Int) id fv u.heap.size 0 5 #[true, true, true, true, true, false, false, true, true, false, false, false] (u.alloc (.chan 0 #[] false 0 0 false)) := by
    intro A d
    refine schedU_succ (rs := [5]) (by kernel_rfl) (by decide) fun i hi t => ?_
    have hi' : i = 5 := by simpa using hi
    subst hi'
    refine ownU_quiet (i := 5) (.int .i64 (n0 : Int)) rfl (by rfl) rfl (by decide) (fun _ => by subst hv; kernel_rfl) ?_
    exact schedU_to (by kernel_rfl) (by kernel_rfl) (hn_6_9_10_11 _ _) t
  have hn_0_8_9_10_11 : spSt main Z Stop w₀ [.code (sel [1, 1, 1] bodyS)] cs sb v (n0 : Int) id fv u.heap.size 0 5 #[false, true, true, true, true, true, true, true, false, false, false, false] (u) := by
    intro A d
    refine schedU_succ (rs := [0, 8]) (by kernel_rfl) (by decide) fun i hi t => ?_
    have hi' : i = 0 ∨ i = 8 := by simpa using hi
    rcases hi' with rfl | rfl
    · skip
      refine ownU_quiet (i := 0) (ptr sb) rfl (by rfl) rfl (by decide) (fun _ => by kernel_rfl) ?_
      exact schedU_to (by kernel_rfl) (by kernel_rfl) (hn_8_9_10_11 _ _) t
    · skip
      refine ownU_newV (fun n => .chan (some n)) (.chan 0 #[] false 0 0 false) (i := 8) rfl (by rfl) rfl (by decide) (fun _ => by kernel_rfl) ?_
      exact schedU_to (by kernel_rfl) (by kernel_rfl) (hn_0_9_10_11 _ _) t
  have hn_0_7_9_10_11 : spSt main Z Stop w₀ [.code (sel [1, 1, 1] bodyS)] cs sb v (n0 : Int) id fv u.heap.size 0 5 #[false, true, true, true, true, true, true, false, true, false, false, false] (u.alloc (.chan 0 #[] false 0 0 false)) := by
    intro A d
    refine schedU_succ (rs := [0, 7]) (by kernel_rfl) (by decide) fun i hi t => ?_
    have hi' : i = 0 ∨ i = 7 := by simpa using hi
    rcases hi' with rfl | rfl
    · skip
      refine ownU_quiet (i := 0) (ptr sb) rfl (by rfl) rfl (by decide) (fun _ => by kernel_rfl) ?_
      exact schedU_to (by kernel_rfl) (by kernel_rfl) (hn_7_9_10_11 _ _) t
    · skip
      refine ownU_quiet (i := 7) (fv) rfl (by rfl) rfl (by decide) (fun _ => by kernel_rfl) ?_
      exact schedU_to (by kernel_rfl) (by kernel_rfl) (hn_0_9_10_11 _ _) t
  have hn_0_6_9_10_11 : spSt main Z Stop w₀ [.code (sel [1, 1, 1] bodyS)] cs sb v (n0 : Int) id fv u.heap.size 0 5 #[false, true, true, true, true, true, false, true, true, false, false, false] (u.alloc (.chan 0 #[] false 0 0 false)) := by
    intro A d
    refine schedU_succ (rs := [0, 6]) (by kernel_rfl) (by decide) fun i hi t => ?_
    have hi' : i = 0 ∨ i = 6 := by simpa using hi
    rcases hi' with rfl | rfl
    · skip
      refine ownU_quiet (i := 0) (ptr sb) rfl (by rfl) rfl (by decide) (fun _ => by kernel_rfl) ?_
      exact schedU_to (by kernel_rfl) (by kernel_rfl) (hn_6_9_10_11 _ _) t
    · skip
      refine ownU_quiet (i := 6) (.int .i64 id) rfl (by rfl) rfl (by decide) (fun _ => by subst hid; kernel_rfl) ?_
      exact schedU_to (by kernel_rfl) (by kernel_rfl) (hn_0_9_10_11 _ _) t
  have h_0_1_2_3_4_5 : spSt main Z Stop w₀ [.code (sel [1, 1, 1] bodyS)] cs sb v (n0 : Int) id fv u.heap.size 0 6 #[true, true, true, true, true, true, false, false, false, false, false, false] (u) := by
    intro A d
    refine schedU_succ (rs := [6, 7, 8]) (by kernel_rfl) (by decide) fun i hi t => ?_
    have hi' : i = 6 ∨ i = 7 ∨ i = 8 := by simpa using hi
    rcases hi' with rfl | rfl | rfl
    · skip
      refine ownU_quiet (i := 6) (.int .i64 id) rfl (by rfl) rfl (by decide) (fun _ => by subst hid; kernel_rfl) ?_
      exact schedU_to (by kernel_rfl) (by kernel_rfl) (hn_7_8_9_10_11 _ _) t
    · skip
      refine ownU_quiet (i := 7) (fv) rfl (by rfl) rfl (by decide) (fun _ => by kernel_rfl) ?_
      exact schedU_to (by kernel_rfl) (by kernel_rfl) (hn_6_8_9_10_11 _ _) t
    · skip
      refine ownU_newV (fun n => .chan (some n)) (.chan 0 #[] false 0 0 false) (i := 8) rfl (by rfl) rfl (by decide) (fun _ => by kernel_rfl) ?_
      exact schedU_to (by kernel_rfl) (by kernel_rfl) (hn_6_7_9_10_11 _ _) t
  have h_0_1_2_3_4_7 : spSt main Z Stop w₀ [.code (sel [1, 1, 1] bodyS)] cs sb v (n0 : Int) id fv u.heap.size 0 6 #[true, true, true, true, true, false, false, true, false, false, false, false] (u) := by
    intro A d
    refine schedU_succ (rs := [5, 8]) (by kernel_rfl) (by decide) fun i hi t => ?_
    have hi' : i = 5 ∨ i = 8 := by simpa using hi
    rcases hi' with rfl | rfl
    · skip
      refine ownU_quiet (i := 5) (.int .i64 (n0 : Int)) rfl (by rfl) rfl (by decide) (fun _ => by subst hv; kernel_rfl) ?_
      exact schedU_to (by kernel_rfl) (by kernel_rfl) (hn_6_8_9_10_11 _ _) t
    · skip
      refine ownU_newV (fun n => .chan (some n)) (.chan 0 #[] false 0 0 false) (i := 8) rfl (by rfl) rfl (by decide) (fun _ => by kernel_rfl) ?_
      exact schedU_to (by kernel_rfl) (by kernel_rfl) (hn_5_6_9_10_11 _ _) t
  have h_0_1_2_3_4_8 : spSt main Z Stop w₀ [.code (sel [1, 1, 1] bodyS)] cs sb v (n0 : Int) id fv u.heap.size 0 6 #[true, true, true, true, true, false, false, false, true, false, false, false] (u.alloc (.chan 0 #[] false 0 0 false)) := by
    intro A d
    refine schedU_succ (rs := [5, 7]) (by kernel_rfl) (by decide) fun i hi t => ?_
    have hi' : i = 5 ∨ i = 7 := by simpa using hi
    rcases hi' with rfl | rfl
    · skip
      refine ownU_quiet (i := 5) (.int .i64 (n0 : Int)) rfl (by rfl) rfl (by decide) (fun _ => by subst hv; kernel_rfl) ?_
      exact schedU_to (by kernel_rfl) (by kernel_rfl) (hn_6_7_9_10_11 _ _) t
    · skip
      refine ownU_quiet (i := 7) (fv) rfl (by rfl) rfl (by decide) (fun _ => by kernel_rfl) ?_
      exact schedU_to (by kernel_rfl) (by kernel_rfl) (hn_5_6_9_10_11 _ _) t
  have h_0_1_2_3_7_8 : spSt main Z Stop w₀ [.code (sel [1, 1, 1] bodyS)] cs sb v (n0 : Int) id fv u.heap.size 0 6 #[true, true, true, true, false, false, false, true, true, false, false, false] (u.alloc (.chan 0 #[] false 0 0 false)) := by
    intro A d
    refine schedU_succ (rs := [4]) (by kernel_rfl) (by decide) fun i hi t => ?_
    have hi' : i = 4 := by simpa using hi
    subst hi'
    refine ownU_load (i := 4) ⟨sb, 0, none⟩ (v) rfl (by rfl) (by decide) loads_cos rfl (by kernel_rfl) s0a ?_
    exact schedU_to (by kernel_rfl) (by kernel_rfl) (hn_5_6_9_10_11 _ _) t
  have h_1_2_3_4_5_6 : spSt main Z Stop w₀ [.code (sel [1, 1, 1] bodyS)] cs sb v (n0 : Int) id fv u.heap.size 0 6 #[false, true, true, true, true, true, true, false, false, false, false, false] (u) := by
    intro A d
    refine schedU_succ (rs := [0, 7, 8]) (by kernel_rfl) (by decide) fun i hi t => ?_
    have hi' : i = 0 ∨ i = 7 ∨ i = 8 := by simpa using hi
    rcases hi' with rfl | rfl | rfl
    · skip
      refine ownU_quiet (i := 0) (ptr sb) rfl (by rfl) rfl (by decide) (fun _ => by kernel_rfl) ?_
      exact schedU_to (by kernel_rfl) (by kernel_rfl) (hn_7_8_9_10_11 _ _) t
    · skip
      refine ownU_quiet (i := 7) (fv) rfl (by rfl) rfl (by decide) (fun _ => by kernel_rfl) ?_
      exact schedU_to (by kernel_rfl) (by kernel_rfl) (hn_0_8_9_10_11 _ _) t
    · skip
      refine ownU_newV (fun n => .chan (some n)) (.chan 0 #[] false 0 0 false) (i := 8) rfl (by rfl) rfl (by decide) (fun _ => by kernel_rfl) ?_
      exact schedU_to (by kernel_rfl) (by kernel_rfl) (hn_0_7_9_10_11 _ _) t
  have h_1_2_3_4_5_7 : spSt main Z Stop w₀ [.code (sel [1, 1, 1] bodyS)] cs sb v (n0 : Int) id fv u.heap.size 0 6 #[false, true, true, true, true, true, false, true, false, false, false, false] (u) := by
    intro A d
    refine schedU_succ (rs := [0, 6, 8]) (by kernel_rfl) (by decide) fun i hi t => ?_
    have hi' : i = 0 ∨ i = 6 ∨ i = 8 := by simpa using hi
    rcases hi' with rfl | rfl | rfl
    · skip
      refine ownU_quiet (i := 0) (ptr sb) rfl (by rfl) rfl (by decide) (fun _ => by kernel_rfl) ?_
      exact schedU_to (by kernel_rfl) (by kernel_rfl) (hn_6_8_9_10_11 _ _) t
    · skip
      refine ownU_quiet (i := 6) (.int .i64 id) rfl (by rfl) rfl (by decide) (fun _ => by subst hid; kernel_rfl) ?_
      exact schedU_to (by kernel_rfl) (by kernel_rfl) (hn_0_8_9_10_11 _ _) t
    · skip
      refine ownU_newV (fun n => .chan (some n)) (.chan 0 #[] false 0 0 false) (i := 8) rfl (by rfl) rfl (by decide) (fun _ => by kernel_rfl) ?_
      exact schedU_to (by kernel_rfl) (by kernel_rfl) (hn_0_6_9_10_11 _ _) t
  have h_1_2_3_4_5_8 : spSt main Z Stop w₀ [.code (sel [1, 1, 1] bodyS)] cs sb v (n0 : Int) id fv u.heap.size 0 6 #[false, true, true, true, true, true, false, false, true, false, false, false] (u.alloc (.chan 0 #[] false 0 0 false)) := by
    intro A d
    refine schedU_succ (rs := [0, 6, 7]) (by kernel_rfl) (by decide) fun i hi t => ?_
    have hi' : i = 0 ∨ i = 6 ∨ i = 7 := by simpa using hi
    rcases hi' with rfl | rfl | rfl
    · skip
      refine ownU_quiet (i := 0) (ptr sb) rfl (by rfl) rfl (by decide) (fun _ => by kernel_rfl) ?_
      exact schedU_to (by kernel_rfl) (by kernel_rfl) (hn_6_7_9_10_11 _ _) t
    · skip
      refine ownU_quiet (i := 6) (.int .i64 id) rfl (by rfl) rfl (by decide) (fun _ => by subst hid; kernel_rfl) ?_
      exact schedU_to (by kernel_rfl) (by kernel_rfl) (hn_0_7_9_10_11 _ _) t
    · skip
      refine ownU_quiet (i := 7) (fv) rfl (by rfl) rfl (by decide) (fun _ => by kernel_rfl) ?_
      exact schedU_to (by kernel_rfl) (by kernel_rfl) (hn_0_6_9_10_11 _ _) t
  have h_1_2_3_4_7_8 : spSt main Z Stop w₀ [.code (sel [1, 1, 1] bodyS)] cs sb v (n0 : Int) id fv u.heap.size 0 6 #[false, true, true, true, true, false, false, true, true, false, false, false] (u.alloc (.chan 0 #[] false 0 0 false)) := by
    intro A d
    refine schedU_succ (rs := [0, 5]) (by kernel_rfl) (by decide) fun i hi t => ?_
    have hi' : i = 0 ∨ i = 5 := by simpa using hi
    rcases hi' with rfl | rfl
    · skip
      refine ownU_quiet (i := 0) (ptr sb) rfl (by rfl) rfl (by decide) (fun _ => by kernel_rfl) ?_
      exact schedU_to (by kernel_rfl) (by kernel_rfl) (hn_5_6_9_10_11 _ _) t
    · skip
      refine ownU_quiet (i := 5) (.int .i64 (n0 : Int)) rfl (by rfl) rfl (by decide) (fun _ => by subst hv; kernel_rfl) ?_
      exact schedU_to (by kernel_rfl) (by kernel_rfl) (hn_0_6_9_10_11 _ _) t
  have h_0_1_2_3_4 : spSt main Z Stop w₀ [.code (sel [1, 1, 1] bodyS)] cs sb v (n0 : Int) id fv u.heap.size 0 7 #[true, true, true, true, true, false, false, false, false, false, false, false] (u) := by
    intro A d
    refine schedU_succ (rs := [5, 7, 8]) (by kernel_rfl) (by decide) fun i hi t => ?_
    have hi' : i = 5 ∨ i = 7 ∨ i = 8 := by simpa using hi
    rcases hi' with rfl | rfl | rfl
    · skip
      refine ownU_quiet (i := 5) (.int .i64 (n0 : Int)) rfl (by rfl) rfl (by decide) (fun _ => by subst hv; kernel_rfl) ?_
      exact schedU_to (by kernel_rfl) (by kernel_rfl) (h_0_1_2_3_4_5 _ _) t
    · skip
      refine ownU_quiet (i := 7) (fv) rfl (by rfl) rfl (by decide) (fun _ => by kernel_rfl) ?_
      exact schedU_to (by kernel_rfl) (by kernel_rfl) (h_0_1_2_3_4_7 _ _) t
    · skip
      refine ownU_newV (fun n => .chan (some n)) (.chan 0 #[] false 0 0 false) (i := 8) rfl (by rfl) rfl (by decide) (fun _ => by kernel_rfl) ?_
      exact schedU_to (by kernel_rfl) (by kernel_rfl) (h_0_1_2_3_4_8 _ _) t
  have h_0_1_2_3_7 : spSt main Z Stop w₀ [.code (sel [1, 1, 1] bodyS)] cs sb v (n0 : Int) id fv u.heap.size 0 7 #[true, true, true, true, false, false, false, true, false, false, false, false] (u) := by
    intro A d
    refine schedU_succ (rs := [4, 8]) (by kernel_rfl) (by decide) fun i hi t => ?_
    have hi' : i = 4 ∨ i = 8 := by simpa using hi
    rcases hi' with rfl | rfl
    · skip
      refine ownU_load (i := 4) ⟨sb, 0, none⟩ (v) rfl (by rfl) (by decide) loads_cos rfl (by kernel_rfl) s0 ?_
      exact schedU_to (by kernel_rfl) (by kernel_rfl) (h_0_1_2_3_4_7 _ _) t
    · skip
      refine ownU_newV (fun n => .chan (some n)) (.chan 0 #[] false 0 0 false) (i := 8) rfl (by rfl) rfl (by decide) (fun _ => by kernel_rfl) ?_
      exact schedU_to (by kernel_rfl) (by kernel_rfl) (h_0_1_2_3_7_8 _ _) t
  have h_0_1_2_3_8 : spSt main Z Stop w₀ [.code (sel [1, 1, 1] bodyS)] cs sb v (n0 : Int) id fv u.heap.size 0 7 #[true, true, true, true, false, false, false, false, true, false, false, false] (u.alloc (.chan 0 #[] false 0 0 false)) := by
    intro A d
    refine schedU_succ (rs := [4, 7]) (by kernel_rfl) (by decide) fun i hi t => ?_
    have hi' : i = 4 ∨ i = 7 := by simpa using hi
    rcases hi' with rfl | rfl
    · skip
      refine ownU_load (i := 4) ⟨sb, 0, none⟩ (v) rfl (by rfl) (by decide) loads_cos rfl (by kernel_rfl) s0a ?_
      exact schedU_to (by kernel_rfl) (by kernel_rfl) (h_0_1_2_3_4_8 _ _) t
    · skip
      refine ownU_quiet (i := 7) (fv) rfl (by rfl) rfl (by decide) (fun _ => by kernel_rfl) ?_
      exact schedU_to (by kernel_rfl) (by kernel_rfl) (h_0_1_2_3_7_8 _ _) t
  have h_0_1_2_7_8 : spSt main Z Stop w₀ [.code (sel [1, 1, 1] bodyS)] cs sb v (n0 : Int) id fv u.heap.size 0 7 #[true, true, true, false, false, false, false, true, true, false, false, false] (u.alloc (.chan 0 #[] false 0 0 false)) := by
    intro A d
    refine schedU_succ (rs := [3]) (by kernel_rfl) (by decide) fun i hi t => ?_
    have hi' : i = 3 := by simpa using hi
    subst hi'
    refine ownU_quiet (i := 3) (.pointer (some ⟨sb, 0, none⟩)) rfl (by rfl) rfl (by decide) (fun _ => by kernel_rfl) ?_
    exact schedU_to (by kernel_rfl) (by kernel_rfl) (h_0_1_2_3_7_8 _ _) t
  have h_1_2_3_4_5 : spSt main Z Stop w₀ [.code (sel [1, 1, 1] bodyS)] cs sb v (n0 : Int) id fv u.heap.size 0 7 #[false, true, true, true, true, true, false, false, false, false, false, false] (u) := by
    intro A d
    refine schedU_succ (rs := [0, 6, 7, 8]) (by kernel_rfl) (by decide) fun i hi t => ?_
    have hi' : i = 0 ∨ i = 6 ∨ i = 7 ∨ i = 8 := by simpa using hi
    rcases hi' with rfl | rfl | rfl | rfl
    · skip
      refine ownU_quiet (i := 0) (ptr sb) rfl (by rfl) rfl (by decide) (fun _ => by kernel_rfl) ?_
      exact schedU_to (by kernel_rfl) (by kernel_rfl) (h_0_1_2_3_4_5 _ _) t
    · skip
      refine ownU_quiet (i := 6) (.int .i64 id) rfl (by rfl) rfl (by decide) (fun _ => by subst hid; kernel_rfl) ?_
      exact schedU_to (by kernel_rfl) (by kernel_rfl) (h_1_2_3_4_5_6 _ _) t
    · skip
      refine ownU_quiet (i := 7) (fv) rfl (by rfl) rfl (by decide) (fun _ => by kernel_rfl) ?_
      exact schedU_to (by kernel_rfl) (by kernel_rfl) (h_1_2_3_4_5_7 _ _) t
    · skip
      refine ownU_newV (fun n => .chan (some n)) (.chan 0 #[] false 0 0 false) (i := 8) rfl (by rfl) rfl (by decide) (fun _ => by kernel_rfl) ?_
      exact schedU_to (by kernel_rfl) (by kernel_rfl) (h_1_2_3_4_5_8 _ _) t
  have h_1_2_3_4_7 : spSt main Z Stop w₀ [.code (sel [1, 1, 1] bodyS)] cs sb v (n0 : Int) id fv u.heap.size 0 7 #[false, true, true, true, true, false, false, true, false, false, false, false] (u) := by
    intro A d
    refine schedU_succ (rs := [0, 5, 8]) (by kernel_rfl) (by decide) fun i hi t => ?_
    have hi' : i = 0 ∨ i = 5 ∨ i = 8 := by simpa using hi
    rcases hi' with rfl | rfl | rfl
    · skip
      refine ownU_quiet (i := 0) (ptr sb) rfl (by rfl) rfl (by decide) (fun _ => by kernel_rfl) ?_
      exact schedU_to (by kernel_rfl) (by kernel_rfl) (h_0_1_2_3_4_7 _ _) t
    · skip
      refine ownU_quiet (i := 5) (.int .i64 (n0 : Int)) rfl (by rfl) rfl (by decide) (fun _ => by subst hv; kernel_rfl) ?_
      exact schedU_to (by kernel_rfl) (by kernel_rfl) (h_1_2_3_4_5_7 _ _) t
    · skip
      refine ownU_newV (fun n => .chan (some n)) (.chan 0 #[] false 0 0 false) (i := 8) rfl (by rfl) rfl (by decide) (fun _ => by kernel_rfl) ?_
      exact schedU_to (by kernel_rfl) (by kernel_rfl) (h_1_2_3_4_7_8 _ _) t
  have h_1_2_3_4_8 : spSt main Z Stop w₀ [.code (sel [1, 1, 1] bodyS)] cs sb v (n0 : Int) id fv u.heap.size 0 7 #[false, true, true, true, true, false, false, false, true, false, false, false] (u.alloc (.chan 0 #[] false 0 0 false)) := by
    intro A d
    refine schedU_succ (rs := [0, 5, 7]) (by kernel_rfl) (by decide) fun i hi t => ?_
    have hi' : i = 0 ∨ i = 5 ∨ i = 7 := by simpa using hi
    rcases hi' with rfl | rfl | rfl
    · skip
      refine ownU_quiet (i := 0) (ptr sb) rfl (by rfl) rfl (by decide) (fun _ => by kernel_rfl) ?_
      exact schedU_to (by kernel_rfl) (by kernel_rfl) (h_0_1_2_3_4_8 _ _) t
    · skip
      refine ownU_quiet (i := 5) (.int .i64 (n0 : Int)) rfl (by rfl) rfl (by decide) (fun _ => by subst hv; kernel_rfl) ?_
      exact schedU_to (by kernel_rfl) (by kernel_rfl) (h_1_2_3_4_5_8 _ _) t
    · skip
      refine ownU_quiet (i := 7) (fv) rfl (by rfl) rfl (by decide) (fun _ => by kernel_rfl) ?_
      exact schedU_to (by kernel_rfl) (by kernel_rfl) (h_1_2_3_4_7_8 _ _) t
  have h_1_2_3_7_8 : spSt main Z Stop w₀ [.code (sel [1, 1, 1] bodyS)] cs sb v (n0 : Int) id fv u.heap.size 0 7 #[false, true, true, true, false, false, false, true, true, false, false, false] (u.alloc (.chan 0 #[] false 0 0 false)) := by
    intro A d
    refine schedU_succ (rs := [0, 4]) (by kernel_rfl) (by decide) fun i hi t => ?_
    have hi' : i = 0 ∨ i = 4 := by simpa using hi
    rcases hi' with rfl | rfl
    · skip
      refine ownU_quiet (i := 0) (ptr sb) rfl (by rfl) rfl (by decide) (fun _ => by kernel_rfl) ?_
      exact schedU_to (by kernel_rfl) (by kernel_rfl) (h_0_1_2_3_7_8 _ _) t
    · skip
      refine ownU_load (i := 4) ⟨sb, 0, none⟩ (v) rfl (by rfl) (by decide) loads_cos rfl (by kernel_rfl) s0a ?_
      exact schedU_to (by kernel_rfl) (by kernel_rfl) (h_1_2_3_4_7_8 _ _) t
  have h_0_1_2_3 : spSt main Z Stop w₀ [.code (sel [1, 1, 1] bodyS)] cs sb v (n0 : Int) id fv u.heap.size 0 8 #[true, true, true, true, false, false, false, false, false, false, false, false] (u) := by
    intro A d
    refine schedU_succ (rs := [4, 7, 8]) (by kernel_rfl) (by decide) fun i hi t => ?_
    have hi' : i = 4 ∨ i = 7 ∨ i = 8 := by simpa using hi
    rcases hi' with rfl | rfl | rfl
    · skip
      refine ownU_load (i := 4) ⟨sb, 0, none⟩ (v) rfl (by rfl) (by decide) loads_cos rfl (by kernel_rfl) s0 ?_
      exact schedU_to (by kernel_rfl) (by kernel_rfl) (h_0_1_2_3_4 _ _) t
    · skip
      refine ownU_quiet (i := 7) (fv) rfl (by rfl) rfl (by decide) (fun _ => by kernel_rfl) ?_
      exact schedU_to (by kernel_rfl) (by kernel_rfl) (h_0_1_2_3_7 _ _) t
    · skip
      refine ownU_newV (fun n => .chan (some n)) (.chan 0 #[] false 0 0 false) (i := 8) rfl (by rfl) rfl (by decide) (fun _ => by kernel_rfl) ?_
      exact schedU_to (by kernel_rfl) (by kernel_rfl) (h_0_1_2_3_8 _ _) t
  have h_0_1_2_7 : spSt main Z Stop w₀ [.code (sel [1, 1, 1] bodyS)] cs sb v (n0 : Int) id fv u.heap.size 0 8 #[true, true, true, false, false, false, false, true, false, false, false, false] (u) := by
    intro A d
    refine schedU_succ (rs := [3, 8]) (by kernel_rfl) (by decide) fun i hi t => ?_
    have hi' : i = 3 ∨ i = 8 := by simpa using hi
    rcases hi' with rfl | rfl
    · skip
      refine ownU_quiet (i := 3) (.pointer (some ⟨sb, 0, none⟩)) rfl (by rfl) rfl (by decide) (fun _ => by kernel_rfl) ?_
      exact schedU_to (by kernel_rfl) (by kernel_rfl) (h_0_1_2_3_7 _ _) t
    · skip
      refine ownU_newV (fun n => .chan (some n)) (.chan 0 #[] false 0 0 false) (i := 8) rfl (by rfl) rfl (by decide) (fun _ => by kernel_rfl) ?_
      exact schedU_to (by kernel_rfl) (by kernel_rfl) (h_0_1_2_7_8 _ _) t
  have h_0_1_2_8 : spSt main Z Stop w₀ [.code (sel [1, 1, 1] bodyS)] cs sb v (n0 : Int) id fv u.heap.size 0 8 #[true, true, true, false, false, false, false, false, true, false, false, false] (u.alloc (.chan 0 #[] false 0 0 false)) := by
    intro A d
    refine schedU_succ (rs := [3, 7]) (by kernel_rfl) (by decide) fun i hi t => ?_
    have hi' : i = 3 ∨ i = 7 := by simpa using hi
    rcases hi' with rfl | rfl
    · skip
      refine ownU_quiet (i := 3) (.pointer (some ⟨sb, 0, none⟩)) rfl (by rfl) rfl (by decide) (fun _ => by kernel_rfl) ?_
      exact schedU_to (by kernel_rfl) (by kernel_rfl) (h_0_1_2_3_8 _ _) t
    · skip
      refine ownU_quiet (i := 7) (fv) rfl (by rfl) rfl (by decide) (fun _ => by kernel_rfl) ?_
      exact schedU_to (by kernel_rfl) (by kernel_rfl) (h_0_1_2_7_8 _ _) t
  have h_0_1_7_8 : spSt main Z Stop w₀ [.code (sel [1, 1, 1] bodyS)] cs sb v (n0 : Int) id fv u.heap.size 0 8 #[true, true, false, false, false, false, false, true, true, false, false, false] (u.alloc (.chan 0 #[] false 0 0 false)) := by
    intro A d
    refine schedU_succ (rs := [2]) (by kernel_rfl) (by decide) fun i hi t => ?_
    have hi' : i = 2 := by simpa using hi
    subst hi'
    refine ownU_quiet (i := 2) (ptr sb) rfl (by rfl) rfl (by decide) (fun _ => by kernel_rfl) ?_
    exact schedU_to (by kernel_rfl) (by kernel_rfl) (h_0_1_2_7_8 _ _) t
  have h_1_2_3_4 : spSt main Z Stop w₀ [.code (sel [1, 1, 1] bodyS)] cs sb v (n0 : Int) id fv u.heap.size 0 8 #[false, true, true, true, true, false, false, false, false, false, false, false] (u) := by
    intro A d
    refine schedU_succ (rs := [0, 5, 7, 8]) (by kernel_rfl) (by decide) fun i hi t => ?_
    have hi' : i = 0 ∨ i = 5 ∨ i = 7 ∨ i = 8 := by simpa using hi
    rcases hi' with rfl | rfl | rfl | rfl
    · skip
      refine ownU_quiet (i := 0) (ptr sb) rfl (by rfl) rfl (by decide) (fun _ => by kernel_rfl) ?_
      exact schedU_to (by kernel_rfl) (by kernel_rfl) (h_0_1_2_3_4 _ _) t
    · skip
      refine ownU_quiet (i := 5) (.int .i64 (n0 : Int)) rfl (by rfl) rfl (by decide) (fun _ => by subst hv; kernel_rfl) ?_
      exact schedU_to (by kernel_rfl) (by kernel_rfl) (h_1_2_3_4_5 _ _) t
    · skip
      refine ownU_quiet (i := 7) (fv) rfl (by rfl) rfl (by decide) (fun _ => by kernel_rfl) ?_
      exact schedU_to (by kernel_rfl) (by kernel_rfl) (h_1_2_3_4_7 _ _) t
    · skip
      refine ownU_newV (fun n => .chan (some n)) (.chan 0 #[] false 0 0 false) (i := 8) rfl (by rfl) rfl (by decide) (fun _ => by kernel_rfl) ?_
      exact schedU_to (by kernel_rfl) (by kernel_rfl) (h_1_2_3_4_8 _ _) t
  have h_1_2_3_7 : spSt main Z Stop w₀ [.code (sel [1, 1, 1] bodyS)] cs sb v (n0 : Int) id fv u.heap.size 0 8 #[false, true, true, true, false, false, false, true, false, false, false, false] (u) := by
    intro A d
    refine schedU_succ (rs := [0, 4, 8]) (by kernel_rfl) (by decide) fun i hi t => ?_
    have hi' : i = 0 ∨ i = 4 ∨ i = 8 := by simpa using hi
    rcases hi' with rfl | rfl | rfl
    · skip
      refine ownU_quiet (i := 0) (ptr sb) rfl (by rfl) rfl (by decide) (fun _ => by kernel_rfl) ?_
      exact schedU_to (by kernel_rfl) (by kernel_rfl) (h_0_1_2_3_7 _ _) t
    · skip
      refine ownU_load (i := 4) ⟨sb, 0, none⟩ (v) rfl (by rfl) (by decide) loads_cos rfl (by kernel_rfl) s0 ?_
      exact schedU_to (by kernel_rfl) (by kernel_rfl) (h_1_2_3_4_7 _ _) t
    · skip
      refine ownU_newV (fun n => .chan (some n)) (.chan 0 #[] false 0 0 false) (i := 8) rfl (by rfl) rfl (by decide) (fun _ => by kernel_rfl) ?_
      exact schedU_to (by kernel_rfl) (by kernel_rfl) (h_1_2_3_7_8 _ _) t
  have h_1_2_3_8 : spSt main Z Stop w₀ [.code (sel [1, 1, 1] bodyS)] cs sb v (n0 : Int) id fv u.heap.size 0 8 #[false, true, true, true, false, false, false, false, true, false, false, false] (u.alloc (.chan 0 #[] false 0 0 false)) := by
    intro A d
    refine schedU_succ (rs := [0, 4, 7]) (by kernel_rfl) (by decide) fun i hi t => ?_
    have hi' : i = 0 ∨ i = 4 ∨ i = 7 := by simpa using hi
    rcases hi' with rfl | rfl | rfl
    · skip
      refine ownU_quiet (i := 0) (ptr sb) rfl (by rfl) rfl (by decide) (fun _ => by kernel_rfl) ?_
      exact schedU_to (by kernel_rfl) (by kernel_rfl) (h_0_1_2_3_8 _ _) t
    · skip
      refine ownU_load (i := 4) ⟨sb, 0, none⟩ (v) rfl (by rfl) (by decide) loads_cos rfl (by kernel_rfl) s0a ?_
      exact schedU_to (by kernel_rfl) (by kernel_rfl) (h_1_2_3_4_8 _ _) t
    · skip
      refine ownU_quiet (i := 7) (fv) rfl (by rfl) rfl (by decide) (fun _ => by kernel_rfl) ?_
      exact schedU_to (by kernel_rfl) (by kernel_rfl) (h_1_2_3_7_8 _ _) t
  have h_1_2_7_8 : spSt main Z Stop w₀ [.code (sel [1, 1, 1] bodyS)] cs sb v (n0 : Int) id fv u.heap.size 0 8 #[false, true, true, false, false, false, false, true, true, false, false, false] (u.alloc (.chan 0 #[] false 0 0 false)) := by
    intro A d
    refine schedU_succ (rs := [0, 3]) (by kernel_rfl) (by decide) fun i hi t => ?_
    have hi' : i = 0 ∨ i = 3 := by simpa using hi
    rcases hi' with rfl | rfl
    · skip
      refine ownU_quiet (i := 0) (ptr sb) rfl (by rfl) rfl (by decide) (fun _ => by kernel_rfl) ?_
      exact schedU_to (by kernel_rfl) (by kernel_rfl) (h_0_1_2_7_8 _ _) t
    · skip
      refine ownU_quiet (i := 3) (.pointer (some ⟨sb, 0, none⟩)) rfl (by rfl) rfl (by decide) (fun _ => by kernel_rfl) ?_
      exact schedU_to (by kernel_rfl) (by kernel_rfl) (h_1_2_3_7_8 _ _) t
  have h_0_1_2 : spSt main Z Stop w₀ [.code (sel [1, 1, 1] bodyS)] cs sb v (n0 : Int) id fv u.heap.size 0 9 #[true, true, true, false, false, false, false, false, false, false, false, false] (u) := by
    intro A d
    refine schedU_succ (rs := [3, 7, 8]) (by kernel_rfl) (by decide) fun i hi t => ?_
    have hi' : i = 3 ∨ i = 7 ∨ i = 8 := by simpa using hi
    rcases hi' with rfl | rfl | rfl
    · skip
      refine ownU_quiet (i := 3) (.pointer (some ⟨sb, 0, none⟩)) rfl (by rfl) rfl (by decide) (fun _ => by kernel_rfl) ?_
      exact schedU_to (by kernel_rfl) (by kernel_rfl) (h_0_1_2_3 _ _) t
    · skip
      refine ownU_quiet (i := 7) (fv) rfl (by rfl) rfl (by decide) (fun _ => by kernel_rfl) ?_
      exact schedU_to (by kernel_rfl) (by kernel_rfl) (h_0_1_2_7 _ _) t
    · skip
      refine ownU_newV (fun n => .chan (some n)) (.chan 0 #[] false 0 0 false) (i := 8) rfl (by rfl) rfl (by decide) (fun _ => by kernel_rfl) ?_
      exact schedU_to (by kernel_rfl) (by kernel_rfl) (h_0_1_2_8 _ _) t
  have h_0_1_7 : spSt main Z Stop w₀ [.code (sel [1, 1, 1] bodyS)] cs sb v (n0 : Int) id fv u.heap.size 0 9 #[true, true, false, false, false, false, false, true, false, false, false, false] (u) := by
    intro A d
    refine schedU_succ (rs := [2, 8]) (by kernel_rfl) (by decide) fun i hi t => ?_
    have hi' : i = 2 ∨ i = 8 := by simpa using hi
    rcases hi' with rfl | rfl
    · skip
      refine ownU_quiet (i := 2) (ptr sb) rfl (by rfl) rfl (by decide) (fun _ => by kernel_rfl) ?_
      exact schedU_to (by kernel_rfl) (by kernel_rfl) (h_0_1_2_7 _ _) t
    · skip
      refine ownU_newV (fun n => .chan (some n)) (.chan 0 #[] false 0 0 false) (i := 8) rfl (by rfl) rfl (by decide) (fun _ => by kernel_rfl) ?_
      exact schedU_to (by kernel_rfl) (by kernel_rfl) (h_0_1_7_8 _ _) t
  have h_0_1_8 : spSt main Z Stop w₀ [.code (sel [1, 1, 1] bodyS)] cs sb v (n0 : Int) id fv u.heap.size 0 9 #[true, true, false, false, false, false, false, false, true, false, false, false] (u.alloc (.chan 0 #[] false 0 0 false)) := by
    intro A d
    refine schedU_succ (rs := [2, 7]) (by kernel_rfl) (by decide) fun i hi t => ?_
    have hi' : i = 2 ∨ i = 7 := by simpa using hi
    rcases hi' with rfl | rfl
    · skip
      refine ownU_quiet (i := 2) (ptr sb) rfl (by rfl) rfl (by decide) (fun _ => by kernel_rfl) ?_
      exact schedU_to (by kernel_rfl) (by kernel_rfl) (h_0_1_2_8 _ _) t
    · skip
      refine ownU_quiet (i := 7) (fv) rfl (by rfl) rfl (by decide) (fun _ => by kernel_rfl) ?_
      exact schedU_to (by kernel_rfl) (by kernel_rfl) (h_0_1_7_8 _ _) t
  have h_0_7_8 : spSt main Z Stop w₀ [.code (sel [1, 1, 1] bodyS)] cs sb v (n0 : Int) id fv u.heap.size 0 9 #[true, false, false, false, false, false, false, true, true, false, false, false] (u.alloc (.chan 0 #[] false 0 0 false)) := by
    intro A d
    refine schedU_succ (rs := [1]) (by kernel_rfl) (by decide) fun i hi t => ?_
    have hi' : i = 1 := by simpa using hi
    subst hi'
    refine ownU_quiet (i := 1) (ptr sb) rfl (by rfl) rfl (by decide) (fun _ => by kernel_rfl) ?_
    exact schedU_to (by kernel_rfl) (by kernel_rfl) (h_0_1_7_8 _ _) t
  have h_1_2_3 : spSt main Z Stop w₀ [.code (sel [1, 1, 1] bodyS)] cs sb v (n0 : Int) id fv u.heap.size 0 9 #[false, true, true, true, false, false, false, false, false, false, false, false] (u) := by
    intro A d
    refine schedU_succ (rs := [0, 4, 7, 8]) (by kernel_rfl) (by decide) fun i hi t => ?_
    have hi' : i = 0 ∨ i = 4 ∨ i = 7 ∨ i = 8 := by simpa using hi
    rcases hi' with rfl | rfl | rfl | rfl
    · skip
      refine ownU_quiet (i := 0) (ptr sb) rfl (by rfl) rfl (by decide) (fun _ => by kernel_rfl) ?_
      exact schedU_to (by kernel_rfl) (by kernel_rfl) (h_0_1_2_3 _ _) t
    · skip
      refine ownU_load (i := 4) ⟨sb, 0, none⟩ (v) rfl (by rfl) (by decide) loads_cos rfl (by kernel_rfl) s0 ?_
      exact schedU_to (by kernel_rfl) (by kernel_rfl) (h_1_2_3_4 _ _) t
    · skip
      refine ownU_quiet (i := 7) (fv) rfl (by rfl) rfl (by decide) (fun _ => by kernel_rfl) ?_
      exact schedU_to (by kernel_rfl) (by kernel_rfl) (h_1_2_3_7 _ _) t
    · skip
      refine ownU_newV (fun n => .chan (some n)) (.chan 0 #[] false 0 0 false) (i := 8) rfl (by rfl) rfl (by decide) (fun _ => by kernel_rfl) ?_
      exact schedU_to (by kernel_rfl) (by kernel_rfl) (h_1_2_3_8 _ _) t
  have h_1_2_7 : spSt main Z Stop w₀ [.code (sel [1, 1, 1] bodyS)] cs sb v (n0 : Int) id fv u.heap.size 0 9 #[false, true, true, false, false, false, false, true, false, false, false, false] (u) := by
    intro A d
    refine schedU_succ (rs := [0, 3, 8]) (by kernel_rfl) (by decide) fun i hi t => ?_
    have hi' : i = 0 ∨ i = 3 ∨ i = 8 := by simpa using hi
    rcases hi' with rfl | rfl | rfl
    · skip
      refine ownU_quiet (i := 0) (ptr sb) rfl (by rfl) rfl (by decide) (fun _ => by kernel_rfl) ?_
      exact schedU_to (by kernel_rfl) (by kernel_rfl) (h_0_1_2_7 _ _) t
    · skip
      refine ownU_quiet (i := 3) (.pointer (some ⟨sb, 0, none⟩)) rfl (by rfl) rfl (by decide) (fun _ => by kernel_rfl) ?_
      exact schedU_to (by kernel_rfl) (by kernel_rfl) (h_1_2_3_7 _ _) t
    · skip
      refine ownU_newV (fun n => .chan (some n)) (.chan 0 #[] false 0 0 false) (i := 8) rfl (by rfl) rfl (by decide) (fun _ => by kernel_rfl) ?_
      exact schedU_to (by kernel_rfl) (by kernel_rfl) (h_1_2_7_8 _ _) t
  have h_1_2_8 : spSt main Z Stop w₀ [.code (sel [1, 1, 1] bodyS)] cs sb v (n0 : Int) id fv u.heap.size 0 9 #[false, true, true, false, false, false, false, false, true, false, false, false] (u.alloc (.chan 0 #[] false 0 0 false)) := by
    intro A d
    refine schedU_succ (rs := [0, 3, 7]) (by kernel_rfl) (by decide) fun i hi t => ?_
    have hi' : i = 0 ∨ i = 3 ∨ i = 7 := by simpa using hi
    rcases hi' with rfl | rfl | rfl
    · skip
      refine ownU_quiet (i := 0) (ptr sb) rfl (by rfl) rfl (by decide) (fun _ => by kernel_rfl) ?_
      exact schedU_to (by kernel_rfl) (by kernel_rfl) (h_0_1_2_8 _ _) t
    · skip
      refine ownU_quiet (i := 3) (.pointer (some ⟨sb, 0, none⟩)) rfl (by rfl) rfl (by decide) (fun _ => by kernel_rfl) ?_
      exact schedU_to (by kernel_rfl) (by kernel_rfl) (h_1_2_3_8 _ _) t
    · skip
      refine ownU_quiet (i := 7) (fv) rfl (by rfl) rfl (by decide) (fun _ => by kernel_rfl) ?_
      exact schedU_to (by kernel_rfl) (by kernel_rfl) (h_1_2_7_8 _ _) t
  have h_1_7_8 : spSt main Z Stop w₀ [.code (sel [1, 1, 1] bodyS)] cs sb v (n0 : Int) id fv u.heap.size 0 9 #[false, true, false, false, false, false, false, true, true, false, false, false] (u.alloc (.chan 0 #[] false 0 0 false)) := by
    intro A d
    refine schedU_succ (rs := [0, 2]) (by kernel_rfl) (by decide) fun i hi t => ?_
    have hi' : i = 0 ∨ i = 2 := by simpa using hi
    rcases hi' with rfl | rfl
    · skip
      refine ownU_quiet (i := 0) (ptr sb) rfl (by rfl) rfl (by decide) (fun _ => by kernel_rfl) ?_
      exact schedU_to (by kernel_rfl) (by kernel_rfl) (h_0_1_7_8 _ _) t
    · skip
      refine ownU_quiet (i := 2) (ptr sb) rfl (by rfl) rfl (by decide) (fun _ => by kernel_rfl) ?_
      exact schedU_to (by kernel_rfl) (by kernel_rfl) (h_1_2_7_8 _ _) t
  have h_0_1 : spSt main Z Stop w₀ [.code (sel [1, 1, 1] bodyS)] cs sb v (n0 : Int) id fv u.heap.size 0 10 #[true, true, false, false, false, false, false, false, false, false, false, false] (u) := by
    intro A d
    refine schedU_succ (rs := [2, 7, 8]) (by kernel_rfl) (by decide) fun i hi t => ?_
    have hi' : i = 2 ∨ i = 7 ∨ i = 8 := by simpa using hi
    rcases hi' with rfl | rfl | rfl
    · skip
      refine ownU_quiet (i := 2) (ptr sb) rfl (by rfl) rfl (by decide) (fun _ => by kernel_rfl) ?_
      exact schedU_to (by kernel_rfl) (by kernel_rfl) (h_0_1_2 _ _) t
    · skip
      refine ownU_quiet (i := 7) (fv) rfl (by rfl) rfl (by decide) (fun _ => by kernel_rfl) ?_
      exact schedU_to (by kernel_rfl) (by kernel_rfl) (h_0_1_7 _ _) t
    · skip
      refine ownU_newV (fun n => .chan (some n)) (.chan 0 #[] false 0 0 false) (i := 8) rfl (by rfl) rfl (by decide) (fun _ => by kernel_rfl) ?_
      exact schedU_to (by kernel_rfl) (by kernel_rfl) (h_0_1_8 _ _) t
  have h_0_7 : spSt main Z Stop w₀ [.code (sel [1, 1, 1] bodyS)] cs sb v (n0 : Int) id fv u.heap.size 0 10 #[true, false, false, false, false, false, false, true, false, false, false, false] (u) := by
    intro A d
    refine schedU_succ (rs := [1, 8]) (by kernel_rfl) (by decide) fun i hi t => ?_
    have hi' : i = 1 ∨ i = 8 := by simpa using hi
    rcases hi' with rfl | rfl
    · skip
      refine ownU_quiet (i := 1) (ptr sb) rfl (by rfl) rfl (by decide) (fun _ => by kernel_rfl) ?_
      exact schedU_to (by kernel_rfl) (by kernel_rfl) (h_0_1_7 _ _) t
    · skip
      refine ownU_newV (fun n => .chan (some n)) (.chan 0 #[] false 0 0 false) (i := 8) rfl (by rfl) rfl (by decide) (fun _ => by kernel_rfl) ?_
      exact schedU_to (by kernel_rfl) (by kernel_rfl) (h_0_7_8 _ _) t
  have h_0_8 : spSt main Z Stop w₀ [.code (sel [1, 1, 1] bodyS)] cs sb v (n0 : Int) id fv u.heap.size 0 10 #[true, false, false, false, false, false, false, false, true, false, false, false] (u.alloc (.chan 0 #[] false 0 0 false)) := by
    intro A d
    refine schedU_succ (rs := [1, 7]) (by kernel_rfl) (by decide) fun i hi t => ?_
    have hi' : i = 1 ∨ i = 7 := by simpa using hi
    rcases hi' with rfl | rfl
    · skip
      refine ownU_quiet (i := 1) (ptr sb) rfl (by rfl) rfl (by decide) (fun _ => by kernel_rfl) ?_
      exact schedU_to (by kernel_rfl) (by kernel_rfl) (h_0_1_8 _ _) t
    · skip
      refine ownU_quiet (i := 7) (fv) rfl (by rfl) rfl (by decide) (fun _ => by kernel_rfl) ?_
      exact schedU_to (by kernel_rfl) (by kernel_rfl) (h_0_7_8 _ _) t
  have h_1_2 : spSt main Z Stop w₀ [.code (sel [1, 1, 1] bodyS)] cs sb v (n0 : Int) id fv u.heap.size 0 10 #[false, true, true, false, false, false, false, false, false, false, false, false] (u) := by
    intro A d
    refine schedU_succ (rs := [0, 3, 7, 8]) (by kernel_rfl) (by decide) fun i hi t => ?_
    have hi' : i = 0 ∨ i = 3 ∨ i = 7 ∨ i = 8 := by simpa using hi
    rcases hi' with rfl | rfl | rfl | rfl
    · skip
      refine ownU_quiet (i := 0) (ptr sb) rfl (by rfl) rfl (by decide) (fun _ => by kernel_rfl) ?_
      exact schedU_to (by kernel_rfl) (by kernel_rfl) (h_0_1_2 _ _) t
    · skip
      refine ownU_quiet (i := 3) (.pointer (some ⟨sb, 0, none⟩)) rfl (by rfl) rfl (by decide) (fun _ => by kernel_rfl) ?_
      exact schedU_to (by kernel_rfl) (by kernel_rfl) (h_1_2_3 _ _) t
    · skip
      refine ownU_quiet (i := 7) (fv) rfl (by rfl) rfl (by decide) (fun _ => by kernel_rfl) ?_
      exact schedU_to (by kernel_rfl) (by kernel_rfl) (h_1_2_7 _ _) t
    · skip
      refine ownU_newV (fun n => .chan (some n)) (.chan 0 #[] false 0 0 false) (i := 8) rfl (by rfl) rfl (by decide) (fun _ => by kernel_rfl) ?_
      exact schedU_to (by kernel_rfl) (by kernel_rfl) (h_1_2_8 _ _) t
  have h_1_7 : spSt main Z Stop w₀ [.code (sel [1, 1, 1] bodyS)] cs sb v (n0 : Int) id fv u.heap.size 0 10 #[false, true, false, false, false, false, false, true, false, false, false, false] (u) := by
    intro A d
    refine schedU_succ (rs := [0, 2, 8]) (by kernel_rfl) (by decide) fun i hi t => ?_
    have hi' : i = 0 ∨ i = 2 ∨ i = 8 := by simpa using hi
    rcases hi' with rfl | rfl | rfl
    · skip
      refine ownU_quiet (i := 0) (ptr sb) rfl (by rfl) rfl (by decide) (fun _ => by kernel_rfl) ?_
      exact schedU_to (by kernel_rfl) (by kernel_rfl) (h_0_1_7 _ _) t
    · skip
      refine ownU_quiet (i := 2) (ptr sb) rfl (by rfl) rfl (by decide) (fun _ => by kernel_rfl) ?_
      exact schedU_to (by kernel_rfl) (by kernel_rfl) (h_1_2_7 _ _) t
    · skip
      refine ownU_newV (fun n => .chan (some n)) (.chan 0 #[] false 0 0 false) (i := 8) rfl (by rfl) rfl (by decide) (fun _ => by kernel_rfl) ?_
      exact schedU_to (by kernel_rfl) (by kernel_rfl) (h_1_7_8 _ _) t
  have h_1_8 : spSt main Z Stop w₀ [.code (sel [1, 1, 1] bodyS)] cs sb v (n0 : Int) id fv u.heap.size 0 10 #[false, true, false, false, false, false, false, false, true, false, false, false] (u.alloc (.chan 0 #[] false 0 0 false)) := by
    intro A d
    refine schedU_succ (rs := [0, 2, 7]) (by kernel_rfl) (by decide) fun i hi t => ?_
    have hi' : i = 0 ∨ i = 2 ∨ i = 7 := by simpa using hi
    rcases hi' with rfl | rfl | rfl
    · skip
      refine ownU_quiet (i := 0) (ptr sb) rfl (by rfl) rfl (by decide) (fun _ => by kernel_rfl) ?_
      exact schedU_to (by kernel_rfl) (by kernel_rfl) (h_0_1_8 _ _) t
    · skip
      refine ownU_quiet (i := 2) (ptr sb) rfl (by rfl) rfl (by decide) (fun _ => by kernel_rfl) ?_
      exact schedU_to (by kernel_rfl) (by kernel_rfl) (h_1_2_8 _ _) t
    · skip
      refine ownU_quiet (i := 7) (fv) rfl (by rfl) rfl (by decide) (fun _ => by kernel_rfl) ?_
      exact schedU_to (by kernel_rfl) (by kernel_rfl) (h_1_7_8 _ _) t
  have h_7_8 : spSt main Z Stop w₀ [.code (sel [1, 1, 1] bodyS)] cs sb v (n0 : Int) id fv u.heap.size 0 10 #[false, false, false, false, false, false, false, true, true, false, false, false] (u.alloc (.chan 0 #[] false 0 0 false)) := by
    intro A d
    refine schedU_succ (rs := [0, 1]) (by kernel_rfl) (by decide) fun i hi t => ?_
    have hi' : i = 0 ∨ i = 1 := by simpa using hi
    rcases hi' with rfl | rfl
    · skip
      refine ownU_quiet (i := 0) (ptr sb) rfl (by rfl) rfl (by decide) (fun _ => by kernel_rfl) ?_
      exact schedU_to (by kernel_rfl) (by kernel_rfl) (h_0_7_8 _ _) t
    · skip
      refine ownU_quiet (i := 1) (ptr sb) rfl (by rfl) rfl (by decide) (fun _ => by kernel_rfl) ?_
      exact schedU_to (by kernel_rfl) (by kernel_rfl) (h_1_7_8 _ _) t
  have h_0 : spSt main Z Stop w₀ [.code (sel [1, 1, 1] bodyS)] cs sb v (n0 : Int) id fv u.heap.size 0 11 #[true, false, false, false, false, false, false, false, false, false, false, false] (u) := by
    intro A d
    refine schedU_succ (rs := [1, 7, 8]) (by kernel_rfl) (by decide) fun i hi t => ?_
    have hi' : i = 1 ∨ i = 7 ∨ i = 8 := by simpa using hi
    rcases hi' with rfl | rfl | rfl
    · skip
      refine ownU_quiet (i := 1) (ptr sb) rfl (by rfl) rfl (by decide) (fun _ => by kernel_rfl) ?_
      exact schedU_to (by kernel_rfl) (by kernel_rfl) (h_0_1 _ _) t
    · skip
      refine ownU_quiet (i := 7) (fv) rfl (by rfl) rfl (by decide) (fun _ => by kernel_rfl) ?_
      exact schedU_to (by kernel_rfl) (by kernel_rfl) (h_0_7 _ _) t
    · skip
      refine ownU_newV (fun n => .chan (some n)) (.chan 0 #[] false 0 0 false) (i := 8) rfl (by rfl) rfl (by decide) (fun _ => by kernel_rfl) ?_
      exact schedU_to (by kernel_rfl) (by kernel_rfl) (h_0_8 _ _) t
  have h_1 : spSt main Z Stop w₀ [.code (sel [1, 1, 1] bodyS)] cs sb v (n0 : Int) id fv u.heap.size 0 11 #[false, true, false, false, false, false, false, false, false, false, false, false] (u) := by
    intro A d
    refine schedU_succ (rs := [0, 2, 7, 8]) (by kernel_rfl) (by decide) fun i hi t => ?_
    have hi' : i = 0 ∨ i = 2 ∨ i = 7 ∨ i = 8 := by simpa using hi
    rcases hi' with rfl | rfl | rfl | rfl
    · skip
      refine ownU_quiet (i := 0) (ptr sb) rfl (by rfl) rfl (by decide) (fun _ => by kernel_rfl) ?_
      exact schedU_to (by kernel_rfl) (by kernel_rfl) (h_0_1 _ _) t
    · skip
      refine ownU_quiet (i := 2) (ptr sb) rfl (by rfl) rfl (by decide) (fun _ => by kernel_rfl) ?_
      exact schedU_to (by kernel_rfl) (by kernel_rfl) (h_1_2 _ _) t
    · skip
      refine ownU_quiet (i := 7) (fv) rfl (by rfl) rfl (by decide) (fun _ => by kernel_rfl) ?_
      exact schedU_to (by kernel_rfl) (by kernel_rfl) (h_1_7 _ _) t
    · skip
      refine ownU_newV (fun n => .chan (some n)) (.chan 0 #[] false 0 0 false) (i := 8) rfl (by rfl) rfl (by decide) (fun _ => by kernel_rfl) ?_
      exact schedU_to (by kernel_rfl) (by kernel_rfl) (h_1_8 _ _) t
  have h_7 : spSt main Z Stop w₀ [.code (sel [1, 1, 1] bodyS)] cs sb v (n0 : Int) id fv u.heap.size 0 11 #[false, false, false, false, false, false, false, true, false, false, false, false] (u) := by
    intro A d
    refine schedU_succ (rs := [0, 1, 8]) (by kernel_rfl) (by decide) fun i hi t => ?_
    have hi' : i = 0 ∨ i = 1 ∨ i = 8 := by simpa using hi
    rcases hi' with rfl | rfl | rfl
    · skip
      refine ownU_quiet (i := 0) (ptr sb) rfl (by rfl) rfl (by decide) (fun _ => by kernel_rfl) ?_
      exact schedU_to (by kernel_rfl) (by kernel_rfl) (h_0_7 _ _) t
    · skip
      refine ownU_quiet (i := 1) (ptr sb) rfl (by rfl) rfl (by decide) (fun _ => by kernel_rfl) ?_
      exact schedU_to (by kernel_rfl) (by kernel_rfl) (h_1_7 _ _) t
    · skip
      refine ownU_newV (fun n => .chan (some n)) (.chan 0 #[] false 0 0 false) (i := 8) rfl (by rfl) rfl (by decide) (fun _ => by kernel_rfl) ?_
      exact schedU_to (by kernel_rfl) (by kernel_rfl) (h_7_8 _ _) t
  have h_8 : spSt main Z Stop w₀ [.code (sel [1, 1, 1] bodyS)] cs sb v (n0 : Int) id fv u.heap.size 0 11 #[false, false, false, false, false, false, false, false, true, false, false, false] (u.alloc (.chan 0 #[] false 0 0 false)) := by
    intro A d
    refine schedU_succ (rs := [0, 1, 7]) (by kernel_rfl) (by decide) fun i hi t => ?_
    have hi' : i = 0 ∨ i = 1 ∨ i = 7 := by simpa using hi
    rcases hi' with rfl | rfl | rfl
    · skip
      refine ownU_quiet (i := 0) (ptr sb) rfl (by rfl) rfl (by decide) (fun _ => by kernel_rfl) ?_
      exact schedU_to (by kernel_rfl) (by kernel_rfl) (h_0_8 _ _) t
    · skip
      refine ownU_quiet (i := 1) (ptr sb) rfl (by rfl) rfl (by decide) (fun _ => by kernel_rfl) ?_
      exact schedU_to (by kernel_rfl) (by kernel_rfl) (h_1_8 _ _) t
    · skip
      refine ownU_quiet (i := 7) (fv) rfl (by rfl) rfl (by decide) (fun _ => by kernel_rfl) ?_
      exact schedU_to (by kernel_rfl) (by kernel_rfl) (h_7_8 _ _) t
  have h : spSt main Z Stop w₀ [.code (sel [1, 1, 1] bodyS)] cs sb v (n0 : Int) id fv u.heap.size 0 12 #[false, false, false, false, false, false, false, false, false, false, false, false] (u) := by
    intro A d
    refine schedU_succ (rs := [0, 1, 7, 8]) (by kernel_rfl) (by decide) fun i hi t => ?_
    have hi' : i = 0 ∨ i = 1 ∨ i = 7 ∨ i = 8 := by simpa using hi
    rcases hi' with rfl | rfl | rfl | rfl
    · skip
      refine ownU_quiet (i := 0) (ptr sb) rfl (by rfl) rfl (by decide) (fun _ => by kernel_rfl) ?_
      exact schedU_to (by kernel_rfl) (by kernel_rfl) (h_0 _ _) t
    · skip
      refine ownU_quiet (i := 1) (ptr sb) rfl (by rfl) rfl (by decide) (fun _ => by kernel_rfl) ?_
      exact schedU_to (by kernel_rfl) (by kernel_rfl) (h_1 _ _) t
    · skip
      refine ownU_quiet (i := 7) (fv) rfl (by rfl) rfl (by decide) (fun _ => by kernel_rfl) ?_
      exact schedU_to (by kernel_rfl) (by kernel_rfl) (h_7 _ _) t
    · skip
      refine ownU_newV (fun n => .chan (some n)) (.chan 0 #[] false 0 0 false) (i := 8) rfl (by rfl) rfl (by decide) (fun _ => by kernel_rfl) ?_
      exact schedU_to (by kernel_rfl) (by kernel_rfl) (h_8 _ _) t
  exact schedU_start (n := 12) (by kernel_rfl) rfl fun A d t => schedU_to (act := spAct sb v (n0 : Int) id fv u.heap.size 0 #[false, false, false, false, false, false, false, false, false, false, false, false]) (by kernel_rfl) rfl (h A d) t
end Go.Proofs.Ytolnmdanlggmhaa

/- Spawn, from its box on. (Printed by gen_spawn2.py.) -/
namespace Go.Proofs.Ytolnmdanlggmhaa
open Go.RowKit Go.Maps Go.Conc
open Go.ConcN (upd upd_ne upd_same)

set_option maxRecDepth 100000
set_option maxHeartbeats 2000000

/-- A coroutine more. -/
theorem SI.addCo {own : Nat → Nat} {S : Sch} {u u1 u2 : World} (h : SI own S u) (hlt : ∀ b, own b ≠ 0 → b < u.heap.size) {c : CoR} (hb : own c.b = 4) (hch : own c.ch = 5) (hco : CoAt u S.sb S.cos.length c) (hcc : ChAt u c.ch) (hnb : c.b ∉ S.cos.map CoR.b) (hnc : c.ch ∉ S.sc :: S.cos.map CoR.ch) (hlim : S.cos.length + 1 < 1000)
    (hnew : New u u1) {v2 : Value} (q1 : QRow u2 v2 ((S.cos.map fun c => ptr c.b) ++ [ptr c.b])) (q2 : u2.os = u1.os) (q3 : u2.output = u1.output) (q4 : u1.heap.size ≤ u2.heap.size) (q5 : ∀ g, g < u1.heap.size → S.v.ownBlock ≠ some g → u2.heap[g]? = u1.heap[g]?) (q6 : v2.ownBlock = S.v.ownBlock ∨ ∀ g, v2.ownBlock = some g → u1.heap.size ≤ g) :
    ∃ own', SI own' { S with v := v2, cos := S.cos ++ [c] } (u2.setCell ⟨S.sb, 0, none⟩ v2) ∧ Stp (fun t => t = 1 ∨ t = 3) own own' u (u2.setCell ⟨S.sb, 0, none⟩ v2) ∧ u2.cell? ⟨S.sb, 0, none⟩ = some S.v ∧ u2.frozen? ⟨S.sb, 0, none⟩ = false := by
  have hsl := cellsAt_lt h.sch
  have h1s := hnew.size
  have hold : ∀ b, b < u.heap.size → own b ≠ 3 → u2.heap[b]? = u.heap[b]? := fun b hl hn => (q5 b (by omega) (fun e => hn (h.orow b e))).trans (hnew.block b hl)
  have hset : ∀ b, b ≠ S.sb → (u2.setCell ⟨S.sb, 0, none⟩ v2).heap[b]? = u2.heap[b]? := fun b hn => by rw [setCell_get, if_neg (fun e => hn e.symm)]
  have hlo : ∀ g, v2.ownBlock = some g → own g = 3 ∨ u.heap.size ≤ g := fun g hg => by
    rcases q6 with e | e
    · exact .inl (h.orow g (by rw [← e]; exact hg))
    · exact .inr (by have := e g hg; omega)
  have hkeep : ∀ b, b < u.heap.size → own b ≠ 3 → own b ≠ 1 → (u2.setCell ⟨S.sb, 0, none⟩ v2).heap[b]? = u.heap[b]? := fun b hl hn hn1 => (hset b (fun e => hn1 (by rw [e]; exact h.osb))).trans (hold b hl hn)
  have sch2 : SchAt u2 S.sb S.qb S.sc S.v S.closed := cellsAt_keep h.sch (hold _ hsl (by rw [h.osb]; omega))
  have st : Stp (fun t => t = 1 ∨ t = 3) own (retagC own 3 (fun b => v2.ownBlock = some b)) u (u2.setCell ⟨S.sb, 0, none⟩ v2) := by
    have hsz : (u2.setCell ⟨S.sb, 0, none⟩ v2).heap.size = u2.heap.size := setCell_size _ _ _
    refine ⟨q2.trans hnew.os, q3.trans hnew.output, by omega, fun b hl hn => hkeep b hl (by omega) (by omega), fun b hn => ?_, fun b hz hn => ?_, fun b hn => ?_⟩
    · by_cases hv : v2.ownBlock = some b
      · rw [retagC_in hv]
        rcases hlo b hv with e | e
        · exact e.symm
        · have := hlt b hn; omega
      · exact retagC_out hv
    · by_cases hv : v2.ownBlock = some b
      · rcases hlo b hv with e | e
        · omega
        · exact e
      · rw [retagC_out hv] at hn; exact absurd hz hn
    · rw [hsz]
      by_cases hv : v2.ownBlock = some b
      · exact q1.lt b hv
      · rw [retagC_out hv] at hn; have := hlt b hn; omega
  refine ⟨retagC own 3 (fun b => v2.ownBlock = some b), ?_, st, cellsAt_cell sch2 0 _ rfl, cellsAt_free sch2 0 (by omega)⟩
  have hgl : ∀ (i : Nat) (d : CoR), (S.cos ++ [c])[i]? = some d → (S.cos[i]? = some d) ∨ (i = S.cos.length ∧ d = c) := fun i d hd => by
    rcases Nat.lt_or_ge i S.cos.length with hl | hl
    · rw [List.getElem?_append_left hl] at hd; exact .inl hd
    · rw [List.getElem?_append_right hl] at hd
      rcases hm : i - S.cos.length with _ | m
      · rw [hm] at hd; simp at hd; exact .inr ⟨by omega, hd.symm⟩
      · rw [hm] at hd; simp at hd
  exact {
    sch := cellsAt_set sch2 0 v2
    row := by
      show QRow _ v2 ((S.cos ++ [c]).map fun c => ptr c.b)
      rw [List.map_append]
      exact q1.keep fun g hg => hset g fun e => by
        rcases hlo g hg with e' | e'
        · rw [e, h.osb] at e'; omega
        · omega
    qu := (h.qu.keep fun i hi hl => hkeep i hl (by rw [hi]; omega) (by rw [hi]; omega)).mono fun i hi => st.le.tag hi (by omega)
    co := fun i d hd => by
      rcases hgl i d hd with hd' | ⟨rfl, rfl⟩
      · have ho := h.oco d (List.mem_of_getElem? hd')
        exact cellsAt_keep (h.co i d hd') (hkeep _ (cellsAt_lt (h.co i d hd')) (by rw [ho]; omega) (by rw [ho]; omega))
      · exact cellsAt_keep hco (hkeep _ (cellsAt_lt hco) (by rw [hb]; omega) (by rw [hb]; omega))
    osb := st.le.tag h.osb (by omega)
    orow := fun g hg => retagC_in hg
    oco := fun d hd => by
      rcases List.mem_append.1 hd with hd | hd
      · exact st.le.tag (h.oco d hd) (by omega)
      · rw [List.mem_singleton] at hd; subst hd; exact st.le.tag hb (by omega)
    och := fun d hd => by
      rcases List.mem_append.1 hd with hd | hd
      · exact st.le.tag (h.och d hd) (by omega)
      · rw [List.mem_singleton] at hd; subst hd; exact st.le.tag hch (by omega)
    osc := st.le.tag h.osc (by omega)
    ch := fun d hd => by
      have hd' : ChAt u d.ch ∧ own d.ch = 5 := by
        rcases List.mem_append.1 hd with hd | hd
        · exact ⟨h.ch d hd, h.och d hd⟩
        · rw [List.mem_singleton] at hd; subst hd; exact ⟨hcc, hch⟩
      obtain ⟨⟨m, hm⟩, ho⟩ := hd'
      exact ⟨m, (hkeep _ (obj_lt hm) (by rw [ho]; omega) (by rw [ho]; omega)).trans hm⟩
    scAt := by
      obtain ⟨m, hm⟩ := h.scAt
      exact ⟨m, (hkeep _ (obj_lt hm) (by rw [h.osc]; omega) (by rw [h.osc]; omega)).trans hm⟩
    ndb := by
      show ((S.cos ++ [c]).map CoR.b).Nodup
      rw [List.map_append, List.nodup_append]
      refine ⟨h.ndb, by simp, fun x hx y hy => ?_⟩
      simp only [List.map_cons, List.map_nil, List.mem_singleton] at hy
      subst hy
      intro e; subst e; exact hnb hx
    ndc := by
      show (S.sc :: (S.cos ++ [c]).map CoR.ch).Nodup
      rw [List.map_append, ← List.cons_append, List.nodup_append]
      refine ⟨h.ndc, by simp, fun x hx y hy => ?_⟩
      simp only [List.map_cons, List.map_nil, List.mem_singleton] at hy
      subst hy
      intro e; subst e; exact hnc hx
    lim := by
      show (S.cos ++ [c]).length < 1000
      simp; omega
    limq := h.limq }
theorem push_u {own own2 : Nat → Nat} {S : Sch} {u u3 : World} {id : Int} (si2 : SI own2 S u3) (st2 : Stp (fun t => t = 1 ∨ t = 3) own own2 u u3) (hnq : id ∉ S.qs) (hq : S.fr + S.qs.length < 999999) (h1 : 0 ≤ id) (h2 : id < 1000000) (A : Nat → Question → Nat) (d : Nat) :
    Calls Try.prog 25 #[ptr S.qb, .int .i64 id] (tp u3 A d) fun e w' => e = .returned (.bool true) ∧ ∃ own3, SI own3 { S with qs := S.qs ++ [id] } w' ∧ Stp (fun t => t = 1 ∨ t = 2 ∨ t = 3) own own3 u w' := by
  have hpu := push_i S.qb S.fr S.qs id (tp u3 A d) (si2.tp A d).qu (int_wf (by omega) (by omega)) (by omega) (by omega)
  rw [memB_out hnq, addX_out hnq] at hpu
  refine hpu.mono ?_
  rintro e w' ⟨rfl, fp', hq', hst⟩
  refine ⟨rfl, ?_⟩
  obtain ⟨own3, q1, q2⟩ := (si2.tp A d).queue st2.lt hq' hst (by simp; omega)
  exact ⟨own3, q1, (st2.mono (T' := fun t => t = 1 ∨ t = 2 ∨ t = 3) (fun t h => by omega)).trans (q2.unl.mono (fun t h => by omega)) (by omega)⟩
theorem infoCoP : (Try.prog.info? 58).map (fun i => (i.zero, i.size, i.bytes)) = some (some (.pointer none), 1, 8) := by kernel_rfl
theorem stores_cos (A : Option Addr) (n c : Nat) : Stores1 Try.prog 88 (.slice A n c) := fun w ad v h1 h2 => by simp [go_sem, h1, h2]

/-- Spawn, its box made. -/
noncomputable def spawnBoxed (sb : Nat) (v : Value) (n id : Int) (fv : Value) (chb nb : Nat) (cs : List Frame) : Goroutine := G ((base 37).at (spAct sb v n id fv chb nb #[true, true, true, true, true, true, true, true, true, true, true, false]) [.inRegion (opsOf (sel [1, 1, 0] bodyS)) [11], .code (sel [1, 1, 1] bodyS)]) cs
/-- The slots, as far as the region has come. -/
def sqAct (sb : Nat) (v : Value) (n : Int) (id : Int) (fv : Value) (chb : Nat) (nb : Nat) (ub : Nat) (v2 : Value) (qb : Nat) (pr : Value) (l : Array Bool) : Act := ⟨List.toArray ((ptr sb) :: fv :: undef :: undef :: (.int .i64 0) :: (ptr nb) :: (ptr sb) :: (.bool false) :: (ptr sb) :: (ptr sb) :: (ptr sb) :: (.pointer (some ⟨sb, 0, none⟩)) :: v :: (.int .i64 n) :: (.int .i64 id) :: fv :: (.chan (some chb)) :: (.agg #[ptr sb, .int .i64 id, fv, .chan (some chb), .bool false, .int .i64 1, .string ByteArray.empty]) :: (ptr nb) :: (ptr sb) :: (ptr sb) :: (ptr sb) :: (.pointer (some ⟨sb, 0, none⟩)) :: v :: (ptr nb) :: (.slice (some ⟨ub, 0, none⟩) 1 1) :: v2 :: (ptr sb) :: (.pointer (some ⟨sb, 0, none⟩)) :: (cond (l.getD 0 false) (ptr sb) (undef)) :: (cond (l.getD 1 false) (ptr sb) (undef)) :: (cond (l.getD 2 false) (.pointer (some ⟨sb, 1, none⟩)) (undef)) :: (cond (l.getD 3 false) (ptr qb) (undef)) :: (cond (l.getD 4 false) (ptr nb) (undef)) :: (cond (l.getD 5 false) (ptr nb) (undef)) :: (cond (l.getD 6 false) (.pointer (some ⟨nb, 1, none⟩)) (undef)) :: (cond (l.getD 7 false) (.int .i64 id) (undef)) :: (cond (l.getD 8 false) (pr) (undef)) :: undef :: undef :: undef :: undef :: []), []⟩
def sqSt (main : Bool) (Z : Addr → Prop) (Stop : Goroutine → World → Prop) (w₀ : World) (k : List Item) (cs : List Frame) (sb : Nat) (v : Value) (n : Int) (id : Int) (fv : Value) (chb : Nat) (nb : Nat) (ub : Nat) (v2 : Value) (qb : Nat) (pr : Value) (f : Nat) (l : Array Bool) (w : World) : Prop :=
  ∀ A d, SchedU Try.prog main Z Stop w₀ (base 37) (opsOf (sel [1, 1, 1, 1, 0] bodyS)) k cs f l (sqAct sb v n id fv chb nb ub v2 qb pr l) (tp w A d)
theorem spawn_own2 {main : Bool} {Z : Addr → Prop} {Stop : Goroutine → World → Prop} {w₀ u : World} {cs : List Frame} {own : Nat → Nat} {S : Sch} {c : CoR} {v fv : Value} {id n : Int} {chb : Nat} {b₀ : Frame} {a₀ : Act} {ops : Array Oper} {j : Nat} {rest : List Nat} {k₀ : List Item} (si : SI own S u) (hlt : ∀ b, own b ≠ 0 → b < u.heap.size) (hSv : S.v = v) (hid : (S.cos.length : Int) + 1 = id)
    (hb : own c.b = 4) (hch : own c.ch = 5) (hco : CoAt u S.sb S.cos.length c) (hcc : ChAt u c.ch) (hnb : c.b ∉ S.cos.map CoR.b) (hnc : c.ch ∉ S.sc :: S.cos.map CoR.ch) (hlim : S.cos.length + 1 < 1000) (hnq : id ∉ S.qs) (hq : S.fr + S.qs.length < 999999)
    (hk : ∀ v2 own' u', SI own' { S with v := v2, cos := S.cos ++ [c], qs := S.qs ++ [id] } u' → Stp (fun t => t = 1 ∨ t = 2 ∨ t = 3) own own' u u' → OwnU Try.prog main Z Stop w₀ (G (b₀.at (a₀.put ((ops[j]?).bind (·.dst)) (.int .i64 id)) (.inRegion ops rest :: k₀)) cs) u') :
    OwnU Try.prog main Z Stop w₀ (spawnBoxed S.sb v n id fv chb c.b (b₀.at a₀ (.inRegion ops (j :: rest) :: k₀) :: cs)) u := by
  have hnew : New u (u.alloc (.cells #[ptr c.b] 58)) := New.alloc u _
  have hrow := si.row
  have s0 : u.cell? ⟨S.sb, 0, none⟩ = some v := by rw [← hSv]; exact cellsAt_cell si.sch 0 S.v rfl
  obtain ⟨i0, hi, hz0, hz1, hz2⟩ := info_parts infoCoP
  have hrow1 : QRow (u.alloc (.cells #[ptr c.b] 58)) v (S.cos.map fun c => ptr c.b) := by rw [← hSv]; exact hrow.keep fun g hg => hnew.block g (hrow.lt g hg)
  have hcell : (u.alloc (.cells #[ptr c.b] 58)).cell? ⟨u.heap.size, 0, none⟩ = some (ptr c.b) := blk_cell (alloc_new' u _ rfl) 0 _ rfl
  have hcid : (S.cos.length : Int) + 1 = id := hid
  unfold spawnBoxed
  refine ownU_quiet (i := 11) (rest := []) (ptr c.b) rfl (by rfl) rfl (by decide) (fun _ => by kernel_rfl) ?_
  refine ownU_region_end ?_
  refine ownU_lit (List.toArray (ptr S.sb :: fv :: undef :: undef :: .int .i64 0 :: ptr c.b :: ptr S.sb :: .bool false :: ptr S.sb :: ptr S.sb :: ptr S.sb :: .pointer (some ⟨S.sb, 0, none⟩) :: v :: .int .i64 n :: .int .i64 id :: fv :: .chan (some chb) :: .agg #[ptr S.sb, .int .i64 id, fv, .chan (some chb), .bool false, .int .i64 1, .string ByteArray.empty] :: ptr c.b :: undef :: undef :: undef :: undef :: undef :: undef :: undef :: undef :: undef :: undef :: undef :: undef :: undef :: undef :: undef :: undef :: undef :: undef :: undef :: undef :: undef :: undef :: undef :: [])) [] (by kernel_rfl) (by kernel_rfl) ?_
  refine ownU_seq (x := sel [1, 1, 1, 0] bodyS) (y := sel [1, 1, 1, 1] bodyS) ?_
  refine ownU_region (id := 4) (ops := opsOf (sel [1, 1, 1, 0] bodyS)) ?_
  refine ownU_quiet (i := 0) (rest := [1, 2, 3, 4, 5, 6, 7, 8, 9, 10]) (ptr S.sb) rfl (by rfl) rfl (by decide) (fun _ => by kernel_rfl) ?_
  refine ownU_quiet (i := 1) (rest := [2, 3, 4, 5, 6, 7, 8, 9, 10]) (ptr S.sb) rfl (by rfl) rfl (by decide) (fun _ => by kernel_rfl) ?_
  refine ownU_quiet (i := 2) (rest := [3, 4, 5, 6, 7, 8, 9, 10]) (ptr S.sb) rfl (by rfl) rfl (by decide) (fun _ => by kernel_rfl) ?_
  refine ownU_quiet (i := 3) (rest := [4, 5, 6, 7, 8, 9, 10]) (.pointer (some ⟨S.sb, 0, none⟩)) rfl (by rfl) rfl (by decide) (fun _ => by kernel_rfl) ?_
  refine ownU_load (i := 4) (rest := [5, 6, 7, 8, 9, 10]) ⟨S.sb, 0, none⟩ (v) rfl (by rfl) (by decide) loads_cos rfl (by kernel_rfl) s0 ?_
  refine ownU_quiet (i := 5) (rest := [6, 7, 8, 9, 10]) (ptr c.b) rfl (by rfl) rfl (by decide) (fun _ => by kernel_rfl) ?_
  refine ownU_newV (fun n => .slice (some ⟨n, 0, none⟩) 1 1) (.cells #[ptr c.b] 58) (i := 6) (rest := [7, 8, 9, 10]) rfl (by rfl) rfl (by decide) (fun _ => by kernel_rfl) ?_
  refine ownU_append (j := 7) (rest := [8, 9, 10]) (xs := S.cos.map fun c => ptr c.b) (v := v) (c := 1) (ad := ⟨u.heap.size, 0, none⟩) (y := ptr c.b) rfl rfl (by rfl) rfl (by decide) Try.underlying88 hi hz0 hz1 hz2 rfl (by kernel_rfl) hrow1 (by kernel_rfl) hcell rfl (by simp; unfold maxLen; omega) (by simp; omega) fun v2 u2 q1 q2 q3 q4 q5 q6 => ?_
  obtain ⟨own2, si2, st2, r3, r4⟩ := si.addCo hlt hb hch hco hcc hnb hnc hlim hnew q1 q2 q3 q4 (by rw [hSv]; exact q5) (by rw [hSv]; exact q6)
  obtain ⟨A2, n2, hv2, _, _⟩ := q1.slice
  refine ownU_quiet (i := 8) (rest := [9, 10]) (ptr S.sb) rfl (by rfl) rfl (by decide) (fun _ => by kernel_rfl) ?_
  refine ownU_quiet (i := 9) (rest := [10]) (.pointer (some ⟨S.sb, 0, none⟩)) rfl (by rfl) rfl (by decide) (fun _ => by kernel_rfl) ?_
  refine ownU_store (i := 10) (rest := []) ⟨S.sb, 0, none⟩ v2 rfl (by rfl) rfl (by decide) (fun w e1 e2 => store_op (by rw [hv2]; exact stores_cos _ _ _) rfl (by kernel_rfl) (by kernel_rfl) (e1.trans r3) (e2.trans r4)) ?_
  refine ownU_region_end ?_
  generalize u2.setCell ⟨S.sb, 0, none⟩ v2 = u3 at *
  have hg : (S.cos ++ [c])[S.cos.length]? = some c := by simp
  have co3 := si2.co S.cos.length c hg
  have n1 : u3.cell? ⟨c.b, 1, none⟩ = some (.int .i64 id) := by have := cellsAt_cell co3 1 (.int .i64 ((S.cos.length : Int) + 1)) rfl; rw [hcid] at this; exact this
  have hpush : ∀ A d, Calls Try.prog 25 #[ptr S.qb, .int .i64 id] (tp u3 A d) fun e w' => e = .returned (.bool true) ∧ ∃ own3, SI own3 { S with v := v2, cos := S.cos ++ [c], qs := S.qs ++ [id] } w' ∧ Stp (fun t => t = 1 ∨ t = 2 ∨ t = 3) own own3 u w' := fun A d => push_u (S := { S with v := v2, cos := S.cos ++ [c] }) si2 st2 hnq hq (by omega) (by omega) A d
  have s1 : u3.cell? ⟨S.sb, 1, none⟩ = some (ptr S.qb) := cellsAt_cell si2.sch 1 (ptr S.qb) rfl
  refine ownU_lit (List.toArray (ptr S.sb :: fv :: undef :: undef :: .int .i64 0 :: ptr c.b :: ptr S.sb :: .bool false :: ptr S.sb :: ptr S.sb :: ptr S.sb :: .pointer (some ⟨S.sb, 0, none⟩) :: v :: .int .i64 n :: .int .i64 id :: fv :: .chan (some chb) :: .agg #[ptr S.sb, .int .i64 id, fv, .chan (some chb), .bool false, .int .i64 1, .string ByteArray.empty] :: ptr c.b :: ptr S.sb :: ptr S.sb :: ptr S.sb :: .pointer (some ⟨S.sb, 0, none⟩) :: v :: ptr c.b :: .slice (some ⟨u.heap.size, 0, none⟩) 1 1 :: v2 :: ptr S.sb :: .pointer (some ⟨S.sb, 0, none⟩) :: undef :: undef :: undef :: undef :: undef :: undef :: undef :: undef :: undef :: undef :: undef :: undef :: undef :: [])) [] (by kernel_rfl) (by kernel_rfl) ?_
  refine ownU_seq (x := sel [1, 1, 1, 1, 0] bodyS) (y := sel [1, 1, 1, 1, 1] bodyS) ?_
  have hlast : sqSt main Z Stop w₀ [.code (sel [1, 1, 1, 1, 1] bodyS)] (b₀.at a₀ (.inRegion ops (j :: rest) :: k₀) :: cs) S.sb v n id fv chb c.b u.heap.size v2 S.qb undef 1 #[true, true, true, true, true, true, true, true, false] u3 := by
    intro A d t
    rw [go_one (i := 8) (by kernel_rfl)]
    refine ownU_callK (i := 8) (L := lone18) (R := fun e w' => e = .returned (.bool true) ∧ ∃ own3, SI own3 { S with v := v2, cos := S.cos ++ [c], qs := S.qs ++ [id] } w' ∧ Stp (fun t => t = 1 ∨ t = 2 ∨ t = 3) own own3 u w') okL18 (by decide) rfl rfl (by kernel_rfl) (by rfl) (by decide) (fun A d => calls_eq (args' := #[ptr S.qb, .int .i64 id]) (by kernel_rfl) (hpush A d)) (fun e w h => ⟨_, h.1⟩) fun z u4 hR => ?_
    obtain ⟨e, own3, si3, st3⟩ := hR
    injection e with e
    subst e
    have co4 := si3.co S.cos.length c hg
    have n1 : u4.cell? ⟨c.b, 1, none⟩ = some (.int .i64 id) := by have := cellsAt_cell co4 1 (.int .i64 ((S.cos.length : Int) + 1)) rfl; rw [hcid] at this; exact this
    refine ownU_region_end ?_
    refine ownU_lit (List.toArray (ptr S.sb :: fv :: undef :: undef :: .int .i64 0 :: ptr c.b :: ptr S.sb :: .bool false :: ptr S.sb :: ptr S.sb :: ptr S.sb :: .pointer (some ⟨S.sb, 0, none⟩) :: v :: .int .i64 n :: .int .i64 id :: fv :: .chan (some chb) :: .agg #[ptr S.sb, .int .i64 id, fv, .chan (some chb), .bool false, .int .i64 1, .string ByteArray.empty] :: ptr c.b :: ptr S.sb :: ptr S.sb :: ptr S.sb :: .pointer (some ⟨S.sb, 0, none⟩) :: v :: ptr c.b :: .slice (some ⟨u.heap.size, 0, none⟩) 1 1 :: v2 :: ptr S.sb :: .pointer (some ⟨S.sb, 0, none⟩) :: ptr S.sb :: ptr S.sb :: .pointer (some ⟨S.sb, 1, none⟩) :: ptr S.qb :: ptr c.b :: ptr c.b :: .pointer (some ⟨c.b, 1, none⟩) :: .int .i64 id :: .bool true :: undef :: undef :: undef :: undef :: [])) [] (by kernel_rfl) (by kernel_rfl) ?_
    refine ownU_seq (x := sel [1, 1, 1, 1, 1, 0] bodyS) (y := .ret) ?_
    refine ownU_region (id := 6) (ops := opsOf (sel [1, 1, 1, 1, 1, 0] bodyS)) ?_
    refine ownU_quiet (i := 0) (rest := [1, 2, 3, 4]) (ptr c.b) rfl (by rfl) rfl (by decide) (fun _ => by kernel_rfl) ?_
    refine ownU_quiet (i := 1) (rest := [2, 3, 4]) (ptr c.b) rfl (by rfl) rfl (by decide) (fun _ => by kernel_rfl) ?_
    refine ownU_quiet (i := 2) (rest := [3, 4]) (.pointer (some ⟨c.b, 1, none⟩)) rfl (by rfl) rfl (by decide) (fun _ => by kernel_rfl) ?_
    refine ownU_load (i := 3) (rest := [4]) ⟨c.b, 1, none⟩ (.int .i64 id) rfl (by rfl) (by decide) loads_int rfl (by kernel_rfl) n1 ?_
    refine ownU_quiet (i := 4) (rest := []) (.int .i64 id) rfl (by rfl) rfl (by decide) (fun _ => by kernel_rfl) ?_
    refine ownU_region_end ?_
    refine ownU_ret ?_
    refine ownU_leave1 (t := 4) (fn := Try.f37) rfl (by rfl) Try.func37 rfl ?_
    exact (ownU_eq (by kernel_rfl) (hk v2 own3 u4 si3 st3))
  have hn_7_8 : sqSt main Z Stop w₀ [.code (sel [1, 1, 1, 1, 1] bodyS)] (b₀.at a₀ (.inRegion ops (j :: rest) :: k₀) :: cs) S.sb v n id fv chb c.b u.heap.size v2 S.qb undef 2 #[true, true, true, true, true, true, true, false, false] (u3) := by
    intro A d
    refine schedU_succ (rs := [7]) (by kernel_rfl) (by decide) fun i hi t => ?_
    have hi' : i = 7 := by simpa using hi
    subst hi'
    refine ownU_load (i := 7) ⟨c.b, 1, none⟩ (.int .i64 id) rfl (by rfl) (by decide) loads_int rfl (by kernel_rfl) n1 ?_
    exact schedU_to (by kernel_rfl) (by kernel_rfl) (hlast _ _) t
  have hn_3_8 : sqSt main Z Stop w₀ [.code (sel [1, 1, 1, 1, 1] bodyS)] (b₀.at a₀ (.inRegion ops (j :: rest) :: k₀) :: cs) S.sb v n id fv chb c.b u.heap.size v2 S.qb undef 2 #[true, true, true, false, true, true, true, true, false] (u3) := by
    intro A d
    refine schedU_succ (rs := [3]) (by kernel_rfl) (by decide) fun i hi t => ?_
    have hi' : i = 3 := by simpa using hi
    subst hi'
    refine ownU_load (i := 3) ⟨S.sb, 1, none⟩ (ptr S.qb) rfl (by rfl) (by decide) loads_queue rfl (by kernel_rfl) s1 ?_
    exact schedU_to (by kernel_rfl) (by kernel_rfl) (hlast _ _) t
  have hn_6_7_8 : sqSt main Z Stop w₀ [.code (sel [1, 1, 1, 1, 1] bodyS)] (b₀.at a₀ (.inRegion ops (j :: rest) :: k₀) :: cs) S.sb v n id fv chb c.b u.heap.size v2 S.qb undef 3 #[true, true, true, true, true, true, false, false, false] (u3) := by
    intro A d
    refine schedU_succ (rs := [6]) (by kernel_rfl) (by decide) fun i hi t => ?_
    have hi' : i = 6 := by simpa using hi
    subst hi'
    refine ownU_quiet (i := 6) (.pointer (some ⟨c.b, 1, none⟩)) rfl (by rfl) rfl (by decide) (fun _ => by kernel_rfl) ?_
    exact schedU_to (by kernel_rfl) (by kernel_rfl) (hn_7_8 _ _) t
  have hn_3_7_8 : sqSt main Z Stop w₀ [.code (sel [1, 1, 1, 1, 1] bodyS)] (b₀.at a₀ (.inRegion ops (j :: rest) :: k₀) :: cs) S.sb v n id fv chb c.b u.heap.size v2 S.qb undef 3 #[true, true, true, false, true, true, true, false, false] (u3) := by
    intro A d
    refine schedU_succ (rs := [3, 7]) (by kernel_rfl) (by decide) fun i hi t => ?_
    have hi' : i = 3 ∨ i = 7 := by simpa using hi
    rcases hi' with rfl | rfl
    · skip
      refine ownU_load (i := 3) ⟨S.sb, 1, none⟩ (ptr S.qb) rfl (by rfl) (by decide) loads_queue rfl (by kernel_rfl) s1 ?_
      exact schedU_to (by kernel_rfl) (by kernel_rfl) (hn_7_8 _ _) t
    · skip
      refine ownU_load (i := 7) ⟨c.b, 1, none⟩ (.int .i64 id) rfl (by rfl) (by decide) loads_int rfl (by kernel_rfl) n1 ?_
      exact schedU_to (by kernel_rfl) (by kernel_rfl) (hn_3_8 _ _) t
  have hn_2_3_8 : sqSt main Z Stop w₀ [.code (sel [1, 1, 1, 1, 1] bodyS)] (b₀.at a₀ (.inRegion ops (j :: rest) :: k₀) :: cs) S.sb v n id fv chb c.b u.heap.size v2 S.qb undef 3 #[true, true, false, false, true, true, true, true, false] (u3) := by
    intro A d
    refine schedU_succ (rs := [2]) (by kernel_rfl) (by decide) fun i hi t => ?_
    have hi' : i = 2 := by simpa using hi
    subst hi'
    refine ownU_quiet (i := 2) (.pointer (some ⟨S.sb, 1, none⟩)) rfl (by rfl) rfl (by decide) (fun _ => by kernel_rfl) ?_
    exact schedU_to (by kernel_rfl) (by kernel_rfl) (hn_3_8 _ _) t
  have hn_5_6_7_8 : sqSt main Z Stop w₀ [.code (sel [1, 1, 1, 1, 1] bodyS)] (b₀.at a₀ (.inRegion ops (j :: rest) :: k₀) :: cs) S.sb v n id fv chb c.b u.heap.size v2 S.qb undef 4 #[true, true, true, true, true, false, false, false, false] (u3) := by
    intro A d
    refine schedU_succ (rs := [5]) (by kernel_rfl) (by decide) fun i hi t => ?_
    have hi' : i = 5 := by simpa using hi
    subst hi'
    refine ownU_quiet (i := 5) (ptr c.b) rfl (by rfl) rfl (by decide) (fun _ => by kernel_rfl) ?_
    exact schedU_to (by kernel_rfl) (by kernel_rfl) (hn_6_7_8 _ _) t
  have hn_3_6_7_8 : sqSt main Z Stop w₀ [.code (sel [1, 1, 1, 1, 1] bodyS)] (b₀.at a₀ (.inRegion ops (j :: rest) :: k₀) :: cs) S.sb v n id fv chb c.b u.heap.size v2 S.qb undef 4 #[true, true, true, false, true, true, false, false, false] (u3) := by
    intro A d
    refine schedU_succ (rs := [3, 6]) (by kernel_rfl) (by decide) fun i hi t => ?_
    have hi' : i = 3 ∨ i = 6 := by simpa using hi
    rcases hi' with rfl | rfl
    · skip
      refine ownU_load (i := 3) ⟨S.sb, 1, none⟩ (ptr S.qb) rfl (by rfl) (by decide) loads_queue rfl (by kernel_rfl) s1 ?_
      exact schedU_to (by kernel_rfl) (by kernel_rfl) (hn_6_7_8 _ _) t
    · skip
      refine ownU_quiet (i := 6) (.pointer (some ⟨c.b, 1, none⟩)) rfl (by rfl) rfl (by decide) (fun _ => by kernel_rfl) ?_
      exact schedU_to (by kernel_rfl) (by kernel_rfl) (hn_3_7_8 _ _) t
  have hn_2_3_7_8 : sqSt main Z Stop w₀ [.code (sel [1, 1, 1, 1, 1] bodyS)] (b₀.at a₀ (.inRegion ops (j :: rest) :: k₀) :: cs) S.sb v n id fv chb c.b u.heap.size v2 S.qb undef 4 #[true, true, false, false, true, true, true, false, false] (u3) := by
    intro A d
    refine schedU_succ (rs := [2, 7]) (by kernel_rfl) (by decide) fun i hi t => ?_
    have hi' : i = 2 ∨ i = 7 := by simpa using hi
    rcases hi' with rfl | rfl
    · skip
      refine ownU_quiet (i := 2) (.pointer (some ⟨S.sb, 1, none⟩)) rfl (by rfl) rfl (by decide) (fun _ => by kernel_rfl) ?_
      exact schedU_to (by kernel_rfl) (by kernel_rfl) (hn_3_7_8 _ _) t
    · skip
      refine ownU_load (i := 7) ⟨c.b, 1, none⟩ (.int .i64 id) rfl (by rfl) (by decide) loads_int rfl (by kernel_rfl) n1 ?_
      exact schedU_to (by kernel_rfl) (by kernel_rfl) (hn_2_3_8 _ _) t
  have hn_1_2_3_8 : sqSt main Z Stop w₀ [.code (sel [1, 1, 1, 1, 1] bodyS)] (b₀.at a₀ (.inRegion ops (j :: rest) :: k₀) :: cs) S.sb v n id fv chb c.b u.heap.size v2 S.qb undef 4 #[true, false, false, false, true, true, true, true, false] (u3) := by
    intro A d
    refine schedU_succ (rs := [1]) (by kernel_rfl) (by decide) fun i hi t => ?_
    have hi' : i = 1 := by simpa using hi
    subst hi'
    refine ownU_quiet (i := 1) (ptr S.sb) rfl (by rfl) rfl (by decide) (fun _ => by kernel_rfl) ?_
    exact schedU_to (by kernel_rfl) (by kernel_rfl) (hn_2_3_8 _ _) t
  have h_0_1_2_3 : sqSt main Z Stop w₀ [.code (sel [1, 1, 1, 1, 1] bodyS)] (b₀.at a₀ (.inRegion ops (j :: rest) :: k₀) :: cs) S.sb v n id fv chb c.b u.heap.size v2 S.qb undef 5 #[true, true, true, true, false, false, false, false, false] (u3) := by
    intro A d
    refine schedU_succ (rs := [4]) (by kernel_rfl) (by decide) fun i hi t => ?_
    have hi' : i = 4 := by simpa using hi
    subst hi'
    refine ownU_quiet (i := 4) (ptr c.b) rfl (by rfl) rfl (by decide) (fun _ => by kernel_rfl) ?_
    exact schedU_to (by kernel_rfl) (by kernel_rfl) (hn_5_6_7_8 _ _) t
  have h_0_1_2_4 : sqSt main Z Stop w₀ [.code (sel [1, 1, 1, 1, 1] bodyS)] (b₀.at a₀ (.inRegion ops (j :: rest) :: k₀) :: cs) S.sb v n id fv chb c.b u.heap.size v2 S.qb undef 5 #[true, true, true, false, true, false, false, false, false] (u3) := by
    intro A d
    refine schedU_succ (rs := [3, 5]) (by kernel_rfl) (by decide) fun i hi t => ?_
    have hi' : i = 3 ∨ i = 5 := by simpa using hi
    rcases hi' with rfl | rfl
    · skip
      refine ownU_load (i := 3) ⟨S.sb, 1, none⟩ (ptr S.qb) rfl (by rfl) (by decide) loads_queue rfl (by kernel_rfl) s1 ?_
      exact schedU_to (by kernel_rfl) (by kernel_rfl) (hn_5_6_7_8 _ _) t
    · skip
      refine ownU_quiet (i := 5) (ptr c.b) rfl (by rfl) rfl (by decide) (fun _ => by kernel_rfl) ?_
      exact schedU_to (by kernel_rfl) (by kernel_rfl) (hn_3_6_7_8 _ _) t
  have h_0_1_4_5 : sqSt main Z Stop w₀ [.code (sel [1, 1, 1, 1, 1] bodyS)] (b₀.at a₀ (.inRegion ops (j :: rest) :: k₀) :: cs) S.sb v n id fv chb c.b u.heap.size v2 S.qb undef 5 #[true, true, false, false, true, true, false, false, false] (u3) := by
    intro A d
    refine schedU_succ (rs := [2, 6]) (by kernel_rfl) (by decide) fun i hi t => ?_
    have hi' : i = 2 ∨ i = 6 := by simpa using hi
    rcases hi' with rfl | rfl
    · skip
      refine ownU_quiet (i := 2) (.pointer (some ⟨S.sb, 1, none⟩)) rfl (by rfl) rfl (by decide) (fun _ => by kernel_rfl) ?_
      exact schedU_to (by kernel_rfl) (by kernel_rfl) (hn_3_6_7_8 _ _) t
    · skip
      refine ownU_quiet (i := 6) (.pointer (some ⟨c.b, 1, none⟩)) rfl (by rfl) rfl (by decide) (fun _ => by kernel_rfl) ?_
      exact schedU_to (by kernel_rfl) (by kernel_rfl) (hn_2_3_7_8 _ _) t
  have h_0_4_5_6 : sqSt main Z Stop w₀ [.code (sel [1, 1, 1, 1, 1] bodyS)] (b₀.at a₀ (.inRegion ops (j :: rest) :: k₀) :: cs) S.sb v n id fv chb c.b u.heap.size v2 S.qb undef 5 #[true, false, false, false, true, true, true, false, false] (u3) := by
    intro A d
    refine schedU_succ (rs := [1, 7]) (by kernel_rfl) (by decide) fun i hi t => ?_
    have hi' : i = 1 ∨ i = 7 := by simpa using hi
    rcases hi' with rfl | rfl
    · skip
      refine ownU_quiet (i := 1) (ptr S.sb) rfl (by rfl) rfl (by decide) (fun _ => by kernel_rfl) ?_
      exact schedU_to (by kernel_rfl) (by kernel_rfl) (hn_2_3_7_8 _ _) t
    · skip
      refine ownU_load (i := 7) ⟨c.b, 1, none⟩ (.int .i64 id) rfl (by rfl) (by decide) loads_int rfl (by kernel_rfl) n1 ?_
      exact schedU_to (by kernel_rfl) (by kernel_rfl) (hn_1_2_3_8 _ _) t
  have h_4_5_6_7 : sqSt main Z Stop w₀ [.code (sel [1, 1, 1, 1, 1] bodyS)] (b₀.at a₀ (.inRegion ops (j :: rest) :: k₀) :: cs) S.sb v n id fv chb c.b u.heap.size v2 S.qb undef 5 #[false, false, false, false, true, true, true, true, false] (u3) := by
    intro A d
    refine schedU_succ (rs := [0]) (by kernel_rfl) (by decide) fun i hi t => ?_
    have hi' : i = 0 := by simpa using hi
    subst hi'
    refine ownU_quiet (i := 0) (ptr S.sb) rfl (by rfl) rfl (by decide) (fun _ => by kernel_rfl) ?_
    exact schedU_to (by kernel_rfl) (by kernel_rfl) (hn_1_2_3_8 _ _) t
  have h_0_1_2 : sqSt main Z Stop w₀ [.code (sel [1, 1, 1, 1, 1] bodyS)] (b₀.at a₀ (.inRegion ops (j :: rest) :: k₀) :: cs) S.sb v n id fv chb c.b u.heap.size v2 S.qb undef 6 #[true, true, true, false, false, false, false, false, false] (u3) := by
    intro A d
    refine schedU_succ (rs := [3, 4]) (by kernel_rfl) (by decide) fun i hi t => ?_
    have hi' : i = 3 ∨ i = 4 := by simpa using hi
    rcases hi' with rfl | rfl
    · skip
      refine ownU_load (i := 3) ⟨S.sb, 1, none⟩ (ptr S.qb) rfl (by rfl) (by decide) loads_queue rfl (by kernel_rfl) s1 ?_
      exact schedU_to (by kernel_rfl) (by kernel_rfl) (h_0_1_2_3 _ _) t
    · skip
      refine ownU_quiet (i := 4) (ptr c.b) rfl (by rfl) rfl (by decide) (fun _ => by kernel_rfl) ?_
      exact schedU_to (by kernel_rfl) (by kernel_rfl) (h_0_1_2_4 _ _) t
  have h_0_1_4 : sqSt main Z Stop w₀ [.code (sel [1, 1, 1, 1, 1] bodyS)] (b₀.at a₀ (.inRegion ops (j :: rest) :: k₀) :: cs) S.sb v n id fv chb c.b u.heap.size v2 S.qb undef 6 #[true, true, false, false, true, false, false, false, false] (u3) := by
    intro A d
    refine schedU_succ (rs := [2, 5]) (by kernel_rfl) (by decide) fun i hi t => ?_
    have hi' : i = 2 ∨ i = 5 := by simpa using hi
    rcases hi' with rfl | rfl
    · skip
      refine ownU_quiet (i := 2) (.pointer (some ⟨S.sb, 1, none⟩)) rfl (by rfl) rfl (by decide) (fun _ => by kernel_rfl) ?_
      exact schedU_to (by kernel_rfl) (by kernel_rfl) (h_0_1_2_4 _ _) t
    · skip
      refine ownU_quiet (i := 5) (ptr c.b) rfl (by rfl) rfl (by decide) (fun _ => by kernel_rfl) ?_
      exact schedU_to (by kernel_rfl) (by kernel_rfl) (h_0_1_4_5 _ _) t
  have h_0_4_5 : sqSt main Z Stop w₀ [.code (sel [1, 1, 1, 1, 1] bodyS)] (b₀.at a₀ (.inRegion ops (j :: rest) :: k₀) :: cs) S.sb v n id fv chb c.b u.heap.size v2 S.qb undef 6 #[true, false, false, false, true, true, false, false, false] (u3) := by
    intro A d
    refine schedU_succ (rs := [1, 6]) (by kernel_rfl) (by decide) fun i hi t => ?_
    have hi' : i = 1 ∨ i = 6 := by simpa using hi
    rcases hi' with rfl | rfl
    · skip
      refine ownU_quiet (i := 1) (ptr S.sb) rfl (by rfl) rfl (by decide) (fun _ => by kernel_rfl) ?_
      exact schedU_to (by kernel_rfl) (by kernel_rfl) (h_0_1_4_5 _ _) t
    · skip
      refine ownU_quiet (i := 6) (.pointer (some ⟨c.b, 1, none⟩)) rfl (by rfl) rfl (by decide) (fun _ => by kernel_rfl) ?_
      exact schedU_to (by kernel_rfl) (by kernel_rfl) (h_0_4_5_6 _ _) t
  have h_4_5_6 : sqSt main Z Stop w₀ [.code (sel [1, 1, 1, 1, 1] bodyS)] (b₀.at a₀ (.inRegion ops (j :: rest) :: k₀) :: cs) S.sb v n id fv chb c.b u.heap.size v2 S.qb undef 6 #[false, false, false, false, true, true, true, false, false] (u3) := by
    intro A d
    refine schedU_succ (rs := [0, 7]) (by kernel_rfl) (by decide) fun i hi t => ?_
    have hi' : i = 0 ∨ i = 7 := by simpa using hi
    rcases hi' with rfl | rfl
    · skip
      refine ownU_quiet (i := 0) (ptr S.sb) rfl (by rfl) rfl (by decide) (fun _ => by kernel_rfl) ?_
      exact schedU_to (by kernel_rfl) (by kernel_rfl) (h_0_4_5_6 _ _) t
    · skip
      refine ownU_load (i := 7) ⟨c.b, 1, none⟩ (.int .i64 id) rfl (by rfl) (by decide) loads_int rfl (by kernel_rfl) n1 ?_
      exact schedU_to (by kernel_rfl) (by kernel_rfl) (h_4_5_6_7 _ _) t
  have h_0_1 : sqSt main Z Stop w₀ [.code (sel [1, 1, 1, 1, 1] bodyS)] (b₀.at a₀ (.inRegion ops (j :: rest) :: k₀) :: cs) S.sb v n id fv chb c.b u.heap.size v2 S.qb undef 7 #[true, true, false, false, false, false, false, false, false] (u3) := by
    intro A d
    refine schedU_succ (rs := [2, 4]) (by kernel_rfl) (by decide) fun i hi t => ?_
    have hi' : i = 2 ∨ i = 4 := by simpa using hi
    rcases hi' with rfl | rfl
    · skip
      refine ownU_quiet (i := 2) (.pointer (some ⟨S.sb, 1, none⟩)) rfl (by rfl) rfl (by decide) (fun _ => by kernel_rfl) ?_
      exact schedU_to (by kernel_rfl) (by kernel_rfl) (h_0_1_2 _ _) t
    · skip
      refine ownU_quiet (i := 4) (ptr c.b) rfl (by rfl) rfl (by decide) (fun _ => by kernel_rfl) ?_
      exact schedU_to (by kernel_rfl) (by kernel_rfl) (h_0_1_4 _ _) t
  have h_0_4 : sqSt main Z Stop w₀ [.code (sel [1, 1, 1, 1, 1] bodyS)] (b₀.at a₀ (.inRegion ops (j :: rest) :: k₀) :: cs) S.sb v n id fv chb c.b u.heap.size v2 S.qb undef 7 #[true, false, false, false, true, false, false, false, false] (u3) := by
    intro A d
    refine schedU_succ (rs := [1, 5]) (by kernel_rfl) (by decide) fun i hi t => ?_
    have hi' : i = 1 ∨ i = 5 := by simpa using hi
    rcases hi' with rfl | rfl
    · skip
      refine ownU_quiet (i := 1) (ptr S.sb) rfl (by rfl) rfl (by decide) (fun _ => by kernel_rfl) ?_
      exact schedU_to (by kernel_rfl) (by kernel_rfl) (h_0_1_4 _ _) t
    · skip
      refine ownU_quiet (i := 5) (ptr c.b) rfl (by rfl) rfl (by decide) (fun _ => by kernel_rfl) ?_
      exact schedU_to (by kernel_rfl) (by kernel_rfl) (h_0_4_5 _ _) t
  have h_4_5 : sqSt main Z Stop w₀ [.code (sel [1, 1, 1, 1, 1] bodyS)] (b₀.at a₀ (.inRegion ops (j :: rest) :: k₀) :: cs) S.sb v n id fv chb c.b u.heap.size v2 S.qb undef 7 #[false, false, false, false, true, true, false, false, false] (u3) := by
    intro A d
    refine schedU_succ (rs := [0, 6]) (by kernel_rfl) (by decide) fun i hi t => ?_
    have hi' : i = 0 ∨ i = 6 := by simpa using hi
    rcases hi' with rfl | rfl
    · skip
      refine ownU_quiet (i := 0) (ptr S.sb) rfl (by rfl) rfl (by decide) (fun _ => by kernel_rfl) ?_
      exact schedU_to (by kernel_rfl) (by kernel_rfl) (h_0_4_5 _ _) t
    · skip
      refine ownU_quiet (i := 6) (.pointer (some ⟨c.b, 1, none⟩)) rfl (by rfl) rfl (by decide) (fun _ => by kernel_rfl) ?_
      exact schedU_to (by kernel_rfl) (by kernel_rfl) (h_4_5_6 _ _) t
  have h_0 : sqSt main Z Stop w₀ [.code (sel [1, 1, 1, 1, 1] bodyS)] (b₀.at a₀ (.inRegion ops (j :: rest) :: k₀) :: cs) S.sb v n id fv chb c.b u.heap.size v2 S.qb undef 8 #[true, false, false, false, false, false, false, false, false] (u3) := by
    intro A d
    refine schedU_succ (rs := [1, 4]) (by kernel_rfl) (by decide) fun i hi t => ?_
    have hi' : i = 1 ∨ i = 4 := by simpa using hi
    rcases hi' with rfl | rfl
    · skip
      refine ownU_quiet (i := 1) (ptr S.sb) rfl (by rfl) rfl (by decide) (fun _ => by kernel_rfl) ?_
      exact schedU_to (by kernel_rfl) (by kernel_rfl) (h_0_1 _ _) t
    · skip
      refine ownU_quiet (i := 4) (ptr c.b) rfl (by rfl) rfl (by decide) (fun _ => by kernel_rfl) ?_
      exact schedU_to (by kernel_rfl) (by kernel_rfl) (h_0_4 _ _) t
  have h_4 : sqSt main Z Stop w₀ [.code (sel [1, 1, 1, 1, 1] bodyS)] (b₀.at a₀ (.inRegion ops (j :: rest) :: k₀) :: cs) S.sb v n id fv chb c.b u.heap.size v2 S.qb undef 8 #[false, false, false, false, true, false, false, false, false] (u3) := by
    intro A d
    refine schedU_succ (rs := [0, 5]) (by kernel_rfl) (by decide) fun i hi t => ?_
    have hi' : i = 0 ∨ i = 5 := by simpa using hi
    rcases hi' with rfl | rfl
    · skip
      refine ownU_quiet (i := 0) (ptr S.sb) rfl (by rfl) rfl (by decide) (fun _ => by kernel_rfl) ?_
      exact schedU_to (by kernel_rfl) (by kernel_rfl) (h_0_4 _ _) t
    · skip
      refine ownU_quiet (i := 5) (ptr c.b) rfl (by rfl) rfl (by decide) (fun _ => by kernel_rfl) ?_
      exact schedU_to (by kernel_rfl) (by kernel_rfl) (h_4_5 _ _) t
  have h : sqSt main Z Stop w₀ [.code (sel [1, 1, 1, 1, 1] bodyS)] (b₀.at a₀ (.inRegion ops (j :: rest) :: k₀) :: cs) S.sb v n id fv chb c.b u.heap.size v2 S.qb undef 9 #[false, false, false, false, false, false, false, false, false] (u3) := by
    intro A d
    refine schedU_succ (rs := [0, 4]) (by kernel_rfl) (by decide) fun i hi t => ?_
    have hi' : i = 0 ∨ i = 4 := by simpa using hi
    rcases hi' with rfl | rfl
    · skip
      refine ownU_quiet (i := 0) (ptr S.sb) rfl (by rfl) rfl (by decide) (fun _ => by kernel_rfl) ?_
      exact schedU_to (by kernel_rfl) (by kernel_rfl) (h_0 _ _) t
    · skip
      refine ownU_quiet (i := 4) (ptr c.b) rfl (by rfl) rfl (by decide) (fun _ => by kernel_rfl) ?_
      exact schedU_to (by kernel_rfl) (by kernel_rfl) (h_4 _ _) t
  exact schedU_start (n := 9) (by kernel_rfl) rfl fun A d t => schedU_to (act := sqAct S.sb v n id fv chb c.b u.heap.size v2 S.qb undef #[false, false, false, false, false, false, false, false, false]) (by kernel_rfl) rfl (h A d) t
end Go.Proofs.Ytolnmdanlggmhaa

/- Spawn, told by the crew. -/
namespace Go.Proofs.Ytolnmdanlggmhaa
open Go.RowKit Go.Maps Go.Conc
open Go.ConcN (upd upd_ne upd_same)

set_option maxRecDepth 100000
set_option maxHeartbeats 2000000

def coCells (sb : Nat) (id : Int) (fv : Value) (chb : Nat) : Array Value := #[ptr sb, .int .i64 id, fv, .chan (some chb), .bool false, .int .i64 1, .string ByteArray.empty]
theorem box_at {main : Bool} {cs : List Frame} {sb chb : Nat} {v fv : Value} {n id : Int} (w : World) : stepG Try.prog main (spawnBox sb v n id fv chb cs) w = .go (spawnBoxed sb v n id fv chb w.heap.size cs) { w with heap := w.heap.push (.cells (coCells sb id fv chb) 92) } := by
  have e : spawnBoxed sb v n id fv chb w.heap.size cs = G ((base 37).at ((spAct sb v n id fv chb 0 #[true, true, true, true, true, true, true, true, true, true, false, false]).put (some 18) (ptr w.heap.size)) [.inRegion (opsOf (sel [1, 1, 0] bodyS)) [11], .code (sel [1, 1, 1] bodyS)]) cs := by kernel_rfl
  rw [e]
  exact value_quiet (ops := opsOf (sel [1, 1, 0] bodyS)) (i := 10) (rest := [11]) (z := ptr w.heap.size) rfl (by rfl) (by decide) (by kernel_rfl) (by kernel_rfl)

section
variable {Post : Value → World → Prop} {E : Env} {h : Nat} {own : Nat → Nat} {S : Sch} {ks : List Kid} {FC : List Row} {n : Nat} {Inb : Nat → Option Seat} {w : World} {cs : List Frame}
  {b₀ : Frame} {a₀ : Act} {ops : Array Oper} {j : Nat} {rest : List Nat} {k₀ : List Item} {fn : Fn} {fi ca : Array Value}

theorem spawn_won (C : CI E h own S ks FC n Inb w) (hcl : S.closed = false) (hlim : S.cos.length + 1 < 1000) (hnq : ((S.cos.length : Int) + 1) ∉ S.qs) (hq : S.fr + S.qs.length < 999999)
    (next : ∀ own' v2 c FC' w', c.f = .func fn fi ca → c.begun = false → c.st = 1 → c.txt = ByteArray.empty → CI E h own' { S with v := v2, cos := S.cos ++ [c], qs := S.qs ++ [(S.cos.length : Int) + 1] } (ks ++ [⟨0, 0, default⟩]) FC' n Inb w' → OLe own own' → Same6 own w w' → (∀ r ∈ FC, r ∈ FC') →
      Won Try.prog Post FC' n Inb h (G (b₀.at (a₀.put ((ops[j]?).bind (·.dst)) (.int .i64 ((S.cos.length : Int) + 1))) (.inRegion ops rest :: k₀)) cs) w') :
    Won Try.prog Post FC n Inb h (spawnIn S.sb (.func fn fi ca) (b₀.at a₀ (.inRegion ops (j :: rest) :: k₀) :: cs)) w := by
  obtain ⟨A0, cap, hv, _, _⟩ := C.si.row.slice
  rw [List.length_map] at hv
  have hsch := C.siG.sch
  rw [hv, hcl] at hsch
  have hidw : IntKind.i64.wrap ((S.cos.length : Int) + 1) = (S.cos.length : Int) + 1 := wrap_id (by omega) (by omega)
  have hgs : (guardW FC w).heap.size = w.heap.size := by simp [guardW]
  refine win_own C.fi.wf (spawn_own1 (main := h == 0) rfl hsch hidw (ownU_stop fun w1 hs hkp => ?_))
  rw [hgs]
  have st1 : Stp (· = 5) own (retagC own 5 (· = w.heap.size)) (guardW FC w) ((guardW FC w).alloc (.chan 0 #[] false 0 0 false)) :=
    stp_of (fp := fun _ => False) (by omega) C.ltG rfl rfl (by rw [World.size_alloc]; omega) (fun b hb _ => Below.heap_alloc _ _ _ hb) (fun _ h => h.elim) (fun b hb => .inr (by rw [hb, hgs]; exact Nat.le_refl _)) (fun b hb => by rw [hb, World.size_alloc, hgs]; omega)
  have fi1 : FI (retagC own 5 (· = w.heap.size)) S FC := C.fi.stp st1 fun r hr => by rw [hgs]; exact C.rows r hr
  have si1 := C.siG.keep (u' := (guardW FC w).alloc (.chan 0 #[] false 0 0 false)) st1.le fun b hb _ => Below.heap_alloc _ _ _ hb
  obtain ⟨a1, C1⟩ := C.step hs hkp st1 (by omega) si1 fi1 rfl rfl (fun i c h => ⟨c, h, rfl, rfl⟩)
  have s1 : Same6 own w w1 := same6_step a1 fi1 st1 (fun t h => by omega) C.lw C.fi
  have h5 : retagC own 5 (· = w.heap.size) w.heap.size = 5 := tag_eq rfl
  have hch1 : w1.heap[w.heap.size]? = some (.chan 0 #[] false 0 0 false) := by
    rw [a1.eq _ (by rw [h5]; omega) (fi1.ne (by rw [h5]; omega) (by rw [h5]; omega) (by rw [h5]; omega))]
    exact alloc_new' _ _ hgs.symm
  have hchl := obj_lt hch1
  generalize hown1 : retagC own 5 (· = w.heap.size) = own1 at *
  have le1 : OLe own own1 := st1.le
  generalize hchb : w.heap.size = chb at *
  clear hs hkp st1 si1 a1
  refine win_box (lo := 0) (t := 92) (xs := [ptr S.sb, .int .i64 ((S.cos.length : Int) + 1), .func fn fi ca, .chan (some chb)]) (c := coCells S.sb ((S.cos.length : Int) + 1) (.func fn fi ca) chb) (g' := fun nb => spawnBoxed S.sb (.slice A0 S.cos.length cap) S.cos.length ((S.cos.length : Int) + 1) (.func fn fi ca) chb nb (b₀.at a₀ (.inRegion ops (j :: rest) :: k₀) :: cs)) (fun i x hx => ?_) rfl (fun w => box_at w) fun d => ?_
  · unfold coCells
    rcases i with _ | _ | _ | _ | i <;> simp at hx ⊢ <;> exact hx
  have C2 := C1.boxes (xs := [ptr S.sb, .int .i64 ((S.cos.length : Int) + 1), .func fn fi ca, .chan (some chb)]) (by simp) (coCells S.sb ((S.cos.length : Int) + 1) (.func fn fi ca) chb) 92 d
  have ho0 : own1 w1.heap.size = 0 := Classical.byContradiction fun h => by have := C1.lt _ h; omega
  have hblk : ({ w1.at d with heap := w1.heap.push (.cells (coCells S.sb ((S.cos.length : Int) + 1) (.func fn fi ca) chb) 92) } : World).heap[w1.heap.size]? = some (.cells (coCells S.sb ((S.cos.length : Int) + 1) (.func fn fi ca) chb) 92 (0, 0)) := by simp
  have hchn : ({ w1.at d with heap := w1.heap.push (.cells (coCells S.sb ((S.cos.length : Int) + 1) (.func fn fi ca) chb) 92) } : World).heap[chb]? = some (.chan 0 #[] false 0 0 false) := by
    show (w1.heap.push _)[chb]? = _
    rw [Array.getElem?_push, if_neg (by omega)]; exact hch1
  have C3 := C2.tag4 (b := w1.heap.size) ho0 (by simp) (by rw [hblk]; rintro (⟨_, _, e⟩ | ⟨_, _, e⟩) <;> cases e) C1.base.size
  have s2 : Same6 own1 w1 { w1.at d with heap := w1.heap.push (.cells (coCells S.sb ((S.cos.length : Int) + 1) (.func fn fi ca) chb) 92) } := Stp.same6 (stp_push C1.lt _ d) (fun _ h => h.elim) C1.lt
  have le2 : OLe own1 (retagC own1 4 (· = w1.heap.size)) := fun x hx => tag_ne fun e => hx (by rw [e, ho0])
  have h4 : retagC own1 4 (· = w1.heap.size) w1.heap.size = 4 := tag_eq rfl
  have h5' : retagC own1 4 (· = w1.heap.size) chb = 5 := le2.tag h5 (by omega)
  have hnb : w1.heap.size ∉ S.cos.map CoR.b := fun hm => by
    obtain ⟨d, hd, e⟩ := List.mem_map.1 hm
    have := C1.si.oco d hd
    rw [e, ho0] at this
    omega
  have hnc : chb ∉ S.sc :: S.cos.map CoR.ch := fun hm => by
    have hz : own chb = 0 := Classical.byContradiction fun h => by have := C.lt _ h; omega
    rcases List.mem_cons.1 hm with e | hm
    · have := C.si.osc
      rw [← e, hz] at this
      omega
    · obtain ⟨d, hd, e⟩ := List.mem_map.1 hm
      have := C.si.och d hd
      rw [e, hz] at this
      omega
  generalize hown2 : retagC own1 4 (· = w1.heap.size) = own2 at *
  generalize hnbv : w1.heap.size = nb at *
  generalize hw2 : ({ w1.at d with heap := w1.heap.push (.cells (coCells S.sb ((S.cos.length : Int) + 1) (.func fn fi ca) chb) 92) } : World) = w2 at *
  generalize hFC : ((⟨nb, 0, [ptr S.sb, .int .i64 ((S.cos.length : Int) + 1), .func fn fi ca, .chan (some chb)]⟩ : Row) :: FC) = FC' at *
  have hrow : (⟨nb, 0, [ptr S.sb, .int .i64 ((S.cos.length : Int) + 1), .func fn fi ca, .chan (some chb)]⟩ : Row) ∈ FC' := by rw [← hFC]; exact List.mem_cons_self
  have hsub : ∀ r ∈ FC, r ∈ FC' := fun r hr => by rw [← hFC]; exact List.mem_cons_of_mem _ hr
  have hco : CoAt (guardW FC' w2) S.sb S.cos.length ⟨nb, chb, .func fn fi ca, false, 1, ByteArray.empty⟩ := C3.agr.row _ hrow _ _ ⟨(0, 0), hblk, fun o h => by omega⟩
  have hcc : ChAt (guardW FC' w2) chb := ⟨0, by rw [C3.agr.eq chb (by rw [h5']; omega) (C3.fi.ne (by rw [h5']; omega) (by rw [h5']; omega) (by rw [h5']; omega))]; exact hchn⟩
  refine win_own C3.fi.wf (spawn_own2 (main := h == 0) (c := ⟨nb, chb, .func fn fi ca, false, 1, ByteArray.empty⟩) C3.siG C3.ltG hv rfl h4 h5' hco hcc hnb hnc hlim hnq hq fun v2 own' u' si' st' => ownU_stop fun w3 hs hkp => ?_)
  have fi' : FI own' { S with v := v2, cos := S.cos ++ [⟨nb, chb, .func fn fi ca, false, 1, ByteArray.empty⟩], qs := S.qs ++ [(S.cos.length : Int) + 1] } FC' := by
    have := C3.fi.stp (u := guardW FC' w2) st' (fun r hr => by simpa [guardW] using C3.rows r hr)
    refine ⟨this.wf, fun i c hc => ?_, this.rsb, this.off⟩
    have hc' : (S.cos ++ [(⟨nb, chb, .func fn fi ca, false, 1, ByteArray.empty⟩ : CoR)])[i]? = some c := hc
    rcases Nat.lt_or_ge i S.cos.length with hl | hl
    · rw [List.getElem?_append_left hl] at hc'
      exact this.rco i c hc'
    · rw [List.getElem?_append_right hl] at hc'
      rcases hm : i - S.cos.length with _ | m
      · rw [hm] at hc'
        simp at hc'
        subst hc'
        have : i = S.cos.length := by omega
        subst this
        exact hrow
      · rw [hm] at hc'; simp at hc'
  obtain ⟨a3, C4⟩ := C3.stepK (ks' := ks ++ [⟨0, 0, default⟩]) hs hkp st' (by omega) si' fi' rfl (by simp [C.len]) (fun i c k hc hk => by
    have hc' : (S.cos ++ [(⟨nb, chb, .func fn fi ca, false, 1, ByteArray.empty⟩ : CoR)])[i]? = some c := hc
    rcases Nat.lt_or_ge i S.cos.length with hl | hl
    · rw [List.getElem?_append_left hl] at hc'
      rw [List.getElem?_append_left (by rw [C.len]; exact hl)] at hk
      exact C3.kid i c k hc' hk
    · rw [List.getElem?_append_right hl] at hc'
      rw [List.getElem?_append_right (by rw [C.len]; exact hl), C.len] at hk
      rcases hm : i - S.cos.length with _ | m
      · rw [hm] at hc' hk
        simp at hc' hk
        subst hc'; subst hk
        exact ⟨by simp, fun _ => rfl, by simp, by simp, by simp⟩
      · rw [hm] at hc'; simp at hc') (fun i k hi ht => by
    rw [List.getElem?_append_left (List.getElem?_eq_some_iff.1 hi).1]; exact hi) (fun i1 i2 k1 k2 h1 h2 t1 t2 => by
    have hh : ∀ (i : Nat) (k : Kid), (ks ++ [⟨0, 0, default⟩])[i]? = some k → k.tag = 2 → ks[i]? = some k := fun i k hi ht => by
      rcases Nat.lt_or_ge i ks.length with hl | hl
      · rw [List.getElem?_append_left hl] at hi; exact hi
      · rw [List.getElem?_append_right hl] at hi
        rcases hm : i - ks.length with _ | m
        · rw [hm] at hi; simp at hi; subst hi; simp at ht
        · rw [hm] at hi; simp at hi
    exact C.uniq i1 i2 k1 k2 (hh _ _ h1 t1) (hh _ _ h2 t2) t1 t2)
  have s3 : Same6 own2 w2 w3 := same6_step a3 fi' st' (fun t h => by omega) C3.lw C3.fi
  exact next own' v2 _ FC' w3 rfl rfl rfl rfl C4 (le1.trans (le2.trans st'.le)) (s1.trans (s2.trans s3 le2) le1) hsub
end
end Go.Proofs.Ytolnmdanlggmhaa
