/- slices.Equal at strings; Wake, whatever the number. -/
import Derived.Test.YtolnmdanlggmhaaKrb
import Derived.Test.YtolnmdanlggmhaaKi
import Derived.Test.YtolnmdanlggmhaaKpan
import Derived.Deep.QuietTactic
import Derived.BigQuiet
import Derived.Test.YtolnmdanlggmhaaKcm
import Derived.Deep.RegionLaw
namespace Go.Proofs.Ytolnmdanlggmhaa
open Go.RowKit Go.Maps Go.Conc

set_option maxRecDepth 100000
set_option maxHeartbeats 1000000

theorem equal_str (A A' : Option Addr) (n c c' : Nat) (xs : List ByteArray) (w : World) (B : Nat) (hx : Rd w B A n (strsL xs)) (hy : Rd w B A' n (strsL xs)) (hn : n ≤ 1000000) :
    Calls Try.prog 71 #[.slice A n c, .slice A' n c'] w fun e w' => e = .returned (.bool true) ∧ ∃ k, w' = w.drewN k := by
  go_enter Try.func71, Try.ntmps71
  go_wp2_with fail
  go_loopw [5, 13] (fun _ i wr => ∃ k : Nat, k ≤ n ∧ i = .int .i64 k ∧ ∃ q, wr = w.drewN q) (fun _ i _ => n - (intOf i).toNat)
  case atStart => exact ⟨0, Nat.zero_le _, rfl, 0, rfl⟩
  case round =>
    obtain ⟨k, hk, rfl, q, rfl⟩ := hrel
    by_cases hlt : k < n
    · obtain ⟨ax, ux, rfl, hbx, hux, hcx⟩ := hx.at hlt
      obtain ⟨ay, uy, rfl, hby, huy, hcy⟩ := hy.at hlt
      rw [hux] at huy
      obtain rfl := Option.some.inj huy
      obtain ⟨s, _, rfl⟩ := List.mem_map.1 (List.mem_of_getElem? hux)
      have hkn : (k : Int) < (n : Int) := by omega
      have hc1 : w.cell? (ax.add k) = some (.string s) := hcx
      have hc2 : w.cell? (ay.add k) = some (.string s) := hcy
      have hk0 : ¬ (k : Int) < 0 := by omega
      clear hx hy hux hcx hcy
      go_wp2_with fail
      go_quiet (fail)
      go_wp2_with fail
      go_roundw
      case rel => exact ⟨k + 1, by omega, by go_num, _, rfl⟩
      case measure => simp [intOf]; omega
    · have hkn : ¬ (k : Int) < (n : Int) := by omega
      go_wp2_with fail
      go_ret
      exact ⟨rfl, q, rfl⟩

/-- Whom a number wakes. -/
def coCan (S : Sch) (id : Int) : Bool := decide (1 ≤ id) && (decide (id ≤ S.cos.length) && ((S.cos[(id - 1).toNat]?).any fun c => c.st == 2))
def coWake (S : Sch) (i : Nat) (c : CoR) : Sch := { S with cos := S.cos.set i { c with st := 1 }, qs := S.qs ++ [(i : Int) + 1] }
/-- Wake of one that is not blocked, or is none. -/
theorem wake_off {own : Nat → Nat} {S : Sch} {u : World} (si : SI own S u) {id : Int} (hc : coCan S id = false) : Calls Try.prog 49 #[ptr S.sb, .int .i64 id] u fun e w' => e = .returned (.bool false) ∧ New u w' := by
  obtain ⟨A0, cap, hv, _, _⟩ := si.row.slice
  rw [List.length_map] at hv
  have hs := si.sch
  have hr := si.row
  rw [hv] at hs hr
  have hl := si.lim
  by_cases hid : id < 1 ∨ (S.cos.length : Int) < id
  · refine (wake_none (get_out u S.sb S.qb S.sc S.cos.length cap A0 S.closed id hs hid)).mono ?_
    rintro e w' ⟨rfl, rfl⟩
    exact ⟨rfl, New.alloc _ _⟩
  · obtain ⟨i, rfl⟩ : ∃ i : Nat, id = (i : Int) + 1 := ⟨(id - 1).toNat, by omega⟩
    have hi : i < S.cos.length := by omega
    obtain ⟨c, hcc⟩ : ∃ c, S.cos[i]? = some c := ⟨_, List.getElem?_eq_getElem hi⟩
    have hst : ¬ c.st = 2 := by
      unfold coCan at hc
      rw [show ((i : Int) + 1 - 1).toNat = i by omega, hcc] at hc
      have h1 : (1 : Int) ≤ (i : Int) + 1 := by omega
      have h2 : (i : Int) + 1 ≤ (S.cos.length : Int) := by omega
      simpa [h1, h2] using hc
    have hg := get_at u S.sb S.qb S.sc S.cos.length cap A0 S.closed _ i (ptr c.b) hs hr (by rw [List.getElem?_map, hcc]; rfl) (by omega)
    have c5 := cellsAt_cell (si.co i c hcc) 5 (.int .i64 c.st) rfl
    generalize (i : Int) + 1 = id at *
    clear hc hid hs hr hv si hcc
    unfold ptr at *
    go_enter Try.func49, Try.ntmps49
    go_wp2_with fail
    refine hg.mono ?_
    rintro e w1 ⟨rfl, rfl⟩
    clear hg
    go_wp2_with fail
    go_ret
    exact ⟨rfl, New.refl _⟩
/-- Wake of one that is blocked. -/
theorem wake_on {own : Nat → Nat} {S : Sch} {u : World} (si : SI own S u) (hlt : ∀ b, own b ≠ 0 → b < u.heap.size) {i : Nat} {c : CoR} (hi : S.cos[i]? = some c) (hst : c.st = 2) (hnq : ((i : Int) + 1) ∉ S.qs) (hq : S.fr + S.qs.length < 999999) :
    Calls Try.prog 49 #[ptr S.sb, .int .i64 ((i : Int) + 1)] u fun e w' => e = .returned (.bool true) ∧ ∃ own', SI own' (coWake S i c) w' ∧ Stp (fun t => t = 2 ∨ t = 4) own own' u w' := by
  obtain ⟨A0, cap, hv, _, _⟩ := si.row.slice
  rw [List.length_map] at hv
  have hs := si.sch
  have hr := si.row
  rw [hv] at hs hr
  have hl := si.lim
  have hg := get_at u S.sb S.qb S.sc S.cos.length cap A0 S.closed _ i (ptr c.b) hs hr (by rw [List.getElem?_map, hi]; rfl) (by omega)
  have c5 : u.cell? ⟨c.b, 5, none⟩ = some (.int .i64 2) := by rw [← hst]; exact cellsAt_cell (si.co i c hi) 5 (.int .i64 c.st) rfl
  have f5 := cellsAt_free (si.co i c hi) 5 (by omega)
  have s1 : u.cell? ⟨S.sb, 1, none⟩ = some (ptr S.qb) := cellsAt_cell si.sch 1 (ptr S.qb) rfl
  have hcm := List.mem_of_getElem? hi
  have ho : own c.b = 4 := si.oco c hcm
  have hne : c.b ≠ S.sb := fun e => by have := si.osb; rw [← e, ho] at this; omega
  have si1 := si.setCo hi { c with st := 1 } 5 (.int .i64 1) rfl rfl rfl
  have st1 : Stp (· = 4) own own u (u.setCell ⟨c.b, 5, none⟩ (.int .i64 1)) := stp_setCell hlt ho _
  have s1' : (u.setCell ⟨c.b, 5, none⟩ (.int .i64 1)).cell? ⟨S.sb, 1, none⟩ = some (ptr S.qb) := cellsAt_cell si1.sch 1 (ptr S.qb) rfl
  have hil := (List.getElem?_eq_some_iff.1 hi).1
  have hpu := push_i S.qb S.fr S.qs ((i : Int) + 1) _ si1.qu (int_wf (by omega) (by omega)) (by omega) (by omega)
  rw [memB_out hnq, addX_out hnq] at hpu
  have HP := Lib.hid hpu
  have HS := Lib.hid (And.intro si1 st1)
  clear hpu hs hr hv si hi hst si1 st1 hnq
  generalize hid : (i : Int) + 1 = id at *
  unfold ptr at *
  go_enter Try.func49, Try.ntmps49
  go_wp2_with fail
  refine hg.mono ?_
  rintro e w1 ⟨rfl, hw1⟩
  replace hw1 := hw1.symm
  subst hw1
  clear hg
  go_wp2_with fail
  refine HP.out.mono ?_
  rintro e w2 ⟨rfl, fp', hq', hst'⟩
  go_wp2_with fail
  go_ret
  refine ⟨rfl, ?_⟩
  obtain ⟨own3, q1, q2⟩ := HS.out.1.queue HS.out.2.lt hq' hst' (by simp; omega)
  have e1 : coWake S i c = { ({ S with cos := S.cos.set i { c with st := 1 } } : Sch) with fr := S.fr, qs := S.qs ++ [id] } := by unfold coWake; rw [hid]
  refine ⟨own3, by rw [e1]; exact q1, (HS.out.2.mono (T' := fun t => t = 2 ∨ t = 4) (fun t h => by omega)).trans (q2.mono (fun t h => by omega)) (by omega)⟩
end Go.Proofs.Ytolnmdanlggmhaa

/- The coroutines of CoroMatches and CoroCloses: world.spawn$1 and world.run, in company. (Printed by gen_rn.py.) -/
namespace Go.Proofs.Ytolnmdanlggmhaa
open Go.RowKit Go.Maps Go.Conc
open Go.ConcN (upd upd_ne upd_same)

set_option maxRecDepth 100000
set_option maxHeartbeats 2000000

noncomputable abbrev bodyRn : Code := Try.f77.body.getD .skip
noncomputable abbrev bodyRw : Code := Try.f76.body.getD .skip
def fvK (tb fb : Nat) : Value := .func (.func 76) #[] #[ptr tb, ptr fb]
/-- The slots of run at the head of its loop. -/
structure RnTs (ts : Array Value) (wb c : Nat) (S14 : Value) (nl idx : Nat) : Prop where
  size : ts.size = 82
  t0 : ts.getD 0 undef = ptr wb
  t1 : ts.getD 1 undef = ptr c
  t14 : ts.getD 14 undef = S14
  t15 : ts.getD 15 undef = .int .i64 (nl : Int)
  t16 : ts.getD 16 undef = .int .i64 (idx : Int)
def litR (ts : Array Value) (wb c : Nat) (S14 : Value) (nl idx : Nat) : Array Value := List.toArray (ptr wb :: ptr c :: ts.getD 2 undef :: ts.getD 3 undef :: ts.getD 4 undef :: ts.getD 5 undef :: ts.getD 6 undef :: ts.getD 7 undef :: ts.getD 8 undef :: ts.getD 9 undef :: ts.getD 10 undef :: ts.getD 11 undef :: ts.getD 12 undef :: ts.getD 13 undef :: S14 :: .int .i64 (nl : Int) :: .int .i64 (idx : Int) :: ts.getD 17 undef :: ts.getD 18 undef :: ts.getD 19 undef :: ts.getD 20 undef :: ts.getD 21 undef :: ts.getD 22 undef :: ts.getD 23 undef :: ts.getD 24 undef :: ts.getD 25 undef :: ts.getD 26 undef :: ts.getD 27 undef :: ts.getD 28 undef :: ts.getD 29 undef :: ts.getD 30 undef :: ts.getD 31 undef :: ts.getD 32 undef :: ts.getD 33 undef :: ts.getD 34 undef :: ts.getD 35 undef :: ts.getD 36 undef :: ts.getD 37 undef :: ts.getD 38 undef :: ts.getD 39 undef :: ts.getD 40 undef :: ts.getD 41 undef :: ts.getD 42 undef :: ts.getD 43 undef :: ts.getD 44 undef :: ts.getD 45 undef :: ts.getD 46 undef :: ts.getD 47 undef :: ts.getD 48 undef :: ts.getD 49 undef :: ts.getD 50 undef :: ts.getD 51 undef :: ts.getD 52 undef :: ts.getD 53 undef :: ts.getD 54 undef :: ts.getD 55 undef :: ts.getD 56 undef :: ts.getD 57 undef :: ts.getD 58 undef :: ts.getD 59 undef :: ts.getD 60 undef :: ts.getD 61 undef :: ts.getD 62 undef :: ts.getD 63 undef :: ts.getD 64 undef :: ts.getD 65 undef :: ts.getD 66 undef :: ts.getD 67 undef :: ts.getD 68 undef :: ts.getD 69 undef :: ts.getD 70 undef :: ts.getD 71 undef :: ts.getD 72 undef :: ts.getD 73 undef :: ts.getD 74 undef :: ts.getD 75 undef :: ts.getD 76 undef :: ts.getD 77 undef :: ts.getD 78 undef :: ts.getD 79 undef :: ts.getD 80 undef :: ts.getD 81 undef :: [])
def litS (ts : Array Value) (wb c : Nat) (S14 : Value) (nl idx xb : Nat) (op : Int) : Array Value := List.toArray (ptr wb :: ptr c :: ts.getD 2 undef :: ts.getD 3 undef :: ts.getD 4 undef :: ts.getD 5 undef :: ts.getD 6 undef :: ptr xb :: ts.getD 8 undef :: ts.getD 9 undef :: ts.getD 10 undef :: ts.getD 11 undef :: ts.getD 12 undef :: ts.getD 13 undef :: S14 :: .int .i64 (nl : Int) :: .int .i64 (idx : Int) :: ts.getD 17 undef :: ts.getD 18 undef :: ts.getD 19 undef :: ts.getD 20 undef :: .int .i64 op :: ts.getD 22 undef :: ts.getD 23 undef :: ts.getD 24 undef :: ts.getD 25 undef :: ts.getD 26 undef :: ts.getD 27 undef :: ts.getD 28 undef :: ts.getD 29 undef :: ts.getD 30 undef :: ts.getD 31 undef :: ts.getD 32 undef :: ts.getD 33 undef :: ts.getD 34 undef :: ts.getD 35 undef :: ts.getD 36 undef :: ts.getD 37 undef :: ts.getD 38 undef :: ts.getD 39 undef :: ts.getD 40 undef :: ts.getD 41 undef :: ts.getD 42 undef :: ts.getD 43 undef :: ts.getD 44 undef :: ts.getD 45 undef :: ts.getD 46 undef :: ts.getD 47 undef :: ts.getD 48 undef :: ts.getD 49 undef :: ts.getD 50 undef :: ts.getD 51 undef :: ts.getD 52 undef :: ts.getD 53 undef :: ts.getD 54 undef :: ts.getD 55 undef :: ts.getD 56 undef :: ts.getD 57 undef :: ts.getD 58 undef :: ts.getD 59 undef :: ts.getD 60 undef :: ts.getD 61 undef :: ts.getD 62 undef :: ts.getD 63 undef :: ts.getD 64 undef :: ts.getD 65 undef :: ts.getD 66 undef :: ts.getD 67 undef :: ts.getD 68 undef :: ts.getD 69 undef :: ts.getD 70 undef :: ts.getD 71 undef :: ts.getD 72 undef :: ts.getD 73 undef :: ts.getD 74 undef :: ts.getD 75 undef :: ts.getD 76 undef :: ts.getD 77 undef :: ts.getD 78 undef :: ts.getD 79 undef :: ts.getD 80 undef :: ts.getD 81 undef :: [])
theorem lit_any (ts : Array Value) (n : Nat) (h : ts.size = n) : ts = ((List.range n).map fun k => ts.getD k undef).toArray := by
  refine Array.ext (by simp [h]) fun i h1 h2 => ?_
  simp [h1]
theorem lit_all (ts : Array Value) (h : ts.size = 82) : ts = List.toArray (ts.getD 0 undef :: ts.getD 1 undef :: ts.getD 2 undef :: ts.getD 3 undef :: ts.getD 4 undef :: ts.getD 5 undef :: ts.getD 6 undef :: ts.getD 7 undef :: ts.getD 8 undef :: ts.getD 9 undef :: ts.getD 10 undef :: ts.getD 11 undef :: ts.getD 12 undef :: ts.getD 13 undef :: ts.getD 14 undef :: ts.getD 15 undef :: ts.getD 16 undef :: ts.getD 17 undef :: ts.getD 18 undef :: ts.getD 19 undef :: ts.getD 20 undef :: ts.getD 21 undef :: ts.getD 22 undef :: ts.getD 23 undef :: ts.getD 24 undef :: ts.getD 25 undef :: ts.getD 26 undef :: ts.getD 27 undef :: ts.getD 28 undef :: ts.getD 29 undef :: ts.getD 30 undef :: ts.getD 31 undef :: ts.getD 32 undef :: ts.getD 33 undef :: ts.getD 34 undef :: ts.getD 35 undef :: ts.getD 36 undef :: ts.getD 37 undef :: ts.getD 38 undef :: ts.getD 39 undef :: ts.getD 40 undef :: ts.getD 41 undef :: ts.getD 42 undef :: ts.getD 43 undef :: ts.getD 44 undef :: ts.getD 45 undef :: ts.getD 46 undef :: ts.getD 47 undef :: ts.getD 48 undef :: ts.getD 49 undef :: ts.getD 50 undef :: ts.getD 51 undef :: ts.getD 52 undef :: ts.getD 53 undef :: ts.getD 54 undef :: ts.getD 55 undef :: ts.getD 56 undef :: ts.getD 57 undef :: ts.getD 58 undef :: ts.getD 59 undef :: ts.getD 60 undef :: ts.getD 61 undef :: ts.getD 62 undef :: ts.getD 63 undef :: ts.getD 64 undef :: ts.getD 65 undef :: ts.getD 66 undef :: ts.getD 67 undef :: ts.getD 68 undef :: ts.getD 69 undef :: ts.getD 70 undef :: ts.getD 71 undef :: ts.getD 72 undef :: ts.getD 73 undef :: ts.getD 74 undef :: ts.getD 75 undef :: ts.getD 76 undef :: ts.getD 77 undef :: ts.getD 78 undef :: ts.getD 79 undef :: ts.getD 80 undef :: ts.getD 81 undef :: []) := (lit_any ts 82 h).trans (by kernel_rfl)
theorem RnTs.lit {ts : Array Value} {wb c : Nat} {S14 : Value} {nl idx : Nat} (h : RnTs ts wb c S14 nl idx) : ts = litR ts wb c S14 nl idx := by
  have e := lit_all ts h.size
  rw [h.t0, h.t1, h.t14, h.t15, h.t16] at e
  exact e
theorem RnTs.litS {ts : Array Value} {wb c : Nat} {S14 : Value} {nl idx xb : Nat} {op : Int} (h : RnTs ts wb c S14 nl idx) (h7 : ts.getD 7 undef = ptr xb) (h21 : ts.getD 21 undef = .int .i64 op) : ts = Go.Proofs.Ytolnmdanlggmhaa.litS ts wb c S14 nl idx xb op := by
  have e := lit_all ts h.size
  rw [h.t0, h.t1, h.t14, h.t15, h.t16, h7, h21] at e
  exact e
theorem RnTs.put {ts : Array Value} {wb c : Nat} {S14 : Value} {nl idx : Nat} (h : RnTs ts wb c S14 nl idx) {d : Nat} (hd : d ≠ 0 ∧ d ≠ 1 ∧ d ≠ 14 ∧ d ≠ 15 ∧ d ≠ 16) (v : Value) : RnTs (ts.setIfInBounds d v) wb c S14 nl idx := by
  obtain ⟨h0, h1, h2, h3, h4⟩ := hd
  have key : ∀ k x, d ≠ k → ts.getD k undef = x → (ts.setIfInBounds d v).getD k undef = x := fun k x hk hx => by
    rw [← hx]
    simp [hk]
  exact ⟨by rw [Array.size_setIfInBounds]; exact h.size, key _ _ h0 h.t0, key _ _ h1 h.t1, key _ _ h2 h.t14, key _ _ h3 h.t15, key _ _ h4 h.t16⟩
noncomputable def rnHead (ts : Array Value) (cs : List Frame) : Goroutine := G ((base 77).at ⟨ts, []⟩ (.code (sel [1, 4, 4] bodyRn) :: [.inLoop (sel [1, 4, 4] bodyRn), .inBlock 0])) cs
noncomputable def rnRest : List Item := [.inBlock 2, .inBlock 1, .code (sel [1, 4, 4, 1, 1, 1] bodyRn), .inLoop (sel [1, 4, 4] bodyRn), .inBlock 0]
noncomputable def rnSw (ts : Array Value) (cs : List Frame) : Goroutine := G ((base 77).at ⟨ts, []⟩ (.code (sel [1, 4, 4, 1, 1, 0, 4, 1, 1] bodyRn) :: [.inBlock 1, .code (sel [1, 4, 4, 1, 1, 1] bodyRn), .inLoop (sel [1, 4, 4] bodyRn), .inBlock 0])) cs
/-- spawn$1, waiting for run. -/
noncomputable def rnFr (wb c tb fb f : Nat) : Frame := (base 76).at ⟨#[ptr c, ptr tb, ptr fb, undef, ptr wb, ptr c, .int .i64 (f : Int), undef], []⟩ [.inRegion (opsOf bodyRw) [3]]
noncomputable def rnCs (wb c tb fb f nb ch : Nat) : List Frame := [rnFr wb c tb fb f, runFrame c nb ch (fvK tb fb), botR]
theorem loads_world : Loads1 Try.prog 65 := fun w ad v h => ⟨by simp [go_sem, h], by simp [go_sem, h]⟩
theorem loads_funcs : Loads1 Try.prog 63 := fun w ad v h => ⟨by simp [go_sem, h], by simp [go_sem, h]⟩
theorem loads_steps : Loads1 Try.prog 94 := fun w ad v h => ⟨by simp [go_sem, h], by simp [go_sem, h]⟩
theorem idx_any {t e : TypeId} {k : Nat} {a : Act} {o : Oper} {x y : Operand} {A : Addr} {n cap i : Nat} (ht : Try.prog.underlying t = some (.slice e)) (hk : ∀ w, (sizeOf e).run Try.prog w = .ok k w) (w : World) (ho : o.op = .indexAddr t x y) (hx : a.eval x = .slice (some A) n cap) (hy : a.eval y = .int .i64 (i : Int)) (hi : i < n) : (execOp a.eval o).run Try.prog w = .ok (.value (.pointer (some (A.add (i * k))))) w := by
  unfold execOp
  simp only [ho, hx, hy]
  simp [go_sem, ht, hi, hk]
theorem idx_fs {a : Act} {o : Oper} {x y : Operand} {A : Addr} {n cap i : Nat} (w : World) (ho : o.op = .indexAddr 63 x y) (hx : a.eval x = .slice (some A) n cap) (hy : a.eval y = .int .i64 (i : Int)) (hi : i < n) : (execOp a.eval o).run Try.prog w = .ok (.value (.pointer (some (A.add i)))) w := by
  have h := idx_any (k := 1) Try.underlying63 (fun w => by kernel_rfl) w ho hx hy hi
  rw [Nat.mul_one] at h
  exact h
/-- A coroutine's function begins. -/
theorem rn_start {main : Bool} {Z : Addr → Prop} {Stop : Goroutine → World → Prop} {w₀ u : World} {wb c tb fb f nb ch nl : Nat} {af : Addr} {nF cF cl : Nat} {Al : Option Addr} (c2 : u.cell? ⟨c, 2, none⟩ = some (fvK tb fb)) (hn : u.cell? ⟨nb, 0, none⟩ = some (ptr c)) (htb : u.cell? ⟨tb, 0, none⟩ = some (ptr wb)) (hfb : u.cell? ⟨fb, 0, none⟩ = some (.int .i64 (f : Int)))
    (hw1 : u.cell? ⟨wb, 1, none⟩ = some (.slice (some af) nF cF)) (hf : f < nF) (hst : u.cell? (af.add f) = some (.slice Al nl cl)) (hk : ∀ ts, RnTs ts wb c (.slice Al nl cl) nl 0 → OwnU Try.prog main Z Stop w₀ (rnHead ts (rnCs wb c tb fb f nb ch)) u) : OwnU Try.prog main Z Stop w₀ (Conc.served (runSeat c ch nb) (.agg #[])) u := by
  refine start_own (F := 76) (ca := #[ptr tb, ptr fb]) c2 hn Try.func76 (by kernel_rfl) rfl ?_
  refine ownU_fr (fr2 := (base 76).at ⟨#[ptr c, ptr tb, ptr fb, undef, undef, undef, undef, undef], []⟩ [.code bodyRw]) (by kernel_rfl) ?_
  refine ownU_region (id := 0) (ops := opsOf bodyRw) ?_
  refine ownU_load (i := 0) (rest := [1, 2, 3]) ⟨tb, 0, none⟩ (ptr wb) rfl (by rfl) (by decide) loads_world rfl (by kernel_rfl) htb ?_
  refine ownU_quiet (i := 1) (rest := [2, 3]) (ptr c) rfl (by rfl) rfl (by decide) (fun _ => by kernel_rfl) ?_
  refine ownU_load (i := 2) (rest := [3]) ⟨fb, 0, none⟩ (.int .i64 (f : Int)) rfl (by rfl) (by decide) loads_int rfl (by kernel_rfl) hfb ?_
  refine ownU_lit #[ptr c, ptr tb, ptr fb, undef, ptr wb, ptr c, .int .i64 (f : Int), undef] [] (by kernel_rfl) (by kernel_rfl) ?_
  refine ownU_enter (i := 3) (rest := []) (f := 77) rfl (by rfl) (by decide) rfl Try.func77 (by kernel_rfl) rfl ?_
  refine ownU_fr (fr2 := (base 77).at ⟨List.toArray (ptr wb :: ptr c :: .int .i64 (f : Int) :: undef :: undef :: undef :: undef :: undef :: undef :: undef :: undef :: undef :: undef :: undef :: undef :: undef :: undef :: undef :: undef :: undef :: undef :: undef :: undef :: undef :: undef :: undef :: undef :: undef :: undef :: undef :: undef :: undef :: undef :: undef :: undef :: undef :: undef :: undef :: undef :: undef :: undef :: undef :: undef :: undef :: undef :: undef :: undef :: undef :: undef :: undef :: undef :: undef :: undef :: undef :: undef :: undef :: undef :: undef :: undef :: undef :: undef :: undef :: undef :: undef :: undef :: undef :: undef :: undef :: undef :: undef :: undef :: undef :: undef :: undef :: undef :: undef :: undef :: undef :: undef :: undef :: undef :: undef :: []), []⟩ [.code bodyRn]) (by kernel_rfl) ?_
  refine ownU_seq (x := sel [0] bodyRn) (y := sel [1] bodyRn) ?_
  refine ownU_region (id := 0) (ops := opsOf (sel [0] bodyRn)) ?_
  refine ownU_quiet (i := 0) (rest := [1, 2, 3, 4, 5, 6, 7, 8]) (ptr wb) rfl (by rfl) rfl (by decide) (fun _ => by kernel_rfl) ?_
  refine ownU_quiet (i := 1) (rest := [2, 3, 4, 5, 6, 7, 8]) (ptr wb) rfl (by rfl) rfl (by decide) (fun _ => by kernel_rfl) ?_
  refine ownU_quiet (i := 2) (rest := [3, 4, 5, 6, 7, 8]) (.pointer (some ⟨wb, 1, none⟩)) rfl (by rfl) rfl (by decide) (fun _ => by kernel_rfl) ?_
  refine ownU_load (i := 3) (rest := [4, 5, 6, 7, 8]) ⟨wb, 1, none⟩ (.slice (some af) nF cF) rfl (by rfl) (by decide) loads_funcs rfl (by kernel_rfl) hw1 ?_
  refine ownU_quiet (i := 4) (rest := [5, 6, 7, 8]) (.int .i64 (f : Int)) rfl (by rfl) rfl (by decide) (fun _ => by kernel_rfl) ?_
  refine ownU_quiet (i := 5) (rest := [6, 7, 8]) (.pointer (some (af.add f))) rfl (by rfl) rfl (by decide) (fun w => idx_fs (A := af) (n := nF) (cap := cF) (i := f) w rfl (by kernel_rfl) (by kernel_rfl) hf) ?_
  refine ownU_load (i := 6) (rest := [7, 8]) (af.add f) (.slice Al nl cl) rfl (by rfl) (by decide) loads_steps rfl (by kernel_rfl) hst ?_
  refine ownU_quiet (i := 7) (rest := [8]) (.int .i64 (nl : Int)) rfl (by rfl) rfl (by decide) (fun _ => by kernel_rfl) ?_
  refine ownU_quiet (i := 8) (rest := []) (.int .i64 0) rfl (by rfl) rfl (by decide) (fun _ => by kernel_rfl) ?_
  refine ownU_region_end ?_
  refine ownU_block (id := 0) (c := sel [1, 4] bodyRn) ?_
  refine ownU_loop (c := sel [1, 4, 4] bodyRn) ?_
  exact hk _ ⟨by kernel_rfl, by kernel_rfl, by kernel_rfl, by kernel_rfl, by kernel_rfl, by kernel_rfl⟩
/-- .. has come to its end. -/
theorem rn_end {main : Bool} {Z : Addr → Prop} {Stop : Goroutine → World → Prop} {w₀ u : World} {wb c tb fb f nb ch nl idx : Nat} {S14 : Value} {ts : Array Value} (h : RnTs ts wb c S14 nl idx) (hi : nl ≤ idx) (hk : OwnU Try.prog main Z Stop w₀ (runBack c nb ch (fvK tb fb)) u) : OwnU Try.prog main Z Stop w₀ (rnHead ts (rnCs wb c tb fb f nb ch)) u := by
  unfold rnHead
  rw [h.lit]
  refine ownU_seq (x := sel [1, 4, 4, 0] bodyRn) (y := sel [1, 4, 4, 1] bodyRn) ?_
  refine ownU_region (id := 1) (ops := opsOf (sel [1, 4, 4, 0] bodyRn)) ?_
  refine ownU_quiet (i := 0) (rest := []) (.bool false) rfl (by rfl) rfl (by decide) (fun _ => lss_v (p := (idx : Int)) (q := (nl : Int)) rfl (by kernel_rfl) (by kernel_rfl) (by simp; omega)) ?_
  refine ownU_region_end ?_
  refine ownU_seq (x := sel [1, 4, 4, 1, 0] bodyRn) (y := sel [1, 4, 4, 1, 1] bodyRn) ?_
  refine ownU_cond (c := .tmp 17) (x := .skip) (y := .exit 0) (t := false) (by kernel_rfl) ?_
  refine ownU_exit (k' := []) rfl ?_
  refine ownU_end ?_
  refine ownU_leave0 (fn := Try.f77) rfl rfl Try.func77 rfl ?_
  refine ownU_region_end ?_
  refine ownU_end ?_
  exact stop_own (fn := Try.f76) rfl rfl Try.func76 rfl hk
/-- One step of the function is at hand. -/
theorem rn_step {main : Bool} {Z : Addr → Prop} {Stop : Goroutine → World → Prop} {w₀ u : World} {wb c nl idx cl : Nat} {al ps : Addr} {op n : Int} {text : ByteArray} {ts : Array Value} {cs : List Frame} (h : RnTs ts wb c (.slice (some al) nl cl) nl idx) (hi : idx < nl) (hps : al.add (idx * 3) = ps) (o0 : u.cell? ps = some (.int .i64 op)) (o1 : u.cell? ⟨ps.block, ps.off + 1, none⟩ = some (.int .i64 n)) (o2 : u.cell? ⟨ps.block, ps.off + 2, none⟩ = some (.string text)) 
    (hk : ∀ ts, RnTs ts wb c (.slice (some al) nl cl) nl idx → ts.getD 7 undef = ptr u.heap.size → ts.getD 21 undef = .int .i64 op → OwnU Try.prog main Z Stop w₀ (rnSw ts cs) (u.alloc (.cells #[.int .i64 op, .int .i64 n, .string text] 109))) : OwnU Try.prog main Z Stop w₀ (rnHead ts cs) u := by
  unfold rnHead
  rw [h.lit]
  refine ownU_seq (x := sel [1, 4, 4, 0] bodyRn) (y := sel [1, 4, 4, 1] bodyRn) ?_
  refine ownU_region (id := 1) (ops := opsOf (sel [1, 4, 4, 0] bodyRn)) ?_
  refine ownU_quiet (i := 0) (rest := []) (.bool true) rfl (by rfl) rfl (by decide) (fun _ => lss_v (p := (idx : Int)) (q := (nl : Int)) rfl (by kernel_rfl) (by kernel_rfl) (by simp; omega)) ?_
  refine ownU_region_end ?_
  refine ownU_seq (x := sel [1, 4, 4, 1, 0] bodyRn) (y := sel [1, 4, 4, 1, 1] bodyRn) ?_
  refine ownU_cond (c := .tmp 17) (x := .skip) (y := .exit 0) (t := true) (by kernel_rfl) ?_
  refine ownU_skip ?_
  refine ownU_seq (x := sel [1, 4, 4, 1, 1, 0] bodyRn) (y := sel [1, 4, 4, 1, 1, 1] bodyRn) ?_
  refine ownU_block (id := 1) (c := sel [1, 4, 4, 1, 1, 0, 4] bodyRn) ?_
  refine ownU_seq (x := sel [1, 4, 4, 1, 1, 0, 4, 0] bodyRn) (y := sel [1, 4, 4, 1, 1, 0, 4, 1] bodyRn) ?_
  refine ownU_lit (List.toArray (ptr wb :: ptr c :: ts.getD 2 undef :: ts.getD 3 undef :: ts.getD 4 undef :: ts.getD 5 undef :: ts.getD 6 undef :: ts.getD 7 undef :: ts.getD 8 undef :: ts.getD 9 undef :: ts.getD 10 undef :: ts.getD 11 undef :: ts.getD 12 undef :: ts.getD 13 undef :: (.slice (some al) nl cl) :: .int .i64 (nl : Int) :: .int .i64 (idx : Int) :: .bool true :: ts.getD 18 undef :: ts.getD 19 undef :: ts.getD 20 undef :: ts.getD 21 undef :: ts.getD 22 undef :: ts.getD 23 undef :: ts.getD 24 undef :: ts.getD 25 undef :: ts.getD 26 undef :: ts.getD 27 undef :: ts.getD 28 undef :: ts.getD 29 undef :: ts.getD 30 undef :: ts.getD 31 undef :: ts.getD 32 undef :: ts.getD 33 undef :: ts.getD 34 undef :: ts.getD 35 undef :: ts.getD 36 undef :: ts.getD 37 undef :: ts.getD 38 undef :: ts.getD 39 undef :: ts.getD 40 undef :: ts.getD 41 undef :: ts.getD 42 undef :: ts.getD 43 undef :: ts.getD 44 undef :: ts.getD 45 undef :: ts.getD 46 undef :: ts.getD 47 undef :: ts.getD 48 undef :: ts.getD 49 undef :: ts.getD 50 undef :: ts.getD 51 undef :: ts.getD 52 undef :: ts.getD 53 undef :: ts.getD 54 undef :: ts.getD 55 undef :: ts.getD 56 undef :: ts.getD 57 undef :: ts.getD 58 undef :: ts.getD 59 undef :: ts.getD 60 undef :: ts.getD 61 undef :: ts.getD 62 undef :: ts.getD 63 undef :: ts.getD 64 undef :: ts.getD 65 undef :: ts.getD 66 undef :: ts.getD 67 undef :: ts.getD 68 undef :: ts.getD 69 undef :: ts.getD 70 undef :: ts.getD 71 undef :: ts.getD 72 undef :: ts.getD 73 undef :: ts.getD 74 undef :: ts.getD 75 undef :: ts.getD 76 undef :: ts.getD 77 undef :: ts.getD 78 undef :: ts.getD 79 undef :: ts.getD 80 undef :: ts.getD 81 undef :: [])) [] (by kernel_rfl) rfl ?_
  refine ownU_codeM okL18 (by kernel_rfl) (by decide) ⟨_, Try.func77⟩ fun A d => ?_
  have hii : (idx : Int) < (nl : Int) := by omega
  have hi0 : ¬ (idx : Int) < 0 := by omega
  replace o0 : (tp u A d).cell? ps = some (.int .i64 op) := o0
  replace o1 : (tp u A d).cell? ⟨ps.block, ps.off + 1, none⟩ = some (.int .i64 n) := o1
  replace o2 : (tp u A d).cell? ⟨ps.block, ps.off + 2, none⟩ = some (.string text) := o2
  replace hk := fun ts h h7 h21 => (ownU_tp (u := u.alloc (.cells #[.int .i64 op, .int .i64 n, .string text] 109)) (A := A) (d := d)).2 (hk ts h h7 h21)
  have hsz : (tp u A d).heap.size = u.heap.size := rfl
  replace hk := show ∀ ts, RnTs ts wb c (.slice (some al) nl cl) nl idx → ts.getD 7 undef = ptr (tp u A d).heap.size → ts.getD 21 undef = .int .i64 op → OwnU Try.prog main Z Stop w₀ (rnSw ts cs) ((tp u A d).alloc (.cells #[.int .i64 op, .int .i64 n, .string text] 109)) from hk
  clear hsz
  generalize tp u A d = u1 at *
  conv => arg 2; whnf
  go_wp2_with fail
  refine atEndU ?_
  refine ownU_seq (x := sel [1, 4, 4, 1, 1, 0, 4, 1, 0] bodyRn) (y := sel [1, 4, 4, 1, 1, 0, 4, 1, 1] bodyRn) ?_
  refine ownU_region (id := 3) (ops := opsOf (sel [1, 4, 4, 1, 1, 0, 4, 1, 0] bodyRn)) ?_
  refine ownU_quiet (i := 0) (rest := [1]) (.pointer (some ⟨u1.heap.size, 0, none⟩)) rfl (by rfl) rfl (by decide) (fun _ => by kernel_rfl) ?_
  refine ownU_load (i := 1) (rest := []) ⟨u1.heap.size, 0, none⟩ (.int .i64 op) rfl (by rfl) (by decide) loads_int rfl (by kernel_rfl) (blk_cell (alloc_new' _ _ rfl) 0 _ rfl) ?_
  refine ownU_region_end ?_
  exact hk _ ⟨by kernel_rfl, by kernel_rfl, by kernel_rfl, by kernel_rfl, by kernel_rfl, by kernel_rfl⟩ (by kernel_rfl) (by kernel_rfl)
/-- A call that is walked in company itself; the caller's slots by a name. -/
theorem ownU_enterT {P : Program} {main : Bool} {Z : Addr → Prop} {Stop : Goroutine → World → Prop} {w₀ u : World} {b : Frame} {a : Act} {k : List Item} {cs : List Frame} {ops : Array Oper} {i : Nat} {rest : List Nat} {o : Oper} {f : FuncId} {fn : Func} {c : Code} {args : Array Operand} {ats : Array TypeId} (ho : ops[i]? = some o) (hw : Region.wanted o (yielded ops a.tmps) = true) (hb : b.kind ≠ .early) (hop : o.op = .call { callee := .value (.func f), args, argTypes := ats })
    (hfn : P.funcs[f]? = some fn) (hnm : (fn.name == "runtime.NumGoroutine") = false) (hbd : fn.body = some c)
    (hk : ∀ ts, ts = a.tmps → OwnU P main Z Stop w₀ (G ((base f).at { tmps := args.map a.eval ++ Array.replicate (fn.ntmps - (args.map a.eval).size) undef, defers := [] } [.code c]) (b.at ⟨ts, a.defers⟩ (.inRegion ops (i :: rest) :: k) :: cs)) u) : OwnU P main Z Stop w₀ (G (b.at a (.inRegion ops (i :: rest) :: k)) cs) u :=
  ownU_enter ho hw hb hop hfn hnm hbd (hk _ rfl)
noncomputable def rnFrY (ts : Array Value) : Frame := (base 77).at ⟨ts, []⟩ (.inRegion (opsOf (sel [1, 4, 4, 1, 1, 0, 4, 1, 1, 4, 1, 2] bodyRn)) [1] :: rnRest)
noncomputable def rnFrB (ts : Array Value) : Frame := (base 77).at ⟨ts, []⟩ (.inRegion (opsOf (sel [1, 4, 4, 1, 1, 0, 4, 1, 1, 4, 1, 3, 1, 2] bodyRn)) [1] :: rnRest)
/-- Behind a step. -/
theorem rn_next {main : Bool} {Z : Addr → Prop} {Stop : Goroutine → World → Prop} {w₀ u : World} {wb c nl idx : Nat} {S14 : Value} {ts : Array Value} {cs : List Frame} (h : RnTs ts wb c S14 nl idx) (hidx : idx < 1000000) (hk : ∀ ts, RnTs ts wb c S14 nl (idx + 1) → OwnU Try.prog main Z Stop w₀ (rnHead ts cs) u) : OwnU Try.prog main Z Stop w₀ (G ((base 77).at ⟨ts, []⟩ rnRest) cs) u := by
  have hi : IntKind.i64.wrap ((idx : Int) + 1) = ((idx + 1 : Nat) : Int) := by rw [show ((idx + 1 : Nat) : Int) = (idx : Int) + 1 by omega]; exact wrap_id (by omega) (by omega)
  unfold rnRest
  rw [h.lit]
  refine ownU_inBlock ?_
  refine ownU_inBlock ?_
  refine ownU_region (id := 16) (ops := opsOf (sel [1, 4, 4, 1, 1, 1] bodyRn)) ?_
  refine ownU_quiet (i := 0) (rest := [1]) (.int .i64 ((idx + 1 : Nat) : Int)) rfl (by rfl) rfl (by decide) (fun _ => by rw [← hi]; kernel_rfl) ?_
  refine ownU_quiet (i := 1) (rest := []) (.int .i64 ((idx + 1 : Nat) : Int)) rfl (by rfl) rfl (by decide) (fun _ => by kernel_rfl) ?_
  refine ownU_region_end ?_
  refine ownU_inLoop ?_
  exact hk _ ⟨by kernel_rfl, by kernel_rfl, by kernel_rfl, by kernel_rfl, by kernel_rfl, by kernel_rfl⟩
theorem sw_yield {main : Bool} {Z : Addr → Prop} {Stop : Goroutine → World → Prop} {w₀ u : World} {wb c nl idx xb : Nat} {S14 : Value} {op : Int} {ts : Array Value} {cs : List Frame} (h : RnTs ts wb c S14 nl idx) (h7 : ts.getD 7 undef = ptr xb) (h21 : ts.getD 21 undef = .int .i64 op)  (h0 : op = 0) (hk : ∀ ts', RnTs ts' wb c S14 nl idx → OwnU Try.prog main Z Stop w₀ (yieldIn c (rnFrY ts' :: cs)) u) : OwnU Try.prog main Z Stop w₀ (rnSw ts cs) u := by
  unfold rnSw
  rw [h.litS h7 h21]
  refine ownU_block (id := 2) (c := sel [1, 4, 4, 1, 1, 0, 4, 1, 1, 4] bodyRn) ?_
  refine ownU_seq (x := sel [1, 4, 4, 1, 1, 0, 4, 1, 1, 4, 0] bodyRn) (y := sel [1, 4, 4, 1, 1, 0, 4, 1, 1, 4, 1] bodyRn) ?_
  refine ownU_region (id := 5) (ops := opsOf (sel [1, 4, 4, 1, 1, 0, 4, 1, 1, 4, 0] bodyRn)) ?_
  refine ownU_quiet (i := 0) (rest := [1]) (.bool true) rfl (by rfl) rfl (by decide) (fun _ => eql_f (p := op) (q := 0) rfl (by kernel_rfl) (by kernel_rfl) (by simp [h0])) ?_
  refine ownU_quiet (i := 1) (rest := []) (.bool true) rfl (by rfl) rfl (by decide) (fun _ => by kernel_rfl) ?_
  refine ownU_region_end ?_
  refine ownU_cond (c := .tmp 37) (x := sel [1, 4, 4, 1, 1, 0, 4, 1, 1, 4, 1, 2] bodyRn) (y := sel [1, 4, 4, 1, 1, 0, 4, 1, 1, 4, 1, 3] bodyRn) (t := true) (by kernel_rfl) ?_
  refine ownU_region (id := 6) (ops := opsOf (sel [1, 4, 4, 1, 1, 0, 4, 1, 1, 4, 1, 2] bodyRn)) ?_
  refine ownU_quiet (i := 0) (rest := [1]) (ptr c) rfl (by rfl) rfl (by decide) (fun _ => by kernel_rfl) ?_
  refine ownU_enterT (i := 1) (rest := []) (f := 41) rfl (by rfl) (by decide) rfl Try.func41 (by kernel_rfl) rfl fun ts' hts => ?_
  have hR : RnTs ts' wb c S14 nl idx := by subst hts; exact ⟨by kernel_rfl, by kernel_rfl, by kernel_rfl, by kernel_rfl, by kernel_rfl, by kernel_rfl⟩
  clear hts
  exact ownU_eq (by kernel_rfl) (hk ts' hR)
theorem sw_block {main : Bool} {Z : Addr → Prop} {Stop : Goroutine → World → Prop} {w₀ u : World} {wb c nl idx xb : Nat} {S14 : Value} {op : Int} {ts : Array Value} {cs : List Frame} (h : RnTs ts wb c S14 nl idx) (h7 : ts.getD 7 undef = ptr xb) (h21 : ts.getD 21 undef = .int .i64 op) (h0 : ¬ op = 0) (h1 : op = 1) (hk : ∀ ts', RnTs ts' wb c S14 nl idx → OwnU Try.prog main Z Stop w₀ (blockIn c (rnFrB ts' :: cs)) u) : OwnU Try.prog main Z Stop w₀ (rnSw ts cs) u := by
  unfold rnSw
  rw [h.litS h7 h21]
  refine ownU_block (id := 2) (c := sel [1, 4, 4, 1, 1, 0, 4, 1, 1, 4] bodyRn) ?_
  refine ownU_seq (x := sel [1, 4, 4, 1, 1, 0, 4, 1, 1, 4, 0] bodyRn) (y := sel [1, 4, 4, 1, 1, 0, 4, 1, 1, 4, 1] bodyRn) ?_
  refine ownU_region (id := 5) (ops := opsOf (sel [1, 4, 4, 1, 1, 0, 4, 1, 1, 4, 0] bodyRn)) ?_
  refine ownU_quiet (i := 0) (rest := [1]) (.bool false) rfl (by rfl) rfl (by decide) (fun _ => eql_f (p := op) (q := 0) rfl (by kernel_rfl) (by kernel_rfl) (by simp [h0])) ?_
  refine ownU_quiet (i := 1) (rest := []) (.bool false) rfl (by rfl) rfl (by decide) (fun _ => by kernel_rfl) ?_
  refine ownU_region_end ?_
  refine ownU_cond (c := .tmp 37) (x := sel [1, 4, 4, 1, 1, 0, 4, 1, 1, 4, 1, 2] bodyRn) (y := sel [1, 4, 4, 1, 1, 0, 4, 1, 1, 4, 1, 3] bodyRn) (t := false) (by kernel_rfl) ?_
  refine ownU_seq (x := sel [1, 4, 4, 1, 1, 0, 4, 1, 1, 4, 1, 3, 0] bodyRn) (y := sel [1, 4, 4, 1, 1, 0, 4, 1, 1, 4, 1, 3, 1] bodyRn) ?_
  refine ownU_region (id := 7) (ops := opsOf (sel [1, 4, 4, 1, 1, 0, 4, 1, 1, 4, 1, 3, 0] bodyRn)) ?_
  refine ownU_quiet (i := 0) (rest := [1]) (.bool true) rfl (by rfl) rfl (by decide) (fun _ => eql_f (p := op) (q := 1) rfl (by kernel_rfl) (by kernel_rfl) (by simp [h1])) ?_
  refine ownU_quiet (i := 1) (rest := []) (.bool true) rfl (by rfl) rfl (by decide) (fun _ => by kernel_rfl) ?_
  refine ownU_region_end ?_
  refine ownU_cond (c := .tmp 41) (x := sel [1, 4, 4, 1, 1, 0, 4, 1, 1, 4, 1, 3, 1, 2] bodyRn) (y := sel [1, 4, 4, 1, 1, 0, 4, 1, 1, 4, 1, 3, 1, 3] bodyRn) (t := true) (by kernel_rfl) ?_
  refine ownU_region (id := 8) (ops := opsOf (sel [1, 4, 4, 1, 1, 0, 4, 1, 1, 4, 1, 3, 1, 2] bodyRn)) ?_
  refine ownU_quiet (i := 0) (rest := [1]) (ptr c) rfl (by rfl) rfl (by decide) (fun _ => by kernel_rfl) ?_
  refine ownU_enterT (i := 1) (rest := []) (f := 60) rfl (by rfl) (by decide) rfl Try.func60 (by kernel_rfl) rfl fun ts' hts => ?_
  have hR : RnTs ts' wb c S14 nl idx := by subst hts; exact ⟨by kernel_rfl, by kernel_rfl, by kernel_rfl, by kernel_rfl, by kernel_rfl, by kernel_rfl⟩
  clear hts
  exact ownU_eq (by kernel_rfl) (hk ts' hR)
theorem sw_panic {main : Bool} {Z : Addr → Prop} {Stop : Goroutine → World → Prop} {w₀ u : World} {wb c nl idx xb tb fb f nb ch : Nat} {S14 : Value} {op : Int} {text : ByteArray} {ts : Array Value} (h : RnTs ts wb c S14 nl idx) (h7 : ts.getD 7 undef = ptr xb) (h21 : ts.getD 21 undef = .int .i64 op) (h0 : ¬ op = 0) (h1 : ¬ op = 1) (h2 : ¬ op = 2) (h3 : op = 3) (hx2 : u.cell? ⟨xb, 2, none⟩ = some (.string text)) (hk : OwnU Try.prog main Z Stop w₀ (G ((runFrame c nb ch (fvK tb fb)).raise [{ v := .iface 9 (.string text), recovered := false }]) [botR]) u) : OwnU Try.prog main Z Stop w₀ (rnSw ts (rnCs wb c tb fb f nb ch)) u := by
  unfold rnSw
  rw [h.litS h7 h21]
  refine ownU_block (id := 2) (c := sel [1, 4, 4, 1, 1, 0, 4, 1, 1, 4] bodyRn) ?_
  refine ownU_seq (x := sel [1, 4, 4, 1, 1, 0, 4, 1, 1, 4, 0] bodyRn) (y := sel [1, 4, 4, 1, 1, 0, 4, 1, 1, 4, 1] bodyRn) ?_
  refine ownU_region (id := 5) (ops := opsOf (sel [1, 4, 4, 1, 1, 0, 4, 1, 1, 4, 0] bodyRn)) ?_
  refine ownU_quiet (i := 0) (rest := [1]) (.bool false) rfl (by rfl) rfl (by decide) (fun _ => eql_f (p := op) (q := 0) rfl (by kernel_rfl) (by kernel_rfl) (by simp [h0])) ?_
  refine ownU_quiet (i := 1) (rest := []) (.bool false) rfl (by rfl) rfl (by decide) (fun _ => by kernel_rfl) ?_
  refine ownU_region_end ?_
  refine ownU_cond (c := .tmp 37) (x := sel [1, 4, 4, 1, 1, 0, 4, 1, 1, 4, 1, 2] bodyRn) (y := sel [1, 4, 4, 1, 1, 0, 4, 1, 1, 4, 1, 3] bodyRn) (t := false) (by kernel_rfl) ?_
  refine ownU_seq (x := sel [1, 4, 4, 1, 1, 0, 4, 1, 1, 4, 1, 3, 0] bodyRn) (y := sel [1, 4, 4, 1, 1, 0, 4, 1, 1, 4, 1, 3, 1] bodyRn) ?_
  refine ownU_region (id := 7) (ops := opsOf (sel [1, 4, 4, 1, 1, 0, 4, 1, 1, 4, 1, 3, 0] bodyRn)) ?_
  refine ownU_quiet (i := 0) (rest := [1]) (.bool false) rfl (by rfl) rfl (by decide) (fun _ => eql_f (p := op) (q := 1) rfl (by kernel_rfl) (by kernel_rfl) (by simp [h1])) ?_
  refine ownU_quiet (i := 1) (rest := []) (.bool false) rfl (by rfl) rfl (by decide) (fun _ => by kernel_rfl) ?_
  refine ownU_region_end ?_
  refine ownU_cond (c := .tmp 41) (x := sel [1, 4, 4, 1, 1, 0, 4, 1, 1, 4, 1, 3, 1, 2] bodyRn) (y := sel [1, 4, 4, 1, 1, 0, 4, 1, 1, 4, 1, 3, 1, 3] bodyRn) (t := false) (by kernel_rfl) ?_
  refine ownU_seq (x := sel [1, 4, 4, 1, 1, 0, 4, 1, 1, 4, 1, 3, 1, 3, 0] bodyRn) (y := sel [1, 4, 4, 1, 1, 0, 4, 1, 1, 4, 1, 3, 1, 3, 1] bodyRn) ?_
  refine ownU_region (id := 9) (ops := opsOf (sel [1, 4, 4, 1, 1, 0, 4, 1, 1, 4, 1, 3, 1, 3, 0] bodyRn)) ?_
  refine ownU_quiet (i := 0) (rest := [1]) (.bool false) rfl (by rfl) rfl (by decide) (fun _ => eql_f (p := op) (q := 2) rfl (by kernel_rfl) (by kernel_rfl) (by simp [h2])) ?_
  refine ownU_quiet (i := 1) (rest := []) (.bool false) rfl (by rfl) rfl (by decide) (fun _ => by kernel_rfl) ?_
  refine ownU_region_end ?_
  refine ownU_cond (c := .tmp 45) (x := sel [1, 4, 4, 1, 1, 0, 4, 1, 1, 4, 1, 3, 1, 3, 1, 2] bodyRn) (y := sel [1, 4, 4, 1, 1, 0, 4, 1, 1, 4, 1, 3, 1, 3, 1, 3] bodyRn) (t := false) (by kernel_rfl) ?_
  refine ownU_seq (x := sel [1, 4, 4, 1, 1, 0, 4, 1, 1, 4, 1, 3, 1, 3, 1, 3, 0] bodyRn) (y := sel [1, 4, 4, 1, 1, 0, 4, 1, 1, 4, 1, 3, 1, 3, 1, 3, 1] bodyRn) ?_
  refine ownU_region (id := 12) (ops := opsOf (sel [1, 4, 4, 1, 1, 0, 4, 1, 1, 4, 1, 3, 1, 3, 1, 3, 0] bodyRn)) ?_
  refine ownU_quiet (i := 0) (rest := [1]) (.bool true) rfl (by rfl) rfl (by decide) (fun _ => eql_f (p := op) (q := 3) rfl (by kernel_rfl) (by kernel_rfl) (by simp [h3])) ?_
  refine ownU_quiet (i := 1) (rest := []) (.bool true) rfl (by rfl) rfl (by decide) (fun _ => by kernel_rfl) ?_
  refine ownU_region_end ?_
  refine ownU_cond (c := .tmp 65) (x := sel [1, 4, 4, 1, 1, 0, 4, 1, 1, 4, 1, 3, 1, 3, 1, 3, 1, 2] bodyRn) (y := sel [1, 4, 4, 1, 1, 0, 4, 1, 1, 4, 1, 3, 1, 3, 1, 3, 1, 3] bodyRn) (t := true) (by kernel_rfl) ?_
  refine ownU_region (id := 13) (ops := opsOf (sel [1, 4, 4, 1, 1, 0, 4, 1, 1, 4, 1, 3, 1, 3, 1, 3, 1, 2] bodyRn)) ?_
  refine ownU_quiet (i := 0) (rest := [1, 2, 3, 4]) (ptr c) rfl (by rfl) rfl (by decide) (fun _ => by kernel_rfl) ?_
  refine ownU_quiet (i := 1) (rest := [2, 3, 4]) (.pointer (some ⟨xb, 2, none⟩)) rfl (by rfl) rfl (by decide) (fun _ => by kernel_rfl) ?_
  refine ownU_load (i := 2) (rest := [3, 4]) ⟨xb, 2, none⟩ (.string text) rfl (by rfl) (by decide) loads_str rfl (by kernel_rfl) hx2 ?_
  refine ownU_quiet (i := 3) (rest := [4]) (.iface 9 (.string text)) rfl (by rfl) rfl (by decide) (fun _ => by kernel_rfl) ?_
  refine ownU_enter (i := 4) (rest := []) (f := 39) rfl (by rfl) (by decide) rfl Try.func39 (by kernel_rfl) rfl ?_
  refine ownU_fr (fr2 := (base 39).at ⟨#[ptr c, .iface 9 (.string text), undef, undef, undef], []⟩ [.code bodyPn]) (by kernel_rfl) ?_
  refine panic_call ?_
  rw [raise_raise rfl]
  refine ownU_unwind rfl rfl Try.func77 ?_
  rw [raise_raise rfl]
  exact ownU_unwind rfl rfl Try.func76 hk
theorem sw_wake {main : Bool} {Z : Addr → Prop} {Stop : Goroutine → World → Prop} {w₀ u : World} {wb c nl idx xb : Nat} {S14 : Value} {op : Int} {ts : Array Value} {cs : List Frame} {sb : Nat} {n : Int} {Qw : World → Prop} (h : RnTs ts wb c S14 nl idx) (h7 : ts.getD 7 undef = ptr xb) (h21 : ts.getD 21 undef = .int .i64 op) (h0 : ¬ op = 0) (h1 : ¬ op = 1) (h2 : ¬ op = 2) (h3 : ¬ op = 3) (h4 : op = 4) (hw0 : u.cell? ⟨wb, 0, none⟩ = some (ptr sb)) (hx1 : u.cell? ⟨xb, 1, none⟩ = some (.int .i64 n))
    (hwk : ∀ A d, Calls Try.prog 49 #[ptr sb, .int .i64 n] (tp u A d) fun e w' => (∃ z, e = .returned (.bool z)) ∧ Qw w') (hk : ∀ ts' u', RnTs ts' wb c S14 nl idx → Qw u' → OwnU Try.prog main Z Stop w₀ (G ((base 77).at ⟨ts', []⟩ rnRest) cs) u') : OwnU Try.prog main Z Stop w₀ (rnSw ts cs) u := by
  unfold rnSw
  rw [h.litS h7 h21]
  refine ownU_block (id := 2) (c := sel [1, 4, 4, 1, 1, 0, 4, 1, 1, 4] bodyRn) ?_
  refine ownU_seq (x := sel [1, 4, 4, 1, 1, 0, 4, 1, 1, 4, 0] bodyRn) (y := sel [1, 4, 4, 1, 1, 0, 4, 1, 1, 4, 1] bodyRn) ?_
  refine ownU_region (id := 5) (ops := opsOf (sel [1, 4, 4, 1, 1, 0, 4, 1, 1, 4, 0] bodyRn)) ?_
  refine ownU_quiet (i := 0) (rest := [1]) (.bool false) rfl (by rfl) rfl (by decide) (fun _ => eql_f (p := op) (q := 0) rfl (by kernel_rfl) (by kernel_rfl) (by simp [h0])) ?_
  refine ownU_quiet (i := 1) (rest := []) (.bool false) rfl (by rfl) rfl (by decide) (fun _ => by kernel_rfl) ?_
  refine ownU_region_end ?_
  refine ownU_cond (c := .tmp 37) (x := sel [1, 4, 4, 1, 1, 0, 4, 1, 1, 4, 1, 2] bodyRn) (y := sel [1, 4, 4, 1, 1, 0, 4, 1, 1, 4, 1, 3] bodyRn) (t := false) (by kernel_rfl) ?_
  refine ownU_seq (x := sel [1, 4, 4, 1, 1, 0, 4, 1, 1, 4, 1, 3, 0] bodyRn) (y := sel [1, 4, 4, 1, 1, 0, 4, 1, 1, 4, 1, 3, 1] bodyRn) ?_
  refine ownU_region (id := 7) (ops := opsOf (sel [1, 4, 4, 1, 1, 0, 4, 1, 1, 4, 1, 3, 0] bodyRn)) ?_
  refine ownU_quiet (i := 0) (rest := [1]) (.bool false) rfl (by rfl) rfl (by decide) (fun _ => eql_f (p := op) (q := 1) rfl (by kernel_rfl) (by kernel_rfl) (by simp [h1])) ?_
  refine ownU_quiet (i := 1) (rest := []) (.bool false) rfl (by rfl) rfl (by decide) (fun _ => by kernel_rfl) ?_
  refine ownU_region_end ?_
  refine ownU_cond (c := .tmp 41) (x := sel [1, 4, 4, 1, 1, 0, 4, 1, 1, 4, 1, 3, 1, 2] bodyRn) (y := sel [1, 4, 4, 1, 1, 0, 4, 1, 1, 4, 1, 3, 1, 3] bodyRn) (t := false) (by kernel_rfl) ?_
  refine ownU_seq (x := sel [1, 4, 4, 1, 1, 0, 4, 1, 1, 4, 1, 3, 1, 3, 0] bodyRn) (y := sel [1, 4, 4, 1, 1, 0, 4, 1, 1, 4, 1, 3, 1, 3, 1] bodyRn) ?_
  refine ownU_region (id := 9) (ops := opsOf (sel [1, 4, 4, 1, 1, 0, 4, 1, 1, 4, 1, 3, 1, 3, 0] bodyRn)) ?_
  refine ownU_quiet (i := 0) (rest := [1]) (.bool false) rfl (by rfl) rfl (by decide) (fun _ => eql_f (p := op) (q := 2) rfl (by kernel_rfl) (by kernel_rfl) (by simp [h2])) ?_
  refine ownU_quiet (i := 1) (rest := []) (.bool false) rfl (by rfl) rfl (by decide) (fun _ => by kernel_rfl) ?_
  refine ownU_region_end ?_
  refine ownU_cond (c := .tmp 45) (x := sel [1, 4, 4, 1, 1, 0, 4, 1, 1, 4, 1, 3, 1, 3, 1, 2] bodyRn) (y := sel [1, 4, 4, 1, 1, 0, 4, 1, 1, 4, 1, 3, 1, 3, 1, 3] bodyRn) (t := false) (by kernel_rfl) ?_
  refine ownU_seq (x := sel [1, 4, 4, 1, 1, 0, 4, 1, 1, 4, 1, 3, 1, 3, 1, 3, 0] bodyRn) (y := sel [1, 4, 4, 1, 1, 0, 4, 1, 1, 4, 1, 3, 1, 3, 1, 3, 1] bodyRn) ?_
  refine ownU_region (id := 12) (ops := opsOf (sel [1, 4, 4, 1, 1, 0, 4, 1, 1, 4, 1, 3, 1, 3, 1, 3, 0] bodyRn)) ?_
  refine ownU_quiet (i := 0) (rest := [1]) (.bool false) rfl (by rfl) rfl (by decide) (fun _ => eql_f (p := op) (q := 3) rfl (by kernel_rfl) (by kernel_rfl) (by simp [h3])) ?_
  refine ownU_quiet (i := 1) (rest := []) (.bool false) rfl (by rfl) rfl (by decide) (fun _ => by kernel_rfl) ?_
  refine ownU_region_end ?_
  refine ownU_cond (c := .tmp 65) (x := sel [1, 4, 4, 1, 1, 0, 4, 1, 1, 4, 1, 3, 1, 3, 1, 3, 1, 2] bodyRn) (y := sel [1, 4, 4, 1, 1, 0, 4, 1, 1, 4, 1, 3, 1, 3, 1, 3, 1, 3] bodyRn) (t := false) (by kernel_rfl) ?_
  refine ownU_seq (x := sel [1, 4, 4, 1, 1, 0, 4, 1, 1, 4, 1, 3, 1, 3, 1, 3, 1, 3, 0] bodyRn) (y := sel [1, 4, 4, 1, 1, 0, 4, 1, 1, 4, 1, 3, 1, 3, 1, 3, 1, 3, 1] bodyRn) ?_
  refine ownU_region (id := 14) (ops := opsOf (sel [1, 4, 4, 1, 1, 0, 4, 1, 1, 4, 1, 3, 1, 3, 1, 3, 1, 3, 0] bodyRn)) ?_
  refine ownU_quiet (i := 0) (rest := [1]) (.bool true) rfl (by rfl) rfl (by decide) (fun _ => eql_f (p := op) (q := 4) rfl (by kernel_rfl) (by kernel_rfl) (by simp [h4])) ?_
  refine ownU_quiet (i := 1) (rest := []) (.bool true) rfl (by rfl) rfl (by decide) (fun _ => by kernel_rfl) ?_
  refine ownU_region_end ?_
  refine ownU_cond (c := .tmp 72) (x := sel [1, 4, 4, 1, 1, 0, 4, 1, 1, 4, 1, 3, 1, 3, 1, 3, 1, 3, 1, 2] bodyRn) (y := sel [1, 4, 4, 1, 1, 0, 4, 1, 1, 4, 1, 3, 1, 3, 1, 3, 1, 3, 1, 3] bodyRn) (t := true) (by kernel_rfl) ?_
  refine ownU_lit (List.toArray (ptr wb :: ptr c :: ts.getD 2 undef :: ts.getD 3 undef :: ts.getD 4 undef :: ts.getD 5 undef :: ts.getD 6 undef :: ptr xb :: ts.getD 8 undef :: ts.getD 9 undef :: ts.getD 10 undef :: ts.getD 11 undef :: ts.getD 12 undef :: ts.getD 13 undef :: S14 :: .int .i64 (nl : Int) :: .int .i64 (idx : Int) :: ts.getD 17 undef :: ts.getD 18 undef :: ts.getD 19 undef :: ts.getD 20 undef :: .int .i64 op :: ts.getD 22 undef :: ts.getD 23 undef :: ts.getD 24 undef :: ts.getD 25 undef :: ts.getD 26 undef :: ts.getD 27 undef :: ts.getD 28 undef :: ts.getD 29 undef :: ts.getD 30 undef :: ts.getD 31 undef :: ts.getD 32 undef :: ts.getD 33 undef :: ts.getD 34 undef :: ts.getD 35 undef :: ts.getD 36 undef :: .bool false :: .bool false :: ts.getD 39 undef :: ts.getD 40 undef :: .bool false :: .bool false :: ts.getD 43 undef :: ts.getD 44 undef :: .bool false :: .bool false :: ts.getD 47 undef :: ts.getD 48 undef :: ts.getD 49 undef :: ts.getD 50 undef :: ts.getD 51 undef :: ts.getD 52 undef :: ts.getD 53 undef :: ts.getD 54 undef :: ts.getD 55 undef :: ts.getD 56 undef :: ts.getD 57 undef :: ts.getD 58 undef :: ts.getD 59 undef :: ts.getD 60 undef :: ts.getD 61 undef :: ts.getD 62 undef :: ts.getD 63 undef :: ts.getD 64 undef :: .bool false :: .bool false :: ts.getD 67 undef :: ts.getD 68 undef :: ts.getD 69 undef :: ts.getD 70 undef :: ts.getD 71 undef :: .bool true :: .bool true :: ts.getD 74 undef :: ts.getD 75 undef :: ts.getD 76 undef :: ts.getD 77 undef :: ts.getD 78 undef :: ts.getD 79 undef :: ts.getD 80 undef :: ts.getD 81 undef :: [])) [] (by kernel_rfl) rfl ?_
  refine ownU_codeM okL18 (by kernel_rfl) (by decide) ⟨_, Try.func77⟩ fun A d => ?_
  replace hw0 : (tp u A d).cell? ⟨wb, 0, none⟩ = some (ptr sb) := hw0
  replace hx1 : (tp u A d).cell? ⟨xb, 1, none⟩ = some (.int .i64 n) := hx1
  have hmix : Try.prog.follows .mixedOrders = true := by kernel_rfl
  have hwk' := fun d => hwk A d
  clear hwk
  unfold ptr at *
  conv => arg 2; whnf
  go_region_with_o (go_at_call 49; refine (hwk' _).mono ?_; rintro e w' ⟨⟨z, rfl⟩, hQ⟩)
  all_goals
    refine atEndU ?_
    exact hk _ _ ⟨by kernel_rfl, by kernel_rfl, by kernel_rfl, by kernel_rfl, by kernel_rfl, by kernel_rfl⟩ hQ
end Go.Proofs.Ytolnmdanlggmhaa

/- world.run: the trace. (Printed by gen_rn2.py.) -/
namespace Go.Proofs.Ytolnmdanlggmhaa
open Go.RowKit Go.Maps Go.Conc
open Go.ConcN (upd upd_ne upd_same)

set_option maxRecDepth 100000
set_option maxHeartbeats 2000000

/-- The law's world: its box (tag 6), the row of its trace (tag 7). -/
structure TrAt (own : Nat → Nat) (wb sb : Nat) (F : Value) (n : Nat) (tr : List ByteArray) (w : World) : Prop where
  box : ∃ v, w.heap[wb]? = some (.cells #[ptr sb, F, .int .i64 (n : Int), v] 72 (0, 0)) ∧ QRow w v (strsL tr) ∧ ∀ g, v.ownBlock = some g → own g = 7
  wb : own wb = 6
theorem TrAt.keep {own own' : Nat → Nat} {wb sb n : Nat} {F : Value} {tr : List ByteArray} {w w' : World} (h : TrAt own wb sb F n tr w) (le : OLe own own') (hb : ∀ b, own b = 6 ∨ own b = 7 → w'.heap[b]? = w.heap[b]?) : TrAt own' wb sb F n tr w' := by
  obtain ⟨⟨v, h1, h2, h3⟩, h4⟩ := h
  exact ⟨⟨v, (hb _ (.inl h4)).trans h1, h2.keep fun g hg => hb g (.inr (h3 g hg)), fun g hg => le.tag (h3 g hg) (by omega)⟩, le.tag h4 (by omega)⟩
theorem TrAt.same6 {own own' : Nat → Nat} {wb sb n : Nat} {F : Value} {tr : List ByteArray} {w w' : World} (h : TrAt own wb sb F n tr w) (le : OLe own own') (hs : Same6 own w w') : TrAt own' wb sb F n tr w' := h.keep le fun b hb => hs b (by omega)
/-- What an append to it, and the store, do. -/
theorem tr_stp {own : Nat → Nat} {wb sb n : Nat} {F v v' : Value} {xs : List ByteArray} {u u1 u2 : World} (hlt : ∀ b, own b ≠ 0 → b < u.heap.size) (hob : own wb = 6) (h3 : ∀ g, v.ownBlock = some g → own g = 7) (hbox : u.heap[wb]? = some (.cells #[ptr sb, F, .int .i64 (n : Int), v] 72 (0, 0))) (hnew : New u u1)
    (hr : QRow u2 v' (strsL xs)) (ho : u2.os = u1.os) (hou : u2.output = u1.output) (hs : u1.heap.size ≤ u2.heap.size) (hb : ∀ g, g < u1.heap.size → v.ownBlock ≠ some g → u2.heap[g]? = u1.heap[g]?) (hat : v'.ownBlock = v.ownBlock ∨ ∀ g, v'.ownBlock = some g → u1.heap.size ≤ g) :
    ∃ own', TrAt own' wb sb F n xs (u2.setCell ⟨wb, 3, none⟩ v') ∧ Stp (fun t => t = 6 ∨ t = 7) own own' u (u2.setCell ⟨wb, 3, none⟩ v') ∧ u2.cell? ⟨wb, 3, none⟩ = some v ∧ u2.frozen? ⟨wb, 3, none⟩ = false := by
  have hobl := obj_lt hbox
  have hne : v.ownBlock ≠ some wb := fun e => by have := h3 _ e; omega
  have h1s := hnew.size
  have hbox2 : u2.heap[wb]? = some (.cells #[ptr sb, F, .int .i64 (n : Int), v] 72 (0, 0)) := (hb wb (by omega) hne).trans ((hnew.block wb hobl).trans hbox)
  have hset : ∀ b, b ≠ wb → (u2.setCell ⟨wb, 3, none⟩ v').heap[b]? = u2.heap[b]? := fun b hn => by rw [setCell_get, if_neg (fun e => hn e.symm)]
  have hlo : ∀ g, v'.ownBlock = some g → own g = 7 ∨ u.heap.size ≤ g := fun g hg => by
    rcases hat with e | e
    · exact .inl (h3 g (by rw [← e]; exact hg))
    · exact .inr (by have := e g hg; omega)
  have st : Stp (fun t => t = 6 ∨ t = 7) own (retagC own 7 (fun b => v'.ownBlock = some b)) u (u2.setCell ⟨wb, 3, none⟩ v') := by
    have hsz : (u2.setCell ⟨wb, 3, none⟩ v').heap.size = u2.heap.size := setCell_size _ _ _
    refine ⟨ho.trans hnew.os, hou.trans hnew.output, by omega, fun b hl hn => ?_, fun b hn => ?_, fun b hz hn => ?_, fun b hn => ?_⟩
    · have h6 : b ≠ wb := fun e => by subst e; omega
      have h7 : v.ownBlock ≠ some b := fun e => by have := h3 _ e; omega
      rw [hset b h6, hb b (by omega) h7, hnew.block b hl]
    · by_cases hv : v'.ownBlock = some b
      · rw [retagC_in hv]
        rcases hlo b hv with h | h
        · exact h.symm
        · have := hlt b hn; omega
      · exact retagC_out hv
    · by_cases hv : v'.ownBlock = some b
      · rcases hlo b hv with h | h
        · omega
        · exact h
      · rw [retagC_out hv] at hn; exact absurd hz hn
    · rw [hsz]
      by_cases hv : v'.ownBlock = some b
      · exact hr.lt b hv
      · rw [retagC_out hv] at hn; have := hlt b hn; omega
  refine ⟨retagC own 7 (fun b => v'.ownBlock = some b), ⟨⟨v', ?_, hr.keep fun g hg => hset g fun e => ?_, fun g hg => retagC_in hg⟩, st.le.tag hob (by omega)⟩, st, ?_, ?_⟩
  · rw [setCell_get, if_pos rfl, hbox2]
    rfl
  · subst e
    rcases hlo g hg with h | h <;> omega
  · unfold World.cell?
    simp [hbox2]
  · unfold World.frozen?
    simp [hbox2]
/-- One element appended to a row of one's own, at a step of a region that draws its order. -/
theorem step_appQ {P : Program} (w : World) {ops : Array Oper} {o : Oper} {a : Act} {K : Act → World → Prop} {Q : Exit → Act → World → Prop} {E : Prop} (hgd : o.guard = none) (s x : Operand) (t : TypeId)
    (ho : o.op = .call { callee := .builtin .append, args := #[s, x], argTypes := #[t, t] }) (e : TypeId) (i : TypeInfo) (z : Value) (bytes : Nat) (ht : P.underlying t = some (.slice e)) (hi : P.info? e = some i) (hz : i.zero = some z)
    (hsize : i.size = 1) (hby : i.bytes = bytes) (hzs : z.cells.size = 1) (v : Value) (xs : List Value) (hs : a.eval s = v) (hq : QRow w v xs)
    (ad : Addr) (c : Nat) (u : Value) (hx : a.eval x = .slice (some ad) 1 c) (hu : w.cell? ad = some u) (h1 : u.oneCell' = true) (h63 : xs.length + 1 ≤ maxLen) (hbytes : (xs.length + 1) * bytes ≤ 140737488355328)
    (h : ∀ v' w', QRow w' v' (xs ++ [u]) → w.grownBy w' v.ownBlock → (v'.ownBlock = v.ownBlock ∨ ∀ g, v'.ownBlock = some g → w.heap.size ≤ g) → K (a.put o.dst v') w') :
    if Region.wanted o (yielded ops a.tmps) = true then Oper.wp P o a w K Q else E := by
  have hw : Region.wanted o (yielded ops a.tmps) = true := by simp [Region.wanted, hgd]
  rw [if_pos hw]
  obtain ⟨v', w', hrun, h2, h3, h4⟩ := run_append_q (P := P) w t o.type e i z bytes ht hi hz hsize hby hzs v xs hq ad 1 c u [] rfl (fun m u' hm => by
    rcases m with _ | m
    · simp only [List.getElem?_cons_zero, Option.some.injEq] at hm
      subst hm
      rw [show ad.add 0 = ad by unfold Addr.add; simp]
      exact hu
    · simp at hm) (by simpa using h1) (.inl rfl) h63 hbytes
  unfold Oper.wp execOp
  simp only [ho, resolve, invoke, builtin, Sem.run_bind, Sem.run_pure, Result.andThen_ok, List.map_toArray, List.map_cons, List.map_nil, hs, hx, hrun]
  exact h v' w' h2 h3 h4
theorem sw_trace {main : Bool} {Z : Addr → Prop} {Stop : Goroutine → World → Prop} {w₀ u : World} {wb c nl idx xb : Nat} {S14 : Value} {op : Int} {ts : Array Value} {cs : List Frame} {own : Nat → Nat} {sb i n : Nat} {F : Value} {tr : List ByteArray} {text : ByteArray} (h : RnTs ts wb c S14 nl idx) (h7 : ts.getD 7 undef = ptr xb) (h21 : ts.getD 21 undef = .int .i64 op) (h0 : ¬ op = 0) (h1 : ¬ op = 1) (h2 : ¬ op = 2) (h3 : ¬ op = 3) (h4 : ¬ op = 4) (hT : TrAt own wb sb F n tr u) (hlt : ∀ b, own b ≠ 0 → b < u.heap.size) (hx2 : u.cell? ⟨xb, 2, none⟩ = some (.string text)) (hid : ∀ A d, Calls Try.prog 46 #[ptr c] (tp u A d) fun e w' => e = .returned (.int .i64 ((i : Int) + 1)) ∧ w' = tp u A d) (hi20 : i < 20) (hts : text.size ≤ 140737488355328) (htr : tr.length ≤ 5000)
    (hk : ∀ ts' own' u', RnTs ts' wb c S14 nl idx → TrAt own' wb sb F n (tr ++ [rDigit 3 (i + 1) ++ text]) u' → Stp (fun t => t = 6 ∨ t = 7) own own' u u' → OwnU Try.prog main Z Stop w₀ (G ((base 77).at ⟨ts', []⟩ rnRest) cs) u') : OwnU Try.prog main Z Stop w₀ (rnSw ts cs) u := by
  unfold rnSw
  rw [h.litS h7 h21]
  refine ownU_block (id := 2) (c := sel [1, 4, 4, 1, 1, 0, 4, 1, 1, 4] bodyRn) ?_
  refine ownU_seq (x := sel [1, 4, 4, 1, 1, 0, 4, 1, 1, 4, 0] bodyRn) (y := sel [1, 4, 4, 1, 1, 0, 4, 1, 1, 4, 1] bodyRn) ?_
  refine ownU_region (id := 5) (ops := opsOf (sel [1, 4, 4, 1, 1, 0, 4, 1, 1, 4, 0] bodyRn)) ?_
  refine ownU_quiet (i := 0) (rest := [1]) (.bool false) rfl (by rfl) rfl (by decide) (fun _ => eql_f (p := op) (q := 0) rfl (by kernel_rfl) (by kernel_rfl) (by simp [h0])) ?_
  refine ownU_quiet (i := 1) (rest := []) (.bool false) rfl (by rfl) rfl (by decide) (fun _ => by kernel_rfl) ?_
  refine ownU_region_end ?_
  refine ownU_cond (c := .tmp 37) (x := sel [1, 4, 4, 1, 1, 0, 4, 1, 1, 4, 1, 2] bodyRn) (y := sel [1, 4, 4, 1, 1, 0, 4, 1, 1, 4, 1, 3] bodyRn) (t := false) (by kernel_rfl) ?_
  refine ownU_seq (x := sel [1, 4, 4, 1, 1, 0, 4, 1, 1, 4, 1, 3, 0] bodyRn) (y := sel [1, 4, 4, 1, 1, 0, 4, 1, 1, 4, 1, 3, 1] bodyRn) ?_
  refine ownU_region (id := 7) (ops := opsOf (sel [1, 4, 4, 1, 1, 0, 4, 1, 1, 4, 1, 3, 0] bodyRn)) ?_
  refine ownU_quiet (i := 0) (rest := [1]) (.bool false) rfl (by rfl) rfl (by decide) (fun _ => eql_f (p := op) (q := 1) rfl (by kernel_rfl) (by kernel_rfl) (by simp [h1])) ?_
  refine ownU_quiet (i := 1) (rest := []) (.bool false) rfl (by rfl) rfl (by decide) (fun _ => by kernel_rfl) ?_
  refine ownU_region_end ?_
  refine ownU_cond (c := .tmp 41) (x := sel [1, 4, 4, 1, 1, 0, 4, 1, 1, 4, 1, 3, 1, 2] bodyRn) (y := sel [1, 4, 4, 1, 1, 0, 4, 1, 1, 4, 1, 3, 1, 3] bodyRn) (t := false) (by kernel_rfl) ?_
  refine ownU_seq (x := sel [1, 4, 4, 1, 1, 0, 4, 1, 1, 4, 1, 3, 1, 3, 0] bodyRn) (y := sel [1, 4, 4, 1, 1, 0, 4, 1, 1, 4, 1, 3, 1, 3, 1] bodyRn) ?_
  refine ownU_region (id := 9) (ops := opsOf (sel [1, 4, 4, 1, 1, 0, 4, 1, 1, 4, 1, 3, 1, 3, 0] bodyRn)) ?_
  refine ownU_quiet (i := 0) (rest := [1]) (.bool false) rfl (by rfl) rfl (by decide) (fun _ => eql_f (p := op) (q := 2) rfl (by kernel_rfl) (by kernel_rfl) (by simp [h2])) ?_
  refine ownU_quiet (i := 1) (rest := []) (.bool false) rfl (by rfl) rfl (by decide) (fun _ => by kernel_rfl) ?_
  refine ownU_region_end ?_
  refine ownU_cond (c := .tmp 45) (x := sel [1, 4, 4, 1, 1, 0, 4, 1, 1, 4, 1, 3, 1, 3, 1, 2] bodyRn) (y := sel [1, 4, 4, 1, 1, 0, 4, 1, 1, 4, 1, 3, 1, 3, 1, 3] bodyRn) (t := false) (by kernel_rfl) ?_
  refine ownU_seq (x := sel [1, 4, 4, 1, 1, 0, 4, 1, 1, 4, 1, 3, 1, 3, 1, 3, 0] bodyRn) (y := sel [1, 4, 4, 1, 1, 0, 4, 1, 1, 4, 1, 3, 1, 3, 1, 3, 1] bodyRn) ?_
  refine ownU_region (id := 12) (ops := opsOf (sel [1, 4, 4, 1, 1, 0, 4, 1, 1, 4, 1, 3, 1, 3, 1, 3, 0] bodyRn)) ?_
  refine ownU_quiet (i := 0) (rest := [1]) (.bool false) rfl (by rfl) rfl (by decide) (fun _ => eql_f (p := op) (q := 3) rfl (by kernel_rfl) (by kernel_rfl) (by simp [h3])) ?_
  refine ownU_quiet (i := 1) (rest := []) (.bool false) rfl (by rfl) rfl (by decide) (fun _ => by kernel_rfl) ?_
  refine ownU_region_end ?_
  refine ownU_cond (c := .tmp 65) (x := sel [1, 4, 4, 1, 1, 0, 4, 1, 1, 4, 1, 3, 1, 3, 1, 3, 1, 2] bodyRn) (y := sel [1, 4, 4, 1, 1, 0, 4, 1, 1, 4, 1, 3, 1, 3, 1, 3, 1, 3] bodyRn) (t := false) (by kernel_rfl) ?_
  refine ownU_seq (x := sel [1, 4, 4, 1, 1, 0, 4, 1, 1, 4, 1, 3, 1, 3, 1, 3, 1, 3, 0] bodyRn) (y := sel [1, 4, 4, 1, 1, 0, 4, 1, 1, 4, 1, 3, 1, 3, 1, 3, 1, 3, 1] bodyRn) ?_
  refine ownU_region (id := 14) (ops := opsOf (sel [1, 4, 4, 1, 1, 0, 4, 1, 1, 4, 1, 3, 1, 3, 1, 3, 1, 3, 0] bodyRn)) ?_
  refine ownU_quiet (i := 0) (rest := [1]) (.bool false) rfl (by rfl) rfl (by decide) (fun _ => eql_f (p := op) (q := 4) rfl (by kernel_rfl) (by kernel_rfl) (by simp [h4])) ?_
  refine ownU_quiet (i := 1) (rest := []) (.bool false) rfl (by rfl) rfl (by decide) (fun _ => by kernel_rfl) ?_
  refine ownU_region_end ?_
  refine ownU_cond (c := .tmp 72) (x := sel [1, 4, 4, 1, 1, 0, 4, 1, 1, 4, 1, 3, 1, 3, 1, 3, 1, 3, 1, 2] bodyRn) (y := sel [1, 4, 4, 1, 1, 0, 4, 1, 1, 4, 1, 3, 1, 3, 1, 3, 1, 3, 1, 3] bodyRn) (t := false) (by kernel_rfl) ?_
  refine ownU_lit (List.toArray (ptr wb :: ptr c :: ts.getD 2 undef :: ts.getD 3 undef :: ts.getD 4 undef :: ts.getD 5 undef :: ts.getD 6 undef :: ptr xb :: ts.getD 8 undef :: ts.getD 9 undef :: ts.getD 10 undef :: ts.getD 11 undef :: ts.getD 12 undef :: ts.getD 13 undef :: S14 :: .int .i64 (nl : Int) :: .int .i64 (idx : Int) :: ts.getD 17 undef :: ts.getD 18 undef :: ts.getD 19 undef :: ts.getD 20 undef :: .int .i64 op :: ts.getD 22 undef :: ts.getD 23 undef :: ts.getD 24 undef :: ts.getD 25 undef :: ts.getD 26 undef :: ts.getD 27 undef :: ts.getD 28 undef :: ts.getD 29 undef :: ts.getD 30 undef :: ts.getD 31 undef :: ts.getD 32 undef :: ts.getD 33 undef :: ts.getD 34 undef :: ts.getD 35 undef :: ts.getD 36 undef :: .bool false :: .bool false :: ts.getD 39 undef :: ts.getD 40 undef :: .bool false :: .bool false :: ts.getD 43 undef :: ts.getD 44 undef :: .bool false :: .bool false :: ts.getD 47 undef :: ts.getD 48 undef :: ts.getD 49 undef :: ts.getD 50 undef :: ts.getD 51 undef :: ts.getD 52 undef :: ts.getD 53 undef :: ts.getD 54 undef :: ts.getD 55 undef :: ts.getD 56 undef :: ts.getD 57 undef :: ts.getD 58 undef :: ts.getD 59 undef :: ts.getD 60 undef :: ts.getD 61 undef :: ts.getD 62 undef :: ts.getD 63 undef :: ts.getD 64 undef :: .bool false :: .bool false :: ts.getD 67 undef :: ts.getD 68 undef :: ts.getD 69 undef :: ts.getD 70 undef :: ts.getD 71 undef :: .bool false :: .bool false :: ts.getD 74 undef :: ts.getD 75 undef :: ts.getD 76 undef :: ts.getD 77 undef :: ts.getD 78 undef :: ts.getD 79 undef :: ts.getD 80 undef :: ts.getD 81 undef :: [])) [] (by kernel_rfl) rfl ?_
  refine ownU_codeM okL18 (by kernel_rfl) (by decide) ⟨_, Try.func77⟩ fun A d => ?_
  replace hx2 : (tp u A d).cell? ⟨xb, 2, none⟩ = some (.string text) := hx2
  have hh := hT
  obtain ⟨⟨v, hbox, hrow, h7v⟩, hwb6⟩ := hh
  obtain ⟨A0, n0, hv, _, _⟩ := hrow.slice
  have hw3 : (tp u A d).cell? ⟨wb, 3, none⟩ = some v := blk_cell hbox 3 _ rfl
  have hwl : wb < (tp u A d).heap.size := obj_lt hbox
  have hxl := cell_lt hx2
  have hcall : Calls Try.prog 46 #[.pointer (some ⟨c, 0, none⟩)] (tp u A d).drew fun e w' => e = .returned (.int .i64 ((i : Int) + 1)) ∧ w' = (tp u A d).drew := hid A (d + 1)
  have hdig : ∀ w', Calls Try.prog 79 #[.int .i64 ((i : Int) + 1)] w' fun e w'' => e = .returned (.string (rDigit 3 (i + 1))) ∧ w'' = w' := fun w' => by
    have h := refdigit 3 (i + 1) w' (by omega) (by omega) (by omega)
    rw [show (((i + 1 : Nat)) : Int) = (i : Int) + 1 by omega] at h
    exact h
  have hdz : ¬ 9223372036854775807 < (rDigit 3 (i + 1)).size + text.size := by
    have h1 := rDigit_size 3 (i + 1)
    omega
  have hnew : New u ((tp u A d).alloc (.cells #[.string (rDigit 3 (i + 1) ++ text)] 9)).drew := ⟨rfl, rfl, by show _ ≤ ((tp u A d).alloc _).heap.size; rw [World.size_alloc]; exact Nat.le_succ _, fun b hb => Below.heap_alloc (tp u A d) _ _ hb⟩
  have hrow1 : QRow ((tp u A d).alloc (.cells #[.string (rDigit 3 (i + 1) ++ text)] 9)).drew v (strsL tr) := hrow.keep fun g hg => hnew.block g (hrow.lt g hg)
  have hcell : ((tp u A d).alloc (.cells #[.string (rDigit 3 (i + 1) ++ text)] 9)).drew.cell? ⟨(tp u A d).heap.size, 0, none⟩ = some (.string (rDigit 3 (i + 1) ++ text)) := blk_cell (alloc_new' _ _ rfl) 0 _ rfl
  have hmix : Try.prog.follows .mixedOrders = true := by kernel_rfl
  have hlen : (strsL tr).length ≤ 5000 := by rw [show (strsL tr).length = tr.length from List.length_map ..]; exact htr
  obtain ⟨i0, hi0, hz0, hz1, hz2⟩ := info_parts infoStrR
  obtain ⟨dg, hdg⟩ : ∃ dg, rDigit 3 (i + 1) = dg := ⟨_, rfl⟩
  rw [hdg] at hdig hdz hnew hrow1 hcell
  have HDG := Lib.hid hdg
  clear hdg hid hrow hi20 htr
  generalize hu1 : tp u A d = u1 at *
  have HB := Lib.hid (And.intro hT (And.intro hbox (And.intro h7v (And.intro hwb6 (And.intro hv hu1)))))
  clear hT hbox h7v hwb6 hu1
  subst hv
  unfold ptr at *
  conv => arg 2; whnf
  go_region_law ((first
    | (refine step_callR _ (by rfl) (by rfl) Try.func46 (by kernel_rfl) rfl (vs := #[.pointer (some ⟨c, 0, none⟩)]) (by simp [Act.eval, Act.put]) hcall ?_; rintro e w' ⟨rfl, rfl⟩; refine ⟨_, rfl, ?_⟩)
    | (refine step_callR _ (by rfl) (by rfl) Try.func79 (by kernel_rfl) rfl (vs := #[.int .i64 ((i : Int) + 1)]) (by simp [Act.eval]) (hdig _) ?_; rintro e w' ⟨rfl, hw'⟩; replace hw' := hw'.symm; subst hw'; refine ⟨_, rfl, ?_⟩)
    | (refine step_appQ _ (by rfl) (.tmp 26) (.tmp 33) 36 (by rfl) 9 i0 _ 16 Try.underlying36 hi0 hz0 hz1 hz2 rfl _ _ (by simp [Act.eval]) hrow1 _ 1 _ (by simp [Act.eval]) hcell rfl (by unfold maxLen; omega) (by omega) ?_; intro v2 u2 q1 q3 q6; obtain ⟨own', r1, r2, r3, r4⟩ := tr_stp (xs := tr ++ [dg ++ text]) (v' := v2) (u2 := u2) hlt HB.out.2.2.2.1 HB.out.2.2.1 HB.out.2.1 hnew (by rw [show strsL (tr ++ [dg ++ text]) = strsL tr ++ [.string (dg ++ text)] by simp [strsL]]; exact q1) q3.os q3.output q3.size (fun g hg hn => q3.block g hg (fun e => hn e.symm)) q6; obtain ⟨A2, n2, hv2, _, _⟩ := q1.slice; simp only [List.length_append, List.length_singleton] at hv2; subst hv2)))
  all_goals
    refine atEndU ?_
    exact hk _ own' _ ⟨by kernel_rfl, by kernel_rfl, by kernel_rfl, by kernel_rfl, by kernel_rfl, by kernel_rfl⟩ (by rw [HDG.out]; exact r1) (by exact r2)
end Go.Proofs.Ytolnmdanlggmhaa
