/- The coroutines of alive: append, Yield, append. -/
import Derived.Test.YtolnmdanlggmhaaKh
import Derived.Test.YtolnmdanlggmhaaKa
namespace Go.Proofs.Ytolnmdanlggmhaa
open Go.RowKit Go.Maps Go.Conc
open Go.ConcN (upd upd_ne upd_same)

set_option maxRecDepth 100000
set_option maxHeartbeats 2000000

/-- A coroutine's function is entered. -/
theorem start_own {main : Bool} {Z : Addr → Prop} {Stop : Goroutine → World → Prop} {w₀ u : World} {c nb ch : Nat} {F : FuncId} {fn : Func} {code : Code} {ca : Array Value} (hc : u.cell? ⟨c, 2, none⟩ = some (.func (.func F) #[] ca)) (hn : u.cell? ⟨nb, 0, none⟩ = some (ptr c))
    (hf : Try.prog.funcs[F]? = some fn) (hnm : (fn.name == "runtime.NumGoroutine") = false) (hbd : fn.body = some code)
    (hk : OwnU Try.prog main Z Stop w₀ (G (Frame.enter Try.prog F (#[ptr c] ++ ca) .normal) [runFrame c nb ch (.func (.func F) #[] ca), botR]) u) : OwnU Try.prog main Z Stop w₀ (Conc.served (runSeat c ch nb) (.agg #[])) u := by
  refine run_start hc hn ?_
  unfold runFrame
  refine ownU_dyn (i := 5) (rest := []) (f := F) (fi := #[]) (ca := ca) (args := #[.tmp 12]) (ats := #[58]) (x := .tmp 11) (fn := fn) (c := code) rfl (by rfl) (by decide) rfl (by kernel_rfl) hf hnm hbd ?_
  have e : (#[] ++ #[Operand.tmp 12].map (Act.eval ⟨runF c nb ch (.func (.func F) #[] ca), [runDefer nb]⟩)) ++ ca = #[ptr c] ++ ca := by
    have : #[Operand.tmp 12].map (Act.eval ⟨runF c nb ch (.func (.func F) #[] ca), [runDefer nb]⟩) = #[ptr c] := by kernel_rfl
    rw [this]; simp
  rw [e]
  exact hk
/-- .. has returned. -/
theorem stop_own {main : Bool} {Z : Addr → Prop} {Stop : Goroutine → World → Prop} {w₀ u : World} {c nb ch : Nat} {fv : Value} {b : Frame} {a : Act} {todo : List Item} {fn : Func} (hn : b.kind = .normal) (hd : a.defers = []) (hf : Try.prog.funcs[b.fn]? = some fn) (hr : fn.results = #[])
    (hk : OwnU Try.prog main Z Stop w₀ (runBack c nb ch fv) u) : OwnU Try.prog main Z Stop w₀ (G { b.at a todo with mode := .returning } [runFrame c nb ch fv, botR]) u := by
  unfold runFrame
  refine ownU_leave0 hn hd hf hr ?_
  exact ownU_eq (by kernel_rfl) hk

def fvA1 (ob : Nat) : Value := .func (.func 63) #[] #[ptr ob]
/-- What is known of a coroutine of alive that waits. -/
def A1Waits (c : CoR) (sb nb ob : Nat) (g : Goroutine) : Prop := ∃ q3 q4 q5 q6 q7 : Value, Waiter c.b sb (base 63) ⟨#[ptr c.b, ptr ob, undef, q3, q4, q5, q6, q7, ptr c.b, undef, undef, undef, undef, undef, undef], []⟩ (opsOf (sel [1, 0] bodyA1)) 1 [] [.code (sel [1, 1] bodyA1)] [runFrame c.b nb c.ch c.f, botR] g

section
variable {Post : Value → World → Prop} {E : Env} {h : Nat} {own : Nat → Nat} {S : Sch} {ks : List Kid} {FC : List Row} {n : Nat} {Inb : Nat → Option Seat} {w : World} {i nb ob : Nat} {c : CoR} {k : Kid} {g0 : Goroutine} {xs : List Value}

theorem a1_first (C : CI E h own S ks FC n Inb w) (hi : S.cos[i]? = some c) (hk : ks[i]? = some k) (ht : k.tag = 2) (hbox : (⟨nb, 0, [ptr c.b]⟩ : Row) ∈ FC) (hf : c.f = fvA1 ob) (hcl : S.closed = false) (hid : ((i : Int) + 1) ∉ S.qs) (hq : S.fr + S.qs.length < 999999) (ho : OrdAt own ob xs w) (hlen : xs.length < 1000000)
    (hI0 : Inb 0 = some (Seat.one S.sc (.agg #[]) false (· = g0)))
    (next : ∀ own' g Inb' w', A1Waits c S.sb nb ob g → CI E 0 own' { S with qs := S.qs ++ [(i : Int) + 1] } (ks.set i ⟨1, h, g⟩) FC n Inb' w' → Inb' 0 = Inb 0 → OrdAt own' ob (xs ++ [.int .i64 ((i : Int) + 1)]) w' → Won Try.prog Post FC n Inb' 0 (Conc.served g0 (.agg #[])) w') :
    Won Try.prog Post FC n Inb h (Conc.served (runSeat c.b c.ch nb) (.agg #[])) w := by
  refine won_kf fun hK => ?_
  have sG := C.siG
  have hn : (guardW FC w).cell? ⟨nb, 0, none⟩ = some (ptr c.b) := by rw [guard_cell C.fi.wf hK]; exact kf_cell hK hbox
  have c2 : (guardW FC w).cell? ⟨c.b, 2, none⟩ = some (fvA1 ob) := by rw [← hf]; exact cellsAt_cell (sG.co i c hi) 2 c.f rfl
  have hoG : OrdAt own ob xs (guardW FC w) := ho.keep (OLe.refl _) fun b hb => C.agr.eq b (by omega) (C.fi.ne (by omega) (by omega) (by omega))
  refine win_own C.fi.wf (start_own (F := 63) (ca := #[ptr ob]) c2 hn Try.func63 (by kernel_rfl) rfl ?_)
  refine ownU_eq (g := G ((base 63).at ⟨#[ptr c.b, ptr ob, undef, undef, undef, undef, undef, undef, undef, undef, undef, undef, undef, undef, undef], []⟩ [.code bodyA1]) [runFrame c.b nb c.ch (fvA1 ob), botR]) (by kernel_rfl) ?_
  refine ownU_seq (x := sel [0] bodyA1) (y := sel [1] bodyA1) ?_
  refine oa_own (c := c.b) (id := (i : Int) + 1) hoG C.ltG hlen (id_u (sG.co i c hi)) fun v v2 nb2 own1 u1 ho1 st1 => ?_
  refine ownU_lit #[ptr c.b, ptr ob, undef, v, ptr c.b, .int .i64 ((i : Int) + 1), .slice (some ⟨nb2, 0, none⟩) 1 1, v2, undef, undef, undef, undef, undef, undef, undef] [] (by kernel_rfl) (by kernel_rfl) ?_
  refine ownU_seq (x := sel [1, 0] bodyA1) (y := sel [1, 1] bodyA1) ?_
  refine ownU_region (id := 1) (ops := opsOf (sel [1, 0] bodyA1)) ?_
  refine ownU_quiet (i := 0) (rest := [1]) (ptr c.b) rfl (by rfl) rfl (by decide) (fun _ => by kernel_rfl) ?_
  refine ownU_lit #[ptr c.b, ptr ob, undef, v, ptr c.b, .int .i64 ((i : Int) + 1), .slice (some ⟨nb2, 0, none⟩) 1 1, v2, ptr c.b, undef, undef, undef, undef, undef, undef] [] (by kernel_rfl) (by kernel_rfl) ?_
  refine ownU_enter (i := 1) (rest := []) (f := 41) rfl (by rfl) (by decide) rfl Try.func41 (by kernel_rfl) rfl ?_
  refine ownU_eq (g := yieldIn c.b ((base 63).at ⟨#[ptr c.b, ptr ob, undef, v, ptr c.b, .int .i64 ((i : Int) + 1), .slice (some ⟨nb2, 0, none⟩) 1 1, v2, ptr c.b, undef, undef, undef, undef, undef, undef], []⟩ (.inRegion (opsOf (sel [1, 0] bodyA1)) (1 :: []) :: [.code (sel [1, 1] bodyA1)]) :: [runFrame c.b nb c.ch (fvA1 ob), botR])) (by kernel_rfl) ?_
  refine ownU_stop fun w1 hs hkp => ?_
  have fi1 : FI own1 S FC := C.fi.stp st1 fun r hr => by simpa [guardW] using C.rows r hr
  have si1 := sG.stp st1 (fun t h => by omega)
  obtain ⟨a, C1⟩ := C.step hs hkp st1 (by omega) si1 fi1 rfl rfl (fun i c h => ⟨c, h, rfl, rfl⟩)
  have ho2 : OrdAt own1 ob (xs ++ [.int .i64 ((i : Int) + 1)]) w1 := ho1.keep (OLe.refl _) fun b hb => a.eq b (by omega) (fi1.ne (by omega) (by omega) (by omega))
  refine yield_won C1 hi hk ht hcl hid hq hI0 fun own' g Inb' w' hw C2 e le s2 => ?_
  exact next own' g Inb' w' ⟨v, ptr c.b, .int .i64 ((i : Int) + 1), .slice (some ⟨nb2, 0, none⟩) 1 1, v2, by rw [hf]; exact hw⟩ C2 e (ho2.same6 le s2)

theorem a1_second (C : CI E h own S ks FC n Inb w) (hi : S.cos[i]? = some c) (hk : ks[i]? = some k) (ht : k.tag = 2) (hw : A1Waits c S.sb nb ob k.g) (hbox : (⟨nb, 0, [ptr c.b]⟩ : Row) ∈ FC) (hcl : S.closed = false) (ho : OrdAt own ob xs w) (hlen : xs.length < 1000000)
    (hI0 : Inb 0 = some (Seat.one S.sc (.agg #[]) false (· = g0)))
    (next : ∀ own' Inb' w', CI E 0 own' { S with cos := S.cos.set i { c with st := 3 } } (ks.set i ⟨3, h, default⟩) FC n Inb' w' → Inb' 0 = Inb 0 → OrdAt own' ob (xs ++ [.int .i64 ((i : Int) + 1)]) w' → Won Try.prog Post FC n Inb' 0 (Conc.served g0 (.agg #[])) w') :
    Won Try.prog Post FC n Inb h (Conc.served k.g (.agg #[])) w := by
  obtain ⟨q3, q4, q5, q6, q7, hw⟩ := hw
  have sG := C.siG
  have c0 := cellsAt_cell (sG.co i c hi) 0 (ptr S.sb) rfl
  have s3 := cellsAt_cell sG.sch 3 (.bool false) (by rw [← hcl]; rfl)
  have hoG : OrdAt own ob xs (guardW FC w) := ho.keep (OLe.refl _) fun b hb => C.agr.eq b (by omega) (C.fi.ne (by omega) (by omega) (by omega))
  refine win_own C.fi.wf (hw.back c0 s3 ?_)
  refine ownU_region_end ?_
  refine ownU_lit #[ptr c.b, ptr ob, undef, q3, q4, q5, q6, q7, ptr c.b, .tuple #[], undef, undef, undef, undef, undef] [] (by kernel_rfl) (by kernel_rfl) ?_
  refine oz_own (c := c.b) (id := (i : Int) + 1) hoG C.ltG hlen (id_u (sG.co i c hi)) fun v v2 nb2 own1 u1 ho1 st1 => ?_
  refine ownU_end ?_
  refine stop_own (fn := Try.f63) rfl (by rfl) Try.func63 rfl ?_
  refine ownU_stop fun w1 hs hkp => ?_
  have fi1 : FI own1 S FC := C.fi.stp st1 fun r hr => by simpa [guardW] using C.rows r hr
  have si1 := sG.stp st1 (fun t h => by omega)
  obtain ⟨a, C1⟩ := C.step hs hkp st1 (by omega) si1 fi1 rfl rfl (fun i c h => ⟨c, h, rfl, rfl⟩)
  have ho2 : OrdAt own1 ob (xs ++ [.int .i64 ((i : Int) + 1)]) w1 := ho1.keep (OLe.refl _) fun b hb => a.eq b (by omega) (fi1.ne (by omega) (by omega) (by omega))
  exact done_won C1 hi hk ht hbox hI0 fun Inb' w' C2 e s2 => next own1 Inb' w' C2 e (ho2.same6 (OLe.refl _) s2)
end
end Go.Proofs.Ytolnmdanlggmhaa

/- alive: the four turns of its scheduler. -/
namespace Go.Proofs.Ytolnmdanlggmhaa
open Go.RowKit Go.Maps Go.Conc
open Go.ConcN (upd upd_ne upd_same)

set_option maxRecDepth 100000
set_option maxHeartbeats 2000000

section
variable {Post : Value → World → Prop} {E : Env} {own : Nat → Nat} {FC : List Row} {n : Nat} {Inb : Nat → Option Seat} {w : World} {ob sb qb sc fr : Nat} {v : Value} {c1 c2 : CoR} {k1 k2 : Kid} {g : Goroutine} {cs : List Frame}
  {b₀ : Frame} {a₀ : Act} {ops : Array Oper} {j : Nat} {rest : List Nat} {k₀ : List Item}

theorem alive_laps (C : CI E 0 own ⟨sb, qb, sc, v, fr, [c1, c2], [1, 2], false⟩ [k1, k2] FC n Inb w) (ht1 : k1.tag = 0) (ht2 : k2.tag = 0) (hf1 : c1.f = fvA1 ob) (hf2 : c2.f = fvA1 ob) (hfr : fr < 1000) (ho : OrdAt own ob [] w) (hg : AtHead g sb 0 (b₀.at a₀ (.inRegion ops (j :: rest) :: k₀) :: cs))
    (next : ∀ own' S' ks' FC' n' Inb' w', CI E 0 own' S' ks' FC' n' Inb' w' → S'.sb = sb → S'.closed = false → (∀ c ∈ S'.cos, c.st ≠ 1 ∧ c.st ≠ 2) → (∀ k ∈ ks', k.tag = 3) → n ≤ n' → (∀ r ∈ FC, r ∈ FC') → OrdAt own' ob [.int .i64 1, .int .i64 2, .int .i64 1, .int .i64 2] w' →
      Won Try.prog Post FC' n' Inb' 0 (G (b₀.at (a₀.put ((ops[j]?).bind (·.dst)) (.int .i64 4)) (.inRegion ops rest :: k₀)) cs) w') : Won Try.prog Post FC n Inb 0 g w := by
  -- the first turn: coroutine 1 begins
  refine loop_turn (i := 0) (c := c1) (x := 1) (xs := [2]) (m' := 1) C hg rfl rfl rfl rfl (wrap_id (by omega) (by omega)) fun own1 Inb1 w1 g1 f1 hg1 hs1 C1 le1 s1 hI1 => ?_
  refine turn_any (i := 0) (c := c1) (k := k1) C1 rfl rfl (by omega) hs1 hI1 (fun _ FC2 Inb2 nb1 w2 C2 e2 hb1 hsub2 s2 => ?_) (fun h => by omega)
  have ho2 := (ho.same6 le1 s1).same6 (OLe.refl _) s2
  rw [hI1] at e2
  refine a1_first (i := 0) (c := { c1 with begun := true }) (ob := ob) (nb := nb1) (k := ⟨2, n, default⟩) C2 rfl rfl rfl hb1 hf1 rfl (by simp) (by simp; omega) ho2 (by simp) e2 fun own3 kg1 Inb3 w3 hw1 C3 e3 ho3 => ?_
  rw [e2] at e3
  -- the second: coroutine 2 begins
  refine loop_turn (i := 1) (c := c2) (x := 2) (xs := [1]) (m' := 2) C3 hg1 rfl rfl rfl rfl (wrap_id (by omega) (by omega)) fun own4 Inb4 w4 g4 f4 hg4 hs4 C4 le4 s4 hI4 => ?_
  refine turn_any (i := 1) (c := c2) (k := k2) C4 rfl rfl (by omega) hs4 hI4 (fun _ FC5 Inb5 nb2 w5 C5 e5 hb2 hsub5 s5 => ?_) (fun h => by omega)
  have ho5 := (ho3.same6 le4 s4).same6 (OLe.refl _) s5
  rw [hI4] at e5
  refine a1_first (i := 1) (c := { c2 with begun := true }) (ob := ob) (nb := nb2) (k := ⟨2, n + 1, default⟩) C5 rfl rfl rfl hb2 hf2 rfl (by simp) (by simp; omega) ho5 (by simp) e5 fun own6 kg2 Inb6 w6 hw2 C6 e6 ho6 => ?_
  rw [e5] at e6
  -- the third: coroutine 1 goes on
  refine loop_turn (i := 0) (c := { c1 with begun := true }) (x := 1) (xs := [2]) (m' := 3) C6 hg4 rfl rfl rfl rfl (wrap_id (by omega) (by omega)) fun own7 Inb7 w7 g7 f7 hg7 hs7 C7 le7 s7 hI7 => ?_
  refine turn_any (i := 0) (c := { c1 with begun := true }) (k := ⟨1, n, kg1⟩) C7 rfl rfl (by simp) hs7 hI7 (fun h => by simp at h) fun _ w8 C8 s8 => ?_
  have ho8 := (ho6.same6 le7 s7).same6 (OLe.refl _) s8
  refine a1_second (i := 0) (c := { c1 with begun := true }) (k := ⟨2, n, kg1⟩) C8 rfl rfl rfl hw1 (hsub5 _ hb1) rfl ho8 (by simp) hI7 fun own9 Inb9 w9 C9 e9 ho9 => ?_
  rw [hI7] at e9
  -- the fourth: coroutine 2 goes on
  refine loop_turn (i := 1) (c := { c2 with begun := true }) (x := 2) (xs := []) (m' := 4) C9 hg7 rfl rfl rfl rfl (wrap_id (by omega) (by omega)) fun own10 Inb10 w10 g10 f10 hg10 hs10 C10 le10 s10 hI10 => ?_
  refine turn_any (i := 1) (c := { c2 with begun := true }) (k := ⟨1, n + 1, kg2⟩) C10 rfl rfl (by simp) hs10 hI10 (fun h => by simp at h) fun _ w11 C11 s11 => ?_
  have ho11 := (ho9.same6 le10 s10).same6 (OLe.refl _) s11
  refine a1_second (i := 1) (c := { c2 with begun := true }) (k := ⟨2, n + 1, kg2⟩) C11 rfl rfl rfl hw2 hb2 rfl ho11 (by simp) hI10 fun own12 Inb12 w12 C12 e12 ho12 => ?_
  -- nobody is ready
  refine loop_end C12 hg10 (.inr rfl) fun w13 C13 s13 => ?_
  exact next own12 _ _ FC5 (n + 1 + 1) Inb12 w13 C13 rfl rfl (by simp) (by simp) (by omega) (fun r hr => hsub5 _ (hsub2 _ hr)) (ho12.same6 (OLe.refl _) s13)
end
end Go.Proofs.Ytolnmdanlggmhaa

/- alive, in company: it returns true. (Printed by gen_alive.py.) -/
namespace Go.Proofs.Ytolnmdanlggmhaa
open Go.RowKit Go.Maps Go.Conc
open Go.ConcN (upd upd_ne upd_same)

set_option maxRecDepth 100000
set_option maxHeartbeats 2000000

noncomputable abbrev bodyAl : Code := Try.f34.body.getD .skip
theorem equal_u {u : World} {A A' : Option Addr} {n c n' c' : Nat} {xs ys : List Int} (hx : QRow u (.slice A n c) (ivs xs)) (hy : Rd u u.heap.size A' n' (ivs ys)) (hn' : n' ≤ 1000000) (hnx : n ≤ 1000000) (B : Nat → Question → Nat) (d : Nat) :
    Calls Try.prog 17 #[.slice A n c, .slice A' n' c'] (tp u B d) fun e w' => e = .returned (.bool (decide (xs = ys))) ∧ ∃ A d, w' = tp u A d := by
  refine (equalI A A' n c n' c' xs ys (tp u B d) u.heap.size (hx.rd.keep fun _ _ => rfl) (hy.keep fun _ _ => rfl) (by omega) (by omega)).mono ?_
  rintro e w' ⟨h, k, rfl⟩
  exact ⟨h, B, d + k, rfl⟩

noncomputable def aliveIn (cs : List Frame) : Goroutine := G ((base 34).at ⟨#[undef, undef, undef, undef, undef, undef, undef, undef, undef, undef, undef, undef, undef, undef, undef, undef, undef, undef, undef, undef, undef], []⟩ [.code bodyAl]) cs
theorem alive_a {main : Bool} {Z : Addr → Prop} {Stop : Goroutine → World → Prop} {w₀ u : World} {cs : List Frame} (hk : OwnU Try.prog main Z Stop w₀ (newIn (((base 34).at ⟨#[.bool false, undef, undef, undef, undef, undef, undef, undef, undef, undef, undef, undef, undef, undef, undef, undef, undef, undef, undef, undef, undef], []⟩ (.inRegion (opsOf (sel [1, 0] bodyAl)) (0 :: [1]) :: [.code (sel [1, 1] bodyAl)])) :: cs)) u) : OwnU Try.prog main Z Stop w₀ (aliveIn cs) u := by
  unfold aliveIn
  refine ownU_seq (x := sel [0] bodyAl) (y := sel [1] bodyAl) ?_
  refine ownU_region (id := 0) (ops := opsOf (sel [0] bodyAl)) ?_
  refine ownU_quiet (i := 0) (rest := []) (.bool false) rfl (by rfl) rfl (by decide) (fun _ => by kernel_rfl) ?_
  refine ownU_region_end ?_
  refine ownU_seq (x := sel [1, 0] bodyAl) (y := sel [1, 1] bodyAl) ?_
  refine ownU_region (id := 1) (ops := opsOf (sel [1, 0] bodyAl)) ?_
  refine ownU_enter (i := 0) (rest := [1]) (f := 35) rfl (by rfl) (by decide) rfl Try.func35 (by kernel_rfl) rfl ?_
  exact ownU_eq (by kernel_rfl) hk
/-- The deferred call of Close. -/
def clDefer (sb : Nat) : Deferred := { target := .fn (.func 36) #[], args := #[ptr sb] }
theorem alive_b {main : Bool} {Z : Addr → Prop} {Stop : Goroutine → World → Prop} {w₀ u : World} {cs : List Frame} {sb : Nat} (hk : ∀ ob, u.heap.size = ob → OwnU Try.prog main Z Stop w₀ (spawnIn sb (fvA1 ob) (((base 34).at ⟨#[.bool false, ptr sb, ptr ob, fvA1 ob, ptr sb, ptr sb, fvA1 ob, ptr sb, fvA1 ob, undef, undef, undef, undef, undef, undef, undef, undef, undef, undef, undef, undef], [clDefer sb]⟩ (.inRegion (opsOf (sel [1, 1, 1, 1, 1, 0] bodyAl)) (2 :: []) :: [.code (sel [1, 1, 1, 1, 1, 1] bodyAl)])) :: cs)) (u.alloc (.cells #[.slice none 0 0] 22))) : OwnU Try.prog main Z Stop w₀ (G ((base 34).at ((⟨#[.bool false, undef, undef, undef, undef, undef, undef, undef, undef, undef, undef, undef, undef, undef, undef, undef, undef, undef, undef, undef, undef], []⟩ : Act).put (((opsOf (sel [1, 0] bodyAl))[0]?).bind (·.dst)) (ptr sb)) (.inRegion (opsOf (sel [1, 0] bodyAl)) [1] :: [.code (sel [1, 1] bodyAl)])) cs) u := by
  refine ownU_quiet (i := 1) (rest := []) (ptr sb) rfl (by rfl) rfl (by decide) (fun _ => by kernel_rfl) ?_
  refine ownU_region_end ?_
  refine ownU_seq (x := sel [1, 1, 0] bodyAl) (y := sel [1, 1, 1] bodyAl) ?_
  refine ownU_region (id := 2) (ops := opsOf (sel [1, 1, 0] bodyAl)) ?_
  refine ownU_quiet (i := 0) (rest := [1]) (ptr sb) rfl (by rfl) rfl (by decide) (fun _ => by kernel_rfl) ?_
  refine ownU_defer (i := 1) (rest := []) (d := clDefer sb) rfl (by rfl) (by decide) (fun _ => by kernel_rfl) (fun _ => by kernel_rfl) ?_
  refine ownU_region_end ?_
  refine ownU_seq (x := sel [1, 1, 1, 0] bodyAl) (y := sel [1, 1, 1, 1] bodyAl) ?_
  refine ownU_region (id := 3) (ops := opsOf (sel [1, 1, 1, 0] bodyAl)) ?_
  refine ownU_new (.cells #[.slice none 0 0] 22) (i := 0) (rest := []) rfl (by rfl) rfl (by decide) (fun _ => by kernel_rfl) ?_
  refine ownU_region_end ?_
  generalize hob : u.heap.size = ob at *
  refine ownU_lit (#[.bool false, ptr sb, ptr ob, undef, ptr sb, ptr sb, undef, undef, undef, undef, undef, undef, undef, undef, undef, undef, undef, undef, undef, undef, undef]) [clDefer sb] (by kernel_rfl) (by kernel_rfl) ?_
  refine ownU_seq (x := sel [1, 1, 1, 1, 0] bodyAl) (y := sel [1, 1, 1, 1, 1] bodyAl) ?_
  refine ownU_region (id := 4) (ops := opsOf (sel [1, 1, 1, 1, 0] bodyAl)) ?_
  refine ownU_quiet (i := 0) (rest := [1]) (fvA1 ob) rfl (by rfl) rfl (by decide) (fun _ => by kernel_rfl) ?_
  refine ownU_quiet (i := 1) (rest := []) (fvA1 ob) rfl (by rfl) rfl (by decide) (fun _ => by kernel_rfl) ?_
  refine ownU_region_end ?_
  refine ownU_seq (x := sel [1, 1, 1, 1, 1, 0] bodyAl) (y := sel [1, 1, 1, 1, 1, 1] bodyAl) ?_
  refine ownU_region (id := 5) (ops := opsOf (sel [1, 1, 1, 1, 1, 0] bodyAl)) ?_
  refine ownU_quiet (i := 0) (rest := [1, 2]) (ptr sb) rfl (by rfl) rfl (by decide) (fun _ => by kernel_rfl) ?_
  refine ownU_quiet (i := 1) (rest := [2]) (fvA1 ob) rfl (by rfl) rfl (by decide) (fun _ => by kernel_rfl) ?_
  refine ownU_enter (i := 2) (rest := []) (f := 37) rfl (by rfl) (by decide) rfl Try.func37 (by kernel_rfl) rfl ?_
  exact ownU_eq (by kernel_rfl) (hk ob rfl)
theorem alive_c {main : Bool} {Z : Addr → Prop} {Stop : Goroutine → World → Prop} {w₀ u : World} {cs : List Frame} {sb ob : Nat} {x1 : Value} (hk : OwnU Try.prog main Z Stop w₀ (spawnIn sb (fvA1 ob) (((base 34).at ⟨#[.bool false, ptr sb, ptr ob, fvA1 ob, ptr sb, ptr sb, fvA1 ob, ptr sb, fvA1 ob, x1, ptr sb, fvA1 ob, undef, undef, undef, undef, undef, undef, undef, undef, undef], [clDefer sb]⟩ (.inRegion (opsOf (sel [1, 1, 1, 1, 1, 1, 0] bodyAl)) (2 :: []) :: [.code (sel [1, 1, 1, 1, 1, 1, 1] bodyAl)])) :: cs)) u) : OwnU Try.prog main Z Stop w₀ (G ((base 34).at ((⟨#[.bool false, ptr sb, ptr ob, fvA1 ob, ptr sb, ptr sb, fvA1 ob, ptr sb, fvA1 ob, undef, undef, undef, undef, undef, undef, undef, undef, undef, undef, undef, undef], [clDefer sb]⟩ : Act).put (((opsOf (sel [1, 1, 1, 1, 1, 0] bodyAl))[2]?).bind (·.dst)) x1) (.inRegion (opsOf (sel [1, 1, 1, 1, 1, 0] bodyAl)) [] :: [.code (sel [1, 1, 1, 1, 1, 1] bodyAl)])) cs) u := by
  refine ownU_region_end ?_
  refine ownU_lit (#[.bool false, ptr sb, ptr ob, fvA1 ob, ptr sb, ptr sb, fvA1 ob, ptr sb, fvA1 ob, x1, undef, undef, undef, undef, undef, undef, undef, undef, undef, undef, undef]) [clDefer sb] (by kernel_rfl) (by kernel_rfl) ?_
  refine ownU_seq (x := sel [1, 1, 1, 1, 1, 1, 0] bodyAl) (y := sel [1, 1, 1, 1, 1, 1, 1] bodyAl) ?_
  refine ownU_region (id := 6) (ops := opsOf (sel [1, 1, 1, 1, 1, 1, 0] bodyAl)) ?_
  refine ownU_quiet (i := 0) (rest := [1, 2]) (ptr sb) rfl (by rfl) rfl (by decide) (fun _ => by kernel_rfl) ?_
  refine ownU_quiet (i := 1) (rest := [2]) (fvA1 ob) rfl (by rfl) rfl (by decide) (fun _ => by kernel_rfl) ?_
  refine ownU_enter (i := 2) (rest := []) (f := 37) rfl (by rfl) (by decide) rfl Try.func37 (by kernel_rfl) rfl ?_
  exact ownU_eq (by kernel_rfl) hk
theorem alive_d {main : Bool} {Z : Addr → Prop} {Stop : Goroutine → World → Prop} {w₀ u : World} {cs : List Frame} {sb ob : Nat} {x1 x2 : Value} (hk : OwnU Try.prog main Z Stop w₀ (runIn sb (((base 34).at ⟨#[.bool false, ptr sb, ptr ob, fvA1 ob, ptr sb, ptr sb, fvA1 ob, ptr sb, fvA1 ob, x1, ptr sb, fvA1 ob, x2, ptr sb, undef, undef, undef, undef, undef, undef, undef], [clDefer sb]⟩ (.inRegion (opsOf (sel [1, 1, 1, 1, 1, 1, 1, 0] bodyAl)) (1 :: [2, 3, 4, 5, 6, 7, 8]) :: [.code .ret])) :: cs)) u) : OwnU Try.prog main Z Stop w₀ (G ((base 34).at ((⟨#[.bool false, ptr sb, ptr ob, fvA1 ob, ptr sb, ptr sb, fvA1 ob, ptr sb, fvA1 ob, x1, ptr sb, fvA1 ob, undef, undef, undef, undef, undef, undef, undef, undef, undef], [clDefer sb]⟩ : Act).put (((opsOf (sel [1, 1, 1, 1, 1, 1, 0] bodyAl))[2]?).bind (·.dst)) x2) (.inRegion (opsOf (sel [1, 1, 1, 1, 1, 1, 0] bodyAl)) [] :: [.code (sel [1, 1, 1, 1, 1, 1, 1] bodyAl)])) cs) u := by
  refine ownU_region_end ?_
  refine ownU_lit (#[.bool false, ptr sb, ptr ob, fvA1 ob, ptr sb, ptr sb, fvA1 ob, ptr sb, fvA1 ob, x1, ptr sb, fvA1 ob, x2, undef, undef, undef, undef, undef, undef, undef, undef]) [clDefer sb] (by kernel_rfl) (by kernel_rfl) ?_
  refine ownU_seq (x := sel [1, 1, 1, 1, 1, 1, 1, 0] bodyAl) (y := .ret) ?_
  refine ownU_region (id := 7) (ops := opsOf (sel [1, 1, 1, 1, 1, 1, 1, 0] bodyAl)) ?_
  refine ownU_quiet (i := 0) (rest := [1, 2, 3, 4, 5, 6, 7, 8]) (ptr sb) rfl (by rfl) rfl (by decide) (fun _ => by kernel_rfl) ?_
  refine ownU_enter (i := 1) (rest := [2, 3, 4, 5, 6, 7, 8]) (f := 42) rfl (by rfl) (by decide) rfl Try.func42 (by kernel_rfl) rfl ?_
  exact ownU_eq (by kernel_rfl) hk
/-- alive on its way out. -/
noncomputable def aliveOut (ts : Array Value) : Frame := { (base 34).at ⟨ts, []⟩ [.code .ret] with mode := .returning }
theorem alive_e {main : Bool} {Z : Addr → Prop} {Stop : Goroutine → World → Prop} {w₀ u : World} {cs : List Frame} {sb ob : Nat} {x1 x2 : Value} {own : Nat → Nat} (ho : OrdAt own ob [.int .i64 1, .int .i64 2, .int .i64 1, .int .i64 2] u)
    (hk : ∀ ts u', New u u' → ts.getD 0 undef = .bool true → OwnU Try.prog main Z Stop w₀ (closeIn .deferred sb (aliveOut ts :: cs)) u') : OwnU Try.prog main Z Stop w₀ (G ((base 34).at ((⟨#[.bool false, ptr sb, ptr ob, fvA1 ob, ptr sb, ptr sb, fvA1 ob, ptr sb, fvA1 ob, x1, ptr sb, fvA1 ob, x2, ptr sb, undef, undef, undef, undef, undef, undef, undef], [clDefer sb]⟩ : Act).put (((opsOf (sel [1, 1, 1, 1, 1, 1, 1, 0] bodyAl))[1]?).bind (·.dst)) (.int .i64 4)) (.inRegion (opsOf (sel [1, 1, 1, 1, 1, 1, 1, 0] bodyAl)) [2, 3, 4, 5, 6, 7, 8] :: [.code .ret])) cs) u := by
  obtain ⟨⟨v, hbox, hrow, _⟩, _⟩ := ho
  have hob : u.cell? ⟨ob, 0, none⟩ = some v := blk_cell hbox 0 _ rfl
  have hnew : New u (u.alloc (.cells #[.int .i64 1, .int .i64 2, .int .i64 1, .int .i64 2] 3)) := New.alloc u _
  obtain ⟨A0, cap, hv, _, _⟩ := hrow.slice
  have heq : ∀ A d, Calls Try.prog 17 #[v, .slice (some ⟨u.heap.size, 0, none⟩) 4 4] (tp (u.alloc (.cells #[.int .i64 1, .int .i64 2, .int .i64 1, .int .i64 2] 3)) A d) fun e w' => e = .returned (.bool true) ∧ ∃ A d, w' = tp (u.alloc (.cells #[.int .i64 1, .int .i64 2, .int .i64 1, .int .i64 2] 3)) A d := fun A d => by
    have hr' : QRow (u.alloc (.cells #[.int .i64 1, .int .i64 2, .int .i64 1, .int .i64 2] 3)) v (ivs [1, 2, 1, 2]) := hrow.keep fun g hg => hnew.block g (hrow.lt g hg)
    have hblk : (u.alloc (.cells #[.int .i64 1, .int .i64 2, .int .i64 1, .int .i64 2] 3)).heap[u.heap.size]? = some (.cells #[.int .i64 1, .int .i64 2, .int .i64 1, .int .i64 2] 3) := alloc_new' u _ rfl
    have hy : Rd (u.alloc (.cells #[.int .i64 1, .int .i64 2, .int .i64 1, .int .i64 2] 3)) (u.alloc (.cells #[.int .i64 1, .int .i64 2, .int .i64 1, .int .i64 2] 3)).heap.size (some ⟨u.heap.size, 0, none⟩) 4 (ivs [1, 2, 1, 2]) := by
      refine ⟨rfl, fun j x hx => ⟨⟨u.heap.size, 0, none⟩, rfl, obj_lt hblk, ?_⟩⟩
      rw [addN]
      exact blk_cell hblk (0 + j) x (by rw [Nat.zero_add]; simpa [ivs, intV] using hx)
    rw [hv] at hr' ⊢
    exact equal_u hr' hy (by omega) (by simp) A d
  refine ownU_quiet (i := 2) (rest := [3, 4, 5, 6, 7, 8]) (.bool true) rfl (by rfl) rfl (by decide) (fun _ => by kernel_rfl) ?_
  refine ownU_quiet (i := 3) (rest := [4, 5, 6, 7, 8]) (.bool true) rfl (by rfl) rfl (by decide) (fun _ => by kernel_rfl) ?_
  refine ownU_load (i := 4) (rest := [5, 6, 7, 8]) ⟨ob, 0, none⟩ (v) rfl (by kernel_rfl) (by decide) loads_ints rfl (by kernel_rfl) hob ?_
  refine ownU_newV (fun n => .slice (some ⟨n, 0, none⟩) 4 4) (.cells #[.int .i64 1, .int .i64 2, .int .i64 1, .int .i64 2] 3) (i := 5) (rest := [6, 7, 8]) rfl (by kernel_rfl) rfl (by decide) (fun _ => by kernel_rfl) ?_
  refine ownU_callK (i := 6) (rest := [7, 8]) (L := lone18) (R := fun e w' => e = .returned (.bool true) ∧ ∃ A d, w' = tp (u.alloc (.cells #[.int .i64 1, .int .i64 2, .int .i64 1, .int .i64 2] 3)) A d) okL18 (by decide) rfl rfl (by kernel_rfl) (by kernel_rfl) (by decide) (fun A d => calls_eq (by kernel_rfl) (heq A d)) (fun e w h => ⟨_, h.1⟩) fun z u' hR => ?_
  obtain ⟨e, A, d, rfl⟩ := hR
  injection e with e
  subst e
  refine ownU_tp.2 ?_
  refine ownU_quiet (i := 7) (rest := [8]) (.bool true) rfl (by rfl) rfl (by decide) (fun _ => by kernel_rfl) ?_
  refine ownU_quiet (i := 8) (rest := []) (.bool true) rfl (by rfl) rfl (by decide) (fun _ => by kernel_rfl) ?_
  refine ownU_region_end ?_
  refine ownU_lit (#[.bool true, ptr sb, ptr ob, fvA1 ob, ptr sb, ptr sb, fvA1 ob, ptr sb, fvA1 ob, x1, ptr sb, fvA1 ob, x2, ptr sb, .int .i64 4, .bool true, .bool true, v, .slice (some ⟨u.heap.size, 0, none⟩) 4 4, .bool true, .bool true]) [clDefer sb] (by kernel_rfl) (by kernel_rfl) ?_
  refine ownU_ret ?_
  refine ownU_deferred (args := #[ptr sb]) (ca := #[]) (ds := []) (by simp) rfl Try.func36 (by kernel_rfl) rfl ?_
  exact ownU_eq (by kernel_rfl) (hk (#[.bool true, ptr sb, ptr ob, fvA1 ob, ptr sb, ptr sb, fvA1 ob, ptr sb, fvA1 ob, x1, ptr sb, fvA1 ob, x2, ptr sb, .int .i64 4, .bool true, .bool true, v, .slice (some ⟨u.heap.size, 0, none⟩) 4 4, .bool true, .bool true]) _ hnew rfl)
theorem alive_out {main : Bool} {Z : Addr → Prop} {Stop : Goroutine → World → Prop} {w₀ u : World} {cs : List Frame} {ts : Array Value} {b₀ : Frame} {a₀ : Act} {ops : Array Oper} {j : Nat} {rest : List Nat} {k₀ : List Item} (h0 : ts.getD 0 undef = .bool true)
    (hk : OwnU Try.prog main Z Stop w₀ (G (b₀.at (a₀.put ((ops[j]?).bind (·.dst)) (.bool true)) (.inRegion ops rest :: k₀)) cs) u) : OwnU Try.prog main Z Stop w₀ (G (aliveOut ts) (b₀.at a₀ (.inRegion ops (j :: rest) :: k₀) :: cs)) u := by
  unfold aliveOut
  refine ownU_leave1 (t := 0) (fn := Try.f34) rfl rfl Try.func34 rfl ?_
  rw [show (⟨ts, []⟩ : Act).tmps.getD 0 undef = .bool true from h0]
  exact hk
end Go.Proofs.Ytolnmdanlggmhaa

/- alive, told by the crew: it returns true; nothing of what was there is turned. -/
namespace Go.Proofs.Ytolnmdanlggmhaa
open Go.RowKit Go.Maps Go.Conc
open Go.ConcN (upd upd_ne upd_same)

set_option maxRecDepth 100000
set_option maxHeartbeats 2000000

section
variable {Post : Value → World → Prop} {FC : List Row} {n : Nat} {Inb : Nat → Option Seat} {w w1 : World} {cs : List Frame}
  {b₀ : Frame} {a₀ : Act} {ops : Array Oper} {j : Nat} {rest : List Nat} {k₀ : List Item}

theorem ext_none {O O' : Nat → Prop} {FC : List Row} {w w' : World} (h : Ext O FC w w') (hO : ∀ b, b < w.heap.size → O b → O' b) : Ext O' FC w w' :=
  ⟨h.os, h.tape, h.output, h.size, fun b hb hn hr => h.eq b hb (fun e => hn (hO b hb e)) hr, fun r hr hb hn => h.row r hr hb (fun e => hn (hO _ hb e))⟩
/-- What nobody's tags speak of: a step that turns nothing. -/
theorem ground_own {u : World} (H : Ground FC n Inb w) (hs : Sim False (ZF FC) u w1) (hk : Kept (ZF FC) w w1) (hn : New (guardW FC w) u) : Ground FC n Inb w1 ∧ Ext (fun b => w.heap.size ≤ b) FC w w1 := by
  have st : Stp (fun _ => False) (fun _ => 0) (fun _ => 0) (guardW FC w) u := hn.stp fun b hb => absurd rfl hb
  obtain ⟨_, _, ex⟩ := cross H.wf (fun b hb => absurd rfl hb) hs hk st (fun h => h)
  refine ⟨⟨H.wf, fun r hr => Nat.lt_of_lt_of_le (H.rows r hr) hk.grow, H.top, fun x s r hx hr => Nat.lt_of_lt_of_le (H.chs x s r hx hr) hk.grow, H.n0, H.none0⟩, ext_none ex fun b _ h => absurd rfl h⟩

/-- What is there when all of a crew have ended. -/
theorem CI.ends {E : Env} {own : Nat → Nat} {S : Sch} {ks : List Kid} (C : CI E 0 own S ks FC n Inb w) (hk : ∀ k ∈ ks, k.tag ≠ 1) (h0 : E.out 0 = none) : Ground FC n (upd Inb 0 none) w ∧ upd Inb 0 none = E.out := by
  have he : ∀ x, x ≠ 0 → Inb x = E.out x := fun x hx => by
    cases ho : E.out x with
    | some s => exact (C.keep x s ho).1
    | none =>
      cases hi : Inb x with
      | none => rfl
      | some s =>
        rcases C.only x s hi with e | e | e | ⟨i, k, h1, h2, _⟩
        · exact absurd e hx
        · exact absurd e hx
        · rw [ho] at e; cases e
        · exact absurd h2 (hk k (List.mem_of_getElem? h1))
  have hf : upd Inb 0 none = E.out := funext fun x => by
    by_cases e : x = 0
    · subst e; rw [upd_same, h0]
    · rw [upd_ne _ _ e, he x e]
  refine ⟨⟨C.fi.wf, C.rows, fun x s hx => ?_, fun x s r hx hr => ?_, C.hn, upd_same _ _ _⟩, hf⟩
  · by_cases e : x = 0
    · subst e; exact C.hn
    · rw [upd_ne _ _ e] at hx; exact C.top x s hx
  · rw [hf] at hx
    exact Nat.lt_of_lt_of_le (C.chs x s r hx hr) C.base.size

theorem alive_won (H : Ground FC n Inb w)
    (next : ∀ FC' n' w', Ground FC' n' Inb w' → (∀ r ∈ FC, r ∈ FC') → (∀ r ∈ FC', r ∈ FC ∨ w.heap.size ≤ r.b) → Ext (fun b => w.heap.size ≤ b) FC w w' → n ≤ n' → Won Try.prog Post FC' n' Inb 0 (G (b₀.at (a₀.put ((ops[j]?).bind (·.dst)) (.bool true)) (.inRegion ops rest :: k₀)) cs) w') :
    Won Try.prog Post FC n Inb 0 (aliveIn (b₀.at a₀ (.inRegion ops (j :: rest) :: k₀) :: cs)) w := by
  refine win_own H.wf (alive_a (ownU_stop fun w1 hs hkp => ?_))
  obtain ⟨H1, ex1⟩ := ground_own H hs hkp (New.refl _)
  clear hs hkp
  refine new_won H1 fun own sb qb sc FC1 w2 C2 hall hsub1 => ?_
  -- the deferred Close, order's box, the first coroutine
  have hgs : (guardW FC1 w2).heap.size = w2.heap.size := by simp [guardW]
  refine win_own C2.fi.wf (alive_b (sb := sb) fun ob hob => ownU_stop fun w3 hs hkp => ?_)
  rw [hgs] at hob
  have hz : own ob = 0 := Classical.byContradiction fun h => by have := C2.lt _ h; omega
  have st3 : Stp (· = 6) own (retagC own 6 (· = ob)) (guardW FC1 w2) ((guardW FC1 w2).alloc (.cells #[.slice none 0 0] 22)) :=
    stp_of (fp := fun _ => False) (by omega) C2.ltG rfl rfl (by rw [World.size_alloc]; omega) (fun b hb _ => Below.heap_alloc _ _ _ hb) (fun _ h => h.elim) (fun b hb => .inr (by rw [hb, hgs, hob]; exact Nat.le_refl _)) (fun b hb => by rw [hb, World.size_alloc, hgs]; omega)
  have fi3 : FI (retagC own 6 (· = ob)) (emptyS sb qb sc) FC1 := C2.fi.stp st3 fun r hr => by rw [hgs]; exact C2.rows r hr
  have hblk : ((guardW FC1 w2).alloc (.cells #[.slice none 0 0] 22)).heap[ob]? = some (.cells #[.slice none 0 0] 22 (0, 0)) := alloc_new' _ _ (by rw [hgs, hob])
  obtain ⟨a3, C3⟩ := C2.step hs hkp st3 (by omega) (C2.siG.stp st3 fun t h => by omega) fi3 rfl rfl (fun i c h => ⟨c, h, rfl, rfl⟩)
  have h6 : retagC own 6 (· = ob) ob = 6 := tag_eq rfl
  have ho3 : OrdAt (retagC own 6 (· = ob)) ob [] w3 := by
    refine ⟨⟨.slice none 0 0, ?_, QRow.nil _, fun g hg => (by cases hg)⟩, h6⟩
    rw [a3.eq ob (by rw [h6]; omega) (fi3.ne (by rw [h6]; omega) (by rw [h6]; omega) (by rw [h6]; omega))]
    exact hblk
  generalize retagC own 6 (· = ob) = own3 at *
  clear hs hkp a3 st3
  refine spawn_won (S := emptyS sb qb sc) C3 rfl (by simp [emptyS]) (by simp [emptyS]) (by simp [emptyS]) fun own4 v4 c1 FC4 w4 hf1 hb1 hs1 hx1 C4 le4 s4 hsub4 => ?_
  have ho4 := ho3.same6 le4 s4
  -- the second
  refine win_own C4.fi.wf (alive_c (ownU_stop fun w5 hs hkp => ?_))
  obtain ⟨C5, s5⟩ := C4.rest0 hs hkp
  have ho5 := ho4.same6 (OLe.refl _) s5
  clear hs hkp
  refine spawn_won (S := ⟨sb, qb, sc, v4, 0, [c1], [1], false⟩) C5 rfl (by simp) (by simp) (by simp) fun own6 v6 c2 FC6 w6 hf2 hb2 hs2 hx2 C6 le6 s6 hsub6 => ?_
  have ho6 := ho5.same6 le6 s6
  -- Run
  refine win_own C6.fi.wf (alive_d (ownU_stop fun w7 hs hkp => ?_))
  obtain ⟨C7, s7⟩ := C6.rest0 hs hkp
  have ho7 := ho6.same6 (OLe.refl _) s7
  clear hs hkp
  refine alive_laps (sb := sb) (qb := qb) (sc := sc) (v := v6) (fr := 0) (c1 := c1) (c2 := c2) C7 rfl rfl hf1 hf2 (by omega) ho7 atHead_in fun own8 S8 ks8 FC8 n8 Inb8 w8 C8 hsb8 hcl8 hall8 hks8 hn8 hsub8 ho8 => ?_
  -- what it returns; Close
  have hoG : OrdAt own8 ob [.int .i64 1, .int .i64 2, .int .i64 1, .int .i64 2] (guardW FC8 w8) := ho8.keep (OLe.refl _) fun b hb => C8.agr.eq b (by omega) (C8.fi.ne (by omega) (by omega) (by omega))
  refine win_own C8.fi.wf (alive_e hoG fun ts u' hnew h0 => ownU_stop fun w9 hs hkp => ?_)
  have st9 : Stp (fun _ => False) own8 own8 (guardW FC8 w8) u' := hnew.stp C8.ltG
  obtain ⟨a9, C9⟩ := C8.step hs hkp st9 (fun h => h) (C8.siG.stp st9 fun t h => h.elim) C8.fi rfl rfl (fun i c h => ⟨c, h, rfl, rfl⟩)
  clear hs hkp st9 a9
  rw [← hsb8]
  refine close_enter_won (by decide) C9 hcl8 fun g10 w10 hg10 C10 _ => ?_
  refine close_done_won (by decide) (S := { S8 with closed := true }) hall8 S8.cos.length 0 (by simp) C10 hg10 fun g11 w11 hg11 C11 _ => ?_
  refine win_unseat ?_
  obtain ⟨_, hf⟩ := C11.ends (fun k hk => by rw [hks8 k hk]; omega) H.none0
  rw [hf]
  refine win_own C11.fi.wf (clOut_deferred hg11 rfl (alive_out h0 (ownU_stop fun w12 hs hkp => ?_)))
  obtain ⟨C12, _⟩ := C11.rest0 hs hkp
  obtain ⟨H12, hf12⟩ := C12.ends (fun k hk => by rw [hks8 k hk]; omega) H.none0
  rw [hf12] at H12
  have hsub : ∀ r ∈ FC, r ∈ FC8 := fun r hr => hsub8 _ (hsub6 _ (hsub4 _ (hsub1 _ hr)))
  refine next FC8 n8 w12 H12 hsub (fun r hr => ?_) ?_ hn8
  · rcases C12.sup r hr with e | e
    · exact .inl e
    · have := ex1.size; exact .inr (Nat.le_trans this e)
  · refine ex1.then C12.base (fun b hb h => ?_) (fun r hr => hr) (fun r hr => .inl hr)
    have := ex1.size
    have h' : w1.heap.size ≤ b := h
    omega
end
end Go.Proofs.Ytolnmdanlggmhaa

/- Lone contracts where there is no scheduler, or no coroutine of that number. -/
namespace Go.Proofs.Ytolnmdanlggmhaa
open Go.RowKit Go.Maps Go.Conc
open Go.ConcN (upd upd_ne upd_same)

set_option maxRecDepth 100000
set_option maxHeartbeats 2000000

/-- The block of no coroutine. -/
def zeroCo : Array Value := #[.pointer none, .int .i64 0, .nilFunc, .chan none, .bool false, .int .i64 0, .string ByteArray.empty]
/-- get makes a coroutine that is none. -/
def GetsNone (p : Option Addr) (id : Int) (w : World) : Prop := Calls Try.prog 66 #[.pointer p, .int .i64 id] w fun e w' => e = .returned (.pointer (some ⟨w.heap.size, 0, none⟩)) ∧ w' = w.alloc (.cells zeroCo 92)
theorem get_out (w : World) (sb qb sc n cap : Nat) (A : Option Addr) (cl : Bool) (id : Int) (h : SchAt w sb qb sc (.slice A n cap) cl) (ho : id < 1 ∨ (n : Int) < id) : GetsNone (some ⟨sb, 0, none⟩) id w := by
  have c0 := cellsAt_cell h 0 (.slice A n cap) rfl
  unfold GetsNone
  clear h
  by_cases h1 : id < 1
  · clear ho
    go_enter Try.func66, Try.ntmps66
    go_wp2_with fail
    go_ret
    exact ⟨rfl, rfl⟩
  · have h2 : (n : Int) < id := by omega
    clear ho
    go_enter Try.func66, Try.ntmps66
    go_wp2_with fail
    go_ret
    exact ⟨rfl, rfl⟩
theorem zero_cell (w : World) (i : Nat) (x : Value) (h : zeroCo[i]? = some x) : (w.alloc (.cells zeroCo 92)).cell? ⟨w.heap.size, i, none⟩ = some x := blk_cell (alloc_new' w _ rfl) i x h
theorem state_none {w : World} {p : Option Addr} {id : Int} (h : GetsNone p id w) : Calls Try.prog 43 #[.pointer p, .int .i64 id] w fun e w' => e = .returned (.int .i64 0) ∧ w' = w.alloc (.cells zeroCo 92) := by
  have c5 := zero_cell w 5 (.int .i64 0) rfl
  go_enter Try.func43, Try.ntmps43
  go_wp2_with fail
  refine h.mono ?_
  rintro e w1 ⟨rfl, rfl⟩
  go_wp2_with fail
  go_ret
  exact ⟨rfl, rfl⟩
theorem text_none {w : World} {p : Option Addr} {id : Int} (h : GetsNone p id w) : Calls Try.prog 44 #[.pointer p, .int .i64 id] w fun e w' => e = .returned (.string ByteArray.empty) ∧ w' = w.alloc (.cells zeroCo 92) := by
  have c6 := zero_cell w 6 (.string ByteArray.empty) rfl
  go_enter Try.func44, Try.ntmps44
  go_wp2_with fail
  refine h.mono ?_
  rintro e w1 ⟨rfl, rfl⟩
  go_wp2_with fail
  go_ret
  exact ⟨rfl, rfl⟩
theorem wake_none {w : World} {p : Option Addr} {id : Int} (h : GetsNone p id w) : Calls Try.prog 49 #[.pointer p, .int .i64 id] w fun e w' => e = .returned (.bool false) ∧ w' = w.alloc (.cells zeroCo 92) := by
  have c5 := zero_cell w 5 (.int .i64 0) rfl
  go_enter Try.func49, Try.ntmps49
  go_wp2_with fail
  refine h.mono ?_
  rintro e w1 ⟨rfl, rfl⟩
  go_wp2_with fail
  go_ret
  exact ⟨rfl, rfl⟩
end Go.Proofs.Ytolnmdanlggmhaa

/- From the crew's words to a law's run. -/
namespace Go.Proofs.Ytolnmdanlggmhaa
open Go.RowKit Go.Maps Go.Conc
open Go.ConcN (upd upd_ne upd_same)

/-- What a law is to have done. -/
def LawPost (W : World) (v : Value) (w' : World) : Prop := v = .bool true ∧ Below W.heap.size W w'

theorem done_at {P : Program} {F : FuncId} {fn : Func} {ts : Array Value} {todo : List Item} {t : Tmp} (hf : P.funcs[F]? = some fn) (hr : fn.results = #[.tmp t]) (hin : P.inits.idxOf? F = none) (w : World) :
    stepG P true (G { (base F).at ⟨ts, []⟩ todo with mode := .returning } []) w = .ended (.done (ts.getD t undef)) w := by
  have h1 : ∀ (w : World), (results fn ts).run P w = .ok (ts.getD t undef) w := fun w => results_tmp hr ts P w
  have h2 : (results fn ts).events P w #[] = #[] := events_results_tmp hr _ _
  rw [stepG_unw (by simp)]
  simp [unwind, Frame.at, base, hf, h1, h2, doReturn, hin, seen_none, GStep.after]

section
variable {Post : Value → World → Prop} {E : Env} {own : Nat → Nat} {S : Sch} {ks : List Kid} {FC FC' : List Row} {n n' : Nat} {Inb : Nat → Option Seat} {w w' : World}

/-- THE RUN OF A LAW. -/
theorem wins_start {g : Goroutine} {W : World} (h : Won Try.prog (LawPost W) [] 1 (fun _ => none) 0 g W) :
    ∃ M last o w' t', runNT Try.prog (M + 1) (solo g W) #[] = (.ended o w', t') ∧ runN Try.prog M (solo g W) = .next last ∧ step Try.prog last = .ended o w' ∧ Conc.Good Try.prog (LawPost W) last o w' t' := by
  rw [solo_eq_crowd]
  have R0 : Ring Try.prog (KF []) (SF []) W.heap.size (fun g => g = 0) (fun _ => none) 0 #[] #[g] W (fun _ => 0) :=
    ring_begin (fun l hl => by obtain ⟨_, _, r, hr, _⟩ := hl; cases hr) (leavers_one _ _) (past_nil.mono (Nat.zero_le _)) (fun r hr => by cases hr)
  exact h #[g] #[] (fun _ => 0) none (fun g => g = 0) rfl rfl rfl R0

theorem won_end {F : FuncId} {fn : Func} {ts : Array Value} {todo : List Item} {t : Tmp} {W : World} (hf : Try.prog.funcs[F]? = some fn) (hr : fn.results = #[.tmp t]) (hin : Try.prog.inits.idxOf? F = none) (hI : ∀ i, i ≠ 0 → Inb i = none) (ht : ts.getD t undef = .bool true) (hb : Below W.heap.size W w) :
    Won Try.prog (LawPost W) FC n Inb 0 (G { (base F).at ⟨ts, []⟩ todo with mode := .returning } []) w :=
  win_end hI rfl (v := .bool true) fun d => ⟨#[], by rw [done_at hf hr hin, ht], by simp, rfl, hb.os, hb.tape, hb.output, hb.size, hb.block⟩

theorem kf_odd {FC : List Row} {w : World} (hW : WfF FC) (hK : KF FC w) (r : Row) (hr : r ∈ FC) : ¬ Odd w.heap[r.b]? := by
  cases hx : r.xs with
  | nil => exact absurd hx (hW.some r hr)
  | cons x l =>
    have := hK r hr 0 x (by rw [hx]; rfl)
    unfold World.cell? at this
    simp only at this
    rintro (⟨_, _, e⟩ | ⟨_, _, e⟩) <;> rw [e] at this <;> cases this
/-- A crew stands while something else goes on beside it that turns nothing of what was there. -/
theorem CI.over (C : CI E 0 own S ks FC n Inb w) (H : Ground FC' n' Inb w') (hsub : ∀ r ∈ FC, r ∈ FC') (hsup : ∀ r ∈ FC', r ∈ FC ∨ w.heap.size ≤ r.b) (ex : Ext (fun b => w.heap.size ≤ b) FC w w') (hK : KF FC' w') (hn : n ≤ n') : CI E 0 own S ks FC' n' Inb w' ∧ Same6 own w w' := by
  have a : Agr own FC w w' := ⟨fun b hb hr => ex.eq b (C.lt b hb) (by have := C.lt b hb; omega) hr, fun r hr c t hc => ex.row r hr (C.rows r hr) (by have := C.rows r hr; omega) c t hc⟩
  have hsame : Same6 own w w' := a.same6 C.fi (OLe.refl _)
  refine ⟨⟨C.si.agree C.fi a, ⟨H.wf, fun i c hc => hsub _ (C.fi.rco i c hc), hsub _ C.fi.rsb, fun r hr => ?_⟩, fun b hb => ?_, H.rows, ?_, C.low, fun r hr => hsub _ (C.sub r hr), fun r hr => ?_, C.len, fun i c k hc hk => ?_, C.keep, C.only, C.chs, H.top, C.seat0, H.n0, C.uniq⟩, hsame⟩
  · rcases hsup r hr with e | e
    · exact C.fi.off r e
    · exact .inl (Classical.byContradiction fun h => by have := C.lt _ h; omega)
  · have := C.lt b hb
    have := ex.size
    refine ⟨by omega, ?_⟩
    by_cases hr : ∃ r ∈ FC, r.b = b
    · obtain ⟨r, hr, rfl⟩ := hr
      exact kf_odd C.fi.wf (kf_sub hsub hK) r hr
    · rw [a.eq b hb fun r hr' e => hr ⟨r, hr', e⟩]
      exact (C.lw b hb).2
  · exact C.base.then ex (fun b hb h => by have h' : w.heap.size ≤ b := h; have := C.base.size; omega) C.sub fun r hr => C.sup r hr
  · rcases hsup r hr with e | e
    · exact C.sup r e
    · exact .inr (Nat.le_trans C.base.size e)
  · have := C.kid i c k hc hk
    refine ⟨this.1, this.2.1, fun ht => ?_, this.2.2.2.1, this.2.2.2.2⟩
    obtain ⟨h1, h2, h3, h4, h5⟩ := this.2.2.1 ht
    exact ⟨h1, h2, h3, by omega, h5⟩
end
end Go.Proofs.Ytolnmdanlggmhaa
