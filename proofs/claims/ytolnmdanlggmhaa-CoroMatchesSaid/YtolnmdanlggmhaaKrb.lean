/- The reference: turn. -/
import Derived.Test.YtolnmdanlggmhaaKra
import Derived.Deep.LoopGhost
import Derived.Deep.RegionLaw
import Derived.Shelf.RegionOpenPlain
namespace Go.Proofs.Ytolnmdanlggmhaa
open Go.RowKit Go.Maps

def stL (x : RStep) : List Value := [.int .i64 x.op, .int .i64 x.n, .string x.text]
def stepsL (l : List RStep) : List Value := l.flatMap stL
theorem stepsL_len : ∀ l : List RStep, (stepsL l).length = l.length * 3
  | [] => rfl
  | c :: l => by
    have := stepsL_len l
    unfold stepsL at this ⊢
    simp only [List.flatMap_cons, List.length_append, this, List.length_cons]
    simp [stL]
    omega
theorem stepsL_get : ∀ {l : List RStep} {i : Nat} {x : RStep} {j : Nat} {y : Value}, l[i]? = some x → (stL x)[j]? = some y → (stepsL l)[i * 3 + j]? = some y
  | [], i, c, j, x, h, _ => by simp at h
  | d :: l, 0, c, j, x, h, hx => by
    simp only [List.getElem?_cons_zero, Option.some.injEq] at h
    subst h
    unfold stepsL
    rw [List.flatMap_cons, List.getElem?_append_left (by have := (List.getElem?_eq_some_iff.1 hx).1; omega)]
    simpa using hx
  | d :: l, i + 1, c, j, x, h, hx => by
    simp only [List.getElem?_cons_succ] at h
    have ih := stepsL_get h hx
    unfold stepsL at ih ⊢
    rw [List.flatMap_cons, List.getElem?_append_right (by simp [stL]; omega)]
    rw [← ih]
    congr 1
    simp [stL]
    omega
/-- The functions, in memory. -/
def FAt (w : World) (AF : Option Addr) (fs : List (List RStep)) : Prop :=
  ∃ vs : List Value, Rd w w.heap.size AF fs.length vs ∧ ∀ (f : Nat) (l : List RStep), fs[f]? = some l → ∃ (A : Option Addr) (c : Nat), vs[f]? = some (.slice A l.length c) ∧ Rd w w.heap.size A (l.length * 3) (stepsL l)
theorem FAt.below {w w' : World} {AF : Option Addr} {fs : List (List RStep)} (h : FAt w AF fs) (hb : Below w.heap.size w w') : FAt w' AF fs := by
  obtain ⟨vs, h1, h2⟩ := h
  refine ⟨vs, (h1.below hb).more hb.size, fun f l hl => ?_⟩
  obtain ⟨A, c, h3, h4⟩ := h2 f l hl
  exact ⟨A, c, h3, (h4.below hb).more hb.size⟩
theorem FAt.fn {w : World} {AF : Option Addr} {fs : List (List RStep)} (h : FAt w AF fs) {f : Nat} {l : List RStep} (hl : fs[f]? = some l) :
    ∃ ad A c, AF = some ad ∧ ad.block < w.heap.size ∧ w.cell? (ad.add f) = some (.slice A l.length c) ∧ Rd w w.heap.size A (l.length * 3) (stepsL l) := by
  obtain ⟨vs, h1, h2⟩ := h
  obtain ⟨A, c, h3, h4⟩ := h2 f l hl
  obtain ⟨ad, e, hB, h5⟩ := h1.at' f _ h3
  exact ⟨ad, A, c, e, hB, h5, h4⟩
theorem step_at {w : World} {B n k : Nat} {A : Option Addr} {l : List RStep} {x : RStep} (h : Rd w B A n (stepsL l)) (hx : l[k]? = some x) :
    ∃ ad ps, A = some ad ∧ ad.add (k * 3) = ps ∧ ps.block < B ∧ w.cell? ps = some (.int .i64 x.op) ∧ w.cell? ⟨ps.block, ps.off + 1, none⟩ = some (.int .i64 x.n) ∧ w.cell? ⟨ps.block, ps.off + 2, none⟩ = some (.string x.text) := by
  obtain ⟨ad, rfl, hB, h0⟩ := h.at' _ _ (stepsL_get (j := 0) hx rfl)
  have key : ∀ j y, (stL x)[j]? = some y → w.cell? (ad.add (k * 3 + j)) = some y := fun j y hy => by
    obtain ⟨ad', e, _, h1⟩ := h.at' _ _ (stepsL_get hx hy)
    injection e with e
    subst e
    exact h1
  have e0 : ∀ j, ad.add (k * 3 + (j + 1)) = ⟨(ad.add (k * 3)).block, (ad.add (k * 3)).off + (j + 1), none⟩ := fun j => by
    have eb : (ad.add (k * 3)).block = ad.block := by unfold Addr.add; split <;> rfl
    have eo : (ad.add (k * 3)).off = ad.off + k * 3 := by
      unfold Addr.add
      split
      · next h => rw [h]; rfl
      · rfl
    rw [eb, eo]
    unfold Addr.add
    rw [if_neg (by omega)]
    congr 1
    omega
  have k1 := key 1 _ rfl
  have k2 := key 2 _ rfl
  rw [e0 0] at k1
  rw [e0 1] at k2
  exact ⟨ad, _, rfl, rfl, by have eb : (ad.add (k * 3)).block = ad.block := (by unfold Addr.add; split <;> rfl)
                             rw [eb]; exact hB, h0, k1, k2⟩

/-- A call of a Go function, at a step of a region that draws its order. -/
theorem step_callR {P : Program} (w : World) {ops : Array Oper} {o : Oper} {a : Act} {K : Act → World → Prop} {Q : Exit → Act → World → Prop} {E : Prop} (hgd : o.guard = none) {f : FuncId} {fn : Func} {c : Code} {args : Array Operand} {ats : Array TypeId}
    (ho : o.op = .call { callee := .value (.func f), args, argTypes := ats }) (hfn : P.funcs[f]? = some fn) (hnm : (fn.name == "runtime.NumGoroutine") = false) (hbd : fn.body = some c) {R : Ending → World → Prop} {vs : Array Value} (hv : args.map a.eval = vs) (hc : Calls P f vs w R)
    (h : ∀ e w', R e w' → ∃ z, e = .returned z ∧ K (a.put o.dst z) w') : if Region.wanted o (yielded ops a.tmps) = true then Oper.wp P o a w K Q else E := by
  have hw : Region.wanted o (yielded ops a.tmps) = true := by simp [Region.wanted, hgd]
  rw [if_pos hw]
  subst hv
  have hrun : (execOp a.eval o).run P w = .ok (.enter f (args.map a.eval)) w := by
    unfold execOp
    have hx : a.eval (.func f) = .func (.func f) #[] #[] := rfl
    simp only [ho, resolve, hx, Deferred.ofValue]
    show (invoke (.fn (.func f) #[]) (#[] ++ args.map a.eval)).run P w = _
    unfold invoke callFunc
    rw [Sem.run_bind]
    have hb' : fn.body.isNone = false := by rw [hbd]; rfl
    have hn' : ¬ fn.name = "runtime.NumGoroutine" := by simpa using hnm
    simp only [program, Sem.run, Result.andThen_ok, hfn]
    simp [hn', hb', Sem.run_pure]
  unfold Oper.wp
  rw [hrun, Oper.upon_enter]
  exact hc.mono fun e w' hR => by
    obtain ⟨z, rfl, hk⟩ := h e w' hR
    exact hk
theorem infoStrR : (Try.prog.info? 9).map (fun i => (i.zero, i.size, i.bytes)) = some (some (.string ByteArray.empty), 1, 16) := by kernel_rfl
/-- A longer trace is put in place. -/
theorem t_fin {w8 W : World} {R : Nat → Prop} {b0 gq cq6 n q t ct cc cq : Nat} {AF Ac Aq At : Option Addr} {nF cF : Nat} {m5 : RS} {ys : List Value} {s : ByteArray} (hR0 : ¬ R b0) (hA : ∀ ad, Ac = some ad → ∃ g, ad = ⟨g, 0, none⟩)
    (hn : m5.cos.length = n) (hq : m5.q.length = q) (ht : m5.tr.length = t) (hc8 : RRow w8 R Ac (n * 4) (cosL m5.cos)) (hq8 : RRow w8 R Aq q (m5.q.map fun i : Nat => .int .i64 ((i : Int) + 1))) (hqc : q ≤ cq) (ht8 : Rd w8 w8.heap.size (some ⟨gq, 0, none⟩) ((0 + t + 1) * 1) ys) (hRq : R gq) (hgq : gq < w8.heap.size)
    (hys : ys = ([] ++ strsL m5.tr) ++ [.string s]) (D0 : w8.heap[b0]? = some (.cells #[.slice AF nF cF, .slice Ac n cc, .slice Aq q cq, .slice At t ct, .bool m5.cl] 68 (0, 0)))
    (hW : W = w8.setCell ⟨b0, 3, none⟩ (.slice (some ⟨gq, 0, none⟩) (t + 1) cq6)) :
    W.heap[b0]? = some (.cells #[.slice AF nF cF, .slice Ac n cc, .slice Aq q cq, .slice (some ⟨gq, 0, none⟩) (t + 1) cq6, .bool m5.cl] 68 (0, 0)) ∧
    SAt W R (.slice AF nF cF) (.agg #[.slice AF nF cF, .slice Ac n cc, .slice Aq q cq, .slice (some ⟨gq, 0, none⟩) (t + 1) cq6, .bool m5.cl]) (rTr m5 s) ∧ (∀ k, k ≠ b0 → W.heap[k]? = w8.heap[k]?) ∧ W.heap.size = w8.heap.size ∧ ∀ B, B ≤ b0 → Below B w8 W := by
  have hE := st_at D0 3 (.slice (some ⟨gq, 0, none⟩) (t + 1) cq6)
  rw [← hW] at hE
  simp only [List.setIfInBounds_toArray, List.set_cons_zero, List.set_cons_succ] at hE
  have O2 : ∀ k, k ≠ b0 → W.heap[k]? = w8.heap[k]? := fun k h0 => by
    have h0' : ¬ b0 = k := fun e => h0 e.symm
    rw [hW, setCell_get, if_neg h0']
  have S2 : W.heap.size = w8.heap.size := by rw [hW, setCell_size]
  have kp : ∀ k, k < w8.heap.size → R k → W.heap[k]? = w8.heap[k]? := fun k _ hR => O2 k (fun e => hR0 (e ▸ hR))
  have ht9 : RRow w8 R (some ⟨gq, 0, none⟩) ((0 + t + 1) * 1) ys := ⟨ht8, fun ad e => by cases e; exact ⟨hRq, hgq⟩⟩
  refine ⟨hE, ⟨Ac, Aq, some ⟨gq, 0, none⟩, cc, cq, cq6, hA, ?_, ?_, ?_, ?_, ?_⟩, O2, S2, fun B h0 => by rw [hW]; exact (Below.refl B w8).setCell (p := ⟨b0, 3, none⟩) h0 _⟩
  · show Value.agg _ = Value.agg #[_, .slice Ac m5.cos.length cc, .slice Aq m5.q.length cq, .slice _ (m5.tr ++ [s]).length cq6, _]
    rw [hn, hq, List.length_append, ht]
    rfl
  · show RRow W R Ac (m5.cos.length * 4) _
    rw [hn]
    exact hc8.keep kp (Nat.le_of_eq S2.symm)
  · show RRow W R Aq m5.q.length _
    rw [hq]
    exact hq8.keep kp (Nat.le_of_eq S2.symm)
  · show m5.q.length ≤ cq
    omega
  · show RRow W R _ (m5.tr ++ [s]).length (strsL (m5.tr ++ [s]))
    have e : (m5.tr ++ [s]).length = (0 + t + 1) * 1 := by rw [List.length_append, ht]; simp
    have e2 : strsL (m5.tr ++ [s]) = ys := by rw [hys]; simp [strsL]
    rw [e, e2]
    exact ht9.keep kp (Nat.le_of_eq S2.symm)
/-- At the head of turn's loop: the scheduler's box B holds a state from which the same end comes. -/
def TRel (fs : List (List RStep)) (i : Nat) (AF : Option Addr) (nf cF : Nat) (R : Nat → Prop) (w : World) (mE : RS) (gk : Nat) (wr : World) : Prop :=
  ∃ (m : RS) (c : RCo) (x1 x2 x3 x4 z0 z1 z2 z3 z4 : Value), RTn fs i m c ∧ rLeft fs c ≤ gk ∧ rTurn fs i gk m = mE ∧ wr.heap[w.heap.size]? = some (.cells #[.slice AF nf cF, x1, x2, x3, x4] 68 (0, 0)) ∧
    wr.heap[w.heap.size + 1]? = some (.cells #[z0, z1, z2, z3, z4] 68 (0, 0)) ∧ SAt wr (fun b => R b ∨ w.heap.size + 2 ≤ b) (.slice AF nf cF) (.agg #[.slice AF nf cF, x1, x2, x3, x4]) m ∧ Below w.heap.size w wr

theorem ret_imp {w w5 W : World} {R : Nat → Prop} {F v : Value} {mE : RS} {n : Nat} (hR : ∀ b, R b → b < w.heap.size) (hs : SAt w5 (fun b => (R b ∨ w.heap.size + 2 ≤ b) ∨ n ≤ b) F v mE) (hO : ∀ k, k ≠ w.heap.size + 1 → W.heap[k]? = w5.heap[k]?) (hS : W.heap.size = w5.heap.size)
    (_h1 : w.heap.size ≤ n) (h2 : w.heap.size + 1 < n) : SAt W (fun b => R b ∨ w.heap.size ≤ b) F v mE :=
  (hs.keep (fun k _ hk => hO k fun e => by
    subst e
    rcases hk with (hk | hk) | hk
    · have := hR _ hk; omega
    · omega
    · omega) (Nat.le_of_eq hS.symm)).imp fun k _ h => h.elim (fun h => h.elim .inl fun h => .inr (by omega)) fun h => .inr (by omega)

set_option maxRecDepth 100000 in
set_option maxHeartbeats 10000000 in
theorem refturn (fs : List (List RStep)) (AF : Option Addr) (nf cF : Nat) (hnf : fs.length = nf) (i : Nat) (c : RCo) (v : Value) (m : RS) (w : World) (R : Nat → Prop) (hF : FAt w AF fs) (hs : SAt w R (.slice AF nf cF) v m) (hR : ∀ b, R b → b < w.heap.size) (h60 : ∀ l ∈ fs, l.length ≤ 60) (hsz : ∀ l ∈ fs, ∀ x ∈ l, x.text.size ≤ 140737488355328) (h8 : fs.length ≤ 8) (hT : RTn fs i m c) :
    Calls Try.prog 69 #[v, .int .i64 ((i : Int) + 1)] w fun e w' => ∃ v', e = .returned v' ∧ SAt w' (fun b => R b ∨ w.heap.size ≤ b) (.slice AF nf cF) v' (rTurn fs i (rLeft fs c) m) ∧ Below w.heap.size w w' := by
  have HS := Lib.hid hs
  have HNF := Lib.hid hnf
  clear hnf
  obtain ⟨Ac, Aq, At, cc, cq, ct, _, rfl, _, _, _, _⟩ := hs
  have hb0 := two_box (w := w) (.cells #[.slice AF nf cF, .slice Ac m.cos.length cc, .slice Aq m.q.length cq, .slice At m.tr.length ct, .bool m.cl] 68) (.cells #[.slice none 0 0, .slice none 0 0, .slice none 0 0, .slice none 0 0, .bool false] 68)
  have d0 := al_old (heap_alloc_new w (.cells #[.slice AF nf cF, .slice Ac m.cos.length cc, .slice Aq m.q.length cq, .slice At m.tr.length ct, .bool m.cl] 68)) (.cells #[.slice none 0 0, .slice none 0 0, .slice none 0 0, .slice none 0 0, .bool false] 68)
  have z0 := al_at (w.alloc (.cells #[.slice AF nf cF, .slice Ac m.cos.length cc, .slice Aq m.q.length cq, .slice At m.tr.length ct, .bool m.cl] 68)) (.cells #[.slice none 0 0, .slice none 0 0, .slice none 0 0, .slice none 0 0, .bool false] 68) (b := w.heap.size + 1) (by simp)
  go_enter Try.func69, Try.ntmps69
  go_wp2_with fail
  generalize ((w.alloc (.cells #[.slice AF nf cF, .slice Ac m.cos.length cc, .slice Aq m.q.length cq, .slice At m.tr.length ct, .bool m.cl] 68)).alloc (.cells #[.slice none 0 0, .slice none 0 0, .slice none 0 0, .slice none 0 0, .bool false] 68)) = w1 at *
  go_loopg [5, 6, 7] (rLeft fs c) (fun gk _ _ _ wr => TRel fs i AF nf cF R w (rTurn fs i (rLeft fs c) m) gk wr)
  case atStart => exact ⟨m, c, _, _, _, _, _, _, _, _, _, hT, Nat.le_refl _, rfl, d0, z0, (HS.out.below hb0).imp fun _ _ h => .inl h, hb0⟩
  case round =>
    obtain ⟨m1, c1, x1, x2, x3, x4, z0, z1, z2, z3, z4, hT1, hk, hE, D, Z, hs1, hb1⟩ := hrel
    have HS1 := Lib.hid hs1
    obtain ⟨Ac1, Aq1, At1, cc1, cq1, ct1, hA1, hv, hc1, _, _, _⟩ := hs1
    simp only [Value.agg.injEq, Array.mk.injEq, List.cons.injEq, and_true, true_and] at hv
    obtain ⟨rfl, rfl, rfl, rfl⟩ := hv
    have HE := Lib.hid hE
    clear hE
    have hl := hT1.inv.len
    have hil : i < m1.cos.length := (List.getElem?_eq_some_iff.1 hT1.get).1
    obtain ⟨n1, hn1⟩ : ∃ n1, m1.cos.length = n1 := ⟨_, rfl⟩
    obtain ⟨q1, hq1⟩ : ∃ q1, m1.q.length = q1 := ⟨_, rfl⟩
    obtain ⟨t1, ht1⟩ : ∃ t1, m1.tr.length = t1 := ⟨_, rfl⟩
    rw [hn1] at hl hil hc1 D HS1
    rw [hq1, ht1] at D HS1
    have hii : (i : Int) < (n1 : Int) := by omega
    have hi0 : ¬ (i : Int) < 0 := by omega
    have hf : c1.f < fs.length := hT1.inv.fin c1 (List.mem_of_getElem? hT1.get)
    obtain ⟨l, hfl⟩ : ∃ l, fs[c1.f]? = some l := ⟨_, List.getElem?_eq_getElem hf⟩
    have hfn : rFn fs c1.f = l := by unfold rFn; rw [List.getD_eq_getElem?_getD, hfl]; rfl
    obtain ⟨af, Al, cl, rfl, hafB, e0, hL⟩ := ((hF.below hb1).fn hfl)
    obtain ⟨g, rfl, hgB, d0, d1, d2, d3⟩ := rd_co hA1 hc1 hT1.get
    obtain ⟨b0, b1, b2, b3, b4, fb⟩ := five_cells D
    have hlt := blk_lt D
    have hpB : (af.add c1.f).block < wr.heap.size := by
      have e : (af.add c1.f).block = af.block := by unfold Addr.add; split <;> rfl
      rw [e]; exact hafB
    obtain ⟨pf, hpf⟩ : ∃ pf, af.add c1.f = pf := ⟨_, rfl⟩
    rw [hpf] at e0 hpB
    have hf1 : (c1.f : Int) < (fs.length : Int) := by omega
    have hf0 : ¬ (c1.f : Int) < 0 := by omega
    have hnf := HNF.out
    obtain ⟨nl, hnl⟩ : ∃ nl, l.length = nl := ⟨_, rfl⟩
    have HN := Lib.hid (And.intro hn1 (And.intro hq1 (And.intro ht1 (And.intro hnf (And.intro hnl hfn)))))
    rw [hnf] at hf hf1
    rw [hnl] at e0 hL
    have HD := Lib.hid D
    clear hnf hn1 hq1 ht1 hnl hfn hA1 D
    cases hx : l[c1.pos]? with
    | none =>
      have hp : nl ≤ c1.pos := by have := HN.out.2.2.2.2.1; have := List.getElem?_eq_none_iff.1 hx; omega
      have hpi : (nl : Int) ≤ (c1.pos : Int) := by omega
      have hxx := hx
      clear hx
      go_wp2_with fail
      have ha := (Below.refl wr.heap.size wr).alloc (Nat.le_refl _) (.cells #[.int .i64 (c1.f : Int), .int .i64 (c1.pos : Int), .int .i64 3, .string c1.txt] 98)
      have Za := al_old Z (.cells #[.int .i64 (c1.f : Int), .int .i64 (c1.pos : Int), .int .i64 3, .string c1.txt] 98)
      have sa : (wr.alloc (.cells #[.int .i64 (c1.f : Int), .int .i64 (c1.pos : Int), .int .i64 3, .string c1.txt] 98)).heap.size = wr.heap.size + 1 := by simp
      refine (refset (some af) nf cF i { c1 with st := 3 } _ m1 _ _ (HS1.out.below ha) (by have := HN.out.1; omega) hT1.inv.len).mono ?_
      rintro e w5 ⟨v5, rfl, hs5, hb5⟩
      generalize (wr.alloc (.cells #[.int .i64 (c1.f : Int), .int .i64 (c1.pos : Int), .int .i64 3, .string c1.txt] 98)) = wa at *
      have Z5 := (hb5.block _ (blk_lt Za)).trans Za
      have hbw : Below w.heap.size w w5 := hb1.trans ((ha.mono hb1.size).trans (hb5.mono (by have := hb1.size; omega)))
      have e2 : rTurn fs i gk m1 = rSet m1 i { c1 with st := 3 } := by
        obtain ⟨k, rfl⟩ : ∃ k, gk = k + 1 := ⟨gk - 1, by unfold rLeft at hk; omega⟩
        unfold rTurn
        simp only [hT1.get, HN.out.2.2.2.2.2, hxx]
      rw [← e2, HE.out] at hs5
      obtain ⟨mE, hmE⟩ : ∃ mE, rTurn fs i (rLeft fs c) m = mE := ⟨_, rfl⟩
      rw [hmE] at hs5
      have HM := Lib.hid (And.intro hmE HN.out.2.2.2.1)
      clear hmE
      clear e2 HS1 HE hT hT1 h60 HN d0 d1 d2 d3 b0 b1 b2 b3 b4 e0 hL hc1 hfl
      have HS5 := Lib.hid hs5
      obtain ⟨Ac5, Aq5, At5, cc5, cq5, ct5, _, rfl, _, _, _, _⟩ := hs5
      obtain ⟨y0, y1, y2, y3, y4, fy⟩ := five_cells Z5
      have hlt5 := blk_lt Z5
      go_wp2_with fail
      obtain ⟨hE5, hO, hS, hK⟩ := st5_at Z5 rfl
      refine bodyPost_ret (results_cell_row (p := 4) (ty := 68) rfl _ _ (w.heap.size + 1) _ _ _ _ rfl hE5 Try.underlying68 rfl infoRS) rfl ⟨_, rfl, ?_, hbw.trans (hK _ (by omega))⟩
      rw [HM.out.1]
      exact ret_imp hR HS5.out hO hS (by have := hb1.size; omega) (by have := blk_lt Z; omega)
    | some x =>
      have hp : c1.pos < nl := by have := HN.out.2.2.2.2.1; have := (List.getElem?_eq_some_iff.1 hx).1; omega
      have hpi : (c1.pos : Int) < (nl : Int) := by omega
      have hpi0 : ¬ (c1.pos : Int) < 0 := by omega
      have hpi1 : ¬ (nl : Int) ≤ (c1.pos : Int) := by omega
      have hwr : IntKind.i64.wrap ((c1.pos : Int) + 1) = (c1.pos : Int) + 1 := by
        have := h60 l (List.mem_of_getElem? hfl)
        have := HN.out.2.2.2.2.1
        rw [IntKind.wrap_i64]
        omega
      obtain ⟨al, ps, rfl, hps, hpsB, o0, o1, o2⟩ := step_at hL hx
      have hxx := hx
      clear hx
      by_cases h0 : x.op = 0
      · rw [h0] at o0
        go_wp2_with fail
        have ha : Below wr.heap.size wr ((wr.alloc (.cells #[.int .i64 (c1.f : Int), .int .i64 ((c1.pos : Int) + 1), .int .i64 c1.st, .string c1.txt] 98)).alloc (.cells #[.int .i64 0, .int .i64 x.n, .string x.text] 109)) := by exact two_box _ _
        have Za : ((wr.alloc (.cells #[.int .i64 (c1.f : Int), .int .i64 ((c1.pos : Int) + 1), .int .i64 c1.st, .string c1.txt] 98)).alloc (.cells #[.int .i64 0, .int .i64 x.n, .string x.text] 109)).heap[w.heap.size + 1]? = _ := al_old (al_old Z _) _
        have Da : ((wr.alloc (.cells #[.int .i64 (c1.f : Int), .int .i64 ((c1.pos : Int) + 1), .int .i64 c1.st, .string c1.txt] 98)).alloc (.cells #[.int .i64 0, .int .i64 x.n, .string x.text] 109)).heap[w.heap.size]? = _ := al_old (al_old HD.out _) _
        have sa : ((wr.alloc (.cells #[.int .i64 (c1.f : Int), .int .i64 ((c1.pos : Int) + 1), .int .i64 c1.st, .string c1.txt] 98)).alloc (.cells #[.int .i64 0, .int .i64 x.n, .string x.text] 109)).heap.size = wr.heap.size + 2 := by simp
        have Xa := al_at (wr.alloc (.cells #[.int .i64 (c1.f : Int), .int .i64 ((c1.pos : Int) + 1), .int .i64 c1.st, .string c1.txt] 98)) (.cells #[.int .i64 0, .int .i64 x.n, .string x.text] 109) (b := wr.heap.size + 1) (by simp)
        refine (refset (some af) nf cF i { c1 with pos := c1.pos + 1 } _ m1 _ _ (HS1.out.below ha) (by have := HN.out.1; omega) hT1.inv.len).mono ?_
        rintro e w5 ⟨v5, rfl, hs5, hb5⟩
        generalize ((wr.alloc (.cells #[.int .i64 (c1.f : Int), .int .i64 ((c1.pos : Int) + 1), .int .i64 c1.st, .string c1.txt] 98)).alloc (.cells #[.int .i64 0, .int .i64 x.n, .string x.text] 109)) = wa at *
        have Z5 := (hb5.block _ (blk_lt Za)).trans Za
        have D5 := (hb5.block _ (blk_lt Da)).trans Da
        have hbw : Below w.heap.size w w5 := hb1.trans ((ha.mono hb1.size).trans (hb5.mono (by have := hb1.size; omega)))
        have X5 := (hb5.block _ (blk_lt Xa)).trans Xa
        obtain ⟨hT5, hroom⟩ := hT1.step (x := x) (by rw [HN.out.2.2.2.2.2]; exact hxx)
        have hk5 : rLeft fs { c1 with pos := c1.pos + 1 } + 1 ≤ gk := by have := HN.out.2.2.2.2.1; have e := HN.out.2.2.2.2.2; unfold rLeft at hk ⊢; simp only [e] at hk ⊢; omega
        obtain ⟨k, rfl⟩ : ∃ k, gk = k + 1 := ⟨gk - 1, by omega⟩
        have e2 := HE.out
        obtain ⟨mE, hmE⟩ : ∃ mE, rTurn fs i (rLeft fs c) m = mE := ⟨_, rfl⟩
        rw [hmE] at e2
        unfold rTurn at e2
        simp [hT1.get, HN.out.2.2.2.2.2, hxx, h0] at e2
        rw [← hmE] at e2
        have HE2 := Lib.hid e2
        clear e2 hmE
        have hs5' : SAt w5 (fun b => R b ∨ w.heap.size + 2 ≤ b) _ v5 _ := hs5.imp fun b _ h => h.elim id fun h => .inr (by have := blk_lt Z; omega)
        clear hs5
        obtain ⟨m5, hm5⟩ : ∃ m5, rSet m1 i { c1 with pos := c1.pos + 1 } = m5 := ⟨_, rfl⟩
        rw [hm5] at hs5' hT5 hroom HE2
        clear hm5
        have HS5 := Lib.hid hs5'
        obtain ⟨Ac5, Aq5, At5, cc5, cq5, ct5, hA5, rfl, hc5, hq5, hqc5, ht5⟩ := hs5'
        obtain ⟨n5, hn5⟩ : ∃ n5, m5.cos.length = n5 := ⟨_, rfl⟩
        obtain ⟨q5, hq55⟩ : ∃ q5, m5.q.length = q5 := ⟨_, rfl⟩
        obtain ⟨t5, ht55⟩ : ∃ t5, m5.tr.length = t5 := ⟨_, rfl⟩
        rw [hn5] at hc5 HS5 ⊢
        rw [hq55] at hq5 hqc5 HS5 ⊢
        rw [ht55] at ht5 HS5 ⊢
        have HX := Lib.hid (And.intro hn5 (And.intro hq55 ht55))
        have hn20 := hT5.inv.len
        have hq20 := hT5.inv.qlen
        rw [hn5] at hn20
        rw [hq55] at hq20
        clear hn5 hq55 ht55 HS1 HE d0 d1 d2 d3 b0 b1 b2 b3 b4 fb e0 hL hc1 o0 o1 o2 hii hi0 hpi hpi0 hpi1 hwr
        obtain ⟨y0, y1, y2, y3, y4, fy⟩ := five_cells D5
        have hlt5 := blk_lt D5
        dsimp only
        iterate 3 (go_step)
        obtain ⟨D6, O6, S6, K6⟩ := st5_at (x0 := .slice (some af) nf cF) (x1 := .slice Ac5 n5 cc5) (x2 := .slice Aq5 q5 cq5) (x3 := .slice At5 t5 ct5) (x4 := .bool m5.cl) D5 rfl
        generalize (((((w5.setCell ⟨w.heap.size, 0, none⟩ (.slice (some af) nf cF)).setCell ⟨w.heap.size, 1, none⟩ (.slice Ac5 n5 cc5)).setCell ⟨w.heap.size, 2, none⟩ (.slice Aq5 q5 cq5)).setCell ⟨w.heap.size, 3, none⟩ (.slice At5 t5 ct5)).setCell ⟨w.heap.size, 4, none⟩ (.bool m5.cl)) = w6 at *
        have kp6 : ∀ k, k < w5.heap.size → (R k ∨ w.heap.size + 2 ≤ k) → w6.heap[k]? = w5.heap[k]? := fun k _ hk => O6 k fun e => by
          rcases hk with h | h
          · have := hR _ h; omega
          · omega
        have hs6 := HS5.out.keep kp6 (Nat.le_of_eq S6.symm)
        have Z6 := (O6 (w.heap.size + 1) (by omega)).trans Z5
        have hb6 : Below w.heap.size w w6 := hbw.trans (K6 _ (Nat.le_refl _))
        obtain ⟨c60, c61, c62, c63, c64, f6⟩ := five_cells D6
        have hlt6 := blk_lt D6
        have hlz6 := blk_lt Z6
        have HS6 := Lib.hid S6
        have X6 := (O6 (wr.heap.size + 1) (by have := blk_lt HD.out; omega)).trans X5
        have sx1 := blk_cell X6 1 _ rfl
        have sx2 := blk_cell X6 2 _ rfl
        clear S6 O6 y0 y1 y2 y3 y4 fy hlt5 HS5 Z5 D5 Za Da sa K6 Xa X5 X6
        have hq6 := hq5.keep kp6 (Nat.le_of_eq HS6.out.symm)
        have hc6 := hc5.keep kp6 (Nat.le_of_eq HS6.out.symm)
        have ht6 := ht5.keep kp6 (Nat.le_of_eq HS6.out.symm)
        have hqa := hq6.rd.below ((Below.refl _ _).alloc (Nat.le_refl _) (.cells #[] 3))
        have hq1 := ints_one m5.q
        obtain ⟨i1, hio, hz0, hz1, hz2⟩ := info_parts infoQi
        have hown := World.ownsRow_lit (e := 3) (size := 1) (base := w6.heap.size) w6 #[] 0 (Nat.le_refl _) (by simp [maxLen]) (by simp)
        go_wp2_with (first | (at_builtin; refine wpList_app _ rfl (.tmp 63) (.tmp 65) 22 rfl w6.heap.size 3 i1 _ 8 Try.underlying22 hio hz0 hz1 hz2 rfl _ _ _ rfl hown w6.heap.size Aq5 q5 cq5 _ rfl hqa hq1 (by unfold maxLen; omega) (by omega) (by simp) ?_; intro v7 w7 hown7 hg7 hat7) | (at_builtin; refine wpList_app _ rfl (.tmp 66) (.tmp 68) 22 rfl w6.heap.size 3 i1 _ 8 Try.underlying22 hio hz0 hz1 hz2 rfl _ _ _ rfl (hown7.alloc _) (w7.heap.size + 1) _ 1 1 _ rfl (rd_one1 _ _ _) (by intro u hu; rw [List.mem_singleton.1 hu]; rfl) (by unfold maxLen; omega) (by omega) (by simp; have := hg7.size; simp at this; omega) ?_; intro v8 w8 hown8 hg8 hat8; obtain ⟨gq, cq8, rfl, hgq, hgql, hr8, hcq8, hb8⟩ := appX (b := w6.heap.size) ((Below.refl w6.heap.size w6).alloc (Nat.le_refl _) (.cells #[] 3)) (by simp) hg7 (Nat.le_refl _) ((Below.refl w6.heap.size w7).alloc (Nat.le_trans (by simp) hg7.size) (.cells #[.int .i64 ((i : Int) + 1)] 3)) hg8 hown7 hown8 (by omega); obtain ⟨c80, c81, c82, c83, c84, f8⟩ := five_cells ((hb8.block _ hlt6).trans D6); have Z8 := (hb8.block (w.heap.size + 1) hlz6).trans Z6; obtain ⟨z80, z81, z82, z83, z84, fz8⟩ := five_cells Z8; clear hown hown7 hown8 hg7 hg8 hat7 hat8 hqa hio hz0 hz1 hz2 hq1 c60 c61 c62 c63 c64 f6 D6) | fail)
        have hRn : ∀ b, b = w.heap.size ∨ b = w.heap.size + 1 → ¬ (R b ∨ w.heap.size + 2 ≤ b) := fun b hb h => by
          rcases h with h | h
          · have := hR _ h; omega
          · omega
        have kp8 : ∀ k, k < w6.heap.size → (R k ∨ w.heap.size + 2 ≤ k) → w8.heap[k]? = w6.heap[k]? := fun k hk _ => hb8.block k hk
        have s8 := hb8.size
        have hbs6 := hb6.size
        obtain ⟨hE, hS, hO, hZ, hK⟩ := q_fin (R := fun b => R b ∨ w.heap.size + 2 ≤ b) (b0 := w.heap.size) (b1 := w.heap.size + 1) (mF := rPush m5 i) (by omega) (hRn _ (.inl rfl)) (hRn _ (.inr rfl)) hA5 HX.out.1 HX.out.2.1 HX.out.2.2 (hc6.keep kp8 s8) (ht6.keep kp8 s8) hr8 (.inr (by omega)) hgql hcq8 rfl ⟨rfl, rfl, rfl, rfl⟩ Z8 rfl
        refine bodyPost_ret (results_cell_row (p := 4) (ty := 68) rfl _ _ (w.heap.size + 1) _ _ _ _ rfl hE Try.underlying68 rfl infoRS) rfl ⟨_, rfl, ?_, ?_⟩
        · rw [← HE2.out]
          exact hS.imp fun b _ h => h.elim .inl fun h => .inr (by omega)
        · exact hb6.trans ((hb8.mono (by omega)).trans (hK _ (by omega) (by omega)))
      by_cases h1 : x.op = 1
      · rw [h1] at o0
        go_wp2_with fail
        have ha : Below wr.heap.size wr ((wr.alloc (.cells #[.int .i64 (c1.f : Int), .int .i64 ((c1.pos : Int) + 1), .int .i64 2, .string c1.txt] 98)).alloc (.cells #[.int .i64 1, .int .i64 x.n, .string x.text] 109)) := by exact two_box _ _
        have Za : ((wr.alloc (.cells #[.int .i64 (c1.f : Int), .int .i64 ((c1.pos : Int) + 1), .int .i64 2, .string c1.txt] 98)).alloc (.cells #[.int .i64 1, .int .i64 x.n, .string x.text] 109)).heap[w.heap.size + 1]? = _ := al_old (al_old Z _) _
        have sa : ((wr.alloc (.cells #[.int .i64 (c1.f : Int), .int .i64 ((c1.pos : Int) + 1), .int .i64 2, .string c1.txt] 98)).alloc (.cells #[.int .i64 1, .int .i64 x.n, .string x.text] 109)).heap.size = wr.heap.size + 2 := by simp
        refine (refset (some af) nf cF i { c1 with pos := c1.pos + 1, st := 2 } _ m1 _ _ (HS1.out.below ha) (by have := HN.out.1; omega) hT1.inv.len).mono ?_
        rintro e w5 ⟨v5, rfl, hs5, hb5⟩
        generalize ((wr.alloc (.cells #[.int .i64 (c1.f : Int), .int .i64 ((c1.pos : Int) + 1), .int .i64 2, .string c1.txt] 98)).alloc (.cells #[.int .i64 1, .int .i64 x.n, .string x.text] 109)) = wa at *
        have Z5 := (hb5.block _ (blk_lt Za)).trans Za
        have hbw : Below w.heap.size w w5 := hb1.trans ((ha.mono hb1.size).trans (hb5.mono (by have := hb1.size; omega)))
        have e2 : rTurn fs i gk m1 = rSet m1 i { c1 with pos := c1.pos + 1, st := 2 } := by
          obtain ⟨k, rfl⟩ : ∃ k, gk = k + 1 := ⟨gk - 1, by unfold rLeft at hk; omega⟩
          unfold rTurn
          simp [hT1.get, HN.out.2.2.2.2.2, hxx, h1]
        rw [← e2, HE.out] at hs5
        obtain ⟨mE, hmE⟩ : ∃ mE, rTurn fs i (rLeft fs c) m = mE := ⟨_, rfl⟩
        rw [hmE] at hs5
        have HM := Lib.hid (And.intro hmE HN.out.2.2.2.1)
        clear hmE
        clear e2 HS1 HE hT hT1 h60 HN d0 d1 d2 d3 b0 b1 b2 b3 b4 e0 hL hc1 hfl
        have HS5 := Lib.hid hs5
        obtain ⟨Ac5, Aq5, At5, cc5, cq5, ct5, _, rfl, _, _, _, _⟩ := hs5
        obtain ⟨y0, y1, y2, y3, y4, fy⟩ := five_cells Z5
        have hlt5 := blk_lt Z5
        go_wp2_with fail
        obtain ⟨hE5, hO, hS, hK⟩ := st5_at Z5 rfl
        refine bodyPost_ret (results_cell_row (p := 4) (ty := 68) rfl _ _ (w.heap.size + 1) _ _ _ _ rfl hE5 Try.underlying68 rfl infoRS) rfl ⟨_, rfl, ?_, hbw.trans (hK _ (by omega))⟩
        rw [HM.out.1]
        exact ret_imp hR HS5.out hO hS (by have := hb1.size; omega) (by have := blk_lt Z; omega)
      by_cases h2 : x.op = 2
      · rw [h2] at o0
        go_wp2_with fail
        have ha : Below wr.heap.size wr ((wr.alloc (.cells #[.int .i64 (c1.f : Int), .int .i64 ((c1.pos : Int) + 1), .int .i64 c1.st, .string c1.txt] 98)).alloc (.cells #[.int .i64 2, .int .i64 x.n, .string x.text] 109)) := by exact two_box _ _
        have Za : ((wr.alloc (.cells #[.int .i64 (c1.f : Int), .int .i64 ((c1.pos : Int) + 1), .int .i64 c1.st, .string c1.txt] 98)).alloc (.cells #[.int .i64 2, .int .i64 x.n, .string x.text] 109)).heap[w.heap.size + 1]? = _ := al_old (al_old Z _) _
        have Da : ((wr.alloc (.cells #[.int .i64 (c1.f : Int), .int .i64 ((c1.pos : Int) + 1), .int .i64 c1.st, .string c1.txt] 98)).alloc (.cells #[.int .i64 2, .int .i64 x.n, .string x.text] 109)).heap[w.heap.size]? = _ := al_old (al_old HD.out _) _
        have sa : ((wr.alloc (.cells #[.int .i64 (c1.f : Int), .int .i64 ((c1.pos : Int) + 1), .int .i64 c1.st, .string c1.txt] 98)).alloc (.cells #[.int .i64 2, .int .i64 x.n, .string x.text] 109)).heap.size = wr.heap.size + 2 := by simp
        have Xa := al_at (wr.alloc (.cells #[.int .i64 (c1.f : Int), .int .i64 ((c1.pos : Int) + 1), .int .i64 c1.st, .string c1.txt] 98)) (.cells #[.int .i64 2, .int .i64 x.n, .string x.text] 109) (b := wr.heap.size + 1) (by simp)
        refine (refset (some af) nf cF i { c1 with pos := c1.pos + 1 } _ m1 _ _ (HS1.out.below ha) (by have := HN.out.1; omega) hT1.inv.len).mono ?_
        rintro e w5 ⟨v5, rfl, hs5, hb5⟩
        generalize ((wr.alloc (.cells #[.int .i64 (c1.f : Int), .int .i64 ((c1.pos : Int) + 1), .int .i64 c1.st, .string c1.txt] 98)).alloc (.cells #[.int .i64 2, .int .i64 x.n, .string x.text] 109)) = wa at *
        have Z5 := (hb5.block _ (blk_lt Za)).trans Za
        have D5 := (hb5.block _ (blk_lt Da)).trans Da
        have hbw : Below w.heap.size w w5 := hb1.trans ((ha.mono hb1.size).trans (hb5.mono (by have := hb1.size; omega)))
        have X5 := (hb5.block _ (blk_lt Xa)).trans Xa
        obtain ⟨hT5, hroom⟩ := hT1.step (x := x) (by rw [HN.out.2.2.2.2.2]; exact hxx)
        have hk5 : rLeft fs { c1 with pos := c1.pos + 1 } + 1 ≤ gk := by have := HN.out.2.2.2.2.1; have e := HN.out.2.2.2.2.2; unfold rLeft at hk ⊢; simp only [e] at hk ⊢; omega
        obtain ⟨k, rfl⟩ : ∃ k, gk = k + 1 := ⟨gk - 1, by omega⟩
        have e2 := HE.out
        obtain ⟨mE, hmE⟩ : ∃ mE, rTurn fs i (rLeft fs c) m = mE := ⟨_, rfl⟩
        rw [hmE] at e2
        unfold rTurn at e2
        simp [hT1.get, HN.out.2.2.2.2.2, hxx, h2] at e2
        rw [← hmE] at e2
        have HE2 := Lib.hid e2
        clear e2 hmE
        have hs5' : SAt w5 (fun b => R b ∨ w.heap.size + 2 ≤ b) _ v5 _ := hs5.imp fun b _ h => h.elim id fun h => .inr (by have := blk_lt Z; omega)
        clear hs5
        obtain ⟨m5, hm5⟩ : ∃ m5, rSet m1 i { c1 with pos := c1.pos + 1 } = m5 := ⟨_, rfl⟩
        rw [hm5] at hs5' hT5 hroom HE2
        clear hm5
        have HS5 := Lib.hid hs5'
        obtain ⟨Ac5, Aq5, At5, cc5, cq5, ct5, hA5, rfl, hc5, hq5, hqc5, ht5⟩ := hs5'
        obtain ⟨n5, hn5⟩ : ∃ n5, m5.cos.length = n5 := ⟨_, rfl⟩
        obtain ⟨q5, hq55⟩ : ∃ q5, m5.q.length = q5 := ⟨_, rfl⟩
        obtain ⟨t5, ht55⟩ : ∃ t5, m5.tr.length = t5 := ⟨_, rfl⟩
        rw [hn5] at hc5 HS5 ⊢
        rw [hq55] at hq5 hqc5 HS5 ⊢
        rw [ht55] at ht5 HS5 ⊢
        have HX := Lib.hid (And.intro hn5 (And.intro hq55 ht55))
        have hn20 := hT5.inv.len
        have hq20 := hT5.inv.qlen
        rw [hn5] at hn20
        rw [hq55] at hq20
        clear hn5 hq55 ht55 HS1 HE d0 d1 d2 d3 b0 b1 b2 b3 b4 fb e0 hL hc1 o0 o1 o2 hii hi0 hpi hpi0 hpi1 hwr
        obtain ⟨y0, y1, y2, y3, y4, fy⟩ := five_cells D5
        have hlt5 := blk_lt D5
        dsimp only
        iterate 3 (go_step)
        obtain ⟨D6, O6, S6, K6⟩ := st5_at (x0 := .slice (some af) nf cF) (x1 := .slice Ac5 n5 cc5) (x2 := .slice Aq5 q5 cq5) (x3 := .slice At5 t5 ct5) (x4 := .bool m5.cl) D5 rfl
        generalize (((((w5.setCell ⟨w.heap.size, 0, none⟩ (.slice (some af) nf cF)).setCell ⟨w.heap.size, 1, none⟩ (.slice Ac5 n5 cc5)).setCell ⟨w.heap.size, 2, none⟩ (.slice Aq5 q5 cq5)).setCell ⟨w.heap.size, 3, none⟩ (.slice At5 t5 ct5)).setCell ⟨w.heap.size, 4, none⟩ (.bool m5.cl)) = w6 at *
        have kp6 : ∀ k, k < w5.heap.size → (R k ∨ w.heap.size + 2 ≤ k) → w6.heap[k]? = w5.heap[k]? := fun k _ hk => O6 k fun e => by
          rcases hk with h | h
          · have := hR _ h; omega
          · omega
        have hs6 := HS5.out.keep kp6 (Nat.le_of_eq S6.symm)
        have Z6 := (O6 (w.heap.size + 1) (by omega)).trans Z5
        have hb6 : Below w.heap.size w w6 := hbw.trans (K6 _ (Nat.le_refl _))
        obtain ⟨c60, c61, c62, c63, c64, f6⟩ := five_cells D6
        have hlt6 := blk_lt D6
        have hlz6 := blk_lt Z6
        have HS6 := Lib.hid S6
        have X6 := (O6 (wr.heap.size + 1) (by have := blk_lt HD.out; omega)).trans X5
        have sx1 := blk_cell X6 1 _ rfl
        have sx2 := blk_cell X6 2 _ rfl
        clear S6 O6 y0 y1 y2 y3 y4 fy hlt5 HS5 Z5 D5 Za Da sa K6 Xa X5 X6
        by_cases h20 : n5 < 20
        · have h20i : (n5 : Int) < 20 := by omega
          have hmix : Try.prog.follows .mixedOrders = true := by kernel_rfl
          have hbz := Below.refl w6.heap.size w6
          have e20 : m5.cos.length < 20 := by have := HX.out.1; omega
          have e3 := HE2.out
          rw [if_pos e20, HNF.out] at e3
          have hT8 := hT5.spawn (f := rNumber nf x.n) e20 (by rw [HNF.out]; exact Nat.mod_lt _ (by have := HNF.out; omega)) h60
          have HT8 := Lib.hid (And.intro hT8 e3)
          clear hT8 e3
          go_wp2_with fail
          go_region_with_o (first
            | (go_at_call 78; refine (refnumber (some af) nf cF x.n _ m5 _ _ (hs6.below (below_drw hbz)) (by have := HNF.out; omega)).mono ?_; rintro e w7 ⟨rfl, hb7⟩; have hx7 : Below w6.heap.size w6 w7 := (below_drw hbz).trans hb7; obtain ⟨j0, j1, j2, j3, j4, fj⟩ := five_cells ((hx7.block _ hlt6).trans D6))
            | (go_at_call 68; refine (refspawn (some af) nf cF (rNumber nf x.n) _ m5 _ _ (hs6.below hx7) (by have := HX.out.1; omega) (by have := HX.out.2.1; omega)).mono ?_; rintro e w8 ⟨v8, rfl, hs8, hb8⟩; have HS8 := Lib.hid hs8; obtain ⟨Ac8, Aq8, At8, cc8, cq8, ct8, _, rfl, _, _, _, _⟩ := hs8; have h67 := hx7.size; have D8 := (hb8.block w.heap.size (by omega)).trans ((hx7.block _ hlt6).trans D6); have Z8 := (hb8.block (w.heap.size + 1) (by omega)).trans ((hx7.block _ hlz6).trans Z6); obtain ⟨y0, y1, y2, y3, y4, fy⟩ := five_cells D8))
          all_goals
            go_wp2_with fail
            obtain ⟨D9, O9, S9, K9⟩ := st5_at D8 rfl
            go_roundg k
            case measure => omega
            case rel =>
              exact ⟨_, { c1 with pos := c1.pos + 1 }, _, _, _, _, _, _, _, _, _, HT8.out.1, by omega, HT8.out.2, D9, (O9 _ (by omega)).trans Z8, (HS8.out.imp fun b _ h => h.elim id fun h => .inr (by omega)).keep (fun k _ hk => O9 k fun e => by
                  rcases hk with h | h
                  · have := hR _ h; omega
                  · omega) (Nat.le_of_eq S9.symm), hb6.trans ((hx7.mono (by have := hb6.size; omega)).trans ((hb8.mono (by omega)).trans (K9 _ (Nat.le_refl _))))⟩
        · have h20i : ¬ (n5 : Int) < 20 := by omega
          go_wp2_with fail
          have e20 : ¬ m5.cos.length < 20 := by have := HX.out.1; omega
          have e3 := HE2.out
          rw [if_neg e20] at e3
          go_roundg k
          case measure => omega
          case rel => exact ⟨m5, { c1 with pos := c1.pos + 1 }, _, _, _, _, _, _, _, _, _, hT5, by omega, e3, D6, Z6, hs6, hb6⟩
      by_cases h3 : x.op = 3
      · rw [h3] at o0
        go_wp2_with fail
        have ha : Below wr.heap.size wr ((wr.alloc (.cells #[.int .i64 (c1.f : Int), .int .i64 ((c1.pos : Int) + 1), .int .i64 4, .string x.text] 98)).alloc (.cells #[.int .i64 3, .int .i64 x.n, .string x.text] 109)) := by exact two_box _ _
        have Za : ((wr.alloc (.cells #[.int .i64 (c1.f : Int), .int .i64 ((c1.pos : Int) + 1), .int .i64 4, .string x.text] 98)).alloc (.cells #[.int .i64 3, .int .i64 x.n, .string x.text] 109)).heap[w.heap.size + 1]? = _ := al_old (al_old Z _) _
        have sa : ((wr.alloc (.cells #[.int .i64 (c1.f : Int), .int .i64 ((c1.pos : Int) + 1), .int .i64 4, .string x.text] 98)).alloc (.cells #[.int .i64 3, .int .i64 x.n, .string x.text] 109)).heap.size = wr.heap.size + 2 := by simp
        refine (refset (some af) nf cF i { c1 with pos := c1.pos + 1, st := 4, txt := x.text } _ m1 _ _ (HS1.out.below ha) (by have := HN.out.1; omega) hT1.inv.len).mono ?_
        rintro e w5 ⟨v5, rfl, hs5, hb5⟩
        generalize ((wr.alloc (.cells #[.int .i64 (c1.f : Int), .int .i64 ((c1.pos : Int) + 1), .int .i64 4, .string x.text] 98)).alloc (.cells #[.int .i64 3, .int .i64 x.n, .string x.text] 109)) = wa at *
        have Z5 := (hb5.block _ (blk_lt Za)).trans Za
        have hbw : Below w.heap.size w w5 := hb1.trans ((ha.mono hb1.size).trans (hb5.mono (by have := hb1.size; omega)))
        have e2 : rTurn fs i gk m1 = rSet m1 i { c1 with pos := c1.pos + 1, st := 4, txt := x.text } := by
          obtain ⟨k, rfl⟩ : ∃ k, gk = k + 1 := ⟨gk - 1, by unfold rLeft at hk; omega⟩
          unfold rTurn
          simp [hT1.get, HN.out.2.2.2.2.2, hxx, h3]
        rw [← e2, HE.out] at hs5
        obtain ⟨mE, hmE⟩ : ∃ mE, rTurn fs i (rLeft fs c) m = mE := ⟨_, rfl⟩
        rw [hmE] at hs5
        have HM := Lib.hid (And.intro hmE HN.out.2.2.2.1)
        clear hmE
        clear e2 HS1 HE hT hT1 h60 HN d0 d1 d2 d3 b0 b1 b2 b3 b4 e0 hL hc1 hfl
        have HS5 := Lib.hid hs5
        obtain ⟨Ac5, Aq5, At5, cc5, cq5, ct5, _, rfl, _, _, _, _⟩ := hs5
        obtain ⟨y0, y1, y2, y3, y4, fy⟩ := five_cells Z5
        have hlt5 := blk_lt Z5
        go_wp2_with fail
        obtain ⟨hE5, hO, hS, hK⟩ := st5_at Z5 rfl
        refine bodyPost_ret (results_cell_row (p := 4) (ty := 68) rfl _ _ (w.heap.size + 1) _ _ _ _ rfl hE5 Try.underlying68 rfl infoRS) rfl ⟨_, rfl, ?_, hbw.trans (hK _ (by omega))⟩
        rw [HM.out.1]
        exact ret_imp hR HS5.out hO hS (by have := hb1.size; omega) (by have := blk_lt Z; omega)
      by_cases h4 : x.op = 4
      · rw [h4] at o0
        go_wp2_with fail
        have ha : Below wr.heap.size wr ((wr.alloc (.cells #[.int .i64 (c1.f : Int), .int .i64 ((c1.pos : Int) + 1), .int .i64 c1.st, .string c1.txt] 98)).alloc (.cells #[.int .i64 4, .int .i64 x.n, .string x.text] 109)) := by exact two_box _ _
        have Za : ((wr.alloc (.cells #[.int .i64 (c1.f : Int), .int .i64 ((c1.pos : Int) + 1), .int .i64 c1.st, .string c1.txt] 98)).alloc (.cells #[.int .i64 4, .int .i64 x.n, .string x.text] 109)).heap[w.heap.size + 1]? = _ := al_old (al_old Z _) _
        have Da : ((wr.alloc (.cells #[.int .i64 (c1.f : Int), .int .i64 ((c1.pos : Int) + 1), .int .i64 c1.st, .string c1.txt] 98)).alloc (.cells #[.int .i64 4, .int .i64 x.n, .string x.text] 109)).heap[w.heap.size]? = _ := al_old (al_old HD.out _) _
        have sa : ((wr.alloc (.cells #[.int .i64 (c1.f : Int), .int .i64 ((c1.pos : Int) + 1), .int .i64 c1.st, .string c1.txt] 98)).alloc (.cells #[.int .i64 4, .int .i64 x.n, .string x.text] 109)).heap.size = wr.heap.size + 2 := by simp
        have Xa := al_at (wr.alloc (.cells #[.int .i64 (c1.f : Int), .int .i64 ((c1.pos : Int) + 1), .int .i64 c1.st, .string c1.txt] 98)) (.cells #[.int .i64 4, .int .i64 x.n, .string x.text] 109) (b := wr.heap.size + 1) (by simp)
        refine (refset (some af) nf cF i { c1 with pos := c1.pos + 1 } _ m1 _ _ (HS1.out.below ha) (by have := HN.out.1; omega) hT1.inv.len).mono ?_
        rintro e w5 ⟨v5, rfl, hs5, hb5⟩
        generalize ((wr.alloc (.cells #[.int .i64 (c1.f : Int), .int .i64 ((c1.pos : Int) + 1), .int .i64 c1.st, .string c1.txt] 98)).alloc (.cells #[.int .i64 4, .int .i64 x.n, .string x.text] 109)) = wa at *
        have Z5 := (hb5.block _ (blk_lt Za)).trans Za
        have D5 := (hb5.block _ (blk_lt Da)).trans Da
        have hbw : Below w.heap.size w w5 := hb1.trans ((ha.mono hb1.size).trans (hb5.mono (by have := hb1.size; omega)))
        have X5 := (hb5.block _ (blk_lt Xa)).trans Xa
        obtain ⟨hT5, hroom⟩ := hT1.step (x := x) (by rw [HN.out.2.2.2.2.2]; exact hxx)
        have hk5 : rLeft fs { c1 with pos := c1.pos + 1 } + 1 ≤ gk := by have := HN.out.2.2.2.2.1; have e := HN.out.2.2.2.2.2; unfold rLeft at hk ⊢; simp only [e] at hk ⊢; omega
        obtain ⟨k, rfl⟩ : ∃ k, gk = k + 1 := ⟨gk - 1, by omega⟩
        have e2 := HE.out
        obtain ⟨mE, hmE⟩ : ∃ mE, rTurn fs i (rLeft fs c) m = mE := ⟨_, rfl⟩
        rw [hmE] at e2
        unfold rTurn at e2
        simp [hT1.get, HN.out.2.2.2.2.2, hxx, h4] at e2
        rw [← hmE] at e2
        have HE2 := Lib.hid e2
        clear e2 hmE
        have hs5' : SAt w5 (fun b => R b ∨ w.heap.size + 2 ≤ b) _ v5 _ := hs5.imp fun b _ h => h.elim id fun h => .inr (by have := blk_lt Z; omega)
        clear hs5
        obtain ⟨m5, hm5⟩ : ∃ m5, rSet m1 i { c1 with pos := c1.pos + 1 } = m5 := ⟨_, rfl⟩
        rw [hm5] at hs5' hT5 hroom HE2
        clear hm5
        have HS5 := Lib.hid hs5'
        obtain ⟨Ac5, Aq5, At5, cc5, cq5, ct5, hA5, rfl, hc5, hq5, hqc5, ht5⟩ := hs5'
        obtain ⟨n5, hn5⟩ : ∃ n5, m5.cos.length = n5 := ⟨_, rfl⟩
        obtain ⟨q5, hq55⟩ : ∃ q5, m5.q.length = q5 := ⟨_, rfl⟩
        obtain ⟨t5, ht55⟩ : ∃ t5, m5.tr.length = t5 := ⟨_, rfl⟩
        rw [hn5] at hc5 HS5 ⊢
        rw [hq55] at hq5 hqc5 HS5 ⊢
        rw [ht55] at ht5 HS5 ⊢
        have HX := Lib.hid (And.intro hn5 (And.intro hq55 ht55))
        have hn20 := hT5.inv.len
        have hq20 := hT5.inv.qlen
        rw [hn5] at hn20
        rw [hq55] at hq20
        clear hn5 hq55 ht55 HS1 HE d0 d1 d2 d3 b0 b1 b2 b3 b4 fb e0 hL hc1 o0 o1 o2 hii hi0 hpi hpi0 hpi1 hwr
        obtain ⟨y0, y1, y2, y3, y4, fy⟩ := five_cells D5
        have hlt5 := blk_lt D5
        dsimp only
        iterate 3 (go_step)
        obtain ⟨D6, O6, S6, K6⟩ := st5_at (x0 := .slice (some af) nf cF) (x1 := .slice Ac5 n5 cc5) (x2 := .slice Aq5 q5 cq5) (x3 := .slice At5 t5 ct5) (x4 := .bool m5.cl) D5 rfl
        generalize (((((w5.setCell ⟨w.heap.size, 0, none⟩ (.slice (some af) nf cF)).setCell ⟨w.heap.size, 1, none⟩ (.slice Ac5 n5 cc5)).setCell ⟨w.heap.size, 2, none⟩ (.slice Aq5 q5 cq5)).setCell ⟨w.heap.size, 3, none⟩ (.slice At5 t5 ct5)).setCell ⟨w.heap.size, 4, none⟩ (.bool m5.cl)) = w6 at *
        have kp6 : ∀ k, k < w5.heap.size → (R k ∨ w.heap.size + 2 ≤ k) → w6.heap[k]? = w5.heap[k]? := fun k _ hk => O6 k fun e => by
          rcases hk with h | h
          · have := hR _ h; omega
          · omega
        have hs6 := HS5.out.keep kp6 (Nat.le_of_eq S6.symm)
        have Z6 := (O6 (w.heap.size + 1) (by omega)).trans Z5
        have hb6 : Below w.heap.size w w6 := hbw.trans (K6 _ (Nat.le_refl _))
        obtain ⟨c60, c61, c62, c63, c64, f6⟩ := five_cells D6
        have hlt6 := blk_lt D6
        have hlz6 := blk_lt Z6
        have HS6 := Lib.hid S6
        have X6 := (O6 (wr.heap.size + 1) (by have := blk_lt HD.out; omega)).trans X5
        have sx1 := blk_cell X6 1 _ rfl
        have sx2 := blk_cell X6 2 _ rfl
        clear S6 O6 y0 y1 y2 y3 y4 fy hlt5 HS5 Z5 D5 Za Da sa K6 Xa X5 X6
        go_wp2_with fail
        refine (refwake (some af) nf cF x.n _ m5 w6 (fun b => (R b ∨ w.heap.size + 2 ≤ b) ∧ b < w6.heap.size) (hs6.imp fun k hk h => ⟨h, hk⟩) (by have := HX.out.1; omega) (by have := HX.out.2.1; omega) fun b hb => hb.2).mono ?_
        rintro e w7 ⟨v7, rfl, hs7, hb7⟩
        have D7 := (hb7.block _ hlt6).trans D6
        have Z7 := (hb7.block _ hlz6).trans Z6
        have hs7' : SAt w7 (fun b => R b ∨ w.heap.size + 2 ≤ b) _ v7 _ := hs7.imp fun b _ h => h.elim (fun h => h.1) fun h => .inr (by omega)
        clear hs7
        have HS7 := Lib.hid hs7'
        obtain ⟨Ac7, Aq7, At7, cc7, cq7, ct7, _, rfl, _, _, _, _⟩ := hs7'
        have hT7 := hT5.wake (id := x.n)
        obtain ⟨m7, hm7⟩ : ∃ m7, rWake m5 x.n = m7 := ⟨_, rfl⟩
        rw [hm7] at HS7 hT7 HE2 ⊢
        clear hm7
        obtain ⟨y0, y1, y2, y3, y4, fy⟩ := five_cells D7
        go_wp2_with fail
        obtain ⟨D8, O8, S8, K8⟩ := st5_at D7 rfl
        go_roundg k
        case measure => omega
        case rel =>
          exact ⟨m7, { c1 with pos := c1.pos + 1 }, _, _, _, _, _, _, _, _, _, hT7, by omega, HE2.out, D8, (O8 _ (by omega)).trans Z7, HS7.out.keep (fun k _ hk => O8 k fun e => by
              rcases hk with h | h
              · have := hR _ h; omega
              · omega) (Nat.le_of_eq S8.symm), hb6.trans ((hb7.mono (by have := hb6.size; omega)).trans (K8 _ (Nat.le_refl _)))⟩
      · skip
        go_wp2_with fail
        have ha : Below wr.heap.size wr ((wr.alloc (.cells #[.int .i64 (c1.f : Int), .int .i64 ((c1.pos : Int) + 1), .int .i64 c1.st, .string c1.txt] 98)).alloc (.cells #[.int .i64 x.op, .int .i64 x.n, .string x.text] 109)) := by exact two_box _ _
        have Za : ((wr.alloc (.cells #[.int .i64 (c1.f : Int), .int .i64 ((c1.pos : Int) + 1), .int .i64 c1.st, .string c1.txt] 98)).alloc (.cells #[.int .i64 x.op, .int .i64 x.n, .string x.text] 109)).heap[w.heap.size + 1]? = _ := al_old (al_old Z _) _
        have Da : ((wr.alloc (.cells #[.int .i64 (c1.f : Int), .int .i64 ((c1.pos : Int) + 1), .int .i64 c1.st, .string c1.txt] 98)).alloc (.cells #[.int .i64 x.op, .int .i64 x.n, .string x.text] 109)).heap[w.heap.size]? = _ := al_old (al_old HD.out _) _
        have sa : ((wr.alloc (.cells #[.int .i64 (c1.f : Int), .int .i64 ((c1.pos : Int) + 1), .int .i64 c1.st, .string c1.txt] 98)).alloc (.cells #[.int .i64 x.op, .int .i64 x.n, .string x.text] 109)).heap.size = wr.heap.size + 2 := by simp
        have Xa := al_at (wr.alloc (.cells #[.int .i64 (c1.f : Int), .int .i64 ((c1.pos : Int) + 1), .int .i64 c1.st, .string c1.txt] 98)) (.cells #[.int .i64 x.op, .int .i64 x.n, .string x.text] 109) (b := wr.heap.size + 1) (by simp)
        refine (refset (some af) nf cF i { c1 with pos := c1.pos + 1 } _ m1 _ _ (HS1.out.below ha) (by have := HN.out.1; omega) hT1.inv.len).mono ?_
        rintro e w5 ⟨v5, rfl, hs5, hb5⟩
        generalize ((wr.alloc (.cells #[.int .i64 (c1.f : Int), .int .i64 ((c1.pos : Int) + 1), .int .i64 c1.st, .string c1.txt] 98)).alloc (.cells #[.int .i64 x.op, .int .i64 x.n, .string x.text] 109)) = wa at *
        have Z5 := (hb5.block _ (blk_lt Za)).trans Za
        have D5 := (hb5.block _ (blk_lt Da)).trans Da
        have hbw : Below w.heap.size w w5 := hb1.trans ((ha.mono hb1.size).trans (hb5.mono (by have := hb1.size; omega)))
        have X5 := (hb5.block _ (blk_lt Xa)).trans Xa
        obtain ⟨hT5, hroom⟩ := hT1.step (x := x) (by rw [HN.out.2.2.2.2.2]; exact hxx)
        have hk5 : rLeft fs { c1 with pos := c1.pos + 1 } + 1 ≤ gk := by have := HN.out.2.2.2.2.1; have e := HN.out.2.2.2.2.2; unfold rLeft at hk ⊢; simp only [e] at hk ⊢; omega
        obtain ⟨k, rfl⟩ : ∃ k, gk = k + 1 := ⟨gk - 1, by omega⟩
        have e2 := HE.out
        obtain ⟨mE, hmE⟩ : ∃ mE, rTurn fs i (rLeft fs c) m = mE := ⟨_, rfl⟩
        rw [hmE] at e2
        unfold rTurn at e2
        simp [hT1.get, HN.out.2.2.2.2.2, hxx, h0, h1, h2, h3, h4] at e2
        rw [← hmE] at e2
        have HE2 := Lib.hid e2
        clear e2 hmE
        have hs5' : SAt w5 (fun b => R b ∨ w.heap.size + 2 ≤ b) _ v5 _ := hs5.imp fun b _ h => h.elim id fun h => .inr (by have := blk_lt Z; omega)
        clear hs5
        obtain ⟨m5, hm5⟩ : ∃ m5, rSet m1 i { c1 with pos := c1.pos + 1 } = m5 := ⟨_, rfl⟩
        rw [hm5] at hs5' hT5 hroom HE2
        have htr5 : m5.tr.length = m1.tr.length := by rw [← hm5]; rfl
        clear hm5
        have HS5 := Lib.hid hs5'
        obtain ⟨Ac5, Aq5, At5, cc5, cq5, ct5, hA5, rfl, hc5, hq5, hqc5, ht5⟩ := hs5'
        obtain ⟨n5, hn5⟩ : ∃ n5, m5.cos.length = n5 := ⟨_, rfl⟩
        obtain ⟨q5, hq55⟩ : ∃ q5, m5.q.length = q5 := ⟨_, rfl⟩
        obtain ⟨t5, ht55⟩ : ∃ t5, m5.tr.length = t5 := ⟨_, rfl⟩
        rw [hn5] at hc5 HS5 ⊢
        rw [hq55] at hq5 hqc5 HS5 ⊢
        rw [ht55] at ht5 HS5 ⊢
        have HX := Lib.hid (And.intro hn5 (And.intro hq55 ht55))
        have hn20 := hT5.inv.len
        have hq20 := hT5.inv.qlen
        rw [hn5] at hn20
        rw [hq55] at hq20
        clear hn5 hq55 ht55 HS1 HE d0 d1 d2 d3 b0 b1 b2 b3 b4 fb e0 hL hc1 o0 o1 o2 hii hi0 hpi hpi0 hpi1 hwr
        obtain ⟨y0, y1, y2, y3, y4, fy⟩ := five_cells D5
        have hlt5 := blk_lt D5
        dsimp only
        iterate 3 (go_step)
        obtain ⟨D6, O6, S6, K6⟩ := st5_at (x0 := .slice (some af) nf cF) (x1 := .slice Ac5 n5 cc5) (x2 := .slice Aq5 q5 cq5) (x3 := .slice At5 t5 ct5) (x4 := .bool m5.cl) D5 rfl
        generalize (((((w5.setCell ⟨w.heap.size, 0, none⟩ (.slice (some af) nf cF)).setCell ⟨w.heap.size, 1, none⟩ (.slice Ac5 n5 cc5)).setCell ⟨w.heap.size, 2, none⟩ (.slice Aq5 q5 cq5)).setCell ⟨w.heap.size, 3, none⟩ (.slice At5 t5 ct5)).setCell ⟨w.heap.size, 4, none⟩ (.bool m5.cl)) = w6 at *
        have kp6 : ∀ k, k < w5.heap.size → (R k ∨ w.heap.size + 2 ≤ k) → w6.heap[k]? = w5.heap[k]? := fun k _ hk => O6 k fun e => by
          rcases hk with h | h
          · have := hR _ h; omega
          · omega
        have hs6 := HS5.out.keep kp6 (Nat.le_of_eq S6.symm)
        have Z6 := (O6 (w.heap.size + 1) (by omega)).trans Z5
        have hb6 : Below w.heap.size w w6 := hbw.trans (K6 _ (Nat.le_refl _))
        obtain ⟨c60, c61, c62, c63, c64, f6⟩ := five_cells D6
        have hlt6 := blk_lt D6
        have hlz6 := blk_lt Z6
        have HS6 := Lib.hid S6
        have X6 := (O6 (wr.heap.size + 1) (by have := blk_lt HD.out; omega)).trans X5
        have sx1 := blk_cell X6 1 _ rfl
        have sx2 := blk_cell X6 2 _ rfl
        have HX6 := Lib.hid X6
        clear S6 O6 y0 y1 y2 y3 y4 fy hlt5 HS5 Z5 D5 Za Da sa K6 Xa X5 X6
        have hmix : Try.prog.follows .mixedOrders = true := by kernel_rfl
        have hq6 := hq5.keep kp6 (Nat.le_of_eq HS6.out.symm)
        have hc6 := hc5.keep kp6 (Nat.le_of_eq HS6.out.symm)
        have ht6 := ht5.keep kp6 (Nat.le_of_eq HS6.out.symm)
        have q1 := (ht6.rd.below ((Below.refl w6.heap.size w6).alloc (Nat.le_refl _) (.cells #[] 9))).drewN 1
        have hq1 := strsL_one m5.tr
        have B1 := below_drw ((Below.refl w6.heap.size w6).alloc (Nat.le_refl _) (.cells #[] 9))
        obtain ⟨i1, hio, hz0, hz1, hz2⟩ := info_parts infoStrR
        have a1 : (w6.alloc (.cells #[] 9)).ownsRow w6.heap.size 9 1 (.slice (some ⟨w6.heap.size, 0, none⟩) 0 0) 0 [] := ⟨rfl, .inr ⟨w6.heap.size, 0, #[], rfl, Nat.le_refl _, al_at w6 _ rfl, Nat.le_refl _, by simp [maxLen], rfl, rfl⟩⟩
        have s1 : (w6.alloc (.cells #[] 9)).drew.heap.size = w6.heap.size + 1 := by show (World.alloc _ _).heap.size = _; simp
        have hdig : ∀ w', Calls Try.prog 79 #[.int .i64 ((i : Int) + 1)] w' fun e w'' => e = .returned (.string (rDigit 3 (i + 1))) ∧ w'' = w' := fun w' => by
          have h := refdigit 3 (i + 1) w' (by omega) (by omega) (by omega)
          rw [show (((i + 1 : Nat)) : Int) = (i : Int) + 1 by omega] at h
          exact h
        have hdz : ¬ 9223372036854775807 < (rDigit 3 (i + 1)).size + x.text.size := by
          have h1 := rDigit_size 3 (i + 1)
          have h2 := hsz l (List.mem_of_getElem? hfl) x (List.mem_of_getElem? hxx)
          omega
        have ht5000 : t5 ≤ 5000 := by have := HX.out.2.2; omega
        have hlx6 := blk_lt HX6.out
        obtain ⟨dg, hdg⟩ : ∃ dg, rDigit 3 (i + 1) = dg := ⟨_, rfl⟩
        rw [hdg] at hdig hdz
        have HDG := Lib.hid hdg
        clear hdg
        go_wp2_with fail
        go_region_law ((first
          | (refine step_appR _ (by rfl) (.tmp 45) (.tmp 47) 36 (by rfl) w6.heap.size 9 i1 _ 16 Try.underlying36 hio hz0 hz1 hz2 rfl _ _ _ (by first | simp [Act.eval] | simp [Act.eval, Act.put]) a1 w6.heap.size _ _ _ _ (by first | (simp [Act.eval]; rfl) | (simp [Act.eval, Act.put]; rfl)) q1 hq1 (by unfold maxLen; omega) (by omega) (by simp) ?_; intro v7 w7 hown7 hg7 hat7; have hb7 : Below w6.heap.size w6 w7 := below_gat (b := w6.heap.size) B1 hg7 (by omega) (by omega); have sx72 := blk_cell ((hb7.block _ hlx6).trans HX6.out) 2 _ rfl)
          | (refine step_callR _ (by rfl) (by rfl) Try.func79 (by kernel_rfl) rfl (vs := #[.int .i64 ((i : Int) + 1)]) (by first | simp [Act.eval] | simp [Act.eval, Act.put]) (hdig _) ?_; rintro e w' ⟨rfl, hw'⟩; replace hw' := hw'.symm; subst hw'; refine ⟨_, rfl, ?_⟩)
          | (refine step_appR _ (by rfl) (.tmp 48) (.tmp 54) 36 (by rfl) w6.heap.size 9 i1 _ 16 Try.underlying36 hio hz0 hz1 hz2 rfl _ _ _ (by first | simp [Act.eval] | simp [Act.eval, Act.put]) (hown7.alloc _) (w7.heap.size + 1) _ 1 1 _ (by first | simp [Act.eval] | simp [Act.eval, Act.put]) (rd_one1 w7 9 (.string (dg ++ x.text))) (by intro u hu; rw [List.mem_singleton.1 hu]; rfl) (by unfold maxLen; omega) (by omega) (by have := hb7.size; show w6.heap.size ≤ (w7.alloc _).heap.size; simp; omega) ?_; intro v8 w8 hown8 hg8 hat8; obtain ⟨gq, cq8, rfl, hgq, hgql, hr8, hcq8, hb8⟩ := appX (b := w6.heap.size) B1 (by omega) hg7 (Nat.le_refl _) ((Below.refl w6.heap.size w7).alloc hb7.size (.cells #[.string (dg ++ x.text)] 9)) hg8 hown7 hown8 (by omega); have D8 := (hb8.block _ hlt6).trans D6; obtain ⟨c80, c81, c82, c83, c84, f8⟩ := five_cells D8)))
        all_goals
          go_wp2_with fail
          have s8 := hb8.size
          have hbs6 := hb6.size
          have kp8 : ∀ k, k < w6.heap.size → (R k ∨ w.heap.size + 2 ≤ k) → w8.heap[k]? = w6.heap[k]? := fun k hk _ => hb8.block k hk
          obtain ⟨D9, hS9, O9, S9, K9⟩ := t_fin (R := fun b => R b ∨ w.heap.size + 2 ≤ b) (s := dg ++ x.text) (fun h => by
            rcases h with h | h
            · have := hR _ h; omega
            · omega) hA5 HX.out.1 HX.out.2.1 HX.out.2.2 (hc6.keep kp8 s8) (hq6.keep kp8 s8) hqc5 hr8 (.inr (by omega)) hgql rfl D8 rfl
          have hT8 := hT5.trace (t := dg ++ x.text) (by omega)
          go_roundg k
          case measure => omega
          case rel =>
            exact ⟨_, { c1 with pos := c1.pos + 1 }, _, _, _, _, _, _, _, _, _, hT8, by omega, by rw [← HE2.out, HDG.out], D9, (O9 _ (by omega)).trans ((hb8.block _ hlz6).trans Z6), hS9, hb6.trans ((hb8.mono (by omega)).trans (K9 _ (Nat.le_refl _)))⟩
end Go.Proofs.Ytolnmdanlggmhaa


/- More of the reference's pure model: a turn and a Run keep what holds at each turn. No program in sight. -/
namespace Go.Proofs.Ytolnmdanlggmhaa

theorem rTurn_inv {fs : List (List RStep)} (hf : ∀ l ∈ fs, l.length ≤ 60) (hn : 0 < fs.length) {i : Nat} : ∀ (k : Nat) {m : RS} {c : RCo}, RTn fs i m c → rLeft fs c ≤ k → RInv fs (rTurn fs i k m)
  | 0, m, c, h, hk => by unfold rLeft at hk; omega
  | k + 1, m, c, h, hk => by
    unfold rTurn
    simp only [h.get]
    cases hx : (rFn fs c.f)[c.pos]? with
    | none => exact h.set rfl (by unfold rW; simp)
    | some x =>
      obtain ⟨h', hroom⟩ := h.step hx
      have hpos : c.pos < (rFn fs c.f).length := (List.getElem?_eq_some_iff.1 hx).1
      have hk' : rLeft fs { c with pos := c.pos + 1 } ≤ k := by unfold rLeft at hk ⊢; simp only; omega
      simp only
      split
      · exact h'.push
      split
      · exact h.set rfl (by unfold rW rLeft; simp [h.st]; omega)
      split
      · split
        · next h20 => exact rTurn_inv hf hn k (h'.spawn h20 (Nat.mod_lt _ hn) hf) hk'
        · exact rTurn_inv hf hn k h' hk'
      split
      · exact h.set rfl (by unfold rW; simp)
      split
      · exact rTurn_inv hf hn k h'.wake hk'
      · exact rTurn_inv hf hn k (h'.trace (by show m.tr.length + _ + 1 ≤ _; exact hroom)) hk'

theorem rRun_stop (fs : List (List RStep)) {m : RS} (h : m.q = [] ∨ m.cl = true) : ∀ k, rRun fs k m = (m, 0)
  | 0 => rfl
  | k + 1 => by
    unfold rRun
    cases hq : m.q with
    | nil => rfl
    | cons i q =>
      have hc : m.cl = true := by
        rcases h with h | h
        · rw [hq] at h; cases h
        · exact h
      simp [hc]
theorem rRun_step (fs : List (List RStep)) {m : RS} {i : Nat} {q : List Nat} {c : RCo} (hq : m.q = i :: q) (hc : m.cl = false) (hi : m.cos[i]? = some c) (k : Nat) :
    rRun fs (k + 1) m = ((rRun fs k (rTurn fs i (rLeft fs c) { m with q := q })).1, (rRun fs k (rTurn fs i (rLeft fs c) { m with q := q })).2 + 1) := by
  rw [rRun]
  simp only [hq, hc, hi]
  rfl
theorem RInv.turn {fs : List (List RStep)} {m : RS} {i : Nat} {q : List Nat} (h : RInv fs m) (hq : m.q = i :: q) : ∃ c, m.cos[i]? = some c ∧ c.st = 1 ∧ RTn fs i { m with q := q } c := by
  obtain ⟨c, hc, hst⟩ := h.rdy i (by rw [hq]; exact List.mem_cons_self)
  have hnd := h.nd
  rw [hq, List.nodup_cons] at hnd
  exact ⟨c, hc, hst, ⟨⟨h.len, h.fin, hnd.2, fun j hj => h.rdy j (by rw [hq]; exact List.mem_cons_of_mem _ hj), h.room⟩, hc, hst, hnd.1⟩⟩
/-- The turn of Run's loop: what it leaves. -/
theorem RInv.lap {fs : List (List RStep)} (hf : ∀ l ∈ fs, l.length ≤ 60) (hn : 0 < fs.length) {m : RS} {i : Nat} {q : List Nat} {c : RCo} (h : RInv fs m) (hq : m.q = i :: q) (hc : m.cos[i]? = some c) :
    RInv fs (rTurn fs i (rLeft fs c) { m with q := q }) ∧ rMeas fs (rTurn fs i (rLeft fs c) { m with q := q }) + 1 ≤ rMeas fs m ∧ (rTurn fs i (rLeft fs c) { m with q := q }).cl = m.cl := by
  obtain ⟨c', hc', hst, hT⟩ := h.turn hq
  rw [hc] at hc'
  obtain rfl := Option.some.inj hc'
  obtain ⟨a1, _, _, a4⟩ := rTurn_meas hf (rLeft fs c) (m := { m with q := q }) hc hst h.len (Nat.le_refl _)
  exact ⟨rTurn_inv hf hn _ hT (Nat.le_refl _), a1, a4⟩
theorem rRun_inv {fs : List (List RStep)} (hf : ∀ l ∈ fs, l.length ≤ 60) (hn : 0 < fs.length) : ∀ (k : Nat) {m : RS}, RInv fs m → RInv fs (rRun fs k m).1 ∧ (rRun fs k m).1.cl = m.cl ∧ (rRun fs k m).2 ≤ k
  | 0, m, h => ⟨h, rfl, Nat.le_refl _⟩
  | k + 1, m, h => by
    cases hq : m.q with
    | nil => rw [rRun_stop fs (.inl hq)]; exact ⟨h, rfl, Nat.zero_le _⟩
    | cons i q =>
      cases hcl : m.cl with
      | true => rw [rRun_stop fs (.inr hcl)]; exact ⟨h, hcl, Nat.zero_le _⟩
      | false =>
        obtain ⟨c, hc, _, _⟩ := h.turn hq
        rw [rRun_step fs hq hcl hc]
        obtain ⟨h1, _, h3⟩ := h.lap hf hn hq hc
        obtain ⟨h4, h5, h6⟩ := rRun_inv hf hn k h1
        exact ⟨h4, h5.trans (h3.trans hcl), by simp only; omega⟩
/-- Run has come to its end. -/
theorem rRun_over {fs : List (List RStep)} (hf : ∀ l ∈ fs, l.length ≤ 60) (hn : 0 < fs.length) : ∀ (k : Nat) {m : RS}, RInv fs m → rMeas fs m ≤ k → (rRun fs k m).1.q = [] ∨ m.cl = true
  | 0, m, h, hk => by
    cases hq : m.q with
    | nil => exact .inl hq
    | cons i q =>
      obtain ⟨c, hc, _, _⟩ := h.turn hq
      obtain ⟨_, h2, _⟩ := h.lap hf hn hq hc
      omega
  | k + 1, m, h, hk => by
    cases hq : m.q with
    | nil => rw [rRun_stop fs (.inl hq)]; exact .inl hq
    | cons i q =>
      cases hcl : m.cl with
      | true => exact .inr rfl
      | false =>
        obtain ⟨c, hc, _, _⟩ := h.turn hq
        rw [rRun_step fs hq hcl hc]
        obtain ⟨h1, h2, h3⟩ := h.lap hf hn hq hc
        rcases rRun_over hf hn k h1 (by omega) with e | e
        · exact .inl e
        · rw [h3, hcl] at e; cases e
/-- Few and short functions. -/
def rFew (fs : List (List RStep)) : Bool := decide (1 ≤ fs.length) && (decide (fs.length ≤ 8) && decide ((fs.map fun l => min l.length 100).sum ≤ 60))
theorem sum_ge {l : List Nat} {x : Nat} (h : x ∈ l) : x ≤ l.sum := by
  induction l with
  | nil => cases h
  | cons y l ih =>
    rw [List.sum_cons]
    rcases List.mem_cons.1 h with rfl | h
    · omega
    · have := ih h; omega
theorem rFew_use {fs : List (List RStep)} (h : rFew fs = true) : 0 < fs.length ∧ fs.length ≤ 8 ∧ ∀ l ∈ fs, l.length ≤ 60 := by
  unfold rFew at h
  simp only [Bool.and_eq_true, decide_eq_true_eq] at h
  obtain ⟨h1, h2, h3⟩ := h
  refine ⟨by omega, h2, fun l hl => ?_⟩
  have := sum_ge (List.mem_map.2 ⟨l, hl, rfl⟩ : min l.length 100 ∈ fs.map fun l => min l.length 100)
  omega
end Go.Proofs.Ytolnmdanlggmhaa

/- The reference: Run. -/
namespace Go.Proofs.Ytolnmdanlggmhaa
open Go.RowKit Go.Maps

/-- At the head of Run's loop. -/
def RRel (fs : List (List RStep)) (AF : Option Addr) (nf cF : Nat) (R : Nat → Prop) (w : World) (mE : RS) (kE : Nat) (gk : Nat) (wr : World) (z : Value) : Prop :=
  ∃ (m : RS) (j : Nat) (x1 x2 x3 x4 z0 z1 z2 z3 z4 : Value), RInv fs m ∧ rMeas fs m ≤ gk ∧ (rRun fs gk m).1 = mE ∧ (rRun fs gk m).2 + j = kE ∧ j + gk ≤ 100000 ∧ z = .int .i64 (j : Int) ∧ wr.heap[w.heap.size]? = some (.cells #[.slice AF nf cF, x1, x2, x3, x4] 68 (0, 0)) ∧
    wr.heap[w.heap.size + 1]? = some (.cells #[z0, z1, z2, z3, z4] 68 (0, 0)) ∧ SAt wr (fun b => R b ∨ w.heap.size + 2 ≤ b) (.slice AF nf cF) (.agg #[.slice AF nf cF, x1, x2, x3, x4]) m ∧ Below w.heap.size w wr
theorem ret_imp2 {w w5 W : World} {R : Nat → Prop} {F v : Value} {mE : RS} (hR : ∀ b, R b → b < w.heap.size) (hs : SAt w5 (fun b => R b ∨ w.heap.size + 2 ≤ b) F v mE) (hO : ∀ k, k ≠ w.heap.size + 1 → W.heap[k]? = w5.heap[k]?) (hS : W.heap.size = w5.heap.size) : SAt W (fun b => R b ∨ w.heap.size ≤ b) F v mE :=
  (hs.keep (fun k _ hk => hO k fun e => by
    subst e
    rcases hk with hk | hk
    · have := hR _ hk; omega
    · omega) (Nat.le_of_eq hS.symm)).imp fun k _ h => h.elim .inl fun h => .inr (by omega)
/-- The box keeps its address while one of its cells is written: what is read through it. -/
theorem SAt.cell {w : World} {R : Nat → Prop} {F v v' : Value} {m m' : RS} {b i : Nat} {x : Value} (h : SAt w R F v m) (hb : ¬ R b) (hv : ∀ (w' : World), SAt w' R F v m → SAt w' R F v' m') : SAt (w.setCell ⟨b, i, none⟩ x) R F v' m' :=
  hv _ (h.keep (fun k _ hk => by rw [setCell_get, if_neg (fun e => hb (by simp only at e; rw [e]; exact hk))]) (by rw [setCell_size]; exact Nat.le_refl _))
/-- The queue without its first. -/
theorem SAt.tail {w : World} {R : Nat → Prop} {AF Ac Aq At : Option Addr} {nf cF n q t cc cq ct i : Nat} {m : RS} {qs : List Nat} {cl : Bool} (h : SAt w R (.slice AF nf cF) (.agg #[.slice AF nf cF, .slice Ac n cc, .slice Aq q cq, .slice At t ct, .bool cl]) m) (hq : m.q = i :: qs) :
    SAt w R (.slice AF nf cF) (.agg #[.slice AF nf cF, .slice Ac n cc, .slice (if cq = 1 then Aq else Aq.map (·.add 1)) (q - 1) (cq - 1), .slice At t ct, .bool cl]) { m with q := qs } := by
  obtain ⟨Ac1, Aq1, At1, cc1, cq1, ct1, h0, hv, h2, h3, h4, h5⟩ := h
  simp only [Value.agg.injEq, Array.mk.injEq, List.cons.injEq, and_true, true_and, Value.slice.injEq, Value.bool.injEq] at hv
  obtain ⟨⟨rfl, rfl, rfl⟩, ⟨rfl, rfl, rfl⟩, ⟨rfl, rfl, rfl⟩, rfl⟩ := hv
  have hl : m.q.length = qs.length + 1 := by rw [hq]; rfl
  have hd := h3.rd.drop (k := 1) (cap := cq) (by omega) h4
  refine ⟨Ac, (if cq = 1 then Aq else Aq.map (·.add 1)), At, cc, cq - 1, ct, h0, ?_, h2, ⟨?_, fun ad e => ?_⟩, ?_, h5⟩
  · rw [show m.q.length - 1 = qs.length by omega]
  · rw [hq] at hd
    simp only [List.map_cons, List.drop_succ_cons, List.drop_zero, List.length_cons, Nat.add_sub_cancel] at hd
    exact hd
  · split at e
    · exact h3.inR ad e
    · cases Aq with
      | none => cases e
      | some a =>
        have e' : a.add 1 = ad := by simpa using e
        have h := h3.inR a rfl
        have eb : ad.block = a.block := by rw [← e']; unfold Addr.add; split <;> rfl
        rw [eb]
        exact h
  · show qs.length ≤ cq - 1
    omega

set_option maxRecDepth 100000 in
set_option maxHeartbeats 4000000 in
theorem refrun (fs : List (List RStep)) (AF : Option Addr) (nf cF : Nat) (hnf : fs.length = nf) (v : Value) (m : RS) (w : World) (R : Nat → Prop) (hF : FAt w AF fs) (hs : SAt w R (.slice AF nf cF) v m) (hR : ∀ b, R b → b < w.heap.size) (h60 : ∀ l ∈ fs, l.length ≤ 60) (hsz : ∀ l ∈ fs, ∀ x ∈ l, x.text.size ≤ 140737488355328) (h0 : 0 < fs.length) (h8 : fs.length ≤ 8) (hI : RInv fs m) (N : Nat) (hN : rMeas fs m ≤ N) (hN2 : N ≤ 10000) :
    Calls Try.prog 53 #[v] w fun e w' => ∃ v', e = .returned (.tuple #[v', .int .i64 ((rRun fs N m).2 : Nat)]) ∧ SAt w' (fun b => R b ∨ w.heap.size ≤ b) (.slice AF nf cF) v' (rRun fs N m).1 ∧ Below w.heap.size w w' := by
  have HS := Lib.hid hs
  have HNF := Lib.hid hnf
  clear hnf
  obtain ⟨mE, hmE⟩ : ∃ mE, rRun fs N m = mE := ⟨_, rfl⟩
  rw [hmE]
  have HM := Lib.hid hmE
  clear hmE
  obtain ⟨Ac, Aq, At, cc, cq, ct, _, rfl, _, _, _, _⟩ := hs
  have hb0 := two_box (w := w) (.cells #[.slice AF nf cF, .slice Ac m.cos.length cc, .slice Aq m.q.length cq, .slice At m.tr.length ct, .bool m.cl] 68) (.cells #[.slice none 0 0, .slice none 0 0, .slice none 0 0, .slice none 0 0, .bool false] 68)
  have d0 := al_old (heap_alloc_new w (.cells #[.slice AF nf cF, .slice Ac m.cos.length cc, .slice Aq m.q.length cq, .slice At m.tr.length ct, .bool m.cl] 68)) (.cells #[.slice none 0 0, .slice none 0 0, .slice none 0 0, .slice none 0 0, .bool false] 68)
  have z0 := al_at (w.alloc (.cells #[.slice AF nf cF, .slice Ac m.cos.length cc, .slice Aq m.q.length cq, .slice At m.tr.length ct, .bool m.cl] 68)) (.cells #[.slice none 0 0, .slice none 0 0, .slice none 0 0, .slice none 0 0, .bool false] 68) (b := w.heap.size + 1) (by simp)
  go_enter Try.func53, Try.ntmps53
  go_wp2_with fail
  generalize ((w.alloc (.cells #[.slice AF nf cF, .slice Ac m.cos.length cc, .slice Aq m.q.length cq, .slice At m.tr.length ct, .bool m.cl] 68)).alloc (.cells #[.slice none 0 0, .slice none 0 0, .slice none 0 0, .slice none 0 0, .bool false] 68)) = w1 at *
  go_loopg [4, 5] N (fun gk z _ wr => RRel fs AF nf cF R w mE.1 mE.2 gk wr z)
  case atStart => exact ⟨m, 0, _, _, _, _, _, _, _, _, _, hI, hN, by rw [HM.out], by rw [HM.out]; rfl, by omega, rfl, d0, z0, (HS.out.below hb0).imp fun _ _ h => .inl h, hb0⟩
  case round =>
    obtain ⟨m1, j, x1, x2, x3, x4, z0, z1, z2, z3, z4, hI1, hk, hE1, hE2, hjk, rfl, D, Z, hs1, hb1⟩ := hrel
    have HS1 := Lib.hid hs1
    obtain ⟨Ac1, Aq1, At1, cc1, cq1, ct1, hA1, hv, hc1, hq1, hqc1, _⟩ := hs1
    simp only [Value.agg.injEq, Array.mk.injEq, List.cons.injEq, and_true, true_and] at hv
    obtain ⟨rfl, rfl, rfl, rfl⟩ := hv
    have HE := Lib.hid (And.intro hE1 hE2)
    clear hE1 hE2
    have hl := hI1.len
    have hql := hI1.qlen
    obtain ⟨n1, hn1⟩ : ∃ n1, m1.cos.length = n1 := ⟨_, rfl⟩
    obtain ⟨q1, hqq⟩ : ∃ q1, m1.q.length = q1 := ⟨_, rfl⟩
    obtain ⟨t1, ht1⟩ : ∃ t1, m1.tr.length = t1 := ⟨_, rfl⟩
    obtain ⟨b1, hb1e⟩ : ∃ b1, m1.cl = b1 := ⟨_, rfl⟩
    have hst : q1 = 0 ∨ b1 = true → m1.q = [] ∨ m1.cl = true := fun h => h.imp (fun h => List.eq_nil_of_length_eq_zero (by omega)) fun h => by rw [hb1e, h]
    have hrd := hq1.rd
    rw [hqq] at hqc1 hrd hql
    rw [hn1, hqq, ht1, hb1e] at D HS1
    obtain ⟨c0, c1, c2, c3, c4, fb⟩ := five_cells D
    obtain ⟨y0, y1, y2, y3, y4, fy⟩ := five_cells Z
    have hlt := blk_lt D
    have hltz := blk_lt Z
    have HX := Lib.hid (And.intro hn1 (And.intro hqq (And.intro ht1 hb1e)))
    clear hn1 hqq ht1 hb1e hq1
    by_cases hq0 : q1 = 0
    · have hq0i : (q1 : Int) = 0 := by omega
      have hE := rRun_stop fs (hst (.inl hq0)) gk
      have HE3 := Lib.hid (show mE.1 = m1 ∧ mE.2 = j from by have h := HE.out; rw [hE] at h; exact ⟨h.1.symm, by have := h.2; simp only [Nat.zero_add] at this; exact this.symm⟩)
      subst hq0
      clear hst hE hrd
      go_wp2_with fail
      obtain ⟨hE5, hO, hS, hK⟩ := st5_at Z rfl
      rw [← HE3.out.2]
      refine bodyPost_ret (results_row_tmp (p := 2) (u := 3) (ty := 68) rfl _ _ (w.heap.size + 1) _ _ _ _ rfl hE5 Try.underlying68 rfl infoRS) rfl ⟨_, rfl, ?_, hb1.trans (hK _ (by omega))⟩
      rw [HE3.out.1]
      exact ret_imp2 hR HS1.out hO hS
    by_cases hcl : b1 = true
    · have hq0i : (q1 : Int) > 0 := by omega
      have hE := rRun_stop fs (hst (.inr hcl)) gk
      have HE3 := Lib.hid (show mE.1 = m1 ∧ mE.2 = j from by have h := HE.out; rw [hE] at h; exact ⟨h.1.symm, by have := h.2; simp only [Nat.zero_add] at this; exact this.symm⟩)
      subst hcl
      clear hst hE hrd
      go_wp2_with fail
      obtain ⟨hE5, hO, hS, hK⟩ := st5_at Z rfl
      rw [← HE3.out.2]
      refine bodyPost_ret (results_row_tmp (p := 2) (u := 3) (ty := 68) rfl _ _ (w.heap.size + 1) _ _ _ _ rfl hE5 Try.underlying68 rfl infoRS) rfl ⟨_, rfl, ?_, hb1.trans (hK _ (by omega))⟩
      rw [HE3.out.1]
      exact ret_imp2 hR HS1.out hO hS
    · have hq0i : (q1 : Int) > 0 := by omega
      have hclf : m1.cl = false := by have := HX.out.2.2.2; cases h : m1.cl with
        | false => rfl
        | true => rw [h] at this; exact absurd this.symm hcl
      have hb1f : b1 = false := by rw [← HX.out.2.2.2]; exact hclf
      subst hb1f
      cases hqc : m1.q with
      | nil => have := HX.out.2.1; rw [hqc] at this; exact absurd this.symm hq0
      | cons i qs =>
        obtain ⟨ci, hci, hsti, hTi⟩ := hI1.turn hqc
        have hlap := hI1.lap h60 h0 hqc hci
        obtain ⟨k, rfl⟩ : ∃ k, gk = k + 1 := ⟨gk - 1, by omega⟩
        have hstep := rRun_step fs hqc hclf hci k
        have HE3 := Lib.hid (show (rRun fs k (rTurn fs i (rLeft fs ci) { m1 with q := qs })).1 = mE.1 ∧ (rRun fs k (rTurn fs i (rLeft fs ci) { m1 with q := qs })).2 + (j + 1) = mE.2 from by
          have h := HE.out
          rw [hstep] at h
          exact ⟨h.1, by have := h.2; simp only at this; omega⟩)
        rw [hqc] at hrd
        obtain ⟨ad, rfl, _, hcell⟩ := hrd.at' 0 (.int .i64 ((i : Int) + 1)) rfl
        have e0 : ad.add 0 = ad := by unfold Addr.add; rfl
        rw [e0] at hcell
        have HQ := Lib.hid hqc
        have HT := Lib.hid (And.intro hTi (And.intro hlap hci))
        have hwr : IntKind.i64.wrap ((j : Int) + 1) = (j : Int) + 1 := by rw [IntKind.wrap_i64]; omega
        have hst2 := SAt.tail HS1.out hqc
        clear hst hstep hrd hqc hTi hlap hci hc1 hI1 hclf hcl HE
        have HS2 := Lib.hid hst2
        clear hst2
        have hs1t := hb1.size
        have key : ∀ AQ cQ, SAt wr (fun b => R b ∨ w.heap.size + 2 ≤ b) (.slice AF nf cF) (.agg #[.slice AF nf cF, .slice Ac1 n1 cc1, .slice AQ (q1 - 1) cQ, .slice At1 t1 ct1, .bool false]) { m1 with q := qs } →
            Calls Try.prog 69 #[.agg #[.slice AF nf cF, .slice Ac1 n1 cc1, .slice AQ (q1 - 1) cQ, .slice At1 t1 ct1, .bool false], .int .i64 ((i : Int) + 1)] (wr.setCell ⟨w.heap.size, 2, none⟩ (.slice AQ (q1 - 1) cQ)) fun e w5 => ∃ A1 p1 r1 A2 p2 r2 A3 p3 r3 bb, e = .returned (.agg #[.slice AF nf cF, .slice A1 p1 r1, .slice A2 p2 r2, .slice A3 p3 r3, .bool bb]) ∧
              (∃ z0 z1 z2 z3 z4, w5.heap[w.heap.size]? = some (.cells #[z0, z1, z2, z3, z4] 68 (0, 0))) ∧ w5.heap[w.heap.size + 1]? = some (.cells #[z0, z1, z2, z3, z4] 68 (0, 0)) ∧
              SAt w5 (fun b => R b ∨ w.heap.size + 2 ≤ b) (.slice AF nf cF) (.agg #[.slice AF nf cF, .slice A1 p1 r1, .slice A2 p2 r2, .slice A3 p3 r3, .bool bb]) (rTurn fs i (rLeft fs ci) { m1 with q := qs }) ∧ Below w.heap.size w w5 := fun AQ cQ hS => by
          have hD2 := st_at D 2 (.slice AQ (q1 - 1) cQ)
          simp only [List.setIfInBounds_toArray, List.set_cons_zero, List.set_cons_succ] at hD2
          have hO2 : ∀ k, k ≠ w.heap.size → (wr.setCell ⟨w.heap.size, 2, none⟩ (.slice AQ (q1 - 1) cQ)).heap[k]? = wr.heap[k]? := fun k h => by rw [setCell_get, if_neg (fun e => h e.symm)]
          have hs2z : (wr.setCell ⟨w.heap.size, 2, none⟩ (.slice AQ (q1 - 1) cQ)).heap.size = wr.heap.size := setCell_size _ _ _
          have hb2 := hb1.setCell (p := ⟨w.heap.size, 2, none⟩) (Nat.le_refl _) (.slice AQ (q1 - 1) cQ)
          have hS2 := (hS.keep (w' := wr.setCell ⟨w.heap.size, 2, none⟩ (.slice AQ (q1 - 1) cQ)) (fun k _ hk => hO2 k fun e => by
            rcases hk with h | h
            · have := hR _ h; omega
            · omega) (Nat.le_of_eq hs2z.symm)).imp (R' := fun b => (R b ∨ w.heap.size + 2 ≤ b) ∧ b < (wr.setCell ⟨w.heap.size, 2, none⟩ (.slice AQ (q1 - 1) cQ)).heap.size) fun b hl h => ⟨h, hl⟩
          have Z2 := (hO2 (w.heap.size + 1) (by omega)).trans Z
          have hF2 := hF.below hb2
          refine (refturn fs AF nf cF HNF.out i ci _ _ _ _ hF2 hS2 (fun b hb => hb.2) h60 hsz h8 HT.out.1).mono ?_
          rintro e w5 ⟨v5, rfl, hs5, hb5⟩
          have hs5' := hs5.imp (R' := fun b => R b ∨ w.heap.size + 2 ≤ b) fun b _ h => h.elim (fun h => h.1) fun h => .inr (by omega)
          have hv5 : ∃ A1 p1 r1 A2 p2 r2 A3 p3 r3 bb, v5 = .agg #[.slice AF nf cF, .slice A1 p1 r1, .slice A2 p2 r2, .slice A3 p3 r3, .bool bb] := by
            obtain ⟨_, _, _, _, _, _, _, e, _⟩ := hs5'
            exact ⟨_, _, _, _, _, _, _, _, _, _, e⟩
          obtain ⟨A1, p1, r1, A2, p2, r2, A3, p3, r3, bb, rfl⟩ := hv5
          exact ⟨A1, p1, r1, A2, p2, r2, A3, p3, r3, bb, rfl, ⟨_, _, _, _, _, (hb5.block _ (blk_lt hD2)).trans hD2⟩, (hb5.block _ (blk_lt Z2)).trans Z2, hs5', hb2.trans (hb5.mono (by omega))⟩
        have hqi1 : (1 : Int) ≤ (q1 : Int) := by omega
        have hcq1 : (q1 : Int) ≤ (cq1 : Int) := by omega
        have HK := Lib.hid key
        clear key
        have e1 : ad.add 1 = ⟨ad.block, ad.off + 1, none⟩ := by unfold Addr.add; rw [if_neg (by omega)]
        have HA := Lib.hid e1
        clear e1
        by_cases hq1 : cq1 = 1
        · have hq11 : q1 = 1 := by omega
          rw [if_pos hq1] at HS2
          subst hq1
          subst hq11
          go_wp2_with fail
          refine (HK.out _ _ HS2.out).mono ?_
          rintro e w5 ⟨A1, p1, r1, A2, p2, r2, A3, p3, r3, bb, rfl, ⟨_, _, _, _, _, D5⟩, Z5, hs5, hb5⟩
          obtain ⟨_, _, _, _, _, f5⟩ := five_cells D5
          obtain ⟨_, _, _, _, _, _⟩ := five_cells Z5
          have hlt5 := blk_lt D5
          have HS5 := Lib.hid hs5
          clear hs5
          go_wp2_with fail
          obtain ⟨D6, O6, S6, K6⟩ := st5_at D5 rfl
          go_roundg k
          case measure => omega
          case rel =>
            exact ⟨_, j + 1, _, _, _, _, _, _, _, _, _, HT.out.2.1.1, by have := HT.out.2.1.2.1; omega, HE3.out.1, HE3.out.2, by omega, by go_num, D6, (O6 _ (by omega)).trans Z5, HS5.out.keep (fun k _ hk => O6 k fun e => by
              rcases hk with h | h
              · have := hR _ h; omega
              · omega) (Nat.le_of_eq S6.symm), hb5.trans (K6 _ (Nat.le_refl _))⟩
        · have hq1i : ¬ (cq1 : Int) = 1 := by omega
          rw [if_neg hq1, Option.map_some, HA.out] at HS2
          go_wp2_with fail
          refine (HK.out _ _ HS2.out).mono ?_
          rintro e w5 ⟨A1, p1, r1, A2, p2, r2, A3, p3, r3, bb, rfl, ⟨_, _, _, _, _, D5⟩, Z5, hs5, hb5⟩
          obtain ⟨_, _, _, _, _, f5⟩ := five_cells D5
          obtain ⟨_, _, _, _, _, _⟩ := five_cells Z5
          have hlt5 := blk_lt D5
          have HS5 := Lib.hid hs5
          clear hs5
          go_wp2_with fail
          obtain ⟨D6, O6, S6, K6⟩ := st5_at D5 rfl
          go_roundg k
          case measure => omega
          case rel =>
            exact ⟨_, j + 1, _, _, _, _, _, _, _, _, _, HT.out.2.1.1, by have := HT.out.2.1.2.1; omega, HE3.out.1, HE3.out.2, by omega, by go_num, D6, (O6 _ (by omega)).trans Z5, HS5.out.keep (fun k _ hk => O6 k fun e => by
              rcases hk with h | h
              · have := hR _ h; omega
              · omega) (Nat.le_of_eq S6.symm), hb5.trans (K6 _ (Nat.le_refl _))⟩
end Go.Proofs.Ytolnmdanlggmhaa

/- The reference: Close, Few. -/
namespace Go.Proofs.Ytolnmdanlggmhaa
open Go.RowKit Go.Maps

/-- Close, as far as it has come. -/
def endTo (m : RS) (i : Nat) : RS := { m with cos := (m.cos.take i).map rEnd ++ m.cos.drop i }
def endCnt (m : RS) (i : Nat) : Nat := (m.cos.take i).countP fun c => c.st == 1 || c.st == 2
theorem endTo_zero (m : RS) : endTo m 0 = m := by unfold endTo; simp
theorem endTo_len (m : RS) (i : Nat) : (endTo m i).cos.length = m.cos.length := by unfold endTo; simp; omega
theorem endTo_get {m : RS} {i : Nat} {c : RCo} (h : m.cos[i]? = some c) : (endTo m i).cos[i]? = some c := by
  have hl := (List.getElem?_eq_some_iff.1 h).1
  unfold endTo
  simp only
  rw [List.getElem?_append_right (by simp; omega)]
  simp only [List.length_map, List.length_take, List.getElem?_drop]
  rw [show i + (i - min i m.cos.length) = i by omega]
  exact h
theorem endTo_next {m : RS} {i : Nat} {c : RCo} (h : m.cos[i]? = some c) : endTo m (i + 1) = rSet (endTo m i) i (rEnd c) := by
  have hl := (List.getElem?_eq_some_iff.1 h).1
  have hd : m.cos.drop i = c :: m.cos.drop (i + 1) := by
    rw [List.drop_eq_getElem_cons hl]
    have := (List.getElem?_eq_some_iff.1 h).2
    rw [this]
  unfold endTo rSet
  simp only
  congr 1
  rw [List.take_add_one, h, hd, List.map_append]
  simp only [Option.toList_some, List.map_cons, List.map_nil]
  rw [List.set_append_right _ _ (by simp; omega)]
  simp only [List.length_map, List.length_take]
  rw [show i - min i m.cos.length = 0 by omega]
  simp
theorem endTo_same {m : RS} {i : Nat} {c : RCo} (h : m.cos[i]? = some c) (hs : ¬ (c.st = 1 ∨ c.st = 2)) : endTo m (i + 1) = endTo m i := by
  rw [endTo_next h]
  have e : rEnd c = c := by unfold rEnd; rw [if_neg hs]
  rw [e]
  have hg := endTo_get h
  unfold rSet
  have : (endTo m i).cos.set i c = (endTo m i).cos := by
    refine List.ext_getElem? fun j => ?_
    rw [List.getElem?_set]
    split
    · next e =>
      subst e
      split
      · exact hg.symm
      · next hn => have := (List.getElem?_eq_some_iff.1 hg).1; omega
    · rfl
  rw [this]
theorem endCnt_next {m : RS} {i : Nat} {c : RCo} (h : m.cos[i]? = some c) : endCnt m (i + 1) = endCnt m i + if c.st = 1 ∨ c.st = 2 then 1 else 0 := by
  unfold endCnt
  rw [List.take_add_one, h, List.countP_append]
  by_cases h1 : c.st = 1 <;> by_cases h2 : c.st = 2 <;> simp [h1, h2]
theorem endTo_all {m : RS} {i : Nat} (h : m.cos.length ≤ i) : (endTo m i).cos = m.cos.map rEnd := by
  unfold endTo
  simp [List.take_of_length_le h, List.drop_eq_nil_of_le h]
theorem SAt.over {w : World} {R : Nat → Prop} {AF Ac Aq At : Option Addr} {nf cF n q t cc cq ct : Nat} {m : RS} {cl : Bool} (h : SAt w R (.slice AF nf cF) (.agg #[.slice AF nf cF, .slice Ac n cc, .slice Aq q cq, .slice At t ct, .bool cl]) m) :
    SAt w R (.slice AF nf cF) (.agg #[.slice AF nf cF, .slice Ac n cc, .slice none 0 0, .slice At t ct, .bool true]) { m with q := [], cl := true } := by
  obtain ⟨Ac1, Aq1, At1, cc1, cq1, ct1, h0, hv, h2, h3, h4, h5⟩ := h
  simp only [Value.agg.injEq, Array.mk.injEq, List.cons.injEq, and_true, true_and, Value.slice.injEq, Value.bool.injEq] at hv
  obtain ⟨⟨rfl, rfl, rfl⟩, ⟨rfl, rfl, rfl⟩, ⟨rfl, rfl, rfl⟩, rfl⟩ := hv
  exact ⟨Ac, none, At, cc, 0, ct, h0, rfl, h2, ⟨Rd.nil _ _ _, fun ad e => by cases e⟩, Nat.le_refl _, h5⟩

/-- At the head of Close's loop. -/
def ClRel (m : RS) (F : Value) (R : Nat → Prop) (w : World) (gk : Nat) (wr : World) (z4 z5 : Value) : Prop :=
  ∃ (i : Nat) (x1 x2 x3 x4 z0 z1 z2 z3 z4' : Value), i + gk = m.cos.length ∧ z5 = .int .i64 (i : Int) ∧ z4 = .int .i64 (endCnt m i : Nat) ∧ wr.heap[w.heap.size]? = some (.cells #[F, x1, x2, x3, x4] 68 (0, 0)) ∧
    wr.heap[w.heap.size + 1]? = some (.cells #[z0, z1, z2, z3, z4'] 68 (0, 0)) ∧ SAt wr (fun b => R b ∨ w.heap.size + 2 ≤ b) F (.agg #[F, x1, x2, x3, x4]) (endTo m i) ∧ Below w.heap.size w wr

set_option maxRecDepth 100000 in
set_option maxHeartbeats 4000000 in
theorem refclose (AF : Option Addr) (nf cF : Nat) (v : Value) (m : RS) (w : World) (R : Nat → Prop) (hs : SAt w R (.slice AF nf cF) v m) (hR : ∀ b, R b → b < w.heap.size) (hl : m.cos.length ≤ 20) (hcl : m.cl = false) :
    Calls Try.prog 56 #[v] w fun e w' => ∃ v', e = .returned (.tuple #[v', .int .i64 ((rClose m).2 : Nat)]) ∧ SAt w' (fun b => R b ∨ w.heap.size ≤ b) (.slice AF nf cF) v' (rClose m).1 ∧ Below w.heap.size w w' := by
  have HS := Lib.hid hs
  have hE : rClose m = ({ endTo m m.cos.length with q := [], cl := true }, endCnt m m.cos.length) := by
    unfold rClose endCnt
    rw [hcl, List.take_of_length_le (Nat.le_refl _)]
    simp only [Bool.false_eq_true, if_false]
    have := endTo_all (m := m) (Nat.le_refl _)
    unfold endTo at this ⊢
    simp only at this ⊢
    rw [this]
  rw [hE]
  clear hE
  obtain ⟨Ac, Aq, At, cc, cq, ct, _, rfl, _, _, _, _⟩ := hs
  rw [hcl] at HS ⊢
  clear hcl
  have hb0 := two_box (w := w) (.cells #[.slice AF nf cF, .slice Ac m.cos.length cc, .slice Aq m.q.length cq, .slice At m.tr.length ct, .bool false] 68) (.cells #[.slice none 0 0, .slice none 0 0, .slice none 0 0, .slice none 0 0, .bool false] 68)
  have d0 := al_old (heap_alloc_new w (.cells #[.slice AF nf cF, .slice Ac m.cos.length cc, .slice Aq m.q.length cq, .slice At m.tr.length ct, .bool false] 68)) (.cells #[.slice none 0 0, .slice none 0 0, .slice none 0 0, .slice none 0 0, .bool false] 68)
  have z0 := al_at (w.alloc (.cells #[.slice AF nf cF, .slice Ac m.cos.length cc, .slice Aq m.q.length cq, .slice At m.tr.length ct, .bool false] 68)) (.cells #[.slice none 0 0, .slice none 0 0, .slice none 0 0, .slice none 0 0, .bool false] 68) (b := w.heap.size + 1) (by simp)
  go_enter Try.func56, Try.ntmps56
  go_wp2_with fail
  generalize ((w.alloc (.cells #[.slice AF nf cF, .slice Ac m.cos.length cc, .slice Aq m.q.length cq, .slice At m.tr.length ct, .bool false] 68)).alloc (.cells #[.slice none 0 0, .slice none 0 0, .slice none 0 0, .slice none 0 0, .bool false] 68)) = w1 at *
  go_loopg [4, 5, 6] m.cos.length (fun gk z4 z5 _ wr => ClRel m (.slice AF nf cF) R w gk wr z4 z5)
  case atStart => exact ⟨0, _, _, _, _, _, _, _, _, _, by omega, rfl, rfl, d0, z0, by rw [endTo_zero]; exact (HS.out.below hb0).imp fun _ _ h => .inl h, hb0⟩
  case round =>
    obtain ⟨i, x1, x2, x3, x4, z0, z1, z2, z3, z4, hig, rfl, rfl, D, Z, hs1, hb1⟩ := hrel
    have HS1 := Lib.hid hs1
    obtain ⟨Ac1, Aq1, At1, cc1, cq1, ct1, hA1, hv, hc1, _, _, _⟩ := hs1
    simp only [Value.agg.injEq, Array.mk.injEq, List.cons.injEq, and_true, true_and] at hv
    obtain ⟨rfl, rfl, rfl, rfl⟩ := hv
    obtain ⟨n, hn⟩ : ∃ n, m.cos.length = n := ⟨_, rfl⟩
    have hn1 := endTo_len m i
    rw [hn] at hn1 hig hl
    obtain ⟨q1, hqq⟩ : ∃ q1, (endTo m i).q.length = q1 := ⟨_, rfl⟩
    obtain ⟨t1, ht1⟩ : ∃ t1, (endTo m i).tr.length = t1 := ⟨_, rfl⟩
    obtain ⟨b1, hb1e⟩ : ∃ b1, (endTo m i).cl = b1 := ⟨_, rfl⟩
    obtain ⟨y, hy⟩ : ∃ y, endCnt m i = y := ⟨_, rfl⟩
    have hyl : y ≤ 20 := by
      rw [← hy]
      have h1 := List.countP_le_length (p := fun c : RCo => c.st == 1 || c.st == 2) (l := m.cos.take i)
      rw [List.length_take] at h1
      unfold endCnt
      omega
    rw [hn1] at hc1
    rw [hn1, hqq, ht1, hb1e] at D HS1
    rw [hy]
    obtain ⟨c0, c1, c2, c3, c4, fb⟩ := five_cells D
    obtain ⟨y0, y1, y2, y3, y4, fy⟩ := five_cells Z
    have hlt := blk_lt D
    have hltz := blk_lt Z
    have hb1s := hb1.size
    have HX := Lib.hid (And.intro hn (And.intro hy hn1))
    have HD := Lib.hid D
    have HZ := Lib.hid Z
    by_cases hin : i < n
    · have hii : (i : Int) < (n : Int) := by omega
      have hi0 : ¬ (i : Int) < 0 := by omega
      obtain ⟨c, hcc⟩ : ∃ c, m.cos[i]? = some c := ⟨_, List.getElem?_eq_getElem (by omega)⟩
      obtain ⟨g, rfl, hgB, e0, e1, e2, e3⟩ := rd_co hA1 hc1 (endTo_get hcc)
      have hwr : IntKind.i64.wrap ((i : Int) + 1) = (i : Int) + 1 := by rw [IntKind.wrap_i64]; omega
      have hwy : IntKind.i64.wrap ((y : Int) + 1) = (y : Int) + 1 := by rw [IntKind.wrap_i64]; omega
      have hcn := endCnt_next hcc
      by_cases hst : c.st = 1 ∨ c.st = 2
      · rw [if_pos hst, hy] at hcn
        have htn := endTo_next hcc
        have hrc : rEnd c = { c with st := 5 } := by unfold rEnd; rw [if_pos hst]
        rw [hrc] at htn
        have HC := Lib.hid (And.intro hcn htn)
        clear hcn htn hn hy hn1 hqq ht1 hb1e hcc hrc D Z hA1 hc1
        have key : ∀ wa, (Below wr.heap.size wr wa) → Calls Try.prog 72 #[.agg #[.slice AF nf cF, .slice (some ⟨g, 0, none⟩) n cc1, .slice Aq1 q1 cq1, .slice At1 t1 ct1, .bool b1], .int .i64 ((i : Int) + 1), coV { c with st := 5 }] wa fun e w5 => ∃ A1 p1 r1 A2 p2 r2 A3 p3 r3 bb, e = .returned (.agg #[.slice AF nf cF, .slice A1 p1 r1, .slice A2 p2 r2, .slice A3 p3 r3, .bool bb]) ∧
            (∃ x1 x2 x3 x4 x5, w5.heap[w.heap.size]? = some (.cells #[x1, x2, x3, x4, x5] 68 (0, 0))) ∧ w5.heap[w.heap.size + 1]? = some (.cells #[z0, z1, z2, z3, z4] 68 (0, 0)) ∧
            SAt w5 (fun b => R b ∨ w.heap.size + 2 ≤ b) (.slice AF nf cF) (.agg #[.slice AF nf cF, .slice A1 p1 r1, .slice A2 p2 r2, .slice A3 p3 r3, .bool bb]) (endTo m (i + 1)) ∧ Below w.heap.size w w5 := fun wa hwa => by
          refine (refset AF nf cF i { c with st := 5 } _ (endTo m i) wa _ (HS1.out.below hwa) (by have := HX.out.2.2; omega) (by have := HX.out.2.2; omega)).mono ?_
          rintro e w5 ⟨v5, rfl, hs5, hb5⟩
          have hwas := hwa.size
          have hs5' := hs5.imp (R' := fun b => R b ∨ w.heap.size + 2 ≤ b) fun b _ h => h.elim id fun h => .inr (by omega)
          have hv5 : ∃ A1 p1 r1 A2 p2 r2 A3 p3 r3 bb, v5 = .agg #[.slice AF nf cF, .slice A1 p1 r1, .slice A2 p2 r2, .slice A3 p3 r3, .bool bb] := by
            obtain ⟨_, _, _, _, _, _, _, e, _⟩ := hs5'
            exact ⟨_, _, _, _, _, _, _, _, _, _, e⟩
          obtain ⟨A1, p1, r1, A2, p2, r2, A3, p3, r3, bb, rfl⟩ := hv5
          rw [← HC.out.2] at hs5'
          exact ⟨A1, p1, r1, A2, p2, r2, A3, p3, r3, bb, rfl, ⟨_, _, _, _, _, (hb5.block _ (by omega)).trans ((hwa.block _ (by omega)).trans HD.out)⟩, (hb5.block _ (by omega)).trans ((hwa.block _ (by omega)).trans HZ.out), hs5', hb1.trans ((hwa.mono (by omega)).trans (hb5.mono (by omega)))⟩
        have HK := Lib.hid key
        clear key
        have bl1 : Below wr.heap.size wr (wr.alloc (.cells #[.int .i64 (c.f : Int), .int .i64 (c.pos : Int), .int .i64 5, .string c.txt] 98)) := (Below.refl _ _).alloc (Nat.le_refl _) _
        rcases hst with hst | hst
        · rw [hst] at e2
          go_wp2_with fail
          refine (HK.out _ bl1).mono ?_
          rintro e w5 ⟨A1, p1, r1, A2, p2, r2, A3, p3, r3, bb, rfl, ⟨_, _, _, _, _, D5⟩, Z5, hs5, hb5⟩
          obtain ⟨_, _, _, _, _, f5⟩ := five_cells D5
          obtain ⟨_, _, _, _, _, _⟩ := five_cells Z5
          have hlt5 := blk_lt D5
          have HS5 := Lib.hid hs5
          clear hs5
          go_wp2_with fail
          obtain ⟨D6, O6, S6, K6⟩ := st5_at D5 rfl
          go_roundg (gk - 1)
          case measure => omega
          case rel =>
            exact ⟨i + 1, _, _, _, _, _, _, _, _, _, by have := HX.out.1; omega, by go_num, by rw [HC.out.1]; go_num, D6, (O6 _ (by omega)).trans Z5, HS5.out.keep (fun k _ hk => O6 k fun e => by
              rcases hk with h | h
              · have := hR _ h; omega
              · omega) (Nat.le_of_eq S6.symm), hb5.trans (K6 _ (Nat.le_refl _))⟩
        · rw [hst] at e2
          go_wp2_with fail
          refine (HK.out _ bl1).mono ?_
          rintro e w5 ⟨A1, p1, r1, A2, p2, r2, A3, p3, r3, bb, rfl, ⟨_, _, _, _, _, D5⟩, Z5, hs5, hb5⟩
          obtain ⟨_, _, _, _, _, f5⟩ := five_cells D5
          obtain ⟨_, _, _, _, _, _⟩ := five_cells Z5
          have hlt5 := blk_lt D5
          have HS5 := Lib.hid hs5
          clear hs5
          go_wp2_with fail
          obtain ⟨D6, O6, S6, K6⟩ := st5_at D5 rfl
          go_roundg (gk - 1)
          case measure => omega
          case rel =>
            exact ⟨i + 1, _, _, _, _, _, _, _, _, _, by have := HX.out.1; omega, by go_num, by rw [HC.out.1]; go_num, D6, (O6 _ (by omega)).trans Z5, HS5.out.keep (fun k _ hk => O6 k fun e => by
              rcases hk with h | h
              · have := hR _ h; omega
              · omega) (Nat.le_of_eq S6.symm), hb5.trans (K6 _ (Nat.le_refl _))⟩
      · rw [if_neg hst, hy] at hcn
        have htn := endTo_same hcc hst
        have HC := Lib.hid (And.intro hcn htn)
        have hs1' : (c.st == 1) = false := by simpa using fun e => hst (.inl e)
        have hs2' : (c.st == 2) = false := by simpa using fun e => hst (.inr e)
        have bl1 : Below wr.heap.size wr (wr.alloc (.cells #[.int .i64 (c.f : Int), .int .i64 (c.pos : Int), .int .i64 c.st, .string c.txt] 98)) := (Below.refl _ _).alloc (Nat.le_refl _) _
        clear hcn htn hn hy hn1 hqq ht1 hb1e hcc D Z hA1 hc1 hst
        go_wp2_with fail
        go_roundg (gk - 1)
        case measure => omega
        case rel =>
          exact ⟨i + 1, _, _, _, _, _, _, _, _, _, by have := HX.out.1; omega, by go_num, by rw [HC.out.1]; rfl, (bl1.block _ (by omega)).trans HD.out, (bl1.block _ (by omega)).trans HZ.out, by rw [HC.out.2]; exact HS1.out.below bl1, hb1.trans (bl1.mono (by omega))⟩
    · have hii : ¬ (i : Int) < (n : Int) := by omega
      have hi : i = n := by omega
      subst hi
      have HS3 := Lib.hid (SAt.over HS1.out)
      clear hn hy hn1 hqq ht1 hb1e D Z hA1 hc1 HS1
      have hnR : ∀ b, b = w.heap.size ∨ b = w.heap.size + 1 → ¬ (R b ∨ w.heap.size + 2 ≤ b) := fun b hb h => by
        rcases h with h | h
        · have := hR _ h; omega
        · omega
      have hD2 := st_at (st_at HD.out 2 (.slice none 0 0)) 4 (.bool true)
      simp only [List.setIfInBounds_toArray, List.set_cons_zero, List.set_cons_succ] at hD2
      have hO2 : ∀ k, k ≠ w.heap.size → ((wr.setCell ⟨w.heap.size, 2, none⟩ (.slice none 0 0)).setCell ⟨w.heap.size, 4, none⟩ (.bool true)).heap[k]? = wr.heap[k]? := fun k h => by rw [setCell_get, if_neg (fun e => h e.symm), setCell_get, if_neg (fun e => h e.symm)]
      have hz2 : ((wr.setCell ⟨w.heap.size, 2, none⟩ (.slice none 0 0)).setCell ⟨w.heap.size, 4, none⟩ (.bool true)).heap.size = wr.heap.size := by rw [setCell_size, setCell_size]
      have hb2 := (hb1.setCell (p := ⟨w.heap.size, 2, none⟩) (Nat.le_refl _) (.slice none 0 0)).setCell (p := ⟨w.heap.size, 4, none⟩) (Nat.le_refl _) (.bool true)
      have Z2 := (hO2 (w.heap.size + 1) (by omega)).trans HZ.out
      have HW := Lib.hid (And.intro hO2 (And.intro hz2 (And.intro hb2 (And.intro hD2 Z2))))
      clear hO2 hz2 hb2 hD2 Z2
      go_wp2_with fail
      obtain ⟨hO2, hz2, hb2, _, Z2⟩ := HW.out
      have hS4 := HS3.out.keep (w' := (wr.setCell ⟨w.heap.size, 2, none⟩ (.slice none 0 0)).setCell ⟨w.heap.size, 4, none⟩ (.bool true)) (fun k _ hk => hO2 k fun e => hnR k (.inl e) hk) (Nat.le_of_eq hz2.symm)
      obtain ⟨hE5, hO, hS, hK⟩ := st5_at Z2 rfl
      rw [HX.out.1, HX.out.2.1]
      refine bodyPost_ret (results_row_tmp (p := 2) (u := 3) (ty := 68) rfl _ _ (w.heap.size + 1) _ _ _ _ rfl hE5 Try.underlying68 rfl infoRS) rfl ⟨_, rfl, ?_, hb2.trans (hK _ (by omega))⟩
      exact ret_imp2 hR hS4 hO hS
def fewSum (fs : List (List RStep)) (k : Nat) : Nat := ((fs.take k).map fun l => min l.length 100).sum
theorem fewSum_le (fs : List (List RStep)) : ∀ k, fewSum fs k ≤ 100 * k := by
  intro k
  unfold fewSum
  induction k generalizing fs with
  | zero => simp
  | succ k ih =>
    cases fs with
    | nil => simp
    | cons l fs =>
      have := ih fs
      simp only [List.take_succ_cons, List.map_cons, List.sum_cons]
      omega
theorem fewSum_next {fs : List (List RStep)} {k : Nat} {l : List RStep} (h : fs[k]? = some l) : fewSum fs (k + 1) = fewSum fs k + min l.length 100 := by
  unfold fewSum
  rw [List.take_add_one, h, List.map_append, List.sum_append]
  simp

set_option maxRecDepth 100000 in
set_option maxHeartbeats 2000000 in
theorem reffew (fs : List (List RStep)) (AF : Option Addr) (nf cF : Nat) (hnf : fs.length = nf) (w : World) (hF : FAt w AF fs) (hb : nf ≤ 140737488355328) : Calls Try.prog 51 #[.slice AF nf cF] w fun e w' => e = .returned (.bool (rFew fs)) ∧ w' = w := by
  have HN := Lib.hid hnf
  clear hnf
  obtain ⟨r, hr⟩ : ∃ r, rFew fs = r := ⟨_, rfl⟩
  rw [hr]
  have HR := Lib.hid hr
  clear hr
  go_enter Try.func51, Try.ntmps51
  go_wp2_with fail
  go_loop [3, 4] (fun z i => ∃ k : Nat, k ≤ nf ∧ i = .int .i64 k ∧ z = .int .i64 (fewSum fs k : Nat)) (fun _ i => nf - (intOf i).toNat)
  case atStart => exact ⟨0, Nat.zero_le _, rfl, rfl⟩
  case round =>
    obtain ⟨k, hk, rfl, rfl⟩ := hrel
    have hsl := fewSum_le fs k
    obtain ⟨y, hy⟩ : ∃ y, fewSum fs k = y := ⟨_, rfl⟩
    rw [hy] at hsl ⊢
    have HY := Lib.hid hy
    clear hy
    by_cases hlt : k < nf
    · have hki : (k : Int) < (nf : Int) := by omega
      have hk0 : ¬ (k : Int) < 0 := by omega
      obtain ⟨l, hl⟩ : ∃ l, fs[k]? = some l := ⟨_, List.getElem?_eq_getElem (by have := HN.out; omega)⟩
      obtain ⟨ad, Al, cl, rfl, _, hc, _⟩ := hF.fn hl
      have hx := fewSum_next hl
      obtain ⟨m, hm⟩ : ∃ m, l.length = m := ⟨_, rfl⟩
      rw [hm] at hx hc
      have HX := Lib.hid hx
      clear hx hl hm hF
      have hwk : IntKind.i64.wrap ((k : Int) + 1) = (k : Int) + 1 := by rw [IntKind.wrap_i64]; omega
      by_cases h100 : m < 100
      · have hmi : (m : Int) < 100 := by omega
        have hmi2 : ¬ (100 : Int) < (m : Int) := by omega
        have hwy : IntKind.i64.wrap ((y : Int) + (m : Int)) = (y : Int) + (m : Int) := by rw [IntKind.wrap_i64]; omega
        go_wp2_with fail
        go_round
        case rel => exact ⟨k + 1, by omega, by go_num, by rw [HX.out, HY.out, Nat.min_eq_left (by omega)]; go_num⟩
        case measure => simp [intOf]; omega
      · have hmi : ¬ (m : Int) < 100 := by omega
        have hmi3 : (100 : Int) ≤ (m : Int) := by omega
        have hwy : IntKind.i64.wrap ((y : Int) + 100) = (y : Int) + 100 := by rw [IntKind.wrap_i64]; omega
        go_wp2_with fail
        go_round
        case rel => exact ⟨k + 1, by omega, by go_num, by rw [HX.out, HY.out, Nat.min_eq_right (by omega)]; go_num⟩
        case measure => simp [intOf]; omega
    · have hki : ¬ (k : Int) < (nf : Int) := by omega
      have hall : fewSum fs k = (fs.map fun l => min l.length 100).sum := by
        unfold fewSum
        rw [List.take_of_length_le (by have := HN.out; omega)]
      have hr : r = (decide (1 ≤ nf) && (decide (nf ≤ 8) && decide (y ≤ 60))) := by
        rw [← HR.out]
        unfold rFew
        rw [← hall, HY.out, HN.out]
      subst hr
      have hkn : k = nf := by omega
      by_cases h1 : 1 ≤ nf
      · have h1i : (1 : Int) ≤ (nf : Int) := by omega
        by_cases h8 : nf ≤ 8
        · have h8i : (nf : Int) ≤ 8 := by omega
          by_cases h60 : y ≤ 60
          · have h60i : (y : Int) ≤ 60 := by omega
            go_wp2_with fail
            go_ret
            exact ⟨by simp, rfl⟩
          · have h60i : ¬ (y : Int) ≤ 60 := by omega
            go_wp2_with fail
            go_ret
            exact ⟨by simp, rfl⟩
        · have h8i : ¬ (nf : Int) ≤ 8 := by omega
          go_wp2_with fail
          go_ret
          exact ⟨by simp, rfl⟩
      · have h1i : ¬ (1 : Int) ≤ (nf : Int) := by omega
        go_wp2_with fail
        go_ret
        exact ⟨by simp, rfl⟩
end Go.Proofs.Ytolnmdanlggmhaa
