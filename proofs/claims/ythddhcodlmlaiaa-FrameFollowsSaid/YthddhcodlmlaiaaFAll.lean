/- frame.Split: the iterator over frames, and a slice of records of the call's own. -/
import Derived.Test.YthddhcodlmlaiaaFSplit
import Derived.Test.YthddhcodlmlaiaaIter
import Derived.Maps.AppendAt
namespace Go.Proofs.Ythddhcodlmlaiaa
open Go.RowKit Go.Shelf
attribute [local go_sem] Oper.semAt_some

theorem box_below {w w' : World} {B0 B t : Nat} {v : Value} (h : Boxed w B t v) (hb : Below B0 w w') (hB : B < B0) : Boxed w' B t v := (hb.block B hB).trans h
theorem below_grown {w w' : World} (h : Below w.heap.size w w') : w.grownBy w' none := ⟨h.os, h.tape, h.output, h.size, fun i hi _ => h.block i hi⟩

/-- append of a source that may be empty onto a row of the call's own, inside a fence. -/
theorem wpListIn_app {F : Fence} {nn : Nat} {P : Program} (w : World) {ops : Array Oper} {rest : List Oper} {o : Oper} {a : Act} {Q : Exit → Act → World → Prop} (hgd : o.guard = none) (s x : Operand) (t : TypeId)
    (ho : o.op = .call { callee := .builtin .append, args := #[s, x], argTypes := #[t, t] })
    (base : Nat) (e : TypeId) (i : TypeInfo) (z : Value) (bytes : Nat) (ht : P.underlying t = some (.slice e)) (hi : P.info? e = some i) (hz : i.zero = some z)
    (hsize : i.size = 1) (hby : i.bytes = bytes) (hzs : z.cells.size = 1)
    (v : Value) (n : Nat) (xs : List Value) (hs : a.eval s = v) (hown : w.ownsRow base e 1 v n xs)
    (B : Nat) (A : Option Addr) (m c : Nat) (news : List Value) (hx : a.eval x = .slice A m c) (hr : Rd w B A m news) (h1 : ∀ u ∈ news, u.oneCell' = true)
    (h63 : n + m ≤ maxLen) (hbytes : (n + m) * bytes ≤ 140737488355328) (hbase : base ≤ w.heap.size)
    (h : ∀ v' w', w'.ownsRow base e 1 v' (n + m) (xs ++ news) → w.grownBy w' v.ownBlock → (v'.ownBlock = v.ownBlock ∨ v'.ownBlock = some w.heap.size) → wpListIn F nn P ops Q rest (a.put o.dst v') w') : wpListIn F nn P ops Q (o :: rest) a w := by
  refine wpListIn_plain hgd fun K hK' => ?_
  obtain ⟨v', w', hrun, h2, h3, h4⟩ := run_app (P := P) w base t o.type e i z bytes ht hi hz hsize hby hzs v n xs hown B A m c news hr h1 h63 hbytes hbase
  unfold Oper.wpIn
  refine ⟨?_, ?_⟩
  · simp [Oper.about, ho, resolve, Target.leads, Sem.run_pure]
  · rw [Oper.semAt_plain F _ _ (by rw [ho]; intro c hc'; cases hc')]
    simp [execOp, ho, resolve, invoke, builtin, hs, hx, hrun, Result.andThen]
    exact hK' _ _ (h v' w' h2 h3 h4)

/-- A slice of records of the call's own; the records lie in blocks of the call's own, too. -/
def GridHi (w : World) (base : Nat) (v : Value) (n : Nat) (L : List (List UInt8)) : Prop :=
  L.length = n ∧ ∃ vs, w.ownsRow base 28 1 v n vs ∧ ∀ (i : Nat) l, L[i]? = some l → ∃ A c, vs[i]? = some (.slice A l.length c) ∧
    (l = [] ∨ ∃ ad : Addr, A = some ad ∧ Rd w w.heap.size A l.length (bvs l) ∧ base ≤ ad.block ∧ v.ownBlock ≠ some ad.block)
theorem GridHi.nil (w : World) (base : Nat) : GridHi w base (.slice none 0 0) 0 [] := ⟨rfl, [], World.ownsRow_nil _ _ _ _, fun i l h => by simp at h⟩
theorem GridHi.grown {w w' : World} {base n : Nat} {v : Value} {L : List (List UInt8)} {row : Option Nat} (h : GridHi w base v n L) (hg : w.grownBy w' row) (hr : ∀ g, row = some g → g < base) : GridHi w' base v n L := by
  obtain ⟨h1, vs, h2, h3⟩ := h
  have hne : v.ownBlock = none ∨ v.ownBlock ≠ row := by
    cases hv : v.ownBlock with
    | none => exact .inl rfl
    | some g => exact .inr fun e => by have h5 := hr g e.symm; have h6 := (h2.lt g hv).1; omega
  refine ⟨h1, vs, h2.kept hg hne, fun i l hl => ?_⟩
  obtain ⟨A, c, h4, h5⟩ := h3 i l hl
  refine ⟨A, c, h4, ?_⟩
  rcases h5 with h5 | ⟨ad, rfl, h6, h7, h8⟩
  · exact .inl h5
  · refine .inr ⟨ad, rfl, ⟨h6.len, fun j u hu => ?_⟩, h7, h8⟩
    obtain ⟨ad', e, hb, hc⟩ := h6.at' j u hu
    injection e with e; subst e
    refine ⟨ad, rfl, Nat.lt_of_lt_of_le hb hg.size, ?_⟩
    rw [← hc]
    unfold World.cell?
    rw [add_block, hg.block ad.block hb (fun e => by have h9 := hr _ e.symm; omega)]
theorem GridHi.below {w w' : World} {base n : Nat} {v : Value} {L : List (List UInt8)} (h : GridHi w base v n L) (hb : Below w.heap.size w w') : GridHi w' base v n L :=
  h.grown (below_grown hb) (fun g e => by cases e)
theorem GridHi.own {w : World} {base n : Nat} {v : Value} {L : List (List UInt8)} (h : GridHi w base v n L) : GridOwn w base v n L := by
  obtain ⟨h1, vs, h2, h3⟩ := h
  refine ⟨h1, vs, h2, fun i l hl => ?_⟩
  obtain ⟨A, c, h4, h5⟩ := h3 i l hl
  refine ⟨A, c, h4, ?_⟩
  rcases h5 with h5 | ⟨ad, e, h6, _, h8⟩
  · exact .inl h5
  · exact .inr ⟨ad, e, h6, h8⟩
theorem GridHi.push {w w2 : World} {base n m c : Nat} {v v' : Value} {L : List (List UInt8)} {vs : List Value} {A : Option Addr} {x : List UInt8} (h1 : L.length = n)
    (h3 : ∀ (i : Nat) l, L[i]? = some l → ∃ A c, vs[i]? = some (.slice A l.length c) ∧ (l = [] ∨ ∃ ad : Addr, A = some ad ∧ Rd w w.heap.size A l.length (bvs l) ∧ base ≤ ad.block ∧ v.ownBlock ≠ some ad.block))
    (hvl : vs.length = n) (ho : w2.ownsRow base 28 1 v' (n + 1) (vs ++ [.slice A m c])) (hg : w.grownBy w2 v.ownBlock) (hat : v'.ownBlock = v.ownBlock ∨ v'.ownBlock = some w.heap.size)
    (hm : x.length = m) (hx : x = [] ∨ ∃ ad : Addr, A = some ad ∧ Rd w w.heap.size A m (bvs x) ∧ base ≤ ad.block ∧ v.ownBlock ≠ some ad.block) : GridHi w2 base v' (n + 1) (L ++ [x]) := by
  have key : ∀ (A : Option Addr) (l : List UInt8) (m : Nat), (∃ ad : Addr, A = some ad ∧ Rd w w.heap.size A m (bvs l) ∧ base ≤ ad.block ∧ v.ownBlock ≠ some ad.block) → l ≠ [] →
      ∃ ad : Addr, A = some ad ∧ Rd w2 w2.heap.size A m (bvs l) ∧ base ≤ ad.block ∧ v'.ownBlock ≠ some ad.block := by
    rintro A l m ⟨ad, rfl, hr, hlo, hne⟩ hl
    have hlt : ad.block < w.heap.size := by
      cases l with
      | nil => exact absurd rfl hl
      | cons b l =>
        obtain ⟨ad', e, hb, _⟩ := hr.at' 0 (bv b) rfl
        injection e with e; subst e; exact hb
    refine ⟨ad, rfl, ⟨hr.len, fun j u hu => ?_⟩, hlo, ?_⟩
    · obtain ⟨ad', e, hb, hc⟩ := hr.at' j u hu
      injection e with e; subst e
      refine ⟨ad, rfl, Nat.lt_of_lt_of_le hb hg.size, ?_⟩
      rw [← hc]
      unfold World.cell?
      rw [add_block, hg.block ad.block hlt (fun e => hne (by rw [e]))]
    · rcases hat with e | e
      · rw [e]; exact hne
      · rw [e]; intro e2; injection e2 with e2; omega
  refine ⟨by simp [h1], _, ho, fun i l hl => ?_⟩
  by_cases hi : i < n
  · rw [List.getElem?_append_left (by omega)] at hl
    obtain ⟨A', c', h4, h5⟩ := h3 i l hl
    refine ⟨A', c', by rw [List.getElem?_append_left (by omega)]; exact h4, ?_⟩
    by_cases hl0 : l = []
    · exact .inl hl0
    · exact .inr (key A' l _ (h5.resolve_left hl0) hl0)
  · rw [List.getElem?_append_right (by omega)] at hl
    have hi0 : i - L.length = 0 := by
      have := (List.getElem?_eq_some_iff.1 hl).1
      simp at this; omega
    rw [hi0] at hl
    simp only [List.getElem?_cons_zero, Option.some.injEq] at hl
    subst hl
    refine ⟨A, c, by rw [List.getElem?_append_right (by omega), show i - vs.length = 0 from by omega, hm]; rfl, ?_⟩
    by_cases hl0 : x = []
    · exact .inl hl0
    · rw [hm]; exact .inr (key A x _ (hx.resolve_left hl0) hl0)

set_option maxRecDepth 100000 in
set_option maxHeartbeats 2000000 in
/-- frame.all, applied. -/
theorem all_any (A : Option Addr) (n c : Nat) (w : World) :
    Calls Try.prog 47 #[.slice A n c] w fun e w' => e = .returned (.func (.func 53) #[] #[.pointer (some ⟨w.heap.size, 0, none⟩)]) ∧ w' = w.alloc (.cells #[.slice A n c] 28) := by
  go_enter Try.func47, Try.ntmps47
  go_wp2_with fail
  go_ret
  exact ⟨rfl, rfl⟩

/-- Behind a Next: where the walk is, what it has yielded, and the record that has come. -/
def AllSt (bs : List UInt8) (Inv : Nat → List (List UInt8) → World → Prop) (v3 v4 v5 : Value) (wr : World) : Prop :=
  ∃ (k j m c' : Nat) (L : List (List UInt8)) (x : List UInt8) (A' : Option Addr) (W0 : World), v3 = .int .i64 k ∧ v4 = .slice A' m c' ∧ v5 = .int .i64 j ∧ Inv k L W0 ∧ Below W0.heap.size W0 wr ∧
    nextC (bs.drop k) = (x, j) ∧ Rd wr wr.heap.size A' m (bvs x) ∧ x.length = m ∧ (m = 0 ∨ ∃ ad : Addr, A' = some ad ∧ W0.heap.size ≤ ad.block)
theorem AllSt.next {bs : List UInt8} {Inv : Nat → List (List UInt8) → World → Prop} {k : Nat} {L : List (List UInt8)} {W W1 : World} {A1 : Option Addr} {m1 c1 : Nat} (h : Inv k L W)
    (hr : Rd W1 W1.heap.size A1 m1 (bvs (nextC (bs.drop k)).1)) (hb : Below W.heap.size W W1)
    (hw : m1 = 0 ∨ ∃ go c0, A1 = some ⟨go, 4, none⟩ ∧ W1.ownsRow W.heap.size 5 1 (.slice (some ⟨go, 0, none⟩) (m1 + 4) c0) (m1 + 4) (bvs ((bs.drop k).take (m1 + 4)))) :
    AllSt bs Inv (.int .i64 k) (.slice A1 m1 c1) (.int .i64 ((nextC (bs.drop k)).2 : Nat)) W1 := by
  refine ⟨k, _, m1, c1, L, _, A1, W, rfl, rfl, rfl, h, hb, rfl, hr, by have := hr.len; rwa [bvs_length] at this, ?_⟩
  rcases hw with h | ⟨go, c0, rfl, ho⟩
  · exact .inl h
  · exact .inr ⟨_, rfl, (ho.lt go rfl).1⟩

set_option maxRecDepth 100000 in
set_option maxHeartbeats 4000000 in
/-- The iterator over the frames of some bytes: between two rounds Inv holds, after the last one too. -/
theorem all_in (l b : Nat) (A : Option Addr) (n c : Nat) (bs : List UInt8) (hnc : n ≤ c) (hn : n ≤ 2000000) (Inv : Nat → List (List UInt8) → World → Prop)
    (hbl : bs.length = n) (hcI : ∀ k L W, Inv k L W → W.cell? ⟨b, 0, none⟩ = some (.slice A n c) ∧ Rd W W.heap.size A n (bvs bs) ∧ Ran bs L k)
    (hmore : ∀ k L W W', Inv k L W → Below W.heap.size W W' → Inv k L W')
    (hY : ∀ k L W0 W A' m c' x j, Inv k L W0 → Below W0.heap.size W0 W → nextC (bs.drop k) = (x, j) → ¬ j = 0 → Rd W W.heap.size A' m (bvs x) → x.length = m → (m = 0 ∨ ∃ ad : Addr, A' = some ad ∧ W0.heap.size ≤ ad.block) → 
      YieldAt Fence.wide 3 Try.prog l #[.int .i64 ((k : Int) + (j : Int)), .slice A' m c'] W fun e W' => e = .returned (.bool true) ∧ Inv (k + j) (L ++ [x]) W')
    (W : World) (h0 : Inv 0 [] W) :
    CallsIn Fence.wide 4 Try.prog 53 #[.func (.yield l) #[] #[], .pointer (some ⟨b, 0, none⟩)] W fun e W' => (∃ v, e = .returned v) ∧ ∃ k L, splitC bs = (L, k) ∧ Inv k L W' := by
  obtain ⟨hc0, hr0, hran0⟩ := hcI _ _ _ h0
  have hnx := next_any A n c bs W _ hr0 (Nat.le_refl _) hnc hn
  refine callsIn_of_wp Try.func53 rfl trivial ?_ rfl
  simp only [Try.ntmps53, List.size_toArray, List.length_cons, List.length_nil, Nat.reduceAdd, Nat.reduceSub, Array.replicate_succ, Array.replicate_zero, List.push_toArray, List.append_toArray, List.nil_append, List.cons_append]
  gi_wp2_with (refine ⟨trivial, ?_⟩; gi_at_call 29; refine (callsIn_wide.2 hnx).mono ?_; rintro e W1 ⟨A1, m1, c1, rfl, hr1, hb1, hmc1, hw1⟩)
  have hst : AllSt bs Inv (.int .i64 (0 : Nat)) (.slice A1 m1 c1) (.int .i64 ((nextC bs).2 : Nat)) W1 := by
    have := AllSt.next (k := 0) (bs := bs) (c1 := c1) h0 (by rw [List.drop_zero]; exact hr1) hb1 (by rw [List.drop_zero]; exact hw1)
    rwa [List.drop_zero] at this
  have HL := Lib.hid hbl
  clear hnx hc0 hr0 hran0 h0 hr1 hb1 hw1 hmc1 hbl
  gi_loopw [3, 4, 5] (fun v3 v4 v5 wr => AllSt bs Inv v3 v4 v5 wr) (fun v3 _ _ _ => n - (intOf v3).toNat)
  case atStart => exact hst
  case round =>
    obtain ⟨k, j, m, c', L, x, A', W0, rfl, rfl, rfl, hI, hbW, hnx, hrx, hxm, hA⟩ := hrel
    obtain ⟨hcb0, hrb0, hran⟩ := hcI _ _ _ hI
    have hrn := Lib.hid hran
    clear hcb0 hrb0 hran
    by_cases hj : j = 0
    · subst hj
      have hsp := hrn.out.stop (by rw [hnx])
      have hI' := hmore _ _ _ _ hI hbW
      have HX := Lib.hid hnx; have HSP := Lib.hid hsp; clear hnx hsp
      gi_wp2
      go_end0
      exact ⟨⟨_, rfl⟩, k, L, HSP.out, hI'⟩
    · have hji : (j : Int) > 0 := by omega
      have hjn := next_le (bs.drop k)
      rw [hnx, List.length_drop, HL.out] at hjn
      have hjn1 : j ≤ n - k := hjn.1
      have hkn : k ≤ n := by have := hrn.out.1; have := HL.out; omega
      have hYk := hY k L W0 wr A' m c' x j hI hbW hnx hj hrx hxm hA
      obtain ⟨k', hk'⟩ : ∃ k', k + j = k' := ⟨_, rfl⟩
      have hkk : (k : Int) + (j : Int) = (k' : Int) := by omega
      have hk'n : k' ≤ n := by omega
      have hk'c : (k' : Int) ≤ (c : Int) := by omega
      have hk'i : (k' : Int) ≤ (n : Int) := by omega
      have hk'0 : ¬ (k' : Int) < 0 := by omega
      rw [hkk, hk'] at hYk
      obtain ⟨fn, tmps, assign, body, hy, hR⟩ := hYk
      have HX := Lib.hid hnx; have HK' := Lib.hid hk'; clear hnx hjn hk'
      clear hst hrx hxm hA hbW hI
      gi_wp2
      refine hR.mono ?_
      rintro e W3 ⟨rfl, hI3⟩
      obtain ⟨hc3, hr3, hran3⟩ := hcI _ _ _ hI3
      have HR3 := Lib.hid hran3
      clear hR hy
      by_cases hck : c = k'
      · have hkn2 : k' = n := by omega
        subst hkn2
        subst hck
        have hdn : bs.drop c = [] := List.drop_eq_nil_of_le (by rw [HL.out]; omega)
        have h00 : nextC [] = ([], 0) := rfl
        have hnx3 := next_any A 0 0 [] W3 _ (Rd.nil W3 W3.heap.size A) (Nat.le_refl _) (by omega) (by omega)
        have HD := Lib.hid hdn
        clear hr3 hran3 hdn
        gi_wp2_with (refine ⟨trivial, ?_⟩; gi_at_call 29; refine (callsIn_wide.2 hnx3).mono ?_; rintro e W4 ⟨A4, m4, c4, rfl, hr4, hb4, hmc4, hw4⟩)
        refine ⟨?_, ?_⟩
        · have := AllSt.next (k := c) (bs := bs) (c1 := c4) hI3 (W1 := W4) (A1 := A4) (m1 := m4) (by rw [HD.out]; exact hr4) hb4 (by rw [HD.out]; exact hw4)
          rw [HD.out] at this
          exact this
        · simp [intOf]; have := HK'.out; omega
      · have hd := hr3.drop (k := k') (cap := c) hk'n hnc
        have ed : (bvs bs).drop k' = bvs (bs.drop k') := by simp [bvs, List.map_drop]
        rw [ed, if_neg hck] at hd
        have hnx3 := next_any _ (n - k') (c - k') (bs.drop k') W3 _ hd (Nat.le_refl _) (by omega) (by omega)
        clear hran3 hr3 ed hd
        gi_wp2_with (refine ⟨trivial, ?_⟩; gi_at_call 29; refine (callsIn_wide.2 hnx3).mono ?_; rintro e W4 ⟨A4, m4, c4, rfl, hr4, hb4, hmc4, hw4⟩)
        refine ⟨AllSt.next hI3 hr4 hb4 hw4, ?_⟩
        simp [intOf]; have := HK'.out; omega
end Go.Proofs.Ythddhcodlmlaiaa
