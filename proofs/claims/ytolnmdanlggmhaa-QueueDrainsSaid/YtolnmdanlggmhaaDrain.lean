/- Drain as an iterator; the state of the law QueueDrains between two rounds. -/
import Derived.Test.YtolnmdanlggmhaaMat
import Derived.Test.YtolnmdanlggmhaaKeep
namespace Go.Proofs.Ytolnmdanlggmhaa
open Go.RowKit Go.Shelf Go.Maps
attribute [local go_sem] Oper.semAt_some

set_option maxRecDepth 100000 in
set_option maxHeartbeats 2000000 in
theorem drain_in (l b p9 : Nat) (Inv : List Int → Nat → World → Prop) (Mid : Int → Nat → World → Prop) (Brk : World → Prop)
    (hcI : ∀ xs k W, Inv xs k W → W.cell? ⟨p9, 0, none⟩ = some (.int .i64 k) ∧ k ≤ 300) (hcM : ∀ x k W, Mid x k W → W.cell? ⟨p9, 0, none⟩ = some (.int .i64 k) ∧ k ≤ 300)
    (hnil : ∀ k W, Inv [] k W → Calls Try.prog 16 #[.pointer (some ⟨b, 0, none⟩)] W fun e W' => e = .returned (.tuple #[.int .i64 0, .bool false]) ∧ W' = W)
    (hpop : ∀ x xs k W, Inv (x :: xs) k W → Calls Try.prog 16 #[.pointer (some ⟨b, 0, none⟩)] W fun e W' => e = .returned (.tuple #[.int .i64 x, .bool true]) ∧ Mid x k W')
    (hY : ∀ x k W, Mid x k W → YieldAt Fence.wide 3 Try.prog l #[.int .i64 x] W fun e W' => (e = .returned (.bool true) ∧ ∃ xs, Inv xs (k + 1) W') ∨ (e = .returned (.bool false) ∧ Brk W'))
    (W : World) (xs : List Int) (k : Nat) (h0 : Inv xs k W) :
    CallsIn Fence.wide 4 Try.prog 23 #[.pointer (some ⟨b, 0, none⟩), .func (.yield l) #[] #[]] W fun e W' => (∃ v, e = .returned v) ∧ ((∃ k, Inv [] k W') ∨ Brk W') := by
  have hP : ∀ xs k W, Inv xs k W → Calls Try.prog 16 #[.pointer (some ⟨b, 0, none⟩)] W fun e W' => ∃ (x : Int) (o : Bool), e = .returned (.tuple #[.int .i64 x, .bool o]) ∧ ((o = true ∧ Mid x k W') ∨ (o = false ∧ Inv [] k W')) := by
    intro xs k W h
    cases xs with
    | nil => exact (hnil k W h).mono fun e W' ⟨h1, h2⟩ => ⟨0, false, h1, .inr ⟨rfl, h2 ▸ h⟩⟩
    | cons x xs => exact (hpop x xs k W h).mono fun e W' ⟨h1, h2⟩ => ⟨x, true, h1, .inl ⟨rfl, h2⟩⟩
  have hp0 := hP _ _ _ h0
  refine callsIn_of_wp Try.func23 rfl trivial ?_ rfl
  simp only [Try.ntmps23, List.size_toArray, List.length_cons, List.length_nil, Nat.reduceAdd, Nat.reduceSub, Array.replicate_succ, Array.replicate_zero, List.push_toArray, List.append_toArray, List.nil_append, List.cons_append]
  gi_wp2_with (refine ⟨trivial, ?_⟩; gi_at_call 16; refine (callsIn_wide.2 hp0).mono ?_; rintro e W1 ⟨x1, o1, rfl, hs1⟩)
  gi_loopw [4, 5] (fun x o wr => ∃ (k : Nat) (y : Int) (t : Bool), x = .int .i64 y ∧ o = .bool t ∧ ((t = true ∧ Mid y k wr) ∨ (t = false ∧ Inv [] k wr)))
    (fun _ _ wr => 301 - (match wr.cell? ⟨p9, 0, none⟩ with | some u => (intOf u).toNat | none => 0))
  case atStart => exact ⟨k, x1, o1, rfl, rfl, hs1⟩
  case round =>
    obtain ⟨k, y, t, rfl, rfl, h⟩ := hrel
    rcases h with ⟨rfl, hm⟩ | ⟨rfl, hi⟩
    · obtain ⟨hc, hk⟩ := hcM _ _ _ hm
      obtain ⟨fn, tmps, assign, body, hy, hR⟩ := hY _ _ _ hm
      gi_wp2
      refine hR.mono ?_
      rintro e W3 (⟨rfl, xs3, hi3⟩ | ⟨rfl, hb3⟩)
      · have hp3 := hP _ _ _ hi3
        gi_wp2_with (refine ⟨trivial, ?_⟩; gi_at_call 16; refine (callsIn_wide.2 hp3).mono ?_; rintro e W4 ⟨x4, o4, rfl, hs4⟩)
        refine ⟨⟨k + 1, x4, o4, rfl, rfl, hs4⟩, ?_⟩
        rw [hc]
        rcases hs4 with ⟨_, h4⟩ | ⟨_, h4⟩
        · rw [(hcM _ _ _ h4).1]; simp [intOf]; omega
        · rw [(hcI _ _ _ h4).1]; simp [intOf]; omega
      · gi_wp2
        exact bodyPost_ret (results_none rfl _ _ _) rfl ⟨⟨_, rfl⟩, .inr hb3⟩
    · gi_wp2
      go_end0
      exact ⟨⟨_, rfl⟩, .inl ⟨k, hi⟩⟩

/-- The places that the law's function keeps: its arguments and variables in boxes, the loop's record. -/
structure DK where
  (B p7 p8 p9 D n2 c2 s : Nat)
  A2 : Option Addr
  mo : List Int
  w : World

/-- A block that no step on the queue or on the reference's slice turns. -/
def DK.Pr (K : DK) (i : Nat) : Prop := i < K.B + 3 ∨ i = K.p7 ∨ i = K.p8 ∨ i = K.p9 ∨ i = K.D ∨ i = K.D + 1

/-- The state: the queue holds qs, the reference's slice v8 reads as rs, n is k. -/
structure DS (K : DK) (W : World) (fp : Nat → Prop) (k f : Nat) (qs rs : List Int) (v8 : Value) : Prop where
  bM : Boxed W K.B 22 (.slice K.A2 K.n2 K.c2)
  bS : Boxed W (K.B + 1) 5 (.int .u8 K.s)
  bR : Boxed W (K.B + 2) 4 (.bool false)
  b7 : Boxed W K.p7 23 (.pointer (some ⟨K.B + 4, 0, none⟩))
  b8 : Boxed W K.p8 22 v8
  b9 : Boxed W K.p9 3 (.int .i64 k)
  q : Qui W fp (K.B + 4) f qs
  r : ISl W v8 rs
  low : ∀ i, fp i → ¬ K.Pr i ∧ K.B ≤ i ∧ i < W.heap.size
  ng : ∀ g, v8.ownBlock = some g → ¬ fp g ∧ ¬ K.Pr g ∧ g < W.heap.size
  wf : ∀ x ∈ rs, (Lit.int .i64 x).wf = true
  pr : ∀ i, K.Pr i → i < W.heap.size
  bel : Below K.B K.w W

section
variable {K : DK} {W W' : World} {fp fp' : Nat → Prop} {k f f' : Nat} {qs rs qs' rs' : List Int} {v8 v8' : Value}

/-- What keeps the protected blocks keeps the boxes. -/
theorem DS.boxes (h : DS K W fp k f qs rs v8) (hk : ∀ i, K.Pr i → W'.heap[i]? = W.heap[i]?) :
    Boxed W' K.B 22 (.slice K.A2 K.n2 K.c2) ∧ Boxed W' (K.B + 1) 5 (.int .u8 K.s) ∧ Boxed W' (K.B + 2) 4 (.bool false) ∧ Boxed W' K.p7 23 (.pointer (some ⟨K.B + 4, 0, none⟩)) ∧ Boxed W' K.p8 22 v8 ∧ Boxed W' K.p9 3 (.int .i64 k) :=
  ⟨(hk _ (.inl (by omega))).trans h.bM, (hk _ (.inl (by omega))).trans h.bS, (hk _ (.inl (by omega))).trans h.bR, (hk _ (.inr (.inl rfl))).trans h.b7, (hk _ (.inr (.inr (.inl rfl)))).trans h.b8, (hk _ (.inr (.inr (.inr (.inl rfl))))).trans h.b9⟩

/-- The queue turns. -/
theorem DS.turn (h : DS K W fp k f qs rs v8) (hs : QStep fp fp' W W') (hq : Qui W' fp' (K.B + 4) f' qs') (hB : K.B ≤ W.heap.size) : DS K W' (fun i => fp' i ∧ i < W'.heap.size) k f' qs' rs v8 := by
  obtain ⟨x1, x2, x3, x4, x5, x6⟩ := h.boxes (W' := W') fun i hi => hs.block i (h.pr i hi) (fun hf => (h.low i hf).1 hi)
  refine ⟨x1, x2, x3, x4, x5, x6, hq.tight, ?_, fun i hi => ?_, fun g hg => ⟨fun hf => hs.off (h.ng g hg).2.2 (h.ng g hg).1 hf.1, (h.ng g hg).2.1, Nat.lt_of_lt_of_le (h.ng g hg).2.2 hs.size⟩, h.wf, fun i hi => Nat.lt_of_lt_of_le (h.pr i hi) hs.size,
    h.bel.trans (hs.below (fun i hi => (h.low i hi).2.1) hB)⟩
  · obtain ⟨A, c, rfl, h1, h2, hr⟩ := h.r
    refine ⟨A, c, rfl, h1, h2, hr.len, fun j u hu => ?_⟩
    obtain ⟨ad, rfl, hb, hc⟩ := hr.at' j u hu
    obtain ⟨n1, _, n2⟩ := h.ng ad.block rfl
    exact ⟨ad, rfl, Nat.lt_of_lt_of_le hb hs.size, (World.cell?_of_block (w' := W') (by rw [add_block]; exact hs.block _ n2 n1)).trans hc⟩
  · rcases hs.foot i hi.1 with h1 | h1
    · exact ⟨(h.low i h1).1, (h.low i h1).2.1, hi.2⟩
    · exact ⟨fun hp => by have := h.pr i hp; omega, by omega, hi.2⟩

/-- New memory is made. -/
theorem DS.more (h : DS K W fp k f qs rs v8) (hb : Below W.heap.size W W') (hB : K.B ≤ W.heap.size) : DS K W' fp k f qs rs v8 := by
  obtain ⟨x1, x2, x3, x4, x5, x6⟩ := h.boxes (W' := W') fun i hi => hb.block i (h.pr i hi)
  exact ⟨x1, x2, x3, x4, x5, x6, h.q.keep fun i _ hlt => hb.block i hlt, h.r.below hb, fun i hi => ⟨(h.low i hi).1, (h.low i hi).2.1, Nat.lt_of_lt_of_le (h.low i hi).2.2 hb.size⟩, fun g hg => ⟨(h.ng g hg).1, (h.ng g hg).2.1, Nat.lt_of_lt_of_le (h.ng g hg).2.2 hb.size⟩, h.wf,
    fun i hi => Nat.lt_of_lt_of_le (h.pr i hi) hb.size, h.bel.trans (hb.mono hB)⟩

/-- The variable of the reference's slice takes another one. -/
theorem DS.set8 (h : DS K W fp k f qs rs v8) (h8 : K.p8 ≠ K.p7 ∧ K.p8 ≠ K.p9 ∧ K.B + 3 ≤ K.p8) (hr : ISl W v8' rs') (hng : ∀ g, v8'.ownBlock = some g → ¬ fp g ∧ ¬ K.Pr g ∧ g < W.heap.size) (hwf : ∀ x ∈ rs', (Lit.int .i64 x).wf = true) :
    DS K (W.setCell ⟨K.p8, 0, none⟩ v8') fp k f qs rs' v8' := by
  have ho : ∀ i, i ≠ K.p8 → (W.setCell ⟨K.p8, 0, none⟩ v8').heap[i]? = W.heap[i]? := fun i hi => heap_setCell_other W _ i v8' hi
  have hs : (W.setCell ⟨K.p8, 0, none⟩ v8').heap.size = W.heap.size := by simp [World.setCell]
  have h8p : K.Pr K.p8 := .inr (.inr (.inl rfl))
  refine ⟨(ho _ (by omega)).trans h.bM, (ho _ (by omega)).trans h.bS, (ho _ (by omega)).trans h.bR, (ho _ (fun e => h8.1 e.symm)).trans h.b7, h.b8.set v8', (ho _ (fun e => h8.2.1 e.symm)).trans h.b9,
    h.q.keep fun i hi _ => ho i (fun e => (h.low i hi).1 (e ▸ h8p)), ?_, fun i hi => by rw [hs]; exact h.low i hi, fun g hg => by rw [hs]; exact hng g hg, hwf, fun i hi => by rw [hs]; exact h.pr i hi, h.bel.setCell (p := ⟨K.p8, 0, none⟩) (by show K.B ≤ K.p8; omega) v8'⟩
  obtain ⟨A, c, rfl, h1, h2, hr⟩ := hr
  refine ⟨A, c, rfl, h1, h2, hr.len, fun j u hu => ?_⟩
  obtain ⟨ad, rfl, hb, hc⟩ := hr.at' j u hu
  exact ⟨ad, rfl, by rw [hs]; exact hb, (World.cell?_of_block (by rw [add_block]; exact ho _ (fun e => (hng ad.block rfl).2.1 (e ▸ h8p)))).trans hc⟩

/-- n takes another value. -/
theorem DS.set9 (h : DS K W fp k f qs rs v8) (h9 : K.p9 ≠ K.p7 ∧ K.p9 ≠ K.p8 ∧ K.B + 3 ≤ K.p9) (k' : Nat) :
    DS K (W.setCell ⟨K.p9, 0, none⟩ (.int .i64 k')) fp k' f qs rs v8 := by
  have ho : ∀ i, i ≠ K.p9 → (W.setCell ⟨K.p9, 0, none⟩ (.int .i64 k')).heap[i]? = W.heap[i]? := fun i hi => heap_setCell_other W _ i _ hi
  have hs : (W.setCell ⟨K.p9, 0, none⟩ (.int .i64 k')).heap.size = W.heap.size := by simp [World.setCell]
  have h9p : K.Pr K.p9 := .inr (.inr (.inr (.inl rfl)))
  refine ⟨(ho _ (by omega)).trans h.bM, (ho _ (by omega)).trans h.bS, (ho _ (by omega)).trans h.bR, (ho _ (fun e => h9.1 e.symm)).trans h.b7, (ho _ (fun e => h9.2.1 e.symm)).trans h.b8, h.b9.set (.int .i64 k'),
    h.q.keep fun i hi _ => ho i (fun e => (h.low i hi).1 (e ▸ h9p)), ?_, fun i hi => by rw [hs]; exact h.low i hi, fun g hg => by rw [hs]; exact h.ng g hg, h.wf, fun i hi => by rw [hs]; exact h.pr i hi, h.bel.setCell (p := ⟨K.p9, 0, none⟩) (by show K.B ≤ K.p9; omega) _⟩
  have hng := h.ng
  obtain ⟨A, c, rfl, h1, h2, hr⟩ := h.r
  refine ⟨A, c, rfl, h1, h2, hr.len, fun j u hu => ?_⟩
  obtain ⟨ad, rfl, hb, hc⟩ := hr.at' j u hu
  exact ⟨ad, rfl, by rw [hs]; exact hb, (World.cell?_of_block (by rw [add_block]; exact ho _ (fun e => (hng ad.block rfl).2.1 (e ▸ h9p)))).trans hc⟩

/-- The loop's record turns. -/
theorem DS.turnRec (h : DS K W fp k f qs rs v8) (hD : K.p7 < K.D ∧ K.p8 < K.D ∧ K.p9 < K.D ∧ K.B + 3 ≤ K.D) (o : Obj) : DS K (W.putObj (K.D + 1) o) fp k f qs rs v8 := by
  have ho : ∀ i, i ≠ K.D + 1 → (W.putObj (K.D + 1) o).heap[i]? = W.heap[i]? := fun i hi => World.putObj_heap_other hi
  have hs : (W.putObj (K.D + 1) o).heap.size = W.heap.size := by simp [World.putObj]
  have hDp : K.Pr (K.D + 1) := .inr (.inr (.inr (.inr (.inr rfl))))
  refine ⟨(ho _ (by omega)).trans h.bM, (ho _ (by omega)).trans h.bS, (ho _ (by omega)).trans h.bR, (ho _ (by omega)).trans h.b7, (ho _ (by omega)).trans h.b8, (ho _ (by omega)).trans h.b9,
    h.q.keep fun i hi _ => ho i (fun e => (h.low i hi).1 (e ▸ hDp)), ?_, fun i hi => by rw [hs]; exact h.low i hi, fun g hg => by rw [hs]; exact h.ng g hg, h.wf, fun i hi => by rw [hs]; exact h.pr i hi, ?_⟩
  · have hng := h.ng
    obtain ⟨A, c, rfl, h1, h2, hr⟩ := h.r
    refine ⟨A, c, rfl, h1, h2, hr.len, fun j u hu => ?_⟩
    obtain ⟨ad, rfl, hb, hc⟩ := hr.at' j u hu
    exact ⟨ad, rfl, by rw [hs]; exact hb, (World.cell?_of_block (by rw [add_block]; exact ho _ (fun e => (hng ad.block rfl).2.1 (e ▸ hDp)))).trans hc⟩
  · exact ⟨h.bel.os, h.bel.tape, h.bel.output, by rw [hs]; exact h.bel.size, fun i hi => (ho i (by omega)).trans (h.bel.block i hi)⟩
end
end Go.Proofs.Ytolnmdanlggmhaa
