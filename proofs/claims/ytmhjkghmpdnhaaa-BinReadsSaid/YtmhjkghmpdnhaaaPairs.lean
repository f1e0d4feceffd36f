/- Reads of the program and of the reference, side by side. -/
import Derived.Test.YtmhjkghmpdnhaaaLInv
namespace Go.Proofs.Ytmhjkghmpdnhaaa
open Go.RowKit Go.OpenShut

def PUint (x : Nat) (bs bs' : List UInt8) (bad bad' : Bool) : Prop :=
  ∀ g w, Rdr w g bs bad → Calls Try.prog 18 #[.pointer (some ⟨g, 0, none⟩)] w fun e w' => e = .returned (.int .u64 x) ∧ Rdr w' g bs' bad' ∧ w.grownBy w' (some g)
def RUint (x : Nat) (bs bs' : List UInt8) (bad bad' : Bool) : Prop :=
  ∀ w B v, RV w B v bs bad → Calls Try.prog 20 #[v] w fun e w' => ∃ v', e = .returned (.tuple #[v', .int .u64 x]) ∧ RV w' B v' bs' bad' ∧ Below w.heap.size w w'
def PBytes (out bs bs' : List UInt8) (bad bad' : Bool) : Prop :=
  ∀ g w, Rdr w g bs bad → Calls Try.prog 23 #[.pointer (some ⟨g, 0, none⟩)] w fun e w' => ∃ A m c, e = .returned (.slice A m c) ∧ Rd w' w'.heap.size A m (bvs out) ∧ Rdr w' g bs' bad' ∧ w.grownBy w' (some g)
def RBytes (out bs bs' : List UInt8) (bad bad' : Bool) : Prop :=
  ∀ w B v, RV w B v bs bad → Calls Try.prog 24 #[v] w fun e w' => ∃ v' A m c, e = .returned (.tuple #[v', .slice A m c]) ∧ RV w' B v' bs' bad' ∧ Rd w' B A m (bvs out) ∧ Below w.heap.size w w'
def PTake (k : Int) (out bs bs' : List UInt8) (bad bad' : Bool) : Prop :=
  ∀ g w, Rdr w g bs bad → Calls Try.prog 26 #[.pointer (some ⟨g, 0, none⟩), .int .i64 k] w fun e w' => ∃ A m c, e = .returned (.slice A m c) ∧ Rd w' w'.heap.size A m (bvs out) ∧ Rdr w' g bs' bad' ∧ w.grownBy w' (some g)
def RTake (k : Int) (out bs bs' : List UInt8) (bad bad' : Bool) : Prop :=
  ∀ w B v, RV w B v bs bad → Calls Try.prog 27 #[v, .int .i64 k] w fun e w' => ∃ v' A m c, e = .returned (.tuple #[v', .slice A m c]) ∧ RV w' B v' bs' bad' ∧ Rd w' B A m (bvs out) ∧ Below w.heap.size w w'

theorem pair_uint (bs : List UInt8) (bad : Bool) : ∃ x bs' bad', U64 x ∧ PUint x bs bs' bad bad' ∧ RUint x bs bs' bad bad' := by
  by_cases h : bad = true ∨ dec bs = none
  · exact ⟨0, bs, true, U64.mk (by omega), fun g w hr => uint_no hr h, fun w B v hr => ruint_no hr h⟩
  · cases bad with
    | true => simp at h
    | false =>
      cases hd : dec bs with
      | none => simp [hd] at h
      | some p =>
        obtain ⟨x, n⟩ := p
        exact ⟨x, bs.drop n, false, U64.mk (dec_some hd).2.1, fun g w hr => uint_some hr hd, fun w B v hr => ruint_some hr hd⟩

theorem pair_bytes (bs : List UInt8) (bad : Bool) (hl : bs.length ≤ 1000000) : ∃ out bs' bad', out.length ≤ 1000000 ∧ PBytes out bs bs' bad bad' ∧ RBytes out bs bs' bad bad' := by
  by_cases h : bad = true ∨ dec bs = none
  · exact ⟨[], bs, true, by simp, fun g w hr => (bytes_no hr h).mono fun e w' ⟨h1, h2, h3⟩ => ⟨none, 0, 0, h1, Rd.nil _ _ _, h2, h3⟩,
      fun w B v hr => (rbytes_no hr h).mono fun e w' ⟨v', h1, h2, h3⟩ => ⟨v', none, 0, 0, h1, h2, Rd.nil _ _ _, h3⟩⟩
  · cases bad with
    | true => simp at h
    | false =>
      cases hd : dec bs with
      | none => simp [hd] at h
      | some p =>
        obtain ⟨x, n⟩ := p
        by_cases hx : bs.length - n < x
        · exact ⟨[], bs, true, by simp, fun g w hr => (bytes_few hr hd hx).mono fun e w' ⟨h1, h2, h3⟩ => ⟨none, 0, 0, h1, Rd.nil _ _ _, h2, h3⟩,
            fun w B v hr => (rbytes_few hr hd hx).mono fun e w' ⟨v', h1, h2, h3⟩ => ⟨v', none, 0, 0, h1, h2, Rd.nil _ _ _, h3⟩⟩
        · exact ⟨(bs.drop n).take x, (bs.drop n).drop x, false, by simp; omega, fun g w hr => (bytes_yes hr hd (by omega)).mono fun e w' ⟨A, c, h1, h2, h3, h4⟩ => ⟨A, x, c, h1, h2, h3, h4⟩,
            fun w B v hr => (rbytes_yes hr hd (by omega)).mono fun e w' ⟨v', A, c, h1, h2, h3, h4⟩ => ⟨v', A, x, c, h1, h2, h3, h4⟩⟩

theorem pair_take (k : Int) (bs : List UInt8) (bad : Bool) (hl : bs.length ≤ 1000000) : ∃ out bs' bad', out.length ≤ 1000000 ∧ PTake k out bs bs' bad bad' ∧ RTake k out bs bs' bad bad' := by
  by_cases h : bad = true ∨ k < 0 ∨ (bs.length : Int) < k
  · exact ⟨[], bs, true, by simp, fun g w hr => (take_no hr h).mono fun e w' ⟨h1, h2, h3⟩ => ⟨none, 0, 0, h1, Rd.nil _ _ _, h2, h3⟩,
      fun w B v hr => (rtake_no hr h).mono fun e w' ⟨v', h1, h2, h3⟩ => ⟨v', none, 0, 0, h1, h2, Rd.nil _ _ _, h3⟩⟩
  · have hb : bad = false := by cases bad <;> simp_all
    subst hb
    obtain ⟨K, rfl⟩ := Int.eq_ofNat_of_zero_le (show 0 ≤ k by omega)
    have hK : K ≤ bs.length := by omega
    exact ⟨bs.take K, bs.drop K, false, by simp; omega, fun g w hr => (take_yes hr hK).mono fun e w' ⟨A, c, h1, h2, h3, h4⟩ => ⟨A, K, c, h1, h2, h3, h4⟩,
      fun w B v hr => (rtake_yes hr hK).mono fun e w' ⟨v', A, c, h1, h2, h3, h4⟩ => ⟨v', A, K, c, h1, h2, h3, h4⟩⟩

/-- The program's reader and the reference's, in one state. -/
structure Both (w0 : World) (g p : Nat) (wr : World) (bs : List UInt8) (bad : Bool) : Prop where
  rd : Rdr wr g bs bad
  ref : ∃ A c, wr.heap[p]? = some (.cells #[.slice A bs.length c, .bool bad] 37 (0, 0)) ∧ bs.length ≤ c ∧ bs.length ≤ 1000000 ∧ Rd wr w0.heap.size A bs.length (bvs bs)
  below : Below w0.heap.size w0 wr

theorem both_store {w0 w : World} {g p m c : Nat} {A : Option Addr} {u0 u1 : Value} {bs : List UInt8} {bad : Bool} (hrd : Rdr w g bs bad) (hp : w.heap[p]? = some (.cells #[u0, u1] 37 (0, 0)))
    (hv : RV w w0.heap.size (.agg #[.slice A m c, .bool bad]) bs bad) (hgp : g < p) (hp0 : w0.heap.size ≤ p) (hb : Below w0.heap.size w0 w) :
    Both w0 g p ((w.setCell ⟨p, 0, none⟩ (.slice A m c)).setCell ⟨p, 1, none⟩ (.bool bad)) bs bad := by
  obtain ⟨hB, hl, A', c', he, hc, hr⟩ := hv
  have hlt := blk_lt hp
  injection he with he
  injection he with he
  simp only [List.cons.injEq, Value.slice.injEq, and_true] at he
  obtain ⟨rfl, rfl, rfl⟩ := he
  refine ⟨?_, ⟨A, c, ?_, hc, hl, ?_⟩, ?_⟩
  · obtain ⟨A2, c2, h1, h2, h3, h4⟩ := hrd
    refine ⟨A2, c2, ?_, h2, h3, (h4.setCell (by simp; omega) _).setCell (by simp; omega) _⟩
    rw [Below.heap_setCell _ _ _ _ (by simp; omega), Below.heap_setCell _ _ _ _ (by simp; omega)]; exact h1
  · simp [World.setCell, Array.getElem?_modify, hp]
  · exact (hr.setCell hp0 _).setCell hp0 _
  · exact (hb.setCell (p := ⟨p, 0, none⟩) hp0 _).setCell (p := ⟨p, 1, none⟩) hp0 _

theorem RV.grow {w w' : World} {B g : Nat} {v : Value} {bs : List UInt8} {bad : Bool} (h : RV w B v bs bad) (hg : w.grownBy w' (some g)) (hB : B ≤ g) : RV w' B v bs bad := by
  obtain ⟨A, c, h1, h2, h3⟩ := h.ex
  exact ⟨Nat.le_trans h.hB hg.size, h.hl, A, c, h1, h2, h3.grow hg h.hB hB⟩

/-- A store into a cell that holds no byte leaves bytes as they are. -/
theorem Rd.set_ne {w : World} {B n : Nat} {A : Option Addr} {l : List UInt8} {p : Addr} {u : Value} (h : Rd w B A n (bvs l)) (hc : w.cell? p = some u) (hu : ∀ b, u ≠ bv b) (v : Value) : Rd (w.setCell p v) B A n (bvs l) :=
  ⟨h.len, fun j x hx => by
    obtain ⟨ad, e, hb, hcell⟩ := h.at' j x hx
    obtain ⟨b, _, rfl⟩ := bvs_get hx
    refine ⟨ad, e, hb, ?_⟩
    rw [World.cell?_setCell_other]
    · exact hcell
    · intro e'
      rw [e', hcell] at hc
      injection hc with hc
      exact hu b hc.symm⟩
theorem Rd.two_sets {w : World} {B n g m c : Nat} {A A' : Option Addr} {l : List UInt8} {u1 : Bool} {v0 v1 : Value} (h : Rd w B A n (bvs l)) (hg : w.heap[g]? = some (.cells #[.slice A' m c, .bool u1] 37 (0, 0))) :
    Rd ((w.setCell ⟨g, 0, none⟩ v0).setCell ⟨g, 1, none⟩ v1) B A n (bvs l) := by
  refine (h.set_ne (blk_cell hg 0 _ rfl) (by intro b e; cases e) v0).set_ne (u := .bool u1) ?_ (by intro b e; cases e) v1
  rw [World.cell?_setCell_other _ _ _ _ (by simp)]
  exact blk_cell hg 1 _ rfl

/-- '[]byte(s)'. -/
theorem run_bytes {P : Program} (w : World) (src dst e : TypeId) (s : ByteArray) (hs : P.underlying src = some .string) (hd : P.underlying dst = some (.slice e)) (he : P.underlying e = some (.int .u8)) :
    ∃ (c : Nat) (w' : World), (convert src dst (.string s)).run P w = .ok (.slice (some ⟨w.heap.size, 0, none⟩) s.size c) w' ∧ Rd w' w'.heap.size (some ⟨w.heap.size, 0, none⟩) s.size (bvs s.data.toList) ∧ Below w.heap.size w w' := by
  refine ⟨_, _, run_bytes_of_string w src dst e s hs hd he, ?_, ((Below.refl _ _).drew).alloc (Nat.le_refl _) _⟩
  refine ⟨by simp, fun j u hu => ⟨_, rfl, by simp, ?_⟩⟩
  have hadd : (⟨w.heap.size, 0, none⟩ : Addr).add j = ⟨w.heap.size, j, none⟩ := by unfold Addr.add; split <;> simp_all
  have hj : j < s.data.size := by have := (List.getElem?_eq_some_iff.1 hu).1; simpa using this
  rw [hadd, cell_of_row _ w.heap.size j _ e _ (heap_alloc_new w.drew _)]
  unfold bytesRow
  rw [Array.getElem?_append_left (by simpa using hj)]
  simp only [bvs, List.getElem?_map] at hu
  simpa [bv] using hu
theorem RV.drewN {w : World} {B : Nat} {v : Value} {bs : List UInt8} {bad : Bool} (h : RV w B v bs bad) (k : Nat) : RV (w.drewN k) B v bs bad := by
  obtain ⟨A, c, h1, h2, h3⟩ := h.ex
  exact ⟨h.hB, h.hl, A, c, h1, h2, h3.drewN k⟩
theorem both_end {w0 wc x1 : World} {g p q L c5 : Nat} {A5 : Option Addr} {bs : List UInt8} {bad : Bool} (hrd : Rdr wc g bs bad) (hp5 : wc.heap[p]? = some (.cells #[.slice A5 L c5, .bool bad] 37 (0, 0)))
    (hv : RV wc w0.heap.size (.agg #[.slice A5 L c5, .bool bad]) bs bad) (hbel : Below w0.heap.size w0 wc) (hL : Hid (bs.length = L)) (hb : Below (wc.drewN q).heap.size (wc.drewN q) x1) : Both w0 g p x1 bs bad := by
  have := hL.out; subst this
  have hv1 := (hv.drewN q).below hb hbel.size
  obtain ⟨hB, hl, A', c', he, hc, hr⟩ := hv1
  injection he with he
  injection he with he
  simp only [List.cons.injEq, Value.slice.injEq, and_true, true_and] at he
  obtain ⟨rfl, rfl⟩ := he
  exact ⟨(hrd.drewN q).below hb hrd.lt, ⟨A5, c5, (hb.block p (blk_lt hp5)).trans hp5, hc, hl, hr⟩, (below_drewN hbel q).trans (hb.mono hbel.size)⟩
theorem left_L {g L : Nat} {bs : List UInt8} {bad : Bool} {w : World} (h : Rdr w g bs bad) (hL : Hid (bs.length = L)) :
    Calls Try.prog 28 #[.pointer (some ⟨g, 0, none⟩)] w fun e w' => e = .returned (.int .i64 L) ∧ w = w' := by
  have := left_any h; rwa [hL.out] at this
theorem done_t {g : Nat} {bs : List UInt8} {bad t : Bool} {w : World} (h : Rdr w g bs bad) (ht : Hid (doneB bs bad = t)) :
    Calls Try.prog 19 #[.pointer (some ⟨g, 0, none⟩)] w fun e w' => e = .returned (.bool t) ∧ w = w' := by
  have := done_any h; rwa [ht.out] at this
theorem rdone_t {v : Value} {bs : List UInt8} {bad t : Bool} {w : World} {B : Nat} (h : RV w B v bs bad) (ht : Hid (doneB bs bad = t)) :
    Calls Try.prog 30 #[v] w fun e w' => e = .returned (.bool t) ∧ Below w.heap.size w w' := by
  have := rdone_any h; rwa [ht.out] at this
theorem ok_t {g : Nat} {bs : List UInt8} {bad t : Bool} {w : World} (h : Rdr w g bs bad) (ht : (!bad) = t) :
    Calls Try.prog 29 #[.pointer (some ⟨g, 0, none⟩)] w fun e w' => e = .returned (.bool t) ∧ w = w' := by
  have := ok_any h; rwa [ht] at this
end Go.Proofs.Ytmhjkghmpdnhaaa
