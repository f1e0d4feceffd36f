/- An argument that is a slice of byte slices, read as a list of lists of bytes. No program in sight. -/
import Derived.Test.YthddhcodlmlaiaaBase
import Derived.Deep.Matrix
namespace Go.Proofs.Ythddhcodlmlaiaa
open Go.RowKit Go.ChangeShapes Go.WideShapes Go.Deep

/-- What a walk is told of a slice of byte slices that came in. -/
def IsGrid (w : World) (A : Option Addr) (n c : Nat) (L : List (List UInt8)) : Prop :=
  L.length = n ∧ n ≤ c ∧ c ≤ maxLen ∧ Rds w w.heap.size A (L.map bvs)

theorem blk_of_cell {w : World} {p : Addr} {v : Value} (h : w.cell? p = some v) : p.block < w.heap.size := by
  rcases Nat.lt_or_ge p.block w.heap.size with h1 | h1
  · exact h1
  · simp [World.cell?, Array.getElem?_eq_none h1] at h

section
variable {H : Type} {enc : TypeId × Value → H} {P : Program} {w : World} {base : Nat} {held : Bool}
theorem open_grid {t e q : TypeId} {fuel : Nat} {v : Value} {x : DataW H × List MemPlace} (ht : P.underlying t = some (.slice e)) (he : P.underlying e = some (.slice q)) (hq : P.underlying q = some (.int .u8))
    (ce : P.cellsOf e = 1) (cq : P.cellsOf q = 1) (h : DataW.trod enc P w base (fun _ => true) held fuel t [v] = some x) :
    ∃ (A : Option Addr) (n c : Nat) (L : List (List UInt8)), v = .slice A n c ∧ IsGrid w A n c L := by
  rcases open_int_rows ht he hq ce cq h with ⟨hcs, _⟩ | ⟨a, len, cap, A, Ln, C, Z, hcs, hb, hl, hm, hx, hr⟩
  · simp at hcs
    refine ⟨none, 0, 0, [], hcs, rfl, Nat.le_refl _, by simp [maxLen], [], Rd.nil _ _ _, fun i l hi => by simp at hi⟩
  · simp at hcs
    have hrow : ∀ r, r < len → ∃ bs : List UInt8, bs.length = Ln r ∧ Rd w w.heap.size (A r) (Ln r) (bvs bs) := by
      intro r hrl
      obtain ⟨hc, h1, h2, h3, h4, h5, h6⟩ := hr r (by omega)
      have hi : IsRow .u8 w (A r) (Ln r) (C r) (Z r) := by
        cases hA : A r with
        | none =>
          have h7 := h5 hA
          have h8 : Z r = [] := List.eq_nil_of_length_eq_zero (by omega)
          exact .inl ⟨rfl, by omega, h7, h8⟩
        | some a' => exact .inr ⟨a', rfl, h1, h2, h3, fun i hi => (h6 a' hA).2 i (by omega), h4⟩
      obtain ⟨bs, e1, e2, _, _⟩ := hi.bytes
      exact ⟨bs, e1, e2⟩
    obtain ⟨f, hf⟩ := choose_lt hrow
    refine ⟨some a, len, cap, (List.range len).map f, hcs, by simp, hl, hm, (List.range len).map fun r => .slice (A r) (Ln r) (C r), ?_, ?_⟩
    · refine ⟨by simp, fun j u hu => ?_⟩
      simp only [List.getElem?_map, Option.map_eq_some_iff] at hu
      obtain ⟨r, hr', rfl⟩ := hu
      have hj : j < len ∧ r = j := by
        rw [List.getElem?_eq_some_iff] at hr'
        obtain ⟨h1, h2⟩ := hr'
        simp at h1 h2
        exact ⟨h1, h2.symm⟩
      obtain ⟨hj, rfl⟩ := hj
      have hc := (hr r (by omega)).1
      exact ⟨a, rfl, by have := blk_of_cell hc; rw [add_block] at this; exact this, hc⟩
    · intro i l hi
      simp only [List.getElem?_map, Option.map_eq_some_iff] at hi
      obtain ⟨l0, ⟨r, hr', rfl⟩, rfl⟩ := hi
      have hj : i < len ∧ r = i := by
        rw [List.getElem?_eq_some_iff] at hr'
        obtain ⟨h1, h2⟩ := hr'
        simp at h1 h2
        exact ⟨h1, h2.symm⟩
      obtain ⟨hj, rfl⟩ := hj
      obtain ⟨e1, e2⟩ := hf r hj
      refine ⟨A r, C r, by simp [hj, e1], ?_⟩
      rw [bvs_length, e1]
      exact e2
end
end Go.Proofs.Ythddhcodlmlaiaa
