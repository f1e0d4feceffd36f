/- An argument that is a slice of operations, opened. -/
import Derived.Test.YtolnmdanlggmhaaMat
import Derived.Deep.SlicePairs
namespace Go.Proofs.Ytolnmdanlggmhaa
open Go.RowKit Go.ChangeShapes Go.WideShapes Go.Deep

section
variable {H : Type} {enc : TypeId × Value → H} {P : Program} {w : World} {base : Nat} {spare : Nat → Bool} {held : Bool}
theorem open_ops {t e i64 : TypeId} {f0 f1 : Field} {fuel : Nat} {v : Value} {x : DataW H × List MemPlace} (ht : P.underlying t = some (.slice e)) (he : P.underlying e = some (.struct #[f0, f1]))
    (ce : P.cellsOf e = 2) (o0 : f0.offset = 0) (o1 : f1.offset = 1) (c0 : P.cellsOf f0.type = 1) (c1 : P.cellsOf f1.type = 1) (t0 : f0.type = i64) (t1 : f1.type = i64) (hi : P.underlying i64 = some (.int .i64))
    (h : DataW.trod enc P w base spare held fuel t [v] = some x) :
    ∃ (A : Option Addr) (n c : Nat) (ops : List (Int × Int)), v = .slice A n c ∧ OpsAt w w.heap.size A n ops ∧ n ≤ maxLen := by
  rcases open_slice_pairs ht he ce o0 o1 c0 c1 h with ⟨hcs, _⟩ | ⟨a, len, cap, m, n, V0, V1, D0, D1, P0, P1, hcs, hb, hl, hm, hmm, hx, hr⟩
  · simp at hcs
    exact ⟨none, 0, 0, [], hcs, ⟨rfl, fun j p hj => by simp at hj⟩, by simp [maxLen]⟩
  · simp at hcs
    have hlm : len ≤ m := by rw [hmm]; split <;> omega
    have hrow : ∀ j, j < len → ∃ p : Int × Int, w.cell? (a.add (j * 2)) = some (.int .i64 p.1) ∧ w.cell? (a.add (j * 2 + 1)) = some (.int .i64 p.2) ∧ (Lit.int .i64 p.1).wf = true ∧ (Lit.int .i64 p.2).wf = true := by
      intro j hj
      obtain ⟨h1, h2, h3, h4⟩ := hr j (by omega)
      rw [t0] at h3
      rw [t1] at h4
      obtain ⟨x0, e0, _, w0⟩ := DataW.trod_int hi h3
      obtain ⟨x1, e1, _, w1⟩ := DataW.trod_int hi h4
      simp at e0 e1
      exact ⟨(x0, x1), by rw [h1, e0], by rw [h2, e1], w0, w1⟩
    obtain ⟨f, hf⟩ := choose_lt hrow
    refine ⟨some a, len, cap, (List.range len).map f, hcs, ⟨by simp, fun j p hj => ?_⟩, by omega⟩
    rw [List.getElem?_map, Option.map_eq_some_iff] at hj
    obtain ⟨r, hr', rfl⟩ := hj
    have hj' : j < len ∧ r = j := by
      rw [List.getElem?_eq_some_iff] at hr'
      obtain ⟨h1, h2⟩ := hr'
      simp at h1 h2
      exact ⟨h1, h2.symm⟩
    obtain ⟨hj', rfl⟩ := hj'
    obtain ⟨h1, h2, h3, h4⟩ := hf r hj'
    have hblk : a.block < w.heap.size := by
      have := World.block_lt_of_cell? _ _ h1
      rwa [add_block] at this
    exact ⟨a, rfl, hblk, h1, h2, h3, h4⟩
end
end Go.Proofs.Ytolnmdanlggmhaa
