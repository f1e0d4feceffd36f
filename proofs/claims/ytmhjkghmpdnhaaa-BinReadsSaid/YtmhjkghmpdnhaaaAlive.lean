/- The example of the chapter holds. -/
import Derived.Test.YtmhjkghmpdnhaaaInt
import Derived.BigQuiet
namespace Go.Proofs.Ytmhjkghmpdnhaaa
open Go.RowKit

/-- A row of the call's own, its block in sight. -/
theorem own_cell {w : World} {base : Nat} {e : TypeId} {v : Value} {n : Nat} {xs : List Value} (h : w.ownsRow base e 1 v n xs) (hn : 0 < n) :
    ∃ g c, v = .slice (some ⟨g, 0, none⟩) n c ∧ base ≤ g ∧ g < w.heap.size ∧ n ≤ c ∧ ∀ j, w.cell? ⟨g, j, none⟩ = if j < n then xs[j]? else w.cell? ⟨g, j, none⟩ := by
  rcases h.2 with ⟨_, h0⟩ | ⟨g, cap, cur, rfl, hb, hg, hc, _⟩
  · omega
  · refine ⟨g, cap, rfl, hb, (Array.getElem?_eq_some_iff.1 hg).1, hc, fun j => ?_⟩
    split
    · exact World.ownsRow.cellAt h j (by omega)
    · rfl

theorem leb300 : leb 300 = [172, 2] := by
  rw [leb_ge (by omega), leb_lt (by omega)]; rfl
theorem leb1 : leb (zz (-1)) = [1] := by
  have : zz (-1) = 1 := by decide
  rw [this, leb_lt (by omega)]; rfl

set_option maxRecDepth 100000 in
set_option maxHeartbeats 1000000 in
theorem alive_any (w : World) : Calls Try.prog 8 #[] w fun e w' => e = .returned (.bool true) ∧ Below w.heap.size w w' := by
  have h1 := bin_uint 300 w (U64.mk (by omega))
  rw [leb300] at h1
  go_enter Try.func8, Try.ntmps8
  go_wp2_with fail
  refine h1.mono ?_
  rintro e w1 ⟨v, rfl, hown, hb⟩
  obtain ⟨g, c, rfl, hg1, hg2, hgc, hcell⟩ := own_cell hown (by simp)
  have c0 : w1.cell? ⟨g, 0, none⟩ = some (.int .u8 172) := hcell 0
  have c1 : w1.cell? ⟨g, 1, none⟩ = some (.int .u8 2) := hcell 1
  clear hcell hown
  have h2 := bin_int (-1) w1 (by omega) (by omega)
  rw [leb1] at h2
  go_wp2_with fail
  refine h2.mono ?_
  rintro e w2 ⟨v2, rfl, hown2, hb2⟩
  obtain ⟨g2, c2, rfl, hg3, hg4, hgc2, hcell2⟩ := own_cell hown2 (by simp)
  have d0 : w2.cell? ⟨g2, 0, none⟩ = some (.int .u8 1) := hcell2 0
  have e0 : w2.cell? ⟨g, 0, none⟩ = some (.int .u8 172) := (hb2.cell (p := ⟨g, 0, none⟩) hg2).trans c0
  have e1 : w2.cell? ⟨g, 1, none⟩ = some (.int .u8 2) := (hb2.cell (p := ⟨g, 1, none⟩) hg2).trans c1
  clear c0 c1 hcell2 hown2
  go_wp2_with fail
  go_ret
  exact ⟨rfl, hb.trans (hb2.mono hb.size)⟩
end Go.Proofs.Ytmhjkghmpdnhaaa
