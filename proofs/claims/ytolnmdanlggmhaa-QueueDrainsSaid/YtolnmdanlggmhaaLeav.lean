/- A contract of a call that ends alone is one of a call whose others are only leaving. No program in sight. -/
import Derived.Conc.Holds
import Derived.Handed
namespace Go.Proofs.Ytolnmdanlggmhaa

theorem quiet_leaving {P : Program} {m : Machine} (h : m.quiet) : m.OnlyLeaving P := by
  refine ⟨fun g hg => ⟨0, ?_⟩, h.2⟩
  have h1 := h.1
  unfold Machine.othersDone at h1
  simp only [List.all_eq_true] at h1
  show g.status = .finished
  simpa using h1 g hg

theorem handed_leaving {a : Assume} {C : Checked} {os : Os} {f : FuncId} {r : Reach} {Pre : World → Array Value → Prop} {Post : World → Array Value → Value → World → Prop}
    (h : ReturnsInHanded a C os f r Pre Post) : ReturnsInLeavingWide a C os f r Pre Post := fun enter => by
  obtain ⟨h1, h2, h3, h4, h5⟩ := h enter
  refine ⟨h1, h2, h3, h4, fun w tape i hf => ?_⟩
  obtain ⟨n, v, w', r1, r2, r3, r4, ⟨j, last, s1, s2, q, ho, eh⟩, al⟩ := h5 w tape i hf
  exact ⟨n, v, w', r1, r2, r3, r4, ⟨j, last, s1, s2, ho, quiet_leaving q, eh⟩, al⟩
end Go.Proofs.Ytolnmdanlggmhaa
