/- The law SumParts, walked. -/
import Derived.Test.YthddhcodlmlaiaaSumB
import Derived.Test.YthddhcodlmlaiaaGrid
namespace Go.Proofs.Ythddhcodlmlaiaa
open Go.RowKit

set_option maxRecDepth 100000 in
set_option maxHeartbeats 4000000 in
theorem law_parts (A : Option Addr) (n c : Nat) (L : List (List UInt8)) (w : World) (w0 : IsGrid w A n c L) :
    Calls Try.prog 3 #[.slice A n c] w fun e w' => e = .returned (.bool true) ∧ Below w.heap.size w w' := by
  obtain ⟨hn, hnc, hcm, hr⟩ := w0
  have hf := few_any A n c L w _ hr hn (by omega)
  have HN := Lib.hid hn; clear hn
  go_enter Try.func3, Try.ntmps3
  go_wp2_with fail
  refine hf.mono ?_
  rintro e w1 ⟨t, rfl, rfl, hfew⟩
  clear hf
  cases t with
  | false =>
    go_wp2_with fail
    refine (alive_any _).mono ?_
    rintro e w2 ⟨rfl, hb⟩
    go_wp2_with fail
    go_ret
    exact ⟨rfl, hb⟩
  | true =>
    obtain ⟨h60, h15⟩ := hfew rfl
    clear hfew
    obtain ⟨F, hF⟩ : ∃ F, L.flatten = F := ⟨_, rfl⟩
    obtain ⟨m, hm⟩ : ∃ m, F.length = m := ⟨_, rfl⟩
    rw [hF, hm] at h15
    have HF := Lib.hid hF; have HM := Lib.hid hm; clear hF hm
    go_wp2_with fail
    refine (alive_any _).mono ?_
    rintro e w2 ⟨rfl, hb2⟩
    have hs1 := sum_any A n c L F m w2 _ (hr.below hb2) hb2.size HN.out HF.out HM.out (by omega) (by omega)
    go_wp2_with fail
    refine hs1.mono ?_
    rintro e w3 ⟨rfl, hb⟩
    have hb3 := hb2.trans (hb.mono hb2.size)
    clear hb hs1 hb2
    have hc := cat_any A n c L F m w3 _ (hr.below hb3) hb3.size HN.out HF.out HM.out (by omega) (by omega)
    go_wp2_with fail
    refine hc.mono ?_
    rintro e w4 ⟨v, rfl, hown, hb⟩
    have hb4 := hb3.trans (hb.mono hb3.size)
    obtain ⟨A1, c1, rfl, hr1⟩ := own_rd hown
    clear hb hc hb3
    have hrs := refsum_any A1 m c1 F w4 _ hr1 (by omega)
    go_wp2_with fail
    refine hrs.mono ?_
    rintro e w5 ⟨rfl, rfl⟩
    go_wp2_with fail
    go_ret
    exact ⟨rfl, hb4⟩
end Go.Proofs.Ythddhcodlmlaiaa
