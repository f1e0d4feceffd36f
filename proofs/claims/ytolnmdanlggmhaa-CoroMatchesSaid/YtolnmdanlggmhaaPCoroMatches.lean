/- CoroMatches: for every input, on every schedule, the law returns true, and its arguments read afterwards as they read before. No condition of its own. -/
import Derived.Test.YtolnmdanlggmhaaRows
import Derived.WalkKit
import Derived.ProofKit
import Derived.OpenShut
import Derived.ShutString
import Derived.ChangeOld
import Derived.Below
import Derived.SizedLaws
import Derived.Conc.LeavingOf
import Derived.Test.YtolnmdanlggmhaaKma
namespace Go.Proofs.Ytolnmdanlggmhaa.coroMatches
open Go.ChangeShapes Go.WideShapes Go.ChangeAt Go.RowKit
open Go.ChangeMaps (open_string shut_string)
set_option linter.unusedVariables false

theorem own : ownKnob Try.prog.godebug = none := by kernel_rfl
theorem laidOut : laidOutB Try.prog = true := by kernel_rfl

theorem walk (a0 : Option Addr) (len0 cap0 : Nat) (z0 : List (List RStep)) (a1 : Option Addr) (len1 cap1 : Nat) (z1 : List Int) (a2 : Option Addr) (len2 cap2 : Nat) (z2 : List Int) (w : World) (w0 : FAt w a0 z0) (s0 : z0.length = len0 ∧ len0 ≤ 140737488355328 ∧ ∀ l ∈ z0, ∀ x ∈ l, x.text.size ≤ 140737488355328) (w1 : IsRow .u8 w a1 len1 cap1 z1) (w2 : IsRow .i64 w a2 len2 cap2 z2) :
    ∃ M last o w' t', runNT Try.prog (M + 1) (Go.Conc.solo (Go.Conc.G (Frame.enter Try.prog 11 #[.slice a0 len0 cap0, .slice a1 len1 cap1, .slice a2 len2 cap2] .normal) []) w) #[] = (.ended o w', t') ∧ runN Try.prog M (Go.Conc.solo (Go.Conc.G (Frame.enter Try.prog 11 #[.slice a0 len0 cap0, .slice a1 len1 cap1, .slice a2 len2 cap2] .normal) []) w) = .next last ∧ step Try.prog last = .ended o w' ∧ Go.Conc.Good Try.prog (LawPost w) last o w' t' :=
  law_matches a0 len0 cap0 z0 a1 len1 cap1 z1 a2 len2 cap2 z2 w w0 s0.1 s0.2.1 s0.2.2 w1 w2

set_option maxRecDepth 100000 in
theorem lifted (os : Os) (started : os.Started) (H : Type) (enc : TypeId × Value → H) :
    ReturnsInLeavingWide {} Try.checked os 11 .any (Rows.coroMatchesSpec.pre6 enc Try.prog Try.f11 Rows.coroMatchesRow.domain false) (Rows.coroMatchesSpec.post enc Try.prog Try.f11 false true false false) := by
  refine returnsInLeavingWide_of_change_sized (C := Try.checked) own started Try.func11
    (ChangeSpec.witness6 (enc := enc) (C := Try.checked) false ⟨#[], #[.slice none 0 0, .slice none 0 0, .slice none 0 0], []⟩ 8 (by kernel_rfl) (by kernel_rfl) (by kernel_rfl) (by kernel_rfl)) ?_
  intro W base args ds gs before hval0 hW hcnd hsz0 _
  have hval : ∀ (j : Nat) t v, Try.f11.params[j]? = some t → args[j]? = some v → Value.okWide Try.prog W .any base t v := hval0
  have hW' := hW
  obtain ⟨p, q, hA0, hV, rfl, hfz, hnd⟩ := hW
  have hA : DataW.TrodAll enc Try.prog W 0 (fun _ => true) true Try.f11.params.toList args.toList ds p := hA0
  have hsz : (DataW.weightsEach Try.prog (Try.f11.params.toList ++ Rows.coroMatchesSpec.plain.varTypes Try.prog) (ds ++ gs)).all (· ≤ reachBytes) = true := hsz0
  rw [Try.params11] at hA hval hsz
  obtain ⟨v0, vs0, d0, ds0, p0, q0, hargs, rfl, rfl, h0, r0⟩ := trodAll_cons hA
  obtain ⟨v1, vs1, d1, ds1, p1, q1, rfl, rfl, rfl, h1, r1⟩ := trodAll_cons r0
  obtain ⟨v2, vs2, d2, ds2, p2, q2, rfl, rfl, rfl, h2, r2⟩ := trodAll_cons r1
  obtain ⟨rfl, rfl, rfl⟩ := trodAll_nil r2
  obtain rfl : args = #[v0, v1, v2] := by cases args; simp_all
  obtain ⟨rfl, rfl⟩ := trodVars_none hV
  obtain ⟨a0, len0, cap0, rfl⟩ := okWide_slice Try.underlying63 (hval 0 63 v0 rfl rfl)
  have k0 := h0
  have lt0 : ∀ x ∈ p0, x.block < W.heap.size := by obtain ⟨m, hm⟩ := k0; exact DataW.trod_lt m _ _ _ hm
  have y0 : ∀ n ∈ d0.weights Try.prog 63, n ≤ 140737488351232 := fun n hn => by
    have := List.all_eq_true.1 hsz n (DataW.weights_mem_each (j := 0) (t := 63) (d := d0) rfl rfl n hn)
    exact of_decide_eq_true this
  obtain ⟨b0, blen0, bcap0, z0, e0, w0, s0⟩ : ∃ A n c L, Value.slice a0 len0 cap0 = .slice A n c ∧ FAt W A L ∧ L.length = n ∧ n ≤ 140737488355328 ∧ ∀ l ∈ L, ∀ x ∈ l, x.text.size ≤ 140737488355328 := by
    obtain ⟨fuel, hf⟩ := h0
    obtain ⟨A, n, c, fs, q1, q2, q3, q4, q5⟩ := open_fns Try.underlying63 (by kernel_rfl) Try.underlying94 Try.underlying109 (by kernel_rfl) rfl rfl rfl (by kernel_rfl) (by kernel_rfl) rfl rfl rfl Try.underlying3 Try.underlying9 (by simpa [Value.cells] using hf)
    have hbytes : Try.prog.bytesOf 94 = 24 := by kernel_rfl
    refine ⟨A, n, c, fs, q1, q3, q2, ?_, fun l hl x hx => Nat.le_trans (y0 _ (q4 l hl x hx)) (by omega)⟩
    rcases q5 with q5 | ⟨k, q5, q6⟩
    · omega
    · have := y0 k q6
      rw [hbytes] at q5
      omega
  injection e0 with e1 e2 e3
  subst e1 e2 e3
  obtain ⟨a1, len1, cap1, rfl⟩ := okWide_slice Try.underlying32 (hval 1 32 v1 rfl rfl)
  have k1 := h1
  have lt1 : ∀ x ∈ p1, x.block < W.heap.size := by obtain ⟨m, hm⟩ := k1; exact DataW.trod_lt m _ _ _ hm
  obtain ⟨z1, w1⟩ : ∃ zs, IsRow .u8 W a1 len1 cap1 zs := by
    obtain ⟨fuel, hf⟩ := h1
    rcases open_ints Try.underlying32 Try.underlying5 (by kernel_rfl) hf with ⟨hcs, _⟩ | ⟨x, l, c, zs, hcs, _, hl, hm, hz, _, hcell, hwz⟩
    · simp [Value.cells] at hcs
      obtain ⟨rfl, rfl, rfl⟩ := hcs
      exact ⟨[], .inl ⟨rfl, rfl, rfl, rfl⟩⟩
    · simp [Value.cells] at hcs
      obtain ⟨rfl, rfl, rfl⟩ := hcs
      exact ⟨zs, .inr ⟨_, rfl, hl, hm, by simpa using hz, hcell, hwz⟩⟩
  obtain ⟨a2, len2, cap2, rfl⟩ := okWide_slice Try.underlying22 (hval 2 22 v2 rfl rfl)
  have k2 := h2
  have lt2 : ∀ x ∈ p2, x.block < W.heap.size := by obtain ⟨m, hm⟩ := k2; exact DataW.trod_lt m _ _ _ hm
  obtain ⟨z2, w2⟩ : ∃ zs, IsRow .i64 W a2 len2 cap2 zs := by
    obtain ⟨fuel, hf⟩ := h2
    rcases open_ints Try.underlying22 Try.underlying3 (by kernel_rfl) hf with ⟨hcs, _⟩ | ⟨x, l, c, zs, hcs, _, hl, hm, hz, _, hcell, hwz⟩
    · simp [Value.cells] at hcs
      obtain ⟨rfl, rfl, rfl⟩ := hcs
      exact ⟨[], .inl ⟨rfl, rfl, rfl, rfl⟩⟩
    · simp [Value.cells] at hcs
      obtain ⟨rfl, rfl, rfl⟩ := hcs
      exact ⟨zs, .inr ⟨_, rfl, hl, hm, by simpa using hz, hcell, hwz⟩⟩
  clear hA0 hval0
  obtain ⟨M, last, o, W', t', r1, r2, r3, r4⟩ := walk a0 len0 cap0 z0 a1 len1 cap1 z1 a2 len2 cap2 z2 W w0 s0 w1 w2
  refine ⟨M, last, o, W', t', r1, r2, r3, r4.mono fun v hF => ?_⟩
  obtain ⟨rfl, bel⟩ : LawPost W v W' := hF
  exact ⟨_, _, _, [], _, [], hW', trodAll_mk1 (shut_bool Try.underlying4 _), (trodAll_cons_mk (Below.trod laidOut (by kernel_rfl) (of_decide_eq_true (by kernel_rfl)) k0 bel lt0) (trodAll_cons_mk (Below.trod laidOut (by kernel_rfl) (of_decide_eq_true (by kernel_rfl)) k1 bel lt1) (trodAll_cons_mk (Below.trod laidOut (by kernel_rfl) (of_decide_eq_true (by kernel_rfl)) k2 bel lt2) trodAll_mk0))), rfl, bel.frame _, fun h => by cases h⟩

theorem over : Rows.coroMatchesRow.holds Try.pinned (OpenSpec.ofChange Rows.coroMatchesSpec) :=
  OpenClaim.holds_of_wide_leaving 11 Try.f11 rfl rfl rfl rfl rfl rfl rfl ⟨rfl, rfl, rfl, rfl, rfl⟩ rfl rfl rfl rfl rfl (by kernel_rfl) Try.func11 (by kernel_rfl)
    (of_decide_eq_true (by kernel_rfl)) (by unfold Func.isWrapper; first | (rw [if_pos (by decide +kernel)]; kernel_rfl) | (rw [if_neg (by decide +kernel)]; exact ⟨rfl, rfl⟩))
    (fun os started H enc _ => lifted os started H enc)

theorem coroMatches_holds : Rows.CoroMatchesSaid := over
end Go.Proofs.Ytolnmdanlggmhaa.coroMatches
