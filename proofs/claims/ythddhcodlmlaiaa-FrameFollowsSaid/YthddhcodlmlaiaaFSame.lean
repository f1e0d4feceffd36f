/- The reference's Same, at bytes and at lists of bytes. -/
import Derived.Test.YthddhcodlmlaiaaSumB
import Derived.Test.YthddhcodlmlaiaaSlices
import Derived.Deep.QuietTactic
import Derived.BigQuiet
import Derived.RegionTactic
import Derived.Deep.RegionHeld3
namespace Go.Proofs.Ythddhcodlmlaiaa
open Go.RowKit

set_option maxRecDepth 100000 in
set_option maxHeartbeats 1000000 in
theorem same1_any {w : World} {B1 B2 : Nat} {A A' : Option Addr} {n c n' c' : Nat} {xs ys : List UInt8} (hx : Rd w B1 A n (bvs xs)) (hy : Rd w B2 A' n' (bvs ys)) :
    Calls Try.prog 48 #[.slice A n c, .slice A' n' c'] w fun e w' => e = .returned (.bool (decide (xs = ys))) ∧ w' = w := by
  have h1 := run_str (P := Try.prog) (c := c) 28 9 5 Try.underlying28 Try.underlying5 Try.underlying9 hx
  have h2 := run_str (P := Try.prog) (c := c') 28 9 5 Try.underlying28 Try.underlying5 Try.underlying9 hy
  obtain ⟨t, ht⟩ : ∃ t, decide (xs = ys) = t := ⟨_, rfl⟩
  have hbe : (xs == ys) = t := by rw [← ht]; rw [Bool.eq_iff_iff]; simp
  rw [ht]
  clear ht
  go_enter Try.func48, Try.ntmps48
  go_wp2_with fail
  go_ret
  exact ⟨rfl, rfl⟩
theorem same1_t {w : World} {B1 B2 : Nat} {A A' : Option Addr} {n c n' c' : Nat} {xs ys : List UInt8} {t : Bool} (hx : Rd w B1 A n (bvs xs)) (hy : Rd w B2 A' n' (bvs ys)) (ht : Hid (decide (xs = ys) = t)) :
    Calls Try.prog 48 #[.slice A n c, .slice A' n' c'] w fun e w' => e = .returned (.bool t) ∧ w' = w := by
  have h := same1_any (c := c) (c' := c') hx hy
  rw [ht.out] at h
  exact h

theorem take_eq_succ {α : Type} {L M : List α} {k : Nat} {x y : α} (h : L.take k = M.take k) (hx : L[k]? = some x) (hy : M[k]? = some y) (e : x = y) : L.take (k + 1) = M.take (k + 1) := by
  rw [List.take_add_one, List.take_add_one, h, hx, hy, e]

set_option maxRecDepth 100000 in
set_option maxHeartbeats 2000000 in
theorem same_any (A A' : Option Addr) (n c n' c' : Nat) (L M : List (List UInt8)) (w : World) (B B' : Nat) (hr : Rds w B A (L.map bvs)) (hr' : Rds w B' A' (M.map bvs)) (hn : L.length = n) (hn' : M.length = n') (hm : n ≤ 4000000) (hm' : n' ≤ 4000000) :
    Calls Try.prog 33 #[.slice A n c, .slice A' n' c'] w fun e w' => e = .returned (.bool (decide (L = M))) ∧ ∃ q, w' = w.drewN q := by
  by_cases hlen : n = n'
  case neg =>
    have hne : decide (L = M) = false := by rw [decide_eq_false_iff_not]; rintro rfl; omega
    have hi : ¬ (n : Int) = (n' : Int) := by omega
    rw [hne]
    clear hne
    go_enter Try.func33, Try.ntmps33
    go_wp2_with fail
    go_ret
    exact ⟨rfl, 0, rfl⟩
  subst hlen
  have HN := Lib.hid hn; have HM := Lib.hid hn'; clear hn hn'
  go_enter Try.func33, Try.ntmps33
  go_wp2_with fail
  go_loopw [5] (fun i wr => ∃ k q : Nat, k ≤ n ∧ i = .int .i64 k ∧ wr = w.drewN q ∧ Hid (L.take k = M.take k)) (fun i _ => n - (intOf i).toNat)
  case atStart => exact ⟨0, 0, Nat.zero_le _, rfl, rfl, rfl⟩
  case round =>
    obtain ⟨k, q, hk, rfl, rfl, hs⟩ := hrel
    by_cases hlt : k < n
    · have hki : (k : Int) < (n : Int) := by omega
      obtain ⟨ad, l, A1, c1, rfl, hl, hc, hrl⟩ := hr.at (k := k) (by have := HN.out; rw [List.length_map]; omega)
      obtain ⟨ad', l', A1', c1', rfl, hl', hc', hrl'⟩ := hr'.at (k := k) (by have := HM.out; rw [List.length_map]; omega)
      rw [List.getElem?_map, Option.map_eq_some_iff] at hl hl'
      obtain ⟨l, hl, rfl⟩ := hl
      obtain ⟨l', hl', rfl⟩ := hl'
      simp only [bvs_length] at hc hrl hc' hrl'
      obtain ⟨t, ht⟩ : ∃ t, decide (l = l') = t := ⟨_, rfl⟩
      have HT := Lib.hid ht
      have HL := Lib.hid hl; have HL' := Lib.hid hl'
      clear ht hl hl'
      obtain ⟨m1, hm1⟩ : ∃ m1, l.length = m1 := ⟨_, rfl⟩
      obtain ⟨m2, hm2⟩ : ∃ m2, l'.length = m2 := ⟨_, rfl⟩
      rw [hm1] at hc hrl
      rw [hm2] at hc' hrl'
      clear hm1 hm2
      cases t with
      | true =>
        go_wp2_with fail
        go_region_held3 (fun w' => w'.cell? (ad.add k) = some (.slice A1 m1 c1) ∧ w'.cell? (ad'.add k) = some (.slice A1' m2 c1')) (first | exact ⟨hc, hc'⟩) (first | (go_at_call 48; refine (same1_t (hrl.drewN _) (hrl'.drewN _) HT).mono ?_; rintro e _ ⟨rfl, rfl⟩))
        go_wp2_with fail
        exact ⟨⟨k + 1, _, by omega, by go_num, rfl, take_eq_succ hs.out HL.out HL'.out (of_decide_eq_true HT.out)⟩, by simp [intOf]; omega⟩
      | false =>
        go_wp2_with fail
        go_region_held3 (fun w' => w'.cell? (ad.add k) = some (.slice A1 m1 c1) ∧ w'.cell? (ad'.add k) = some (.slice A1' m2 c1')) (first | exact ⟨hc, hc'⟩) (first | (go_at_call 48; refine (same1_t (hrl.drewN _) (hrl'.drewN _) HT).mono ?_; rintro e _ ⟨rfl, rfl⟩))
        go_wp2_with fail
        go_ret
        have hne : decide (L = M) = false := by
          rw [decide_eq_false_iff_not]
          rintro rfl
          have h1 := HL.out.symm.trans HL'.out
          injection h1 with h1
          exact of_decide_eq_false HT.out h1
        exact ⟨by rw [hne]; rfl, _, rfl⟩
    · have hki : ¬ (k : Int) < (n : Int) := by omega
      have e1 : L.take k = L := List.take_of_length_le (by have := HN.out; omega)
      have e2 : M.take k = M := List.take_of_length_le (by have := HM.out; omega)
      rw [e1, e2] at hs
      go_wp2_with fail
      go_ret
      exact ⟨by rw [decide_eq_true hs.out]; rfl, q, rfl⟩
end Go.Proofs.Ythddhcodlmlaiaa
