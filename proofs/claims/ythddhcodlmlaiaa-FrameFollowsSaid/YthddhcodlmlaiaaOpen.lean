/- The reference's Open. -/
import Derived.Test.YthddhcodlmlaiaaSeal
import Derived.Deep.QuietTactic
import Derived.BigQuiet
import Derived.RegionTactic
import Derived.Deep.RegionHeld
namespace Go.Proofs.Ythddhcodlmlaiaa
open Go.RowKit

/-- What the reference's Open hands back. -/
def Opened2 (w : World) (bs : List UInt8) (e : Ending) (w' : World) : Prop :=
  ∃ A m c, e = .returned (.tuple #[.slice A m c, .bool (okC bs)]) ∧ Rd w' w.heap.size A m (bvs (inC bs)) ∧ Below w.heap.size w w' ∧ m ≤ c
/-- The same; the bytes lie where the argument lay. -/
def Opened3 (w : World) (B : Nat) (bs : List UInt8) (e : Ending) (w' : World) : Prop :=
  ∃ A m c, e = .returned (.tuple #[.slice A m c, .bool (okC bs)]) ∧ Rd w' B A m (bvs (inC bs)) ∧ Below w.heap.size w w' ∧ m ≤ c

set_option maxRecDepth 100000 in
set_option maxHeartbeats 2000000 in
theorem refopen_b (A : Option Addr) (n c : Nat) (bs : List UInt8) (w : World) (B : Nat) (hr : Rd w B A n (bvs bs)) (hB : B ≤ w.heap.size) (hnc : n ≤ c) (hn : n ≤ 3000000) :
    Calls Try.prog 24 #[.slice A n c] w fun e w' => Opened3 w B bs e w' := by
  have hl : bs.length = n := by simpa using hr.len
  by_cases h4 : n < 4
  · have hno : okC bs = false := by unfold okC; rw [decide_eq_false_iff_not]; omega
    have HO := Lib.hid hno; clear hno hl
    have h4i : (n : Int) - 4 < 0 := by omega
    go_enter Try.func24, Try.ntmps24
    go_wp2_with fail
    go_quiet (fail)
    go_wp2_with fail
    go_ret2
    refine ⟨none, 0, 0, by rw [HO.out]; rfl, ?_, below_drewN (Below.refl _ _) _, Nat.le_refl _⟩
    have : inC bs = [] := by unfold inC; rw [if_neg (by rw [HO.out]; decide)]
    rw [this]; exact Rd.nil _ _ _
  · obtain ⟨k, rfl⟩ : ∃ k, n = k + 4 := ⟨n - 4, by omega⟩
    obtain ⟨ad, _, rfl, _, _, _⟩ := hr.at (k := 0) (by omega)
    obtain ⟨x, hx⟩ : ∃ x, sumC (bs.take k) = x := ⟨_, rfl⟩
    obtain ⟨t, ht⟩ : ∃ t, decide (lit4 x = bs.drop k) = t := ⟨_, rfl⟩
    have hok : okC bs = t := by
      unfold okC sealC; rw [show bs.length - 4 = k from by omega, ← ht, hx]
      refine decide_eq_decide.2 ⟨fun h => ?_, fun h => ⟨by omega, by rw [h, List.take_append_drop]⟩⟩
      have h2 := h.2
      have h3 := (List.take_append_drop k bs).symm
      exact List.append_cancel_left (h2.trans h3)
    have hin : t = true → inC bs = bs.take k := fun h => by unfold inC; rw [if_pos (by rw [hok, h]), show bs.length - 4 = k from by omega]
    have hxl : x < 4294967296 := by rw [← hx]; exact sumC_lt _
    have HOK := Lib.hid hok; have HT := Lib.hid ht; have HL := Lib.hid hl; have HIN := Lib.hid hin; clear hok ht hl hin
    have h4i : ¬ ((k + 4 : Nat) : Int) - 4 < 0 := by omega
    have hk4 : ((k + 4 : Nat) : Int) - 4 = (k : Int) := by omega
    have hk0 : ¬ (k : Int) < 0 := by omega
    have hk1 : (0 : Int) ≤ (k : Int) := by omega
    have hk2 : (k : Int) ≤ (c : Int) := by omega
    have hck : ¬ c = k := by omega
    have hbt : bvs (bs.take k) = (bvs bs).take k := by simp [bvs, List.map_take]
    have hrt := hr.take (k := k) (by omega)
    rw [← hbt] at hrt
    have hbd : bvs (bs.drop k) = (bvs bs).drop k := by simp [bvs, List.map_drop]
    have hrd := hr.drop (k := k) (cap := c) (by omega) hnc
    rw [← hbd, if_neg hck, show k + 4 - k = 4 from by omega] at hrd
    simp only [Option.map_some] at hrd
    clear hbt hbd h4
    have hstr : ∀ w', Below w.heap.size w w' → (convert 28 9 (.slice (some (ad.add k)) 4 (c - k))).run Try.prog w' = .ok (.string ⟨(bs.drop k).toArray⟩) w' :=
      fun w' hb => run_str (P := Try.prog) (c := c - k) 28 9 5 Try.underlying28 Try.underlying5 Try.underlying9 ((hrd.more hB).below hb)
    have hstr2 : ∀ w' A1 c1, Rd w' w'.heap.size A1 4 (bvs (lit4 x)) → (convert 28 9 (.slice A1 4 c1)).run Try.prog w' = .ok (.string ⟨(lit4 x).toArray⟩) w' :=
      fun w' A1 c1 h => run_str (P := Try.prog) (c := c1) 28 9 5 Try.underlying28 Try.underlying5 Try.underlying9 h
    have HS := Lib.hid hstr; have HS2 := Lib.hid hstr2; clear hstr hstr2
    have hsum : ∀ w', Below w.heap.size w w' → Calls Try.prog 16 #[.slice (some ad) k c] w' fun e w'' => e = .returned (.int .u32 x) ∧ w'' = w' := fun w' hb => by
      have h := refsum_any (some ad) k c (bs.take k) w' _ ((hrt.more hB).below hb) (by omega)
      rw [hx] at h; exact h
    have HSUM := Lib.hid hsum; clear hsum hx
    have hbe : (lit4 x == bs.drop k) = t := by rw [← HT.out]; first | rfl | (rw [Bool.eq_iff_iff]; simp)
    have hk5 : (k : Int) ≤ (k : Int) + 4 := by omega
    have hk6 : (k : Int) + 4 ≤ (c : Int) := by omega
    have hk7 : (k : Int) + 4 - (k : Int) = 4 := by omega
    have hk8 : k + 4 - k = 4 := by omega
    have hdl : decide ((k : Int) < 0) = false := by rw [decide_eq_false_iff_not]; omega
    cases t
    all_goals
      go_enter Try.func24, Try.ntmps24
      go_wp2_with fail
      have hs0 := HS.out _ (Below.refl w.heap.size w).drew
      have hsA := HS.out _ (Below.refl w.heap.size w)
      go_region_held (fun w' => Below w.heap.size w w' ∧ (convert 28 9 (.slice (some (ad.add k)) 4 (c - k))).run Try.prog w' = .ok (.string ⟨(bs.drop k).toArray⟩) w') (first | exact ⟨hS1, hs2⟩ | exact ⟨(Below.refl w.heap.size w).drew, hs0⟩) (first | (go_at_call 16; refine (HSUM.out _ (Below.refl _ _).drew).mono ?_; rintro e _ ⟨rfl, rfl⟩) | (go_at_call 44; refine (little_any x _ hxl).mono ?_; rintro e w1 ⟨v1, rfl, hown1, hb1⟩; have hS1 : Below w.heap.size w w1 := (Below.refl _ _).drew.trans (hb1.mono (Nat.le_refl _)); obtain ⟨A1, c1, rfl, hr1⟩ := own_rd hown1; have hs1 := HS2.out _ A1 c1 hr1; have hs2 := HS.out _ hS1; clear hown1 hb1))
      all_goals
        go_wp2_with fail
        go_ret2
        first
        | (refine ⟨none, 0, 0, by rw [HOK.out]; rfl, ?_, hS1, Nat.le_refl _⟩
           have : inC bs = [] := by unfold inC; rw [if_neg (by rw [HOK.out]; decide)]
           rw [this]; exact Rd.nil _ _ _)
        | (refine ⟨some ad, k, c, by rw [HOK.out]; rfl, ?_, hS1, by omega⟩
           rw [HIN.out (by simp)]; exact hrt.below (hS1.mono hB))
theorem refopen_any (A : Option Addr) (n c : Nat) (bs : List UInt8) (w : World) (B : Nat) (hr : Rd w B A n (bvs bs)) (hB : B ≤ w.heap.size) (hnc : n ≤ c) (hn : n ≤ 3000000) :
    Calls Try.prog 24 #[.slice A n c] w fun e w' => Opened2 w bs e w' :=
  (refopen_b A n c bs w B hr hB hnc hn).mono fun e w' => by
    cases e <;> first
    | (rintro ⟨A', m, c', he, hr', hb, hm⟩; exact ⟨A', m, c', he, hr'.more hB, hb, hm⟩)
    | exact id
end Go.Proofs.Ythddhcodlmlaiaa
