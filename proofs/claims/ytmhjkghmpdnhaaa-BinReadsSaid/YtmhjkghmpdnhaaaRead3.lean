/- The program's reader: text, state, and a nil reader. -/
import Derived.Test.YtmhjkghmpdnhaaaRead2
namespace Go.Proofs.Ytmhjkghmpdnhaaa
open Go.RowKit

set_option maxRecDepth 100000 in
set_option maxHeartbeats 1000000 in
theorem text_any {p : Option Addr} {w : World} {out : List UInt8} {R : World → Prop} (h : Calls Try.prog 23 #[.pointer p] w fun e w' => ∃ A m c B, e = .returned (.slice A m c) ∧ Rd w' B A m (bvs out) ∧ R w') :
    Calls Try.prog 25 #[.pointer p] w fun e w' => e = .returned (.string ⟨out.toArray⟩) ∧ R w' := by
  have H := Lib.hid h; clear h
  go_enter Try.func25, Try.ntmps25
  go_wp2_with fail
  refine H.out.mono ?_
  rintro e w1 ⟨A, m, c, B, rfl, hr, hR⟩
  have hstr := run_str (P := Try.prog) (c := c) 23 9 5 Try.underlying23 Try.underlying5 Try.underlying9 hr
  go_wp2_with fail
  go_ret
  exact ⟨rfl, hR⟩

set_option maxRecDepth 100000 in
set_option maxHeartbeats 1000000 in
theorem left_any {g : Nat} {bs : List UInt8} {bad : Bool} {w : World} (h : Rdr w g bs bad) :
    Calls Try.prog 28 #[.pointer (some ⟨g, 0, none⟩)] w fun e w' => e = .returned (.int .i64 (bs.length : Nat)) ∧ w = w' := by
  obtain ⟨A, c, h1, h2, h3, h4⟩ := h
  have hc0 : w.cell? ⟨g, 0, none⟩ = some (.slice A bs.length c) := by simp [World.cell?, h1]
  clear h1
  go_enter Try.func28, Try.ntmps28
  go_wp2_with fail
  go_ret
  exact ⟨rfl, rfl⟩

set_option maxRecDepth 100000 in
set_option maxHeartbeats 1000000 in
theorem ok_any {g : Nat} {bs : List UInt8} {bad : Bool} {w : World} (h : Rdr w g bs bad) :
    Calls Try.prog 29 #[.pointer (some ⟨g, 0, none⟩)] w fun e w' => e = .returned (.bool (!bad)) ∧ w = w' := by
  obtain ⟨A, c, h1, h2, h3, h4⟩ := h
  have hc1 : w.cell? ⟨g, 1, none⟩ = some (.bool bad) := by simp [World.cell?, h1]
  clear h1
  cases bad
  all_goals
    go_enter Try.func29, Try.ntmps29
    go_wp2_with fail
    go_ret
    exact ⟨rfl, rfl⟩

/-- Nothing is left and nothing was wrong. -/
def doneB (bs : List UInt8) (bad : Bool) : Bool := !bad && bs.isEmpty

set_option maxRecDepth 100000 in
set_option maxHeartbeats 1000000 in
theorem done_any {g : Nat} {bs : List UInt8} {bad : Bool} {w : World} (h : Rdr w g bs bad) :
    Calls Try.prog 19 #[.pointer (some ⟨g, 0, none⟩)] w fun e w' => e = .returned (.bool (doneB bs bad)) ∧ w = w' := by
  have H := Lib.hid h; clear h
  cases bad with
  | true =>
    go_enter Try.func19, Try.ntmps19
    go_wp2_with fail
    refine (ok_any H.out).mono ?_
    rintro e _ ⟨rfl, rfl⟩
    go_wp2_with fail
    go_ret
    exact ⟨rfl, rfl⟩
  | false =>
    by_cases hb : bs = []
    · have e : doneB bs false = true := by subst hb; rfl
      have E := Lib.hid e
      have hz : (((bs.length : Nat) : Int) == 0) = true := by subst hb; rfl
      clear hb e
      go_enter Try.func19, Try.ntmps19
      go_wp2_with fail
      refine (ok_any H.out).mono ?_
      rintro e _ ⟨rfl, rfl⟩
      go_wp2_with fail
      refine (left_any H.out).mono ?_
      rintro e _ ⟨rfl, rfl⟩
      go_wp2_with fail
      go_ret
      exact ⟨by rw [E.out]; rfl, rfl⟩
    · have e : doneB bs false = false := by cases bs; exact absurd rfl hb; rfl
      have E := Lib.hid e
      have hz : (((bs.length : Nat) : Int) == 0) = false := by cases bs; exact absurd rfl hb; rw [beq_eq_false_iff_ne]; simp; omega
      clear hb e
      go_enter Try.func19, Try.ntmps19
      go_wp2_with fail
      refine (ok_any H.out).mono ?_
      rintro e _ ⟨rfl, rfl⟩
      go_wp2_with fail
      refine (left_any H.out).mono ?_
      rintro e _ ⟨rfl, rfl⟩
      go_wp2_with fail
      go_ret
      exact ⟨by rw [E.out]; rfl, rfl⟩

/-! A nil reader. -/
set_option maxRecDepth 100000 in
theorem peek_nil (w : World) : Calls Try.prog 34 #[.pointer none] w fun e w' => e = .returned (.tuple #[.int .u64 0, .int .i64 0, .bool false]) ∧ w = w' := by
  go_enter Try.func34, Try.ntmps34
  go_wp2_with fail
  go_ret3
  exact ⟨rfl, rfl⟩
set_option maxRecDepth 100000 in
theorem uint_nil (w : World) : Calls Try.prog 18 #[.pointer none] w fun e w' => e = .returned (.int .u64 ((0 : Nat) : Int)) ∧ w = w' := by
  go_enter Try.func18, Try.ntmps18
  go_wp2_with (go_at_call 34; refine (peek_nil _).mono ?_; rintro e _ ⟨rfl, rfl⟩)
  go_ret
  exact ⟨rfl, rfl⟩
theorem int_nil (w : World) : Calls Try.prog 21 #[.pointer none] w fun e w' => e = .returned (.int .i64 0) ∧ w = w' :=
  int_any (x := 0) (R := fun w' => w = w') (U64.mk (by omega)) (uint_nil w)
set_option maxRecDepth 100000 in
theorem bytes_nil (w : World) : Calls Try.prog 23 #[.pointer none] w fun e w' => e = .returned (.slice none 0 0) ∧ w = w' := by
  go_enter Try.func23, Try.ntmps23
  go_wp2_with (go_at_call 34; refine (peek_nil _).mono ?_; rintro e _ ⟨rfl, rfl⟩)
  go_ret
  exact ⟨rfl, rfl⟩
theorem text_nil (w : World) : Calls Try.prog 25 #[.pointer none] w fun e w' => e = .returned (.string ⟨#[]⟩) ∧ w = w' :=
  text_any (out := []) (R := fun w' => w = w') ((bytes_nil w).mono fun _ _ ⟨h, k⟩ => ⟨none, 0, 0, 0, h, Rd.nil _ _ _, k⟩)
theorem take_nil (k : Int) (w : World) : Calls Try.prog 26 #[.pointer none, .int .i64 k] w fun e w' => e = .returned (.slice none 0 0) ∧ w = w' := by
  go_enter Try.func26, Try.ntmps26
  go_wp2_with fail
  go_ret
  exact ⟨rfl, rfl⟩
theorem left_nil (w : World) : Calls Try.prog 28 #[.pointer none] w fun e w' => e = .returned (.int .i64 0) ∧ w = w' := by
  go_enter Try.func28, Try.ntmps28
  go_wp2_with fail
  go_ret
  exact ⟨rfl, rfl⟩
theorem ok_nil (w : World) : Calls Try.prog 29 #[.pointer none] w fun e w' => e = .returned (.bool false) ∧ w = w' := by
  go_enter Try.func29, Try.ntmps29
  go_wp2_with fail
  go_ret
  exact ⟨rfl, rfl⟩
theorem done_nil (w : World) : Calls Try.prog 19 #[.pointer none] w fun e w' => e = .returned (.bool false) ∧ w = w' := by
  go_enter Try.func19, Try.ntmps19
  go_wp2_with (go_at_call 29; refine (ok_nil _).mono ?_; rintro e _ ⟨rfl, rfl⟩)
  go_ret
  exact ⟨rfl, rfl⟩
end Go.Proofs.Ytmhjkghmpdnhaaa
