/- frame's inner functions: little, number; Make. -/
import Derived.Test.YthddhcodlmlaiaaSeal
import Derived.Deep.WholeRow
namespace Go.Proofs.Ythddhcodlmlaiaa
open Go.RowKit

theorem info4 : (Try.prog.info? 63).map (fun i => (i.zero, i.size)) = some (some (.agg (Array.replicate 4 (.int .u8 0))), 4) := by kernel_rfl

theorem quad (z a b c d : Value) : ((((Array.replicate 4 z).setIfInBounds 0 a).setIfInBounds 1 b).setIfInBounds 2 c).setIfInBounds 3 d = #[a, b, c, d] := rfl
theorem quad_list {l : List Value} {a b c d : Value} (h : l = [a, b, c, d]) : #[a, b, c, d] = l.toArray := by rw [h]

set_option maxRecDepth 100000 in
set_option maxHeartbeats 1000000 in
theorem flittle_any (n : Nat) (w : World) (hn : n < 4294967296) :
    Calls Try.prog 45 #[.int .i64 n] w fun e w' => e = .returned (.agg (bvs (lit4 n)).toArray) ∧ Below w.heap.size w w' := by
  obtain ⟨hz, hi⟩ := zero_of_info info4
  have hvals := lit4_vals hn
  go_enter Try.func45, Try.ntmps45
  go_wp2_with fail
  simp only [quad]
  rw [quad_list hvals]
  have hb := (Below.refl w.heap.size w).alloc (Nat.le_refl _) (.cells (bvs (lit4 n)).toArray 63)
  exact bodyPost_ret (results_cell_row (p := 2) (ty := 63) rfl _ _ w.heap.size _ _ _ _ rfl (heap_alloc_new w _) Try.underlying63 rfl (by rw [hi, hvals]; rfl)) rfl ⟨rfl, hb⟩

/-- The number that four bytes are. -/
def num4 (bs : List UInt8) : Nat := (bs.getD 0 0).toNat + (bs.getD 1 0).toNat * 256 + (bs.getD 2 0).toNat * 65536 + (bs.getD 3 0).toNat * 16777216

theorem or_i64 {x y j : Nat} (hx : x < 2 ^ j) (hj : j < 32) (hb : y * 2 ^ j < 4294967296) : bits BinOp.or IntKind.i64 (x : Int) ((y * 2 ^ j : Nat) : Int) = ((x + y * 2 ^ j : Nat) : Int) := by
  have hx2 : x < 4294967296 := Nat.lt_of_lt_of_le hx (show 2 ^ j ≤ 2 ^ 32 from Nat.pow_le_pow_right (by decide) (by omega))
  show IntKind.i64.wrap ((BitVec.ofInt 64 (x : Int) ||| BitVec.ofInt 64 ((y * 2 ^ j : Nat) : Int)).toNat : Int) = _
  rw [BitVec.toNat_or, ofInt_u64 x (by omega), ofInt_u64 _ (by omega), Nat.or_comm, Nat.mul_comm y, ← Nat.two_pow_add_eq_or_of_lt hx, Nat.add_comm, Nat.mul_comm]
  generalize y * 2 ^ j = q at *
  show IntKind.i64.wrap ((x + q : Nat) : Int) = _
  have : x + q < 9223372036854775807 := by omega
  simp [IntKind.wrap, IntKind.bits, IntKind.signed]
  omega

/-- What the loop has after 'k' bytes. -/
def part (a b c d : Nat) : Nat → Nat
  | 0 => 0
  | 1 => a
  | 2 => a + b * 256
  | 3 => a + b * 256 + c * 65536
  | _ => a + b * 256 + c * 65536 + d * 16777216

set_option maxRecDepth 100000 in
set_option maxHeartbeats 1000000 in
theorem number_any (bs : List UInt8) (w : World) (hl : bs.length = 4) :
    Calls Try.prog 46 #[.agg (bvs bs).toArray] w fun e w' => e = .returned (.int .i64 (num4 bs)) ∧ Below w.heap.size w w' := by
  obtain ⟨a, b, c, d, rfl⟩ : ∃ a b c d, bs = [a, b, c, d] := by
    match bs, hl with
    | [a, b, c, d], _ => exact ⟨a, b, c, d, rfl⟩
  have ha := a.toNat_lt; have hb := b.toNat_lt; have hc := c.toNat_lt; have hd := d.toNat_lt
  show Calls Try.prog 46 #[.agg #[.int .u8 a.toNat, .int .u8 b.toNat, .int .u8 c.toNat, .int .u8 d.toNat]] w fun e w' => e = .returned (.int .i64 ((a.toNat + b.toNat * 256 + c.toNat * 65536 + d.toNat * 16777216 : Nat) : Int)) ∧ Below w.heap.size w w'
  generalize a.toNat = A at *; generalize b.toNat = B at *; generalize c.toNat = C at *; generalize d.toNat = D at *
  have i0 : ∀ w, (Instr.index 63 (.agg #[.int .u8 (A : Int), .int .u8 (B : Int), .int .u8 (C : Int), .int .u8 (D : Int)]) (.int .i64 0)).run Try.prog w = .ok (.int .u8 (A : Int)) w := fun _ => by kernel_rfl
  have i1 : ∀ w, (Instr.index 63 (.agg #[.int .u8 (A : Int), .int .u8 (B : Int), .int .u8 (C : Int), .int .u8 (D : Int)]) (.int .i64 1)).run Try.prog w = .ok (.int .u8 (B : Int)) w := fun _ => by kernel_rfl
  have i2 : ∀ w, (Instr.index 63 (.agg #[.int .u8 (A : Int), .int .u8 (B : Int), .int .u8 (C : Int), .int .u8 (D : Int)]) (.int .i64 2)).run Try.prog w = .ok (.int .u8 (C : Int)) w := fun _ => by kernel_rfl
  have i3 : ∀ w, (Instr.index 63 (.agg #[.int .u8 (A : Int), .int .u8 (B : Int), .int .u8 (C : Int), .int .u8 (D : Int)]) (.int .i64 3)).run Try.prog w = .ok (.int .u8 (D : Int)) w := fun _ => by kernel_rfl
  have hbl := (Below.refl w.heap.size w).alloc (Nat.le_refl _) (.cells #[.int .u8 (A : Int), .int .u8 (B : Int), .int .u8 (C : Int), .int .u8 (D : Int)] 63)
  go_enter Try.func46, Try.ntmps46
  go_wp2_with fail
  go_loop [3, 4, 5, 7] (fun x _ _ i => ∃ k : Nat, k ≤ 4 ∧ i = .int .i64 k ∧ x = .int .i64 (part A B C D k)) (fun _ _ _ i => 4 - (intOf i).toNat)
  case atStart => exact ⟨0, by omega, rfl, rfl⟩
  case round =>
    obtain ⟨k, hk, rfl, rfl⟩ := hrel
    obtain rfl | rfl | rfl | rfl | rfl : k = 0 ∨ k = 1 ∨ k = 2 ∨ k = 3 ∨ k = 4 := by omega
    · go_wp2_with fail
      refine ⟨⟨1, by omega, rfl, congrArg (Value.int .i64) ?_⟩, by simp [intOf]⟩
      have h := or_i64 (x := 0) (y := A) (j := 0) (by decide) (by decide) (by omega)
      rw [Nat.pow_zero, Nat.mul_one, Nat.zero_add] at h
      exact h
    · go_wp2_with fail
      refine ⟨⟨2, by omega, rfl, congrArg (Value.int .i64) ?_⟩, by simp [intOf]⟩
      have h := or_i64 (x := A) (y := B) (j := 8) (by omega) (by decide) (by omega)
      exact h
    · go_wp2_with fail
      refine ⟨⟨3, by omega, rfl, congrArg (Value.int .i64) ?_⟩, by simp [intOf]⟩
      have h := or_i64 (x := A + B * 256) (y := C) (j := 16) (by omega) (by decide) (by omega)
      exact h
    · go_wp2_with fail
      refine ⟨⟨4, by omega, rfl, congrArg (Value.int .i64) ?_⟩, by simp [intOf]⟩
      have h := or_i64 (x := A + B * 256 + C * 65536) (y := D) (j := 24) (by omega) (by decide) (by omega)
      exact h
    · go_wp2_with fail
      go_ret
      exact ⟨rfl, hbl⟩

/-- The frame of a record. -/
def frameC (bs : List UInt8) : List UInt8 := sealC (lit4 bs.length ++ bs)
theorem frameC_len (bs : List UInt8) : (frameC bs).length = bs.length + 8 := by unfold frameC; rw [sealC_len]; simp [lit4]

set_option maxRecDepth 100000 in
set_option maxHeartbeats 2000000 in
theorem make_any (A : Option Addr) (n c : Nat) (bs : List UInt8) (w : World) (B : Nat) (hr : Rd w B A n (bvs bs)) (hB : B ≤ w.heap.size) (hn : n ≤ 1048576) :
    Calls Try.prog 28 #[.slice A n c] w fun e w' => ∃ v, e = .returned (.tuple #[v, .bool true]) ∧ w'.ownsRow w.heap.size 5 1 v (n + 8) (bvs (frameC bs)) ∧ Below w.heap.size w w' := by
  obtain ⟨hz, hi⟩ := zero_of_info info4
  have hl : bs.length = n := by simpa using hr.len
  have HL := Lib.hid hl; clear hl
  have hni : ¬ (n : Int) > 1048576 := by omega
  have hli := flittle_any n w (by omega)
  obtain ⟨a, b, c', d, habcd⟩ : ∃ a b c d, lit4 n = [a, b, c, d] := ⟨_, _, _, _, rfl⟩
  have ha : (bvs (lit4 n)).toArray = #[.int .u8 (a.toNat : Int), .int .u8 (b.toNat : Int), .int .u8 (c'.toNat : Int), .int .u8 (d.toNat : Int)] := by rw [habcd]; rfl
  rw [ha] at hli
  have HAB := Lib.hid habcd; clear habcd ha
  go_enter Try.func28, Try.ntmps28
  go_wp2_with fail
  refine hli.mono ?_
  rintro e w1 ⟨rfl, hb1⟩
  go_wp2_with fail
  simp only [quad]
  have hb2 : Below w.heap.size w (w1.alloc (.cells #[.int .u8 (a.toNat : Int), .int .u8 (b.toNat : Int), .int .u8 (c'.toNat : Int), .int .u8 (d.toNat : Int)] 63)) := hb1.alloc hb1.size _
  have hrl : Rd (w1.alloc (.cells #[.int .u8 (a.toNat : Int), .int .u8 (b.toNat : Int), .int .u8 (c'.toNat : Int), .int .u8 (d.toNat : Int)] 63)) (w1.heap.size + 1) (some ⟨w1.heap.size, 0, none⟩) 4 (bvs (lit4 n)) :=
    rd_blk (heap_alloc_new w1 _) (by omega) (by rw [HAB.out]; rfl) fun j hj => by
      rw [HAB.out]
      obtain rfl | rfl | rfl | rfl : j = 0 ∨ j = 1 ∨ j = 2 ∨ j = 3 := by omega
      all_goals rfl
  have hrb := (hr.more hB).below hb2
  have hs1 := hb1.size
  have hsz : (w1.alloc (.cells #[.int .u8 (a.toNat : Int), .int .u8 (b.toNat : Int), .int .u8 (c'.toNat : Int), .int .u8 (d.toNat : Int)] 63)).heap.size = w1.heap.size + 1 := by simp
  rw [← hsz]
  clear hli
  generalize hw2 : (w1.alloc (.cells #[.int .u8 (a.toNat : Int), .int .u8 (b.toNat : Int), .int .u8 (c'.toNat : Int), .int .u8 (d.toNat : Int)] 63)) = w2 at *
  have hrs := rds_two (c := 4) (c' := c) 28 hrl (hrb.more (by omega)) (by omega)
  have hfl : ([lit4 n, bs].map bvs).flatten = bvs (lit4 n ++ bs) := by simp [bvs_append]
  have hcc := concat36 (some ⟨w2.heap.size, 0, none⟩) 2 ([lit4 n, bs].map bvs) _ _ hrs (by simp) (by simp) (by rw [hfl, bvs_length, List.length_append, HL.out]; simp [lit4]; omega) (by rw [hfl]; exact bvs_one _)
  rw [hfl, show (bvs (lit4 n ++ bs)).length = n + 4 from by rw [bvs_length, List.length_append, HL.out]; simp [lit4]; omega] at hcc
  clear hrs hfl hrl hrb
  refine hcc.mono ?_
  rintro e w3 ⟨v3, rfl, hown3, hb23⟩
  have hb3 : Below w.heap.size w w3 := (hb2.alloc hb2.size _).trans (hb23.mono (by simp; omega))
  obtain ⟨A3, c3, e3, hnc3, _⟩ := own_slice hown3
  subst e3
  have r3 := Rd.of_own hown3
  have hse := seal_any A3 (n + 4) c3 (lit4 n ++ bs) w3 _ r3 (Nat.le_refl _) hnc3 (by omega)
  clear hcc hown3 hb23
  go_wp2_with fail
  refine hse.mono ?_
  rintro e w4 ⟨v4, rfl, hown4, hb34⟩
  go_wp2_with fail
  go_ret2
  refine ⟨v4, rfl, ?_, hb3.trans (hb34.mono hb3.size)⟩
  unfold frameC
  rw [HL.out]
  exact hown4.mono hb3.size

set_option maxRecDepth 100000 in
set_option maxHeartbeats 1000000 in
theorem make_long (A : Option Addr) (n c : Nat) (w : World) (hn : n > 1048576) (hn2 : n ≤ 9223372036854775807) :
    Calls Try.prog 28 #[.slice A n c] w fun e w' => e = .returned (.tuple #[.slice none 0 0, .bool false]) ∧ w' = w := by
  have hni : (n : Int) > 1048576 := by omega
  go_enter Try.func28, Try.ntmps28
  go_wp2_with fail
  go_ret2
  exact ⟨rfl, rfl⟩
end Go.Proofs.Ythddhcodlmlaiaa
