/- The reference's and the program's forms of unsigned numbers. -/
import Derived.Test.YtmhjkghmpdnhaaaProg
import Derived.Test.YtmhjkghmpdnhaaaNum
import Derived.LoopTactic
import Derived.IntWalk
import Derived.Outline
namespace Go.Proofs.Ytmhjkghmpdnhaaa
open Go.RowKit

theorem info5 : (Try.prog.info? 5).map (fun i => (i.zero, i.size, i.bytes)) = some (some (.int .u8 0), 1, 1) := by kernel_rfl

theorem bv_small {x : Nat} (h : x < 256) : bv (UInt8.ofNat x) = .int .u8 (x : Int) := by
  simp [bv, UInt8.toNat_ofNat']; omega

/-- The numbers of 64 bits without a sign, behind a name. -/
def U64 (x : Nat) : Prop := x < 18446744073709551616
theorem U64.lt {x : Nat} (h : U64 x) : x < 18446744073709551616 := h
theorem U64.mk {x : Nat} (h : x < 18446744073709551616) : U64 x := h
theorem U64.len {x : Nat} (h : U64 x) : (leb x).length ≤ 10 := leb_len10 h
theorem U64.div {x : Nat} (h : U64 x) (k : Nat) : U64 (x / k) := Nat.lt_of_le_of_lt (Nat.div_le_self x k) h

theorem one_new (w : World) (B : Nat) (u : Value) (t : TypeId) (hB : w.heap.size < B) : Rd (w.alloc (.cells #[u] t)) B (some ⟨w.heap.size, 0, none⟩) 1 [u] :=
  ⟨rfl, fun j v h => ⟨_, rfl, hB, cell_one_new w u t j v h⟩⟩

set_option maxRecDepth 100000 in
set_option maxHeartbeats 400000 in
theorem ref_uint (x : Nat) (w : World) (hx : U64 x) :
    Calls Try.prog 11 #[.int .u64 (x : Int)] w fun e w' => ∃ v, e = .returned v ∧ w'.ownsRow w.heap.size 5 1 v (leb x).length (bvs (leb x)) ∧ Below w.heap.size w w' := by
  obtain ⟨i0, hi, hz0, hz1, hz2⟩ := info_parts info5
  have hlen := hx.len
  go_enter Try.func11, Try.ntmps11
  go_wp2
  go_loopw [0, 3] (fun y v wr => ∃ (z : Nat) (done : List UInt8), U64 z ∧ y = .int .u64 z ∧ Hid (leb x = done ++ leb z) ∧ wr.ownsRow w.heap.size 5 1 v done.length (bvs done) ∧ Below w.heap.size w wr)
    (fun y _ _ => (intOf y).toNat)
  case atStart => exact ⟨x, [], hx, rfl, rfl, World.ownsRow_nil _ _ _ _, Below.refl _ _⟩
  case round =>
    obtain ⟨z, done, hz, rfl, hl, hown, hb⟩ := hrel
    have hdl : done.length + (leb z).length ≤ 10 := by have := congrArg List.length hl.out; simp at this; omega
    have hzp := leb_pos z
    have hwz := hb.size
    by_cases h128 : z < 128
    · go_wp2_with (at_builtin; refine wpList_app _ rfl (.tmp 15) (.tmp 18) 23 rfl w.heap.size 5 i0 _ 1 Try.underlying23 hi hz0 hz1 hz2 rfl u3 _ _ rfl (hown.alloc _) (wr.heap.size + 1) _ _ _ _ rfl (one_new _ _ _ _ (by omega)) (by intro u hu; simp at hu; subst hu; rfl) (by unfold maxLen; omega) (by omega) (by simp; omega) ?_; intro v' w1 hown1 hg1 hat1)
      go_ret
      refine ⟨_, rfl, ?_, ?_⟩
      · rw [hl.out, leb_lt h128, bvs_append]
        have e : bvs [UInt8.ofNat z] = [Value.int IntKind.u8 (z : Int)] := by simp [bvs, bv_small (x := z) (by omega)]
        rw [e]
        simpa using hown1
      · refine (hb.alloc hwz _).grown hg1 (by simp; omega) fun k hk => (hown.lt k hk).1
    · have hd : (128 : Int) ≤ (z : Int) := by omega
      have hzl := hz.lt
      go_wp2_with (at_builtin; refine wpList_app _ rfl (.tmp 6) (.tmp 11) 23 rfl w.heap.size 5 i0 _ 1 Try.underlying23 hi hz0 hz1 hz2 rfl u3 _ _ rfl (hown.alloc _) (wr.heap.size + 1) _ _ _ _ rfl (one_new _ _ _ _ (by omega)) (by intro u hu; simp at hu; subst hu; rfl) (by unfold maxLen; omega) (by omega) (by simp; omega) ?_; intro v' w1 hown1 hg1 hat1)
      go_roundw
      case rel =>
        refine ⟨z / 128, done ++ [UInt8.ofNat (z % 128 + 128)], hz.div _, by go_num, ?_, ?_, ?_⟩
        · show _ = _
          rw [hl.out, leb_ge h128]; simp
        · have e : bvs [UInt8.ofNat (z % 128 + 128)] = [Value.int IntKind.u8 ((z : Int) % 128 + 128)] := by
            show [bv _] = _
            rw [bv_small (by omega)]; rfl
          rw [bvs_append, e]
          simpa using hown1
        · exact (hb.alloc hwz _).grown hg1 (by simp; omega) fun k hk => (hown.lt k hk).1
      case measure => simp [intOf]; omega
