/- The reference's Split. -/
import Derived.Test.YthddhcodlmlaiaaFSplit
namespace Go.Proofs.Ythddhcodlmlaiaa
open Go.RowKit

theorem infoG : (Try.prog.info? 28).map (fun i => (i.zero, i.size, i.bytes)) = some (some (.slice none 0 0), 1, 24) := by kernel_rfl

/-- What a Split hands back. -/
def Splitted (w : World) (bs : List UInt8) (e : Ending) (w' : World) : Prop :=
  ∃ v, e = .returned (.tuple #[v, .int .i64 ((splitC bs).2 : Nat)]) ∧ GridOwn w' w.heap.size v (splitC bs).1.length (splitC bs).1 ∧ Below w.heap.size w w'
theorem Splitted.mk' {w w' : World} {bs : List UInt8} {l : List (List UInt8)} {k : Nat} {v : Value} {e : Ending} (h : splitC bs = (l, k)) (he : e = .returned (.tuple #[v, .int .i64 (k : Int)]))
    (hg : GridOwn w' w.heap.size v l.length l) (hb : Below w.heap.size w w') : Splitted w bs e w' := by
  unfold Splitted; rw [h]; exact ⟨v, he, hg, hb⟩

set_option maxRecDepth 100000 in
set_option maxHeartbeats 2000000 in
theorem refsplit_any (A : Option Addr) (n c : Nat) (bs : List UInt8) (w : World) (hr : Rd w w.heap.size A n (bvs bs)) (hnc : n ≤ c) (hn : n ≤ 2000000) :
    Calls Try.prog 32 #[.slice A n c] w fun e w' => Splitted w bs e w' := by
  obtain ⟨i0, hi, hz0, hz1, hz2⟩ := info_parts infoG
  have hl : bs.length = n := by simpa using hr.len
  have HL := Lib.hid hl; clear hl
  go_enter Try.func32, Try.ntmps32
  go_wp2_with fail
  go_loopw [4, 5] (fun v i wr => ∃ (k : Nat) (l : List (List UInt8)), i = .int .i64 k ∧ Hid (Ran bs l k) ∧ GridOwn wr w.heap.size v l.length l ∧ Below w.heap.size w wr) (fun _ i _ => n - (intOf i).toNat)
  case atStart => exact ⟨0, [], rfl, Ran.start bs, GridOwn.nil _ _, Below.refl _ _⟩
  case round =>
    obtain ⟨k, l, rfl, hran, hgo, hb⟩ := hrel
    have hkn : k ≤ n := by have := hran.out.1; have := HL.out; omega
    have hlk : l.length ≤ k := hran.out.2.1
    have hkc : (k : Int) ≤ (c : Int) := by omega
    have hkn' : (k : Int) ≤ (n : Int) := by omega
    have hk0 : ¬ (k : Int) < 0 := by omega
    obtain ⟨x, j, hxj⟩ : ∃ x j, nextC (bs.drop k) = (x, j) := ⟨_, _, rfl⟩
    by_cases hck : c = k
    · have hkn2 : k = n := by omega
      subst hkn2
      subst hck
      have hdn : bs.drop c = [] := List.drop_eq_nil_of_le (by rw [HL.out]; omega)
      have hnx := refnext_any A 0 0 [] wr _ (Rd.nil wr w.heap.size A) hb.size (by omega) (by omega)
      have h00 : nextC [] = ([], 0) := rfl
      go_wp2_with fail
      refine hnx.mono ?_
      rintro e w2 ⟨A2, m2, c2, he2, hr2, hb2, hmc2⟩
      rw [h00] at he2 hr2
      subst he2
      go_wp2_with fail
      go_ret2
      exact Splitted.mk' (hran.out.stop (by rw [hdn, h00])) rfl (hgo.below hb2) (hb.trans (hb2.mono hb.size))
    · have hd := hr.drop (k := k) (cap := c) hkn hnc
      have ed : (bvs bs).drop k = bvs (bs.drop k) := by simp [bvs, List.map_drop]
      rw [ed, if_neg hck] at hd
      have hnx := refnext_any (A.map (·.add k)) (n - k) (c - k) (bs.drop k) wr _ (hd.below hb) hb.size (by omega) (by omega)
      have hjn := next_le (bs.drop k)
      rw [hxj, List.length_drop, HL.out] at hjn
      have hjn1 : j ≤ n - k := hjn.1
      clear ed hjn
      have HX := Lib.hid hxj
      clear hxj
      go_wp2_with fail
      refine hnx.mono ?_
      rintro e w2 ⟨A2, m2, c2, he2, hr2, hb2, hmc2⟩
      rw [HX.out] at he2 hr2
      have hm2 : x.length = m2 := by have := hr2.len; simpa using this
      have hb3 := hb.trans (hb2.mono hb.size)
      have hg2 := hgo.below hb2
      subst he2
      clear hnx hgo
      by_cases hj0 : j = 0
      · subst hj0
        clear hd hr
        go_wp2_with fail
        go_ret2
        exact Splitted.mk' (hran.out.stop (by rw [HX.out])) rfl hg2 hb3
      · have hj0i : ¬ (j : Int) = 0 := by omega
        obtain ⟨hgl, vs, hvs, hgs⟩ := hg2.below ((Below.refl _ _).alloc (Nat.le_refl _) (.cells #[.slice A2 m2 c2] 28))
        have hrb : Rd (w2.alloc (.cells #[.slice A2 m2 c2] 28)) (w2.heap.size + 1) (some ⟨w2.heap.size, 0, none⟩) 1 [.slice A2 m2 c2] := by
          refine ⟨rfl, fun i u hu => ⟨_, rfl, by simp, ?_⟩⟩
          have hi0 : i = 0 := by
            have := (List.getElem?_eq_some_iff.1 hu).1
            simp at this; exact this
          subst hi0
          exact blk_cell (heap_alloc_new w2 _) 0 _ hu
        have HX1 := Lib.hid hgs; have HX2 := Lib.hid hg2
        have hb4 : Below w.heap.size w (w2.alloc (.cells #[.slice A2 m2 c2] 28)) := hb3.alloc hb3.size _
        clear hd hr hgs hg2
        go_wp2_with (at_builtin; refine wpList_app _ rfl (.tmp 19) (.tmp 21) 22 rfl w.heap.size 28 i0 _ 24 Try.underlying22 hi hz0 hz1 hz2 rfl u4 _ _ rfl hvs _ _ _ _ _ rfl hrb (fun u hu => by rw [List.mem_singleton.1 hu]; rfl) (by unfold maxLen; omega) (by omega) hb4.size ?_; intro v' w4 hown4 hg4 hat4)
        have hvl : vs.length = l.length := by simpa using hvs.1
        refine ⟨⟨k + j, l ++ [x], by go_num, hran.out.step HX.out hj0, ?_, ?_⟩, ?_⟩
        · rw [List.length_append]
          refine GridOwn.push rfl HX1.out hvl hown4 hg4 hat4 hm2 ?_
          by_cases hx0 : x = []
          · exact .inl hx0
          · right
            have h0m : 0 < m2 := by rw [← hm2]; exact List.length_pos_iff.2 hx0
            obtain ⟨ad, _, rfl, hlt, _, _⟩ := hr2.at (k := 0) h0m
            refine ⟨ad, rfl, (hr2.alloc hb3.size _).more hb4.size, fun e => ?_⟩
            have := (hvs.lt _ e).1
            omega
        · exact hb4.grown hg4 hb4.size fun g hg => (hvs.lt g hg).1
        · simp [intOf]; omega
end Go.Proofs.Ythddhcodlmlaiaa
