/- Split in plain words; a slice of slices of the call's own; the reference's Split. -/
import Derived.Test.YthddhcodlmlaiaaFRef
namespace Go.Proofs.Ythddhcodlmlaiaa
open Go.RowKit

def splitF : Nat → List UInt8 → List (List UInt8) × Nat
  | 0, _ => ([], 0)
  | f + 1, bs => if (nextC bs).2 = 0 then ([], 0) else
      ((nextC bs).1 :: (splitF f (bs.drop (nextC bs).2)).1, (nextC bs).2 + (splitF f (bs.drop (nextC bs).2)).2)
def splitC (bs : List UInt8) : List (List UInt8) × Nat := splitF (bs.length + 1) bs

theorem next_le (bs : List UInt8) : (nextC bs).2 ≤ bs.length ∧ ((nextC bs).2 = 0 ∨ 8 ≤ (nextC bs).2) := by
  cases h : goodC bs with
  | false => rw [next_bad h]; exact ⟨Nat.zero_le _, .inl rfl⟩
  | true =>
    rw [next_good h]
    unfold goodC at h
    rw [decide_eq_true_eq] at h
    exact ⟨h.2.2.1, .inr (by simp)⟩
theorem splitF_eq : ∀ (f g : Nat) (bs : List UInt8), bs.length < f → bs.length < g → splitF f bs = splitF g bs
  | 0, _, _, h, _ => by omega
  | _ + 1, 0, _, _, h => by omega
  | f + 1, g + 1, bs, h1, h2 => by
    unfold splitF
    by_cases h0 : (nextC bs).2 = 0
    · rw [if_pos h0, if_pos h0]
    · rw [if_neg h0, if_neg h0]
      have hn := next_le bs
      have hd : (bs.drop (nextC bs).2).length = bs.length - (nextC bs).2 := List.length_drop
      rw [splitF_eq f g _ (by omega) (by omega)]
theorem split_stop {bs : List UInt8} (h : (nextC bs).2 = 0) : splitC bs = ([], 0) := by
  unfold splitC splitF; rw [if_pos h]
theorem split_step {bs : List UInt8} (h : ¬ (nextC bs).2 = 0) : splitC bs = ((nextC bs).1 :: (splitC (bs.drop (nextC bs).2)).1, (nextC bs).2 + (splitC (bs.drop (nextC bs).2)).2) := by
  have hn := next_le bs
  have hd : (bs.drop (nextC bs).2).length = bs.length - (nextC bs).2 := List.length_drop
  have e : splitF bs.length (bs.drop (nextC bs).2) = splitC (bs.drop (nextC bs).2) := splitF_eq _ _ _ (by omega) (by omega)
  conv => lhs; unfold splitC splitF
  rw [if_neg h, e]

/-- How far a walk over the frames has come. -/
def Ran (bs : List UInt8) (l : List (List UInt8)) (k : Nat) : Prop :=
  k ≤ bs.length ∧ l.length ≤ k ∧ splitC bs = (l ++ (splitC (bs.drop k)).1, k + (splitC (bs.drop k)).2)
theorem Ran.start (bs : List UInt8) : Ran bs [] 0 := ⟨Nat.zero_le _, Nat.le_refl _, by rw [List.drop_zero, List.nil_append, Nat.zero_add]⟩
theorem Ran.step {bs x : List UInt8} {l : List (List UInt8)} {k j : Nat} (h : Ran bs l k) (hx : nextC (bs.drop k) = (x, j)) (hj : ¬ j = 0) : Ran bs (l ++ [x]) (k + j) := by
  obtain ⟨h1, h2, h3⟩ := h
  have hn := next_le (bs.drop k)
  rw [hx, List.length_drop] at hn
  have hn1 : j ≤ bs.length - k := hn.1
  have hs := split_step (bs := bs.drop k) (by rw [hx]; exact hj)
  rw [hx] at hs
  simp only [List.drop_drop] at hs
  refine ⟨by omega, by rw [List.length_append]; simp; omega, ?_⟩
  rw [h3, hs]
  simp [Nat.add_assoc]
theorem Ran.stop {bs : List UInt8} {l : List (List UInt8)} {k : Nat} (h : Ran bs l k) (hx : (nextC (bs.drop k)).2 = 0) : splitC bs = (l, k) := by
  rw [h.2.2, split_stop hx]; simp

/-- A slice of byte slices: the row is the call's own, the elements lie elsewhere. -/
def GridOwn (w : World) (base : Nat) (v : Value) (n : Nat) (L : List (List UInt8)) : Prop :=
  L.length = n ∧ ∃ vs, w.ownsRow base 28 1 v n vs ∧ ∀ (i : Nat) l, L[i]? = some l → ∃ A c, vs[i]? = some (.slice A l.length c) ∧
    (l = [] ∨ ∃ ad : Addr, A = some ad ∧ Rd w w.heap.size A l.length (bvs l) ∧ v.ownBlock ≠ some ad.block)
theorem GridOwn.nil (w : World) (base : Nat) : GridOwn w base (.slice none 0 0) 0 [] := ⟨rfl, [], World.ownsRow_nil _ _ _ _, fun i l h => by simp at h⟩
theorem GridOwn.below {w w' : World} {base n : Nat} {v : Value} {L : List (List UInt8)} (h : GridOwn w base v n L) (hb : Below w.heap.size w w') : GridOwn w' base v n L := by
  obtain ⟨h1, vs, h2, h3⟩ := h
  refine ⟨h1, vs, h2.kept (w' := w') (row := none) ⟨hb.os, hb.tape, hb.output, hb.size, fun i hi _ => hb.block i hi⟩ (Classical.em _), fun i l hl => ?_⟩
  obtain ⟨A, c, h4, h5⟩ := h3 i l hl
  refine ⟨A, c, h4, ?_⟩
  rcases h5 with h5 | ⟨ad, h5, h6, h7⟩
  · exact .inl h5
  · exact .inr ⟨ad, h5, (h6.below hb).more hb.size, h7⟩
theorem GridOwn.push {w w2 : World} {base n m c : Nat} {v v' : Value} {L : List (List UInt8)} {vs : List Value} {A : Option Addr} {x : List UInt8} (h1 : L.length = n)
    (h3 : ∀ (i : Nat) l, L[i]? = some l → ∃ A c, vs[i]? = some (.slice A l.length c) ∧ (l = [] ∨ ∃ ad : Addr, A = some ad ∧ Rd w w.heap.size A l.length (bvs l) ∧ v.ownBlock ≠ some ad.block))
    (hvl : vs.length = n) (ho : w2.ownsRow base 28 1 v' (n + 1) (vs ++ [.slice A m c])) (hg : w.grownBy w2 v.ownBlock) (hat : v'.ownBlock = v.ownBlock ∨ v'.ownBlock = some w.heap.size)
    (hm : x.length = m) (hx : x = [] ∨ ∃ ad : Addr, A = some ad ∧ Rd w w.heap.size A m (bvs x) ∧ v.ownBlock ≠ some ad.block) : GridOwn w2 base v' (n + 1) (L ++ [x]) := by
  have key : ∀ (A : Option Addr) (l : List UInt8) (m : Nat), (∃ ad : Addr, A = some ad ∧ Rd w w.heap.size A m (bvs l) ∧ v.ownBlock ≠ some ad.block) → l ≠ [] →
      ∃ ad : Addr, A = some ad ∧ Rd w2 w2.heap.size A m (bvs l) ∧ v'.ownBlock ≠ some ad.block := by
    rintro A l m ⟨ad, rfl, hr, hne⟩ hl
    have hlt : ad.block < w.heap.size := by
      cases l with
      | nil => exact absurd rfl hl
      | cons b l =>
        obtain ⟨ad', e, hb, _⟩ := hr.at' 0 (bv b) rfl
        injection e with e; subst e; exact hb
    refine ⟨ad, rfl, ⟨hr.len, fun j u hu => ?_⟩, ?_⟩
    · obtain ⟨ad', e, hb, hc⟩ := hr.at' j u hu
      injection e with e; subst e
      refine ⟨ad, rfl, Nat.lt_of_lt_of_le hb hg.size, ?_⟩
      rw [← hc]
      unfold World.cell?
      rw [add_block, hg.block ad.block hlt (fun e => hne (by rw [e]))]
    · rcases hat with e | e
      · rw [e]; exact hne
      · rw [e]; intro e2; injection e2 with e2; omega
  refine ⟨by simp [h1], _, ho, fun i l hl => ?_⟩
  by_cases hi : i < n
  · rw [List.getElem?_append_left (by omega)] at hl
    obtain ⟨A', c', h4, h5⟩ := h3 i l hl
    refine ⟨A', c', by rw [List.getElem?_append_left (by omega)]; exact h4, ?_⟩
    by_cases hl0 : l = []
    · exact .inl hl0
    · exact .inr (key A' l _ (h5.resolve_left hl0) hl0)
  · rw [List.getElem?_append_right (by omega)] at hl
    have hi0 : i - L.length = 0 := by
      have := (List.getElem?_eq_some_iff.1 hl).1
      simp at this; omega
    rw [hi0] at hl
    simp only [List.getElem?_cons_zero, Option.some.injEq] at hl
    subst hl
    refine ⟨A, c, by rw [List.getElem?_append_right (by omega), show i - vs.length = 0 from by omega, hm]; rfl, ?_⟩
    by_cases hl0 : x = []
    · exact .inl hl0
    · rw [hm]; exact .inr (key A x _ (hx.resolve_left hl0) hl0)
theorem GridOwn.rds {w : World} {base n c : Nat} {A : Option Addr} {L : List (List UInt8)} (h : GridOwn w base (.slice A n c) n L) : Rds w w.heap.size A (L.map bvs) := by
  obtain ⟨h1, vs, h2, h3⟩ := h
  refine ⟨vs, by rw [List.length_map, h1]; exact Rd.of_own h2, fun i l hl => ?_⟩
  rw [List.getElem?_map, Option.map_eq_some_iff] at hl
  obtain ⟨l, hl, rfl⟩ := hl
  obtain ⟨A', c', h4, h5⟩ := h3 i l hl
  rw [bvs_length]
  refine ⟨A', c', h4, ?_⟩
  rcases h5 with rfl | ⟨ad, rfl, h6, _⟩
  · exact Rd.nil _ _ _
  · exact h6
end Go.Proofs.Ythddhcodlmlaiaa
