/- Split of whole frames, of a beginning of frames, and of frames with something behind them: plain laws. -/
import Derived.Test.YthddhcodlmlaiaaFSplit
import Derived.Test.YthddhcodlmlaiaaFFew
namespace Go.Proofs.Ythddhcodlmlaiaa
open Go.RowKit

theorem split_frame (x rest : List UInt8) (h : x.length ≤ 1048576) : splitC (frameC x ++ rest) = (x :: (splitC rest).1, x.length + 8 + (splitC rest).2) := by
  obtain ⟨hg, hn⟩ := next_frame x rest h
  have hs := split_step (bs := frameC x ++ rest) (by rw [hn]; simp)
  rw [hn] at hs
  simp only at hs
  rw [List.drop_left' (frameC_len x)] at hs
  exact hs
theorem split_nil : splitC [] = ([], 0) := rfl
theorem split_join (L : List (List UInt8)) (rest : List UInt8) (h : ∀ l ∈ L, l.length ≤ 1048576) : splitC (joinC L ++ rest) = (L ++ (splitC rest).1, (joinC L).length + (splitC rest).2) := by
  induction L with
  | nil => simp [joinC]
  | cons l L ih =>
    have e : joinC (l :: L) = frameC l ++ joinC L := rfl
    rw [e, List.append_assoc, split_frame l _ (h l (by simp)), ih fun x hx => h x (by simp [hx])]
    rw [List.length_append, frameC_len]
    simp [Nat.add_assoc]
theorem num4_take (bs : List UInt8) {k : Nat} (h : 4 ≤ k) : num4 (bs.take k) = num4 bs := by
  have g : ∀ i, i < 4 → (bs.take k).getD i 0 = bs.getD i 0 := fun i hi => by
    rw [List.getD_eq_getElem?_getD, List.getD_eq_getElem?_getD, List.getElem?_take, if_pos (by omega)]
  unfold num4
  rw [g 0 (by omega), g 1 (by omega), g 2 (by omega), g 3 (by omega)]
theorem split_short (x rest : List UInt8) (k : Nat) (hx : x.length ≤ 1048576) (h : k < x.length + 8) : splitC ((frameC x ++ rest).take k) = ([], 0) := by
  refine split_stop ?_
  have hg : goodC ((frameC x ++ rest).take k) = false := by
    unfold goodC
    rw [decide_eq_false_iff_not]
    rintro ⟨h1, _, h3, _⟩
    have hk : ((frameC x ++ rest).take k).length ≤ k := by rw [List.length_take]; omega
    rw [num4_take _ (by omega)] at h3
    have h4 : num4 (frameC x ++ rest) = x.length := by rw [frame_split, List.append_assoc, num4_lit _ (by omega)]
    rw [h4] at h3
    omega
  rw [next_bad hg]
theorem split_cut (L : List (List UInt8)) (i k : Nat) (h : ∀ l ∈ L, l.length ≤ 1048576) (hk : (joinC (L.take i)).length ≤ k) (hs : ∀ l, L[i]? = some l → k < (joinC (L.take i)).length + l.length + 8) :
    splitC ((joinC L).take k) = (L.take i, (joinC (L.take i)).length) := by
  have e : joinC L = joinC (L.take i) ++ joinC (L.drop i) := by
    unfold joinC
    rw [← List.flatten_append, ← List.map_append, List.take_append_drop]
  have hr : splitC ((joinC (L.drop i)).take (k - (joinC (L.take i)).length)) = ([], 0) := by
    cases hd : L.drop i with
    | nil => simp [joinC]; rfl
    | cons l M =>
      have hl : L[i]? = some l := by rw [← List.head?_drop, hd]; rfl
      have h2 := hs l hl
      exact split_short l (joinC M) _ (h l (List.mem_of_getElem? hl)) (by omega)
  rw [e, List.take_append, List.take_of_length_le hk, split_join _ _ fun l hl => h l (List.mem_of_mem_take hl), hr]
  simp
end Go.Proofs.Ythddhcodlmlaiaa
