/- The reference's queue (a slice of numbers); slices.Equal at numbers. -/
import Derived.Test.YtolnmdanlggmhaaQi
import Derived.WalkSpells
namespace Go.Proofs.Ytolnmdanlggmhaa
open Go.RowKit

/-- Numbers as cells. -/
def ivs (l : List Int) : List Value := l.map intV
@[simp] theorem ivs_length (l : List Int) : (ivs l).length = l.length := by simp [ivs]
theorem ivs_one (l : List Int) : ∀ u ∈ ivs l, u.oneCell' = true := by
  intro u hu
  simp only [ivs, List.mem_map] at hu
  obtain ⟨b, _, rfl⟩ := hu
  rfl
theorem ivs_get {l : List Int} {k : Nat} {u : Value} (h : (ivs l)[k]? = some u) : ∃ x, l[k]? = some x ∧ u = .int .i64 x := by
  simp only [ivs, List.getElem?_map, Option.map_eq_some_iff] at h
  obtain ⟨b, hb, rfl⟩ := h
  exact ⟨b, hb, rfl⟩
theorem ivs_append (l m : List Int) : ivs (l ++ m) = ivs l ++ ivs m := by simp [ivs]

/-- A slice value that reads as these numbers. -/
def ISl (w : World) (v : Value) (xs : List Int) : Prop := ∃ A c, v = .slice A xs.length c ∧ xs.length ≤ c ∧ c ≤ maxLen ∧ Rd w w.heap.size A xs.length (ivs xs)
theorem ISl.of_own {w : World} {base e n : Nat} {v : Value} {xs : List Int} (h : w.ownsRow base e 1 v n (ivs xs)) : ISl w v xs := by
  have hl : xs.length = n := by have := h.1; simpa using this
  obtain ⟨A, c, rfl, h1, h2⟩ := own_slice h
  subst hl
  exact ⟨A, c, rfl, h1, h2, Rd.of_own h⟩
theorem ISl.below {w w' : World} {v : Value} {xs : List Int} (h : ISl w v xs) (hb : Below w.heap.size w w') : ISl w' v xs := by
  obtain ⟨A, c, rfl, h1, h2, hr⟩ := h
  exact ⟨A, c, rfl, h1, h2, (hr.below hb).more hb.size⟩
theorem ISl.nil (w : World) : ISl w (.slice none 0 0) [] := ⟨none, 0, rfl, Nat.le_refl _, by simp [maxLen], Rd.nil _ _ _⟩
theorem own_keep {w w' : World} {base e n : Nat} {v : Value} {xs : List Value} (h : w.ownsRow base e 1 v n xs) (hk : ∀ g, v.ownBlock = some g → w'.heap[g]? = w.heap[g]?) : w'.ownsRow base e 1 v n xs := by
  obtain ⟨hl, h⟩ := h
  refine ⟨hl, ?_⟩
  rcases h with h | ⟨g, cap, cur, rfl, hb, hg, r⟩
  · exact .inl h
  · exact .inr ⟨g, cap, cur, rfl, hb, (hk g rfl).trans hg, r⟩
theorem own_blk {w : World} {base e n : Nat} {v : Value} {xs : List Value} (h : w.ownsRow base e 1 v n xs) : ∀ g, v.ownBlock = some g → base ≤ g ∧ g < w.heap.size := by
  intro g hg
  rcases h.2 with ⟨rfl, _⟩ | ⟨g', cap, cur, rfl, hb, hg', _⟩
  · cases hg
  · injection hg with hg
    subst hg
    exact ⟨hb, (Array.getElem?_eq_some_iff.1 hg').1⟩
/-- What comes back lies where the argument lay, or in new memory. -/
def NewOr (B : Nat) (w' : World) (v v' : Value) : Prop := v'.ownBlock = v.ownBlock ∨ ∀ g, v'.ownBlock = some g → B ≤ g ∧ g < w'.heap.size
theorem bel_drewN {B : Nat} {a w : World} (h : Below B a w) (n : Nat) : Below B a (w.drewN n) := ⟨h.os, h.tape, h.output, h.size, h.block⟩

theorem placeOf_next {xs : List Int} {x y : Int} {k : Nat} (h : xs[k]? = some y) (hne : ¬ y = x) (hn : x ∉ xs.take k) : x ∉ xs.take (k + 1) := by
  rw [List.take_add_one, h]
  simp [hn]
  exact fun e => hne e.symm
theorem idx_here (x : Int) (r : List Int) : ∀ l : List Int, x ∉ l → (l ++ x :: r).idxOf x = l.length
  | [], _ => by simp
  | y :: l, h => by
    have h1 : ¬ y = x := fun e => h (by simp [e])
    have h2 : x ∉ l := fun e => h (by simp [e])
    rw [List.cons_append, List.idxOf_cons, idx_here x r l h2]
    have : (y == x) = false := by simpa using h1
    simp [this]
theorem placeOf_here {xs : List Int} {x : Int} {k : Nat} (h : xs[k]? = some x) (hn : x ∉ xs.take k) : placeOf xs x = k := by
  have hk : k < xs.length := (List.getElem?_eq_some_iff.1 h).1
  have hm : x ∈ xs := List.mem_of_getElem? h
  rw [placeOf_in hm]
  have e : xs = xs.take k ++ x :: xs.drop (k + 1) := by
    have h1 := List.take_append_drop k xs
    rw [List.drop_eq_getElem_cons hk] at h1
    have h2 : xs[k] = x := by rw [List.getElem?_eq_getElem hk] at h; injection h
    rw [h2] at h1
    exact h1.symm
  have h3 : xs.idxOf x = (xs.take k ++ x :: xs.drop (k + 1)).idxOf x := by rw [← e]
  rw [h3, idx_here x _ _ hn, List.length_take]
  omega

set_option maxRecDepth 100000 in
set_option maxHeartbeats 1000000 in
theorem refplace (A : Option Addr) (n c : Nat) (xs : List Int) (x : Int) (w : World) (B : Nat) (hr : Rd w B A n (ivs xs)) (hn : n ≤ 1000000) :
    Calls Try.prog 32 #[.slice A n c, .int .i64 x] w fun e w' => e = .returned (.int .i64 (placeOf xs x)) ∧ w' = w := by
  have hl := hr.len
  rw [ivs_length] at hl
  have HL := Lib.hid hl; clear hl
  go_enter Try.func32, Try.ntmps32
  go_wp2_with fail
  go_loop [5] (fun i => ∃ k : Nat, k ≤ n ∧ i = .int .i64 k ∧ Hid (x ∉ xs.take k)) (fun i => n - (intOf i).toNat)
  case atStart => exact ⟨0, Nat.zero_le _, rfl, by show _ ∉ _; simp⟩
  case round =>
    obtain ⟨k, hk, rfl, hs⟩ := hrel
    by_cases hlt : k < n
    · have hki : (k : Int) < (n : Int) := by omega
      obtain ⟨ad, u, rfl, hB, hu, hcu⟩ := hr.at hlt
      obtain ⟨y, hy, rfl⟩ := ivs_get hu
      by_cases hxy : y = x
      · subst hxy
        have hp := Lib.hid (placeOf_here hy hs.out)
        go_wp2_with fail
        go_ret
        exact ⟨ret_eq (by rw [hp.out]; rfl), rfl⟩
      · have hxb : (y == x) = false := by simpa using hxy
        go_wp2_with fail
        go_round
        case rel => exact ⟨k + 1, by omega, by go_num, placeOf_next hy hxy hs.out⟩
        case measure => simp [intOf]; omega
    · have hki : ¬ (k : Int) < (n : Int) := by omega
      have e : xs.take k = xs := List.take_of_length_le (by have := HL.out; omega)
      rw [e] at hs
      have hp := Lib.hid (placeOf_out hs.out)
      go_wp2_with fail
      go_ret
      exact ⟨ret_eq (by rw [hp.out]; rfl), rfl⟩

set_option maxRecDepth 100000 in
set_option maxHeartbeats 2000000 in
theorem refpushN (v : Value) (xs : List Int) (x : Int) (w : World) (hs : ISl w v xs) (hn : xs.length < 1000000) :
    Calls Try.prog 26 #[v, .int .i64 x] w fun e w' => ∃ v', e = .returned (.tuple #[v', .bool (!memB x xs)]) ∧ ISl w' v' (addX xs x) ∧ Below w.heap.size w w' ∧ NewOr w.heap.size w' v v' := by
  obtain ⟨i0, hi, hz0, hz1, hz2⟩ := info_parts infoQi
  have HS := Lib.hid hs
  obtain ⟨A, c, rfl, h1, h2, hr⟩ := hs
  obtain ⟨n, hl⟩ : ∃ n, xs.length = n := ⟨_, rfl⟩
  rw [hl] at hr hn h1 HS ⊢
  have HL := Lib.hid hl; clear hl
  have hp := refplace A n c xs x w _ hr (by omega)
  have hg := placeOf_ge xs x
  by_cases hm : x ∈ xs
  · rw [memB_in hm] at hg ⊢
    rw [addX_in hm]
    have hg1 : 0 ≤ placeOf xs x := by simpa using hg
    obtain ⟨p, hpp⟩ : ∃ p, placeOf xs x = p := ⟨_, rfl⟩
    rw [hpp] at hp hg1
    clear hg hpp
    go_enter Try.func26, Try.ntmps26
    go_wp2_with fail
    refine hp.mono ?_
    rintro e w1 ⟨rfl, rfl⟩
    go_wp2_with fail
    go_ret2
    exact ⟨_, rfl, HS.out, Below.refl _ _, .inl rfl⟩
  · rw [memB_out hm] at hg ⊢
    rw [addX_out hm]
    have hg1 : ¬ 0 ≤ placeOf xs x := by simpa using hg
    obtain ⟨p, hpp⟩ : ∃ p, placeOf xs x = p := ⟨_, rfl⟩
    rw [hpp] at hp hg1
    clear hg hpp HS
    have hown := World.ownsRow_lit (e := 3) (size := 1) (base := w.heap.size) w #[] 0 (Nat.le_refl _) (by simp [maxLen]) (by simp)
    have hr1 := hr.alloc (Nat.le_refl _) (.cells #[] 3)
    go_enter Try.func26, Try.ntmps26
    go_wp2_with fail
    refine hp.mono ?_
    rintro e w1 ⟨rfl, rfl⟩
    have hone : ∀ (w2 : World) (v' : Value), w2.ownsRow w1.heap.size 3 1 v' (0 + n) (#[].toList ++ ivs xs) → w2.ownsRow w1.heap.size 3 1 v' n (ivs xs) := fun w2 v' h => by simpa using h
    go_wp2_with (first | (at_builtin; refine wpList_app _ rfl (.tmp 11) (.tmp 12) 22 rfl w1.heap.size 3 i0 _ 8 Try.underlying22 hi hz0 hz1 hz2 rfl _ _ _ rfl hown w1.heap.size _ _ _ _ rfl hr1 (ivs_one _) (by unfold maxLen; omega) (by omega) (by simp) ?_; intro v' w2 hown2 hg2 hat2) | (at_builtin; refine wpList_app _ rfl (.tmp 13) (.tmp 15) 22 rfl w1.heap.size 3 i0 _ 8 Try.underlying22 hi hz0 hz1 hz2 rfl _ n (ivs xs) rfl ((hone _ _ hown2).alloc _) (w2.heap.size + 1) (some ⟨w2.heap.size, 0, none⟩) 1 1 [.int .i64 x] rfl ⟨rfl, fun j u hj => ⟨_, rfl, Nat.lt_succ_self _, by rcases j with _ | j <;> simp at hj; subst hj; exact blk_cell (heap_alloc_new w2 _) 0 _ rfl⟩⟩ (by intro u hu; simp at hu; subst hu; rfl) (by unfold maxLen; omega) (by omega) (by simp; have := hg2.size; simp at this; omega) ?_; intro v'' w3 hown3 hg3 hat3) | fail)
    go_ret2
    have hb2 : Below w1.heap.size w1 w2 := ((Below.refl _ _).alloc (Nat.le_refl _) _).grown hg2 (by simp) fun k hk => (hown.lt k hk).1
    have hb3 := (hb2.alloc hb2.size (.cells #[.int .i64 x] 3)).grown hg3 (by simp; have := hb2.size; omega) fun k hk => ((hone _ _ hown2).lt k hk).1
    refine ⟨v'', rfl, ISl.of_own (base := w1.heap.size) (e := 3) (n := n + 1) ?_, hb3, .inr fun g hg => own_blk hown3 g hg⟩
    rw [ivs_append]
    exact hown3
theorem refpush (v : Value) (xs : List Int) (x : Int) (w : World) (hs : ISl w v xs) (hn : xs.length < 1000000) :
    Calls Try.prog 26 #[v, .int .i64 x] w fun e w' => ∃ v', e = .returned (.tuple #[v', .bool (!memB x xs)]) ∧ ISl w' v' (addX xs x) ∧ Below w.heap.size w w' :=
  (refpushN v xs x w hs hn).mono fun _ _ ⟨v', h1, h2, h3, _⟩ => ⟨v', h1, h2, h3⟩

/-! ### Pop, New -/
theorem ISl.tail {w : World} {A : Option Addr} {n c : Nat} {x : Int} {xs : List Int} (h : ISl w (.slice A n c) (x :: xs)) : ISl w (.slice (if c = 1 then A else A.map (·.add 1)) xs.length (c - 1)) xs := by
  obtain ⟨A', c', e, h1, h2, hr⟩ := h
  injection e with e1 e2 e3
  subst e1; subst e2; subst e3
  have := hr.drop (k := 1) (by simp) h1
  simp only [List.length_cons] at h1 this
  exact ⟨_, _, rfl, by omega, by omega, this⟩

set_option maxRecDepth 100000 in
set_option maxHeartbeats 1000000 in
theorem refpop_nil (v : Value) (w : World) (hs : ISl w v []) :
    Calls Try.prog 24 #[v] w fun e w' => e = .returned (.tuple #[v, .int .i64 0, .bool false]) ∧ w' = w := by
  obtain ⟨A, c, rfl, h1, h2, hr⟩ := hs
  simp only [List.length_nil]
  clear h1 h2 hr
  go_enter Try.func24, Try.ntmps24
  go_wp2_with fail
  go_ret3
  exact ⟨rfl, rfl⟩

set_option maxRecDepth 100000 in
set_option maxHeartbeats 1000000 in
theorem refpop (v : Value) (x : Int) (xs : List Int) (w : World) (hs : ISl w v (x :: xs)) (hn : xs.length < 1000000) :
    Calls Try.prog 24 #[v] w fun e w' => ∃ v', e = .returned (.tuple #[v', .int .i64 x, .bool true]) ∧ ISl w' v' xs ∧ v'.ownBlock = v.ownBlock ∧ ∃ k, w' = w.drewN k := by
  have hs0 := hs
  obtain ⟨A, c, rfl, h1, h2, hr⟩ := hs
  have ht := hs0.tail
  obtain ⟨ad, u, rfl, _, hu, hcu⟩ := hr.at (k := 0) (by simp)
  simp only [ivs, List.map_cons, List.getElem?_cons_zero, Option.some.injEq] at hu
  subst hu
  have e0 : ad.add 0 = ad := by unfold Addr.add; simp
  rw [e0] at hcu
  have hcx : w.cell? ad = some (.int .i64 x : Value) := hcu
  simp only [List.length_cons] at h1 ⊢
  simp only [Option.map_some] at ht
  have e1 : ad.add 1 = ⟨ad.block, ad.off + 1, none⟩ := by unfold Addr.add; simp
  rw [e1] at ht
  have hp : (0 : Int) < (xs.length : Int) + 1 := by omega
  have hne : ¬ ((xs.length : Int) + 1 = 0) := by omega
  have hc1 : (1 : Int) ≤ (xs.length : Int) + 1 := by omega
  have hc2 : (xs.length : Int) + 1 ≤ (c : Int) := by omega
  by_cases hc : c = 1
  · rw [if_pos hc] at ht
    subst hc
    have HT := Lib.hid ht
    clear ht hs0 hr hcu e0 e1 h1 h2
    go_enter Try.func24, Try.ntmps24
    go_wp2_with fail
    go_quiet (fail)
    go_wp2_with fail
    go_ret3
    obtain ⟨A', c', e, h1, h2, hr⟩ := HT.out
    exact ⟨_, rfl, ⟨A', c', e, h1, h2, hr.drewN nq⟩, rfl, nq, rfl⟩
  · rw [if_neg hc] at ht
    have HT := Lib.hid ht
    clear ht hs0 hr hcu e0 e1 h1 h2
    go_enter Try.func24, Try.ntmps24
    go_wp2_with fail
    go_quiet (fail)
    go_wp2_with fail
    go_ret3
    obtain ⟨A', c', e, h1, h2, hr⟩ := HT.out
    exact ⟨_, rfl, ⟨A', c', e, h1, h2, hr.drewN nq⟩, rfl, nq, rfl⟩

set_option maxRecDepth 100000 in
set_option maxHeartbeats 2000000 in
theorem refnewN (A : Option Addr) (n c : Nat) (l : List Int) (w : World) (B : Nat) (hr : Rd w B A n (ivs l)) (hB : B ≤ w.heap.size) (hn : n ≤ 1000000) :
    Calls Try.prog 18 #[.slice A n c] w fun e w' => ∃ v', e = .returned v' ∧ ISl w' v' (newL l) ∧ Below w.heap.size w w' ∧ ∀ g, v'.ownBlock = some g → w.heap.size ≤ g ∧ g < w'.heap.size := by
  have hl := hr.len
  rw [ivs_length] at hl
  have HL := Lib.hid hl; clear hl
  go_enter Try.func18, Try.ntmps18
  go_wp2_with fail
  go_loopw [3, 4] (fun v i wr => ∃ k : Nat, k ≤ n ∧ i = .int .i64 k ∧ ISl wr v (newL (l.take k)) ∧ Below w.heap.size w wr ∧ ∀ g, v.ownBlock = some g → w.heap.size ≤ g ∧ g < wr.heap.size) (fun _ i _ => n - (intOf i).toNat)
  case atStart => exact ⟨0, Nat.zero_le _, rfl, ISl.nil _, Below.refl _ _, fun g hg => by cases hg⟩
  case round =>
    obtain ⟨k, hk, rfl, hs, hb, hbk⟩ := hrel
    by_cases hlt : k < n
    · have hki : (k : Int) < (n : Int) := by omega
      obtain ⟨ad, u, rfl, _, hu, hcu⟩ := (hr.below (hb.mono hB)).at hlt
      obtain ⟨x, hx, rfl⟩ := ivs_get hu
      have hlen := newL_len (l.take k)
      rw [List.length_take, HL.out] at hlen
      have hp := refpushN _ _ x _ hs (by omega)
      rw [← newL_take hx] at hp
      clear hlen
      go_wp2_with fail
      refine hp.mono ?_
      rintro e w1 ⟨v', rfl, hs1, hb0, hno⟩
      have hb1 := hb.trans (hb0.mono hb.size)
      have hbk1 : ∀ g, v'.ownBlock = some g → w.heap.size ≤ g ∧ g < w1.heap.size := fun g hg => by
        rcases hno with e | e
        · have := hbk g (e ▸ hg); have := hb0.size; omega
        · have := e g hg; have := hb.size; omega
      clear hp hb0 hno hbk
      go_wp2_with fail
      go_roundw
      case rel => exact ⟨k + 1, by omega, by go_num, hs1, hb1, hbk1⟩
      case measure => simp [intOf]; omega
    · have hki : ¬ (k : Int) < (n : Int) := by omega
      have e : l.take k = l := List.take_of_length_le (by have := HL.out; omega)
      rw [e] at hs
      go_wp2_with fail
      go_ret
      exact ⟨_, rfl, hs, hb, hbk⟩
theorem refnew (A : Option Addr) (n c : Nat) (l : List Int) (w : World) (B : Nat) (hr : Rd w B A n (ivs l)) (hB : B ≤ w.heap.size) (hn : n ≤ 1000000) :
    Calls Try.prog 18 #[.slice A n c] w fun e w' => ∃ v', e = .returned v' ∧ ISl w' v' (newL l) ∧ Below w.heap.size w w' :=
  (refnewN A n c l w B hr hB hn).mono fun _ _ ⟨v', h1, h2, h3, _⟩ => ⟨v', h1, h2, h3⟩
end Go.Proofs.Ytolnmdanlggmhaa
