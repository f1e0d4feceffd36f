/- The queue's functions, for elements of type int. -/
import Derived.Test.YtolnmdanlggmhaaProg
import Derived.Test.YtolnmdanlggmhaaQq2
import Derived.LoopTactic
import Derived.IntWalk
import Derived.Deep.QuietTactic
import Derived.Deep.RegionLaw
import Derived.BigQuiet
import Derived.BigRegion
import Derived.Outline
namespace Go.Proofs.Ytolnmdanlggmhaa
open Go.RowKit Go.Maps

theorem keyedi : Keyed Try.prog 3 := int_keyed Try.underlying3
theorem zeroIi (w : World) : (zeroValue 3).run Try.prog w = .ok (.int .i64 0) w := by kernel_rfl
theorem infoQi : (Try.prog.info? 3).map (fun i => (i.zero, i.size, i.bytes)) = some (some (.int .i64 0), 1, 8) := by kernel_rfl

/-- A queue, in the world w, at block b. -/
def Qui (w : World) (fp : Nat → Prop) (b f : Nat) (xs : List (Int)) : Prop :=
  ∃ v bm D, QOf intV intL Try.prog 3 3 w fp b f xs v bm D 83

set_option maxRecDepth 100000 in
set_option maxHeartbeats 1000000 in
theorem place_i {fp : Nat → Prop} (b f : Nat) (xs : List (Int)) (x : Int) (w : World) (h : Qui w fp b f xs) (hx : (Lit.int .i64 x).wf = true) (hf : f + xs.length ≤ 1152921504606846976) :
    Calls Try.prog 31 #[.pointer (some ⟨b, 0, none⟩), .int .i64 x] w fun e w' => e = .returned (.int .i64 (placeOf xs x)) ∧ w' = w := by
  obtain ⟨v, bm, D, h⟩ := h
  have hkey := keyOf_int_mk Try.underlying3 hx
  have c1 := h.cell1
  have c2 := h.cell2
  have hown := h.own
  by_cases hm : x ∈ xs
  · have h1 : Maps.has D (Lit.int .i64 x) = true := (h.has x).2 hm
    obtain ⟨i, hp, h3, hi⟩ := idx_lt hm
    have h2 : D.atKey (Lit.int .i64 x) (.lit (.int .i64 0)) = .lit (.int .i64 ((f + i : Nat) : Int)) := h.atk i x hi
    rw [hp]
    have hc : ∀ c : Int, D.atKey (Lit.int .i64 x) (.lit (.int .i64 0)) = .lit (.int .i64 c) → c = (f : Int) + i := fun c hat => by
      rw [h2] at hat
      injection hat with hat
      injection hat with _ hat
      omega
    have hsub : (f : Int) + i - f = i := by omega
    have hi0 : (i : Int) < 1152921504606846976 := by omega
    clear h h2 hp hm hi
    go_enter Try.func31, Try.ntmps31
    go_wp2_with (first | (at_lookup; refine wpList_lookup_own_ok_int _ rfl _ _ 81 rfl 3 3 .i64 keyedi Try.underlying81 Try.underlying3 (zeroIi _) bm _ D rfl hown _ _ rfl hkey ?_; intro c hat hwc; have hce := hc c hat; subst hce; clear hc hat) | fail)
    go_ret
    exact ⟨rfl, rfl⟩
  · have h1 : Maps.has D (Lit.int .i64 x) = false := by
      cases e : Maps.has D (Lit.int .i64 x) with
      | false => rfl
      | true => exact absurd ((h.has x).1 e) hm
    have hp : placeOf xs x = -1 := placeOf_out hm
    rw [hp]
    clear h hp hm
    go_enter Try.func31, Try.ntmps31
    go_wp2_with (first | (at_lookup; refine wpList_lookup_own_ok_int _ rfl _ _ 81 rfl 3 3 .i64 keyedi Try.underlying81 Try.underlying3 (zeroIi _) bm _ D rfl hown _ _ rfl hkey ?_; intro c hat hwc) | fail)
    go_ret
    exact ⟨rfl, rfl⟩

set_option maxRecDepth 100000 in
set_option maxHeartbeats 1000000 in
theorem has_i {fp : Nat → Prop} (b f : Nat) (xs : List (Int)) (x : Int) (w : World) (h : Qui w fp b f xs) (hx : (Lit.int .i64 x).wf = true) (hf : f + xs.length ≤ 1152921504606846976) :
    Calls Try.prog 33 #[.pointer (some ⟨b, 0, none⟩), .int .i64 x] w fun e w' => e = .returned (.bool (memB x xs)) ∧ w' = w := by
  have hc := place_i b f xs x w h hx hf
  have hd := placeOf_ge xs x
  obtain ⟨t, ht⟩ : ∃ t, memB x xs = t := ⟨_, rfl⟩
  obtain ⟨p, hp⟩ : ∃ p, placeOf xs x = p := ⟨_, rfl⟩
  rw [ht] at hd ⊢
  rw [hp] at hc hd
  clear ht hp h
  go_enter Try.func33, Try.ntmps33
  go_wp2_with fail
  refine hc.mono ?_
  rintro e w1 ⟨rfl, rfl⟩
  go_wp2_with fail
  go_ret
  exact ⟨rfl, rfl⟩

set_option maxRecDepth 100000 in
set_option maxHeartbeats 1000000 in
theorem len_i {fp : Nat → Prop} (b f : Nat) (xs : List (Int)) (w : World) (h : Qui w fp b f xs) :
    Calls Try.prog 19 #[.pointer (some ⟨b, 0, none⟩)] w fun e w' => e = .returned (.int .i64 xs.length) ∧ w' = w := by
  obtain ⟨v, bm, D, h⟩ := h
  have c0 := h.cell0
  obtain ⟨A, c, rfl, h1, h2⟩ := h.row.slice
  rw [List.length_map] at c0
  obtain ⟨n, hn⟩ : ∃ n, xs.length = n := ⟨_, rfl⟩
  rw [hn] at c0 ⊢
  clear h hn h1 h2
  go_enter Try.func19, Try.ntmps19
  go_wp2_with fail
  go_ret
  exact ⟨rfl, rfl⟩

set_option maxRecDepth 100000 in
set_option maxHeartbeats 1000000 in
theorem push_i {fp : Nat → Prop} (b f : Nat) (xs : List (Int)) (x : Int) (w : World) (h : Qui w fp b f xs) (hx : (Lit.int .i64 x).wf = true) (hf : f + xs.length ≤ 1152921504606846975) (hb : (xs.length + 1) * 8 ≤ 140737488355328) :
    Calls Try.prog 25 #[.pointer (some ⟨b, 0, none⟩), .int .i64 x] w fun e w' => e = .returned (.bool (!memB x xs)) ∧
      ∃ fp', Qui w' fp' b f (addX xs x) ∧ QStep fp fp' w w' := by
  have hhas := has_i b f xs x w h hx (by omega)
  obtain ⟨i0, hi, hz0, hz1, hz2⟩ := info_parts infoQi
  by_cases hm : x ∈ xs
  · rw [memB_in hm] at hhas
    rw [addX_in hm, memB_in hm]
    have h := Lib.hid h
    go_enter Try.func25, Try.ntmps25
    go_wp2_with fail
    refine hhas.mono ?_
    rintro e w1 ⟨rfl, rfl⟩
    go_wp2_with fail
    go_ret
    exact ⟨rfl, fp, h.out, QStep.refl _ _⟩
  · rw [memB_out hm] at hhas
    rw [addX_out hm, memB_out hm]
    obtain ⟨v, bm, D, h⟩ := h
    have c0 := h.cell0
    have c1 := h.cell1
    have c2 := h.cell2
    obtain ⟨A, c, rfl, hc1, hc2⟩ := h.row.slice
    have hlm : (xs.map intV).length = xs.length := List.length_map ..
    rw [hlm] at c0 h
    have hkey := keyOf_int_mk Try.underlying3 hx
    have hms : Maps.size D < maxLen := by rw [h.size]; unfold maxLen; omega
    obtain ⟨w1, hrun, hown1, hg1⟩ := (h.own.drew).update keyedi Try.underlying81 hms hkey (plainElem_int Try.underlying3 (int_wf (x := (f : Int) + xs.length) (by omega) (by omega)))
    have hown2 : w1.ownsMap Try.prog 3 (plainElem Try.prog 3) bm (Maps.size D + 1) (D.put (intL x) (.lit (.int .i64 ((f + xs.length : Nat) : Int)))) := by rw [Int.natCast_add]; exact hown1
    have hg2 : w.grownBy w1 (some bm) := ⟨hg1.os, hg1.tape, hg1.output, hg1.size, hg1.block⟩
    have hb1 : w1.heap[b]? = some (.cells #[.slice A xs.length c, .int .i64 f, .map (some bm)] 83 (0, 0)) :=
      (hg1.block b h.blt (fun e => h.mne (by injection e with e; exact e.symm))).trans h.box
    have d0 := blk_cell hb1 0 _ rfl
    have hrow1 : QRow (w1.alloc (.cells #[.int .i64 x] 3)) (.slice A xs.length c) (xs.map intV) := by
      exact (h.row.keep fun g hg => hg1.block g (h.row.lt g hg) (fun e => h.mng g hg (by injection e))).keep fun g hg => Below.heap_alloc w1 _ g (Nat.lt_of_lt_of_le (h.row.lt g hg) hg1.size)
    have hx0 : (f : Int) + xs.length ≤ 1152921504606846975 := by omega
    have hb3 : ∀ w3, (w1.alloc (.cells #[.int .i64 x] 3)).grownBy w3 (Value.slice A xs.length c).ownBlock → w3.heap[b]? = some (.cells #[.slice A xs.length c, .int .i64 f, .map (some bm)] 83 (0, 0)) := fun w3 hg3 =>
      (hg3.block b (by simp only [World.size_alloc]; exact Nat.lt_of_lt_of_le h.blt (Nat.le_succ_of_le hg1.size)) (fun e => h.ng b e.symm rfl)).trans ((Below.heap_alloc w1 _ b (Nat.lt_of_lt_of_le h.blt hg1.size)).trans hb1)
    have H := Lib.hid h; clear h
    go_enter Try.func25, Try.ntmps25
    go_wp2_with fail
    refine hhas.mono ?_
    rintro e w2 ⟨rfl, rfl⟩
    go_wp2_with fail
    go_region
    go_wp2_with (first | (at_builtin; refine wpList_append_q _ rfl (.tmp 31) (.tmp 33) 22 rfl 3 i0 _ 8 Try.underlying22 hi hz0 hz1 hz2 rfl _ _ rfl hrow1 _ _ (.int .i64 x) rfl (by simp) rfl (by simp; unfold maxLen; omega) (by simp; omega) ?_; intro v' w3 hrow3 hg3 hn3; have hbox := hb3 w3 hg3; have k0 := blk_cell hbox 0 _ rfl; have l0 := blk_frozen hbox 0; obtain ⟨A', c', hv', _, _⟩ := hrow3.slice; simp only [List.length_append, List.length_map, List.length_singleton] at hv'; subst hv') | fail)
    go_ret
    have r := H.out.push keyedi intL_inj (x := x) hm trivial hown2 hg2 (w2 := w1.alloc (.cells #[.int .i64 x] 3)) (by simp) (fun i hi => Below.heap_alloc w1 _ i hi) ⟨rfl, rfl, rfl⟩ hrow3 hg3 hn3
    exact ⟨rfl, _, ⟨_, _, _, r.1⟩, r.2⟩

theorem Qui.mono {w : World} {fp fp' : Nat → Prop} {b f : Nat} {xs : List (Int)} (h : Qui w fp b f xs) (hf : ∀ i, fp i → fp' i) : Qui w fp' b f xs := by
  obtain ⟨v, bm, D, h⟩ := h
  exact ⟨v, bm, D, h.mono hf⟩
theorem Qui.tight {w : World} {fp : Nat → Prop} {b f : Nat} {xs : List (Int)} (h : Qui w fp b f xs) : Qui w (fun i => fp i ∧ i < w.heap.size) b f xs := by
  obtain ⟨v, bm, D, h⟩ := h
  exact ⟨v, bm, D, { h with fb := ⟨h.fb, h.blt⟩, fm := ⟨h.fm, h.own.lt⟩, fg := fun g hg => ⟨h.fg g hg, h.row.lt g hg⟩ }⟩
theorem Qui.keep {w w' : World} {fp : Nat → Prop} {b f : Nat} {xs : List (Int)} (h : Qui w fp b f xs) (hk : ∀ i, fp i → i < w.heap.size → w'.heap[i]? = w.heap[i]?) : Qui w' fp b f xs := by
  obtain ⟨v, bm, D, h⟩ := h
  exact ⟨v, bm, D, h.keep hk⟩

set_option maxRecDepth 100000 in
set_option maxHeartbeats 1000000 in
theorem list_i {fp : Nat → Prop} (b f : Nat) (xs : List (Int)) (n : Nat) (w : World) (h : Qui w fp b f xs) (hn : xs.length = n) (hb : n * 8 ≤ 140737488355328) :
    Calls Try.prog 27 #[.pointer (some ⟨b, 0, none⟩)] w fun e w' => ∃ v, e = .returned v ∧ w'.ownsRow w.heap.size 3 1 v n (xs.map intV) ∧ Below w.heap.size w w' := by
  obtain ⟨i0, hi, hz0, hz1, hz2⟩ := info_parts infoQi
  obtain ⟨v, bm, D, h⟩ := h
  have c0 := h.cell0
  obtain ⟨A, c, rfl, h1, h2⟩ := h.row.slice
  have hlm : (xs.map intV).length = n := by rw [List.length_map]; exact hn
  rw [hlm] at c0 h
  have hr := h.row.rd
  have hblt := h.blt
  have hone : ∀ u ∈ xs.map intV, u.oneCell' = true := by
    intro u hu
    obtain ⟨x, _, rfl⟩ := List.mem_map.1 hu
    rfl
  have hown := World.ownsRow_lit (e := 3) (size := 1) (base := w.heap.size) w #[] 0 (Nat.le_refl _) (by simp [maxLen]) (by simp)
  have hr1 := hr.alloc (Nat.le_refl _) (.cells #[] 3)
  clear h h1 h2 hn hlm
  go_enter Try.func27, Try.ntmps27
  go_wp2_with (at_builtin; refine wpList_app _ rfl (.tmp 5) (.tmp 9) 22 rfl w.heap.size 3 i0 _ 8 Try.underlying22 hi hz0 hz1 hz2 rfl _ _ _ rfl hown w.heap.size _ _ _ _ rfl hr1 hone (by unfold maxLen; omega) (by omega) (by simp) ?_; intro v' w2 hown2 hg2 hat2)
  have hb2 : Below w.heap.size w w2 := ((Below.refl _ _).alloc (Nat.le_refl _) _).grown hg2 (by simp) fun k hk => (hown.lt k hk).1
  have hown2' : w2.ownsRow w.heap.size 3 1 v' n (xs.map intV) := by simpa using hown2
  go_ret
  exact ⟨v', rfl, hown2', hb2⟩

set_option maxRecDepth 100000 in
set_option maxHeartbeats 1000000 in
theorem peek_nil_i {fp : Nat → Prop} (b f : Nat) (w : World) (h : Qui w fp b f []) :
    Calls Try.prog 30 #[.pointer (some ⟨b, 0, none⟩)] w fun e w' => e = .returned (.tuple #[.int .i64 0, .bool false]) ∧ w' = w := by
  have hc := len_i b f [] w h
  go_enter Try.func30, Try.ntmps30
  go_wp2_with fail
  refine hc.mono ?_
  rintro e w1 ⟨rfl, rfl⟩
  go_wp2_with fail
  go_ret2
  exact ⟨rfl, rfl⟩

set_option maxRecDepth 100000 in
set_option maxHeartbeats 1000000 in
theorem peek_i {fp : Nat → Prop} (b f : Nat) (x : Int) (xs : List (Int)) (w : World) (h : Qui w fp b f (x :: xs)) :
    Calls Try.prog 30 #[.pointer (some ⟨b, 0, none⟩)] w fun e w' => e = .returned (.tuple #[.int .i64 x, .bool true]) ∧ w' = w := by
  have hc := len_i b f (x :: xs) w h
  obtain ⟨v, bm, D, h⟩ := h
  have c0 := h.cell0
  obtain ⟨A, c, rfl, h1, h2⟩ := h.row.slice
  have hlm : ((x :: xs).map intV).length = xs.length + 1 := by simp
  rw [hlm] at c0 h
  obtain ⟨ad, u, rfl, _, hu, hcu⟩ := h.row.rd.at (k := 0) (by omega)
  simp at hu
  subst hu
  have e0 : ad.add 0 = ad := by unfold Addr.add; simp
  rw [e0] at hcu
  have hcx : w.cell? ad = some (.int .i64 x) := hcu
  have hpos : (0 : Int) < (xs.length : Int) + 1 := by omega
  have hne : ¬ ((xs.length : Int) + 1 = 0) := by omega
  clear h h1 h2 hlm hcu e0
  go_enter Try.func30, Try.ntmps30
  go_wp2_with fail
  refine hc.mono ?_
  rintro e w1 ⟨rfl, rfl⟩
  go_wp2_with fail
  go_ret2
  exact ⟨rfl, rfl⟩

set_option maxRecDepth 100000 in
set_option maxHeartbeats 1000000 in
theorem pop_nil_i {fp : Nat → Prop} (b f : Nat) (w : World) (h : Qui w fp b f []) :
    Calls Try.prog 16 #[.pointer (some ⟨b, 0, none⟩)] w fun e w' => e = .returned (.tuple #[.int .i64 0, .bool false]) ∧ w' = w := by
  have hc := peek_nil_i b f w h
  go_enter Try.func16, Try.ntmps16
  go_wp2_with fail
  refine hc.mono ?_
  rintro e w1 ⟨rfl, rfl⟩
  go_wp2_with fail
  go_ret2
  exact ⟨rfl, rfl⟩

set_option maxRecDepth 1000000 in
set_option maxHeartbeats 2000000 in
theorem pop_i {fp : Nat → Prop} (b f : Nat) (x : Int) (xs : List (Int)) (w : World) (h : Qui w fp b f (x :: xs)) (hx : (Lit.int .i64 x).wf = true) (hf : f + xs.length ≤ 1152921504606846975) :
    Calls Try.prog 16 #[.pointer (some ⟨b, 0, none⟩)] w fun e w' => e = .returned (.tuple #[.int .i64 x, .bool true]) ∧ Qui w' fp b (f + 1) xs ∧ QStep fp fp w w' := by
  have hc := peek_i b f x xs w h
  obtain ⟨v, bm, D, h⟩ := h
  obtain ⟨A, c, rfl, h1, h2⟩ := h.row.slice
  have hlm : ((x :: xs).map intV).length = xs.length + 1 := by simp
  rw [hlm] at h h1
  have c2 := h.cell2
  have hkey := keyOf_int_mk Try.underlying3 hx
  have hown := h.own
  obtain ⟨g, off, rfl⟩ := h.row.addr
  have hrow := h.row.tail
  simp only [Nat.add_sub_cancel, Option.map_some, addN] at hrow
  obtain ⟨off', hoff⟩ : ∃ off', (if c = 1 then some (⟨g, off, none⟩ : Addr) else some ⟨g, off + 1, none⟩) = some ⟨g, off', none⟩ := by
    by_cases hc : c = 1
    · exact ⟨off, if_pos hc⟩
    · exact ⟨off + 1, if_neg hc⟩
  rw [hoff] at hrow
  have HR := Lib.hid hrow; clear hrow
  have hbox : ∀ w1, w.mapTurned w1 bm → w1.heap[b]? = some (.cells #[.slice (some ⟨g, off, none⟩) (xs.length + 1) c, .int .i64 f, .map (some bm)] 83 (0, 0)) := fun w1 ht =>
    (ht.grown.block b h.blt (fun e => h.mne (by injection e with e; exact e.symm))).trans h.box
  have H := Lib.hid h; clear h
  have hc1 : (1 : Int) ≤ (xs.length : Int) + 1 := by omega
  have hc2 : (xs.length : Int) + 1 ≤ (c : Int) := by omega
  have hf2 : (f : Int) < 1152921504606846976 := by omega
  have hx2 : (xs.length : Int) < 1152921504606846976 := by omega
  unfold maxLen at h2
  go_enter Try.func16, Try.ntmps16
  go_wp2_with fail
  refine hc.mono ?_
  rintro e w1 ⟨rfl, rfl⟩
  clear hc
  go_wp2_with (first | (at_delete; refine wpList_delete_own _ rfl _ _ 81 3 rfl 3 keyedi Try.underlying81 _ bm _ D rfl hown _ _ rfl hkey ?_; intro w2 hown2 hturn2; have hb2 := hbox w2 hturn2; have k0 := blk_cell hb2 0 _ rfl; have k1 := blk_cell hb2 1 _ rfl; have l0 := blk_frozen hb2 0; have l1 := blk_frozen hb2 1) | fail)
  have hwr : IntKind.i64.wrap ((f : Int) + 1) = (f : Int) + 1 := by rw [IntKind.wrap_i64]; omega
  go_region
  all_goals clear hbox hkey hown c2 k0 k1 l0 l1 h1 h2 hc1 hc2 hlm hoff
  all_goals have HB := Lib.hid hb2; clear hb2
  all_goals go_wp2_with fail
  all_goals go_ret2
  all_goals
    first
    | (have st := q_stores (Value.slice (some ⟨g, off', none⟩) xs.length (c - 1)) (.int .i64 ((f + 1 : Nat) : Int)) HB.out
       have r := H.out.pop keyedi intL_inj hown2 hturn2.grown HR.out.1 HR.out.2 st.box st.other st.size st.info
       exact ⟨rfl, ⟨_, _, _, r.1⟩, r.2⟩)
    | (have st := q_stores' (Value.slice (some ⟨g, off', none⟩) xs.length (c - 1)) (.int .i64 ((f + 1 : Nat) : Int)) HB.out
       have r := H.out.pop keyedi intL_inj hown2 hturn2.grown HR.out.1 HR.out.2 st.box st.other st.size st.info
       exact ⟨rfl, ⟨_, _, _, r.1⟩, r.2⟩)

theorem qu_madei (w : World) : Qui ((w.alloc (.map #[] 0)).alloc (.cells #[.slice none 0 0, .int .i64 0, .map (some w.heap.size)] 83)) (fun i => w.heap.size ≤ i) (w.heap.size + 1) 0 [] := by
  have hown := (World.ownsMap_made (H := Unit) w Try.prog 3 (plainElem Try.prog 3)).alloc (.cells #[.slice none 0 0, .int .i64 0, .map (some w.heap.size)] 83)
  have hh := heap_alloc_new (w.alloc (.map #[] 0)) (.cells #[.slice none 0 0, .int .i64 0, .map (some w.heap.size)] 83)
  rw [World.size_alloc] at hh
  refine ⟨.slice none 0 0, w.heap.size, .map [], ?_⟩
  exact { box := hh, row := QRow.nil _, own := hown, size := rfl, has := fun x => by simp [Maps.has_eq], atk := fun i x hi => by simp at hi, nodup := List.nodup_nil, fb := Nat.le_succ _, fm := Nat.le_refl _, fg := fun g hg => (by cases hg), ng := fun g hg => (by cases hg) }

set_option maxRecDepth 100000 in
set_option maxHeartbeats 2000000 in
theorem new_i (A : Option Addr) (n c : Nat) (l : List (Int)) (w : World) (B : Nat) (hr : Rd w B A n (l.map intV)) (hB : B ≤ w.heap.size) (hw : ∀ x ∈ l, (Lit.int .i64 x).wf = true) (hn : n * 8 ≤ 140737488355328) :
    Calls Try.prog 14 #[.slice A n c] w fun e w' => e = .returned (.pointer (some ⟨w.heap.size + 1, 0, none⟩)) ∧ Qui w' (fun i => w.heap.size ≤ i) (w.heap.size + 1) 0 (newL l) ∧ Below w.heap.size w w' := by
  have hl : l.length = n := by simpa using hr.len
  have HL := Lib.hid hl; clear hl
  have hmm := @run_makeMap Try.prog
  have hq0 := qu_madei w
  have hb0 : Below w.heap.size w ((w.alloc (.map #[] 0)).alloc (.cells #[.slice none 0 0, .int .i64 0, .map (some w.heap.size)] 83)) := ((Below.refl _ _).alloc (Nat.le_refl _) _).alloc (by simp) _
  go_enter Try.func14, Try.ntmps14
  go_wp2_with fail
  go_loopw [5, 11] (fun _ i wr => ∃ k : Nat, k ≤ n ∧ i = .int .i64 k ∧ Qui wr (fun i => w.heap.size ≤ i) (w.heap.size + 1) 0 (newL (l.take k)) ∧ Below w.heap.size w wr) (fun _ i _ => n - (intOf i).toNat)
  case atStart => exact ⟨0, Nat.zero_le _, rfl, hq0, hb0⟩
  case round =>
    obtain ⟨k, hk, rfl, hq, hb⟩ := hrel
    by_cases hlt : k < n
    · have hki : (k : Int) < (n : Int) := by omega
      obtain ⟨ad, u, rfl, _, hu, hcu⟩ := (hr.below (hb.mono hB)).at hlt
      rw [List.getElem?_map, Option.map_eq_some_iff] at hu
      obtain ⟨x, hx, rfl⟩ := hu
      have hwx := hw x (List.mem_of_getElem? hx)
      have hcx : _ = some (.int .i64 x : Value) := hcu
      have hlen := newL_len (l.take k)
      rw [List.length_take, HL.out] at hlen
      have hp := push_i (w.heap.size + 1) 0 _ x _ hq hwx (by omega) (by omega)
      rw [← newL_take hx] at hp
      clear hcu hlen
      go_wp2_with fail
      refine hp.mono ?_
      rintro e w1 ⟨rfl, fp', hq1, hst⟩
      have hb1 := hb.trans (hst.below (fun i hi => hi) hb.size)
      have hq2 := hq1.mono (hst.low (B := w.heap.size) (fun i hi => hi) hb.size)
      clear hp hq1 hst
      go_wp2_with fail
      go_roundw
      case rel => exact ⟨k + 1, by omega, by go_num, hq2, hb1⟩
      case measure => simp [intOf]; omega
    · have hki : ¬ (k : Int) < (n : Int) := by omega
      have e : l.take k = l := List.take_of_length_le (by have := HL.out; omega)
      rw [e] at hq
      go_wp2_with fail
      go_ret
      exact ⟨rfl, hq, hb⟩
end Go.Proofs.Ytolnmdanlggmhaa
