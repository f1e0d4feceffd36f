/- The queue's functions, for elements of type string. -/
import Derived.Test.YtolnmdanlggmhaaProg
import Derived.Test.YtolnmdanlggmhaaQq2
import Derived.LoopTactic
import Derived.IntWalk
import Derived.Deep.QuietTactic
import Derived.Deep.RegionLaw
import Derived.BigQuiet
import Derived.BigRegion
import Derived.Outline
namespace Go.Proofs.Ytolnmdanlggmhaa
open Go.RowKit Go.Maps

theorem keyeds : Keyed Try.prog 9 := string_keyed Try.underlying9
theorem zeroIs (w : World) : (zeroValue 3).run Try.prog w = .ok (.int .i64 0) w := by kernel_rfl
theorem infoQs : (Try.prog.info? 9).map (fun i => (i.zero, i.size, i.bytes)) = some (some (.string ByteArray.empty), 1, 16) := by kernel_rfl

/-- A queue, in the world w, at block b. -/
def Qus (w : World) (fp : Nat → Prop) (b f : Nat) (xs : List (List UInt8)) : Prop :=
  ∃ v bm D, QOf strV strL Try.prog 9 3 w fp b f xs v bm D 86

set_option maxRecDepth 100000 in
set_option maxHeartbeats 1000000 in
theorem place_s {fp : Nat → Prop} (b f : Nat) (xs : List (List UInt8)) (x : List UInt8) (w : World) (h : Qus w fp b f xs) (hx : x.length ≤ maxLen) (hf : f + xs.length ≤ 1152921504606846976) :
    Calls Try.prog 74 #[.pointer (some ⟨b, 0, none⟩), .string ⟨x.toArray⟩] w fun e w' => e = .returned (.int .i64 (placeOf xs x)) ∧ w' = w := by
  obtain ⟨v, bm, D, h⟩ := h
  have hkey := WideMaps.keyOf_string_mk Try.underlying9 (show x.toArray.size ≤ maxLen by simpa using hx)
  have c1 := h.cell1
  have c2 := h.cell2
  have hown := h.own
  by_cases hm : x ∈ xs
  · have h1 : Maps.has D (Lit.string x) = true := (h.has x).2 hm
    obtain ⟨i, hp, h3, hi⟩ := idx_lt hm
    have h2 : D.atKey (Lit.string x) (.lit (.int .i64 0)) = .lit (.int .i64 ((f + i : Nat) : Int)) := h.atk i x hi
    rw [hp]
    have hc : ∀ c : Int, D.atKey (Lit.string x) (.lit (.int .i64 0)) = .lit (.int .i64 c) → c = (f : Int) + i := fun c hat => by
      rw [h2] at hat
      injection hat with hat
      injection hat with _ hat
      omega
    have hsub : (f : Int) + i - f = i := by omega
    have hi0 : (i : Int) < 1152921504606846976 := by omega
    clear h h2 hp hm hi
    go_enter Try.func74, Try.ntmps74
    go_wp2_with (first | (at_lookup; refine wpList_lookup_own_ok_int _ rfl _ _ 84 rfl 9 3 .i64 keyeds Try.underlying84 Try.underlying3 (zeroIs _) bm _ D rfl hown _ _ rfl hkey ?_; intro c hat hwc; have hce := hc c hat; subst hce; clear hc hat) | fail)
    go_ret
    exact ⟨rfl, rfl⟩
  · have h1 : Maps.has D (Lit.string x) = false := by
      cases e : Maps.has D (Lit.string x) with
      | false => rfl
      | true => exact absurd ((h.has x).1 e) hm
    have hp : placeOf xs x = -1 := placeOf_out hm
    rw [hp]
    clear h hp hm
    go_enter Try.func74, Try.ntmps74
    go_wp2_with (first | (at_lookup; refine wpList_lookup_own_ok_int _ rfl _ _ 84 rfl 9 3 .i64 keyeds Try.underlying84 Try.underlying3 (zeroIs _) bm _ D rfl hown _ _ rfl hkey ?_; intro c hat hwc) | fail)
    go_ret
    exact ⟨rfl, rfl⟩

set_option maxRecDepth 100000 in
set_option maxHeartbeats 1000000 in
theorem has_s {fp : Nat → Prop} (b f : Nat) (xs : List (List UInt8)) (x : List UInt8) (w : World) (h : Qus w fp b f xs) (hx : x.length ≤ maxLen) (hf : f + xs.length ≤ 1152921504606846976) :
    Calls Try.prog 62 #[.pointer (some ⟨b, 0, none⟩), .string ⟨x.toArray⟩] w fun e w' => e = .returned (.bool (memB x xs)) ∧ w' = w := by
  have hc := place_s b f xs x w h hx hf
  have hd := placeOf_ge xs x
  obtain ⟨t, ht⟩ : ∃ t, memB x xs = t := ⟨_, rfl⟩
  obtain ⟨p, hp⟩ : ∃ p, placeOf xs x = p := ⟨_, rfl⟩
  rw [ht] at hd ⊢
  rw [hp] at hc hd
  clear ht hp h
  go_enter Try.func62, Try.ntmps62
  go_wp2_with fail
  refine hc.mono ?_
  rintro e w1 ⟨rfl, rfl⟩
  go_wp2_with fail
  go_ret
  exact ⟨rfl, rfl⟩

set_option maxRecDepth 100000 in
set_option maxHeartbeats 1000000 in
theorem push_s {fp : Nat → Prop} (b f : Nat) (xs : List (List UInt8)) (x : List UInt8) (w : World) (h : Qus w fp b f xs) (hx : x.length ≤ maxLen) (hf : f + xs.length ≤ 1152921504606846975) (hb : (xs.length + 1) * 16 ≤ 140737488355328) :
    Calls Try.prog 21 #[.pointer (some ⟨b, 0, none⟩), .string ⟨x.toArray⟩] w fun e w' => e = .returned (.bool (!memB x xs)) ∧
      ∃ fp', Qus w' fp' b f (addX xs x) ∧ QStep fp fp' w w' := by
  have hhas := has_s b f xs x w h hx (by omega)
  obtain ⟨i0, hi, hz0, hz1, hz2⟩ := info_parts infoQs
  by_cases hm : x ∈ xs
  · rw [memB_in hm] at hhas
    rw [addX_in hm, memB_in hm]
    have h := Lib.hid h
    go_enter Try.func21, Try.ntmps21
    go_wp2_with fail
    refine hhas.mono ?_
    rintro e w1 ⟨rfl, rfl⟩
    go_wp2_with fail
    go_ret
    exact ⟨rfl, fp, h.out, QStep.refl _ _⟩
  · rw [memB_out hm] at hhas
    rw [addX_out hm, memB_out hm]
    obtain ⟨v, bm, D, h⟩ := h
    have c0 := h.cell0
    have c1 := h.cell1
    have c2 := h.cell2
    obtain ⟨A, c, rfl, hc1, hc2⟩ := h.row.slice
    have hlm : (xs.map strV).length = xs.length := List.length_map ..
    rw [hlm] at c0 h
    have hkey := WideMaps.keyOf_string_mk Try.underlying9 (show x.toArray.size ≤ maxLen by simpa using hx)
    have hms : Maps.size D < maxLen := by rw [h.size]; unfold maxLen; omega
    obtain ⟨w1, hrun, hown1, hg1⟩ := (h.own.drew).update keyeds Try.underlying84 hms hkey (plainElem_int Try.underlying3 (int_wf (x := (f : Int) + xs.length) (by omega) (by omega)))
    have hown2 : w1.ownsMap Try.prog 9 (plainElem Try.prog 3) bm (Maps.size D + 1) (D.put (strL x) (.lit (.int .i64 ((f + xs.length : Nat) : Int)))) := by rw [Int.natCast_add]; exact hown1
    have hg2 : w.grownBy w1 (some bm) := ⟨hg1.os, hg1.tape, hg1.output, hg1.size, hg1.block⟩
    have hb1 : w1.heap[b]? = some (.cells #[.slice A xs.length c, .int .i64 f, .map (some bm)] 86 (0, 0)) :=
      (hg1.block b h.blt (fun e => h.mne (by injection e with e; exact e.symm))).trans h.box
    have d0 := blk_cell hb1 0 _ rfl
    have hrow1 : QRow (w1.alloc (.cells #[.string ⟨x.toArray⟩] 9)) (.slice A xs.length c) (xs.map strV) := by
      exact (h.row.keep fun g hg => hg1.block g (h.row.lt g hg) (fun e => h.mng g hg (by injection e))).keep fun g hg => Below.heap_alloc w1 _ g (Nat.lt_of_lt_of_le (h.row.lt g hg) hg1.size)
    have hx0 : (f : Int) + xs.length ≤ 1152921504606846975 := by omega
    have hb3 : ∀ w3, (w1.alloc (.cells #[.string ⟨x.toArray⟩] 9)).grownBy w3 (Value.slice A xs.length c).ownBlock → w3.heap[b]? = some (.cells #[.slice A xs.length c, .int .i64 f, .map (some bm)] 86 (0, 0)) := fun w3 hg3 =>
      (hg3.block b (by simp only [World.size_alloc]; exact Nat.lt_of_lt_of_le h.blt (Nat.le_succ_of_le hg1.size)) (fun e => h.ng b e.symm rfl)).trans ((Below.heap_alloc w1 _ b (Nat.lt_of_lt_of_le h.blt hg1.size)).trans hb1)
    have H := Lib.hid h; clear h
    go_enter Try.func21, Try.ntmps21
    go_wp2_with fail
    refine hhas.mono ?_
    rintro e w2 ⟨rfl, rfl⟩
    go_wp2_with fail
    go_region
    go_wp2_with (first | (at_builtin; refine wpList_append_q _ rfl (.tmp 31) (.tmp 33) 36 rfl 9 i0 _ 16 Try.underlying36 hi hz0 hz1 hz2 rfl _ _ rfl hrow1 _ _ (.string ⟨x.toArray⟩) rfl (by simp) rfl (by simp; unfold maxLen; omega) (by simp; omega) ?_; intro v' w3 hrow3 hg3 hn3; have hbox := hb3 w3 hg3; have k0 := blk_cell hbox 0 _ rfl; have l0 := blk_frozen hbox 0; obtain ⟨A', c', hv', _, _⟩ := hrow3.slice; simp only [List.length_append, List.length_map, List.length_singleton] at hv'; subst hv') | fail)
    go_ret
    have r := H.out.push keyeds strL_inj (x := x) hm trivial hown2 hg2 (w2 := w1.alloc (.cells #[.string ⟨x.toArray⟩] 9)) (by simp) (fun i hi => Below.heap_alloc w1 _ i hi) ⟨rfl, rfl, rfl⟩ hrow3 hg3 hn3
    exact ⟨rfl, _, ⟨_, _, _, r.1⟩, r.2⟩

theorem Qus.mono {w : World} {fp fp' : Nat → Prop} {b f : Nat} {xs : List (List UInt8)} (h : Qus w fp b f xs) (hf : ∀ i, fp i → fp' i) : Qus w fp' b f xs := by
  obtain ⟨v, bm, D, h⟩ := h
  exact ⟨v, bm, D, h.mono hf⟩
theorem Qus.tight {w : World} {fp : Nat → Prop} {b f : Nat} {xs : List (List UInt8)} (h : Qus w fp b f xs) : Qus w (fun i => fp i ∧ i < w.heap.size) b f xs := by
  obtain ⟨v, bm, D, h⟩ := h
  exact ⟨v, bm, D, { h with fb := ⟨h.fb, h.blt⟩, fm := ⟨h.fm, h.own.lt⟩, fg := fun g hg => ⟨h.fg g hg, h.row.lt g hg⟩ }⟩
theorem Qus.keep {w w' : World} {fp : Nat → Prop} {b f : Nat} {xs : List (List UInt8)} (h : Qus w fp b f xs) (hk : ∀ i, fp i → i < w.heap.size → w'.heap[i]? = w.heap[i]?) : Qus w' fp b f xs := by
  obtain ⟨v, bm, D, h⟩ := h
  exact ⟨v, bm, D, h.keep hk⟩

set_option maxRecDepth 100000 in
set_option maxHeartbeats 1000000 in
theorem list_s {fp : Nat → Prop} (b f : Nat) (xs : List (List UInt8)) (n : Nat) (w : World) (h : Qus w fp b f xs) (hn : xs.length = n) (hb : n * 16 ≤ 140737488355328) :
    Calls Try.prog 22 #[.pointer (some ⟨b, 0, none⟩)] w fun e w' => ∃ v, e = .returned v ∧ w'.ownsRow w.heap.size 9 1 v n (xs.map strV) ∧ Below w.heap.size w w' := by
  obtain ⟨i0, hi, hz0, hz1, hz2⟩ := info_parts infoQs
  obtain ⟨v, bm, D, h⟩ := h
  have c0 := h.cell0
  obtain ⟨A, c, rfl, h1, h2⟩ := h.row.slice
  have hlm : (xs.map strV).length = n := by rw [List.length_map]; exact hn
  rw [hlm] at c0 h
  have hr := h.row.rd
  have hblt := h.blt
  have hone : ∀ u ∈ xs.map strV, u.oneCell' = true := by
    intro u hu
    obtain ⟨x, _, rfl⟩ := List.mem_map.1 hu
    rfl
  have hown := World.ownsRow_lit (e := 9) (size := 1) (base := w.heap.size) w #[] 0 (Nat.le_refl _) (by simp [maxLen]) (by simp)
  have hr1 := hr.alloc (Nat.le_refl _) (.cells #[] 9)
  clear h h1 h2 hn hlm
  go_enter Try.func22, Try.ntmps22
  go_wp2_with (at_builtin; refine wpList_app _ rfl (.tmp 5) (.tmp 9) 36 rfl w.heap.size 9 i0 _ 16 Try.underlying36 hi hz0 hz1 hz2 rfl _ _ _ rfl hown w.heap.size _ _ _ _ rfl hr1 hone (by unfold maxLen; omega) (by omega) (by simp) ?_; intro v' w2 hown2 hg2 hat2)
  have hb2 : Below w.heap.size w w2 := ((Below.refl _ _).alloc (Nat.le_refl _) _).grown hg2 (by simp) fun k hk => (hown.lt k hk).1
  have hown2' : w2.ownsRow w.heap.size 9 1 v' n (xs.map strV) := by simpa using hown2
  go_ret
  exact ⟨v', rfl, hown2', hb2⟩


theorem qu_mades (w : World) : Qus ((w.alloc (.map #[] 0)).alloc (.cells #[.slice none 0 0, .int .i64 0, .map (some w.heap.size)] 86)) (fun i => w.heap.size ≤ i) (w.heap.size + 1) 0 [] := by
  have hown := (World.ownsMap_made (H := Unit) w Try.prog 9 (plainElem Try.prog 3)).alloc (.cells #[.slice none 0 0, .int .i64 0, .map (some w.heap.size)] 86)
  have hh := heap_alloc_new (w.alloc (.map #[] 0)) (.cells #[.slice none 0 0, .int .i64 0, .map (some w.heap.size)] 86)
  rw [World.size_alloc] at hh
  refine ⟨.slice none 0 0, w.heap.size, .map [], ?_⟩
  exact { box := hh, row := QRow.nil _, own := hown, size := rfl, has := fun x => by simp [Maps.has_eq], atk := fun i x hi => by simp at hi, nodup := List.nodup_nil, fb := Nat.le_succ _, fm := Nat.le_refl _, fg := fun g hg => (by cases hg), ng := fun g hg => (by cases hg) }

set_option maxRecDepth 100000 in
set_option maxHeartbeats 2000000 in
theorem new_s (A : Option Addr) (n c : Nat) (l : List (List UInt8)) (w : World) (B : Nat) (hr : Rd w B A n (l.map strV)) (hB : B ≤ w.heap.size) (hw : ∀ x ∈ l, x.length ≤ maxLen) (hn : n * 16 ≤ 140737488355328) :
    Calls Try.prog 20 #[.slice A n c] w fun e w' => e = .returned (.pointer (some ⟨w.heap.size + 1, 0, none⟩)) ∧ Qus w' (fun i => w.heap.size ≤ i) (w.heap.size + 1) 0 (newL l) ∧ Below w.heap.size w w' := by
  have hl : l.length = n := by simpa using hr.len
  have HL := Lib.hid hl; clear hl
  have hmm := @run_makeMap Try.prog
  have hq0 := qu_mades w
  have hb0 : Below w.heap.size w ((w.alloc (.map #[] 0)).alloc (.cells #[.slice none 0 0, .int .i64 0, .map (some w.heap.size)] 86)) := ((Below.refl _ _).alloc (Nat.le_refl _) _).alloc (by simp) _
  go_enter Try.func20, Try.ntmps20
  go_wp2_with fail
  go_loopw [5, 11] (fun _ i wr => ∃ k : Nat, k ≤ n ∧ i = .int .i64 k ∧ Qus wr (fun i => w.heap.size ≤ i) (w.heap.size + 1) 0 (newL (l.take k)) ∧ Below w.heap.size w wr) (fun _ i _ => n - (intOf i).toNat)
  case atStart => exact ⟨0, Nat.zero_le _, rfl, hq0, hb0⟩
  case round =>
    obtain ⟨k, hk, rfl, hq, hb⟩ := hrel
    by_cases hlt : k < n
    · have hki : (k : Int) < (n : Int) := by omega
      obtain ⟨ad, u, rfl, _, hu, hcu⟩ := (hr.below (hb.mono hB)).at hlt
      rw [List.getElem?_map, Option.map_eq_some_iff] at hu
      obtain ⟨x, hx, rfl⟩ := hu
      have hwx := hw x (List.mem_of_getElem? hx)
      have hcx : _ = some (.string ⟨x.toArray⟩ : Value) := hcu
      have hlen := newL_len (l.take k)
      rw [List.length_take, HL.out] at hlen
      have hp := push_s (w.heap.size + 1) 0 _ x _ hq hwx (by omega) (by omega)
      rw [← newL_take hx] at hp
      clear hcu hlen
      go_wp2_with fail
      refine hp.mono ?_
      rintro e w1 ⟨rfl, fp', hq1, hst⟩
      have hb1 := hb.trans (hst.below (fun i hi => hi) hb.size)
      have hq2 := hq1.mono (hst.low (B := w.heap.size) (fun i hi => hi) hb.size)
      clear hp hq1 hst
      go_wp2_with fail
      go_roundw
      case rel => exact ⟨k + 1, by omega, by go_num, hq2, hb1⟩
      case measure => simp [intOf]; omega
    · have hki : ¬ (k : Int) < (n : Int) := by omega
      have e : l.take k = l := List.take_of_length_le (by have := HL.out; omega)
      rw [e] at hq
      go_wp2_with fail
      go_ret
      exact ⟨rfl, hq, hb⟩
end Go.Proofs.Ytolnmdanlggmhaa
