/- The law QueueWords, walked. -/
import Derived.Test.YtolnmdanlggmhaaOrd
import Derived.Test.YtolnmdanlggmhaaQs
namespace Go.Proofs.Ytolnmdanlggmhaa
open Go.RowKit

/-- A row of the call's own beside a queue's blocks. -/
structure Bes (B : Nat) (w : World) (fp : Nat → Prop) (got : Value) (m : Nat) (ys : List Int) : Prop where
  low : ∀ i, fp i → B ≤ i ∧ i < w.heap.size
  own : w.ownsRow B 3 1 got m (ivs ys)
  ng : ∀ g, got.ownBlock = some g → ¬ fp g

theorem Bes.step {B : Nat} {w w' : World} {fp fp' : Nat → Prop} {got : Value} {m : Nat} {ys : List Int} (h : Bes B w fp got m ys) (hB : B ≤ w.heap.size) (hs : QStep fp fp' w w') : Bes B w' (fun i => fp' i ∧ i < w'.heap.size) got m ys := by
  refine ⟨fun i hi => ⟨?_, hi.2⟩, own_keep h.own fun g hg => hs.block g (own_blk h.own g hg).2 (h.ng g hg), fun g hg hf => hs.off (own_blk h.own g hg).2 (h.ng g hg) hf.1⟩
  rcases hs.foot i hi.1 with h1 | h1
  · exact (h.low i h1).1
  · omega
theorem Bes.far {B : Nat} {w w' : World} {fp : Nat → Prop} {got : Value} {m : Nat} {ys : List Int} {o : Obj} (h : Bes B w fp got m ys) (hg : (w.alloc o).grownBy w' got.ownBlock) : ∀ i, fp i → i < w.heap.size → w'.heap[i]? = w.heap[i]? := fun i hi hlt =>
  (hg.block i (by simp; omega) (fun e => h.ng i e.symm hi)).trans (Below.heap_alloc w o i hlt)
theorem Bes.app {B : Nat} {w w' : World} {fp : Nat → Prop} {got got' : Value} {m : Nat} {ys ys' : List Int} {o : Obj} {m' : Nat} (h : Bes B w fp got m ys)
    (hown : w'.ownsRow B 3 1 got' m' (ivs ys')) (hg : (w.alloc o).grownBy w' got.ownBlock) (hat : got'.ownBlock = got.ownBlock ∨ got'.ownBlock = some (w.alloc o).heap.size) : Bes B w' fp got' m' ys' := by
  have hs := hg.size
  simp only [World.size_alloc] at hs
  refine ⟨fun i hi => ⟨(h.low i hi).1, by have := (h.low i hi).2; omega⟩, hown, fun g hg' hf => ?_⟩
  rcases hat with e | e
  · exact h.ng g (e ▸ hg') hf
  · rw [e] at hg'
    injection hg' with hg'
    have := (h.low g hf).2
    simp at hg'; omega
theorem Bes.alloc {B : Nat} {w : World} {fp : Nat → Prop} {got : Value} {m : Nat} {ys : List Int} (h : Bes B w fp got m ys) (o : Obj) : Bes B (w.alloc o) fp got m ys :=
  ⟨fun i hi => ⟨(h.low i hi).1, by have := (h.low i hi).2; simp; omega⟩, h.own.alloc _, h.ng⟩

theorem newL_map {α β : Type} [DecidableEq α] [DecidableEq β] (f : α → β) (inj : ∀ a b, f a = f b → a = b) (l : List α) : newL (l.map f) = (newL l).map f := by
  suffices ∀ (l acc : List α), (l.map f).foldl addX (acc.map f) = (l.foldl addX acc).map f by simpa [newL] using this l []
  intro l
  induction l with
  | nil => intro acc; rfl
  | cons y l ih =>
    intro acc
    rw [List.map_cons, List.foldl_cons, List.foldl_cons, ← ih]
    by_cases hy : y ∈ acc
    · rw [addX_in hy, addX_in (List.mem_map_of_mem hy)]
    · rw [addX_out hy, addX_out (by intro h; obtain ⟨z, hz, e⟩ := List.mem_map.1 h; exact hy (inj _ _ e ▸ hz)), List.map_append]; rfl

theorem newL_take_map {α β : Type} [DecidableEq β] (f : α → β) {l : List α} {k : Nat} {x : α} (h : l[k]? = some x) : newL ((l.take (k + 1)).map f) = addX (newL ((l.take k).map f)) (f x) := by
  have h2 : (l.map f)[k]? = some (f x) := by rw [List.getElem?_map, h]; rfl
  have := newL_take h2
  rwa [← List.map_take, ← List.map_take] at this

def wordOf (b : UInt8) : List UInt8 := [b]
def numOf (b : UInt8) : Int := b.toNat
theorem wordOf_inj : ∀ a b, wordOf a = wordOf b → a = b := fun a b h => by simpa [wordOf] using h
theorem numOf_inj : ∀ a b, numOf a = numOf b → a = b := fun a b h => by
  unfold numOf at h
  exact UInt8.toNat_inj.1 (by omega)

set_option maxRecDepth 100000 in
set_option maxHeartbeats 4000000 in
theorem law_words (A : Option Addr) (n c : Nat) (z : List Int) (w : World) (w0 : IsRow .u8 w A n c z) :
    Calls Try.prog 4 #[.slice A n c] w fun e w' => e = .returned (.bool true) ∧ Below w.heap.size w w' := by
  obtain ⟨i0, hi, hz0, hz1, hz2⟩ := info_parts infoQi
  obtain ⟨bs, hl, hr, hnc, hcm⟩ := w0.bytes
  have HL := Lib.hid hl; clear hl w0
  unfold maxLen at hcm
  have hn63 : n ≤ 9223372036854775807 := by omega
  clear hnc hcm
  by_cases hbig : n ≤ 200
  · have hbi : ¬ (200 : Int) < (n : Int) := by omega
    have hnew := new_s none 0 0 [] w w.heap.size (Rd.nil _ _ _) (Nat.le_refl _) (by simp) (by omega)
    obtain ⟨B, hB⟩ : ∃ B, w.heap.size = B := ⟨_, rfl⟩
    rw [hB] at hr hnew ⊢
    go_enter Try.func4, Try.ntmps4
    go_wp2_with fail
    refine hnew.mono ?_
    rintro e w1 ⟨rfl, hq, hb⟩
    clear hnew
    have hq0 : Qus w1 (fun i => B ≤ i ∧ i < w1.heap.size) (B + 1) 0 (newL ((bs.take 0).map wordOf)) := hq.tight
    have hbes : Bes B w1 (fun i => B ≤ i ∧ i < w1.heap.size) (.slice none 0 0) 0 ((bs.take 0).map numOf) := ⟨fun i hi => hi, World.ownsRow_nil _ _ _ _, fun g hg => by cases hg⟩
    clear hq
    go_wp2_with fail
    go_loopw [4, 17] (fun got i wr => ∃ (k : Nat) (fp : Nat → Prop), k ≤ n ∧ i = .int .i64 k ∧ Qus wr fp (B + 1) 0 (newL ((bs.take k).map wordOf)) ∧ Bes B wr fp got k ((bs.take k).map numOf) ∧ Below B w wr) (fun _ i _ => n - (intOf i).toNat)
    case atStart => exact ⟨0, _, Nat.zero_le _, rfl, hq0, hbes, hb⟩
    case round =>
      obtain ⟨k, fp, hk, rfl, hq, hbes, hbw⟩ := hrel
      clear hb
      by_cases hlt : k < n
      · have hki : (k : Int) < (n : Int) := by omega
        obtain ⟨ad, u, rfl, _, hu, hcu⟩ := (hr.below hbw).at hlt
        obtain ⟨b, hb8, rfl⟩ := bvs_get hu
        have hcb : wr.cell? (ad.add k) = some (.int .u8 b.toNat) := hcu
        have hbl := b.toNat_lt
        clear hcu
        go_wp2_with (at_builtin; refine wpList_app _ rfl (.tmp 21) (.tmp 24) 22 rfl B 3 i0 _ 8 Try.underlying22 hi hz0 hz1 hz2 rfl _ _ _ rfl (hbes.own.alloc _) (wr.heap.size + 1) (some ⟨wr.heap.size, 0, none⟩) 1 1 [.int .i64 b.toNat] rfl ⟨rfl, fun j u hj => ⟨_, rfl, Nat.lt_succ_self _, by rcases j with _ | j <;> simp at hj; subst hj; exact blk_cell (heap_alloc_new wr _) 0 _ rfl⟩⟩ (by intro u hu; simp at hu; subst hu; rfl) (by unfold maxLen; omega) (by omega) (by simp; have := hbw.size; omega) ?_; intro v3 w3 hown3 hg3 hat3; have kc := run_str (P := Try.prog) (w := w3.alloc (.cells #[.int .u8 b.toNat] 5)) (B := w3.heap.size + 1) (A := some ⟨w3.heap.size, 0, none⟩) (n := 1) (c := 1) (bs := [b]) 32 9 5 Try.underlying32 Try.underlying5 Try.underlying9 ⟨rfl, fun j u hj => ⟨_, rfl, Nat.lt_succ_self _, by rcases j with _ | j <;> simp [bvs] at hj; subst hj; exact blk_cell (heap_alloc_new w3 _) 0 _ rfl⟩⟩)
        have hown4 : w3.ownsRow B 3 1 v3 (k + 1) (ivs ((bs.take (k + 1)).map numOf)) := by
          rw [List.take_add_one, hb8, List.map_append, ivs_append]; exact hown3
        have hq4 := (hq.keep (hbes.far hg3)).keep (w' := w3.alloc (.cells #[.int .u8 b.toNat] 5)) fun i _ hlt => Below.heap_alloc w3 _ i hlt
        have hbes4 := (hbes.app hown4 hg3 hat3).alloc (.cells #[.int .u8 b.toNat] 5)
        have hBw : B ≤ wr.heap.size := hB ▸ hbw.size
        have hg3s := hg3.size
        simp only [World.size_alloc] at hg3s
        have hb4 := ((hbw.alloc hBw (.cells #[.int .i64 b.toNat] 3)).grown hg3 (by simp; omega) fun k hk => (hbes.own.lt k hk).1).alloc (by omega) (.cells #[.int .u8 b.toNat] 5)
        have hlen := newL_len ((bs.take k).map wordOf)
        rw [List.length_map, List.length_take, HL.out] at hlen
        have hp := push_s _ _ _ (wordOf b) _ hq4 (by simp [wordOf, maxLen]) (by omega) (by omega)
        rw [← newL_take_map wordOf hb8] at hp
        clear hq hbes hbw hq4 hlen kc hown3 hg3 hat3
        refine hp.mono ?_
        rintro e w5 ⟨rfl, fp', hq5, hst⟩
        have hbes5 := hbes4.step (by simp; omega) hst
        have hq6 := hq5.tight
        have hb5 := hb4.trans (hst.below (fun i hi => (hbes4.low i hi).1) (by simp; omega))
        clear hp hbes4 hq5 hst hb4
        go_wp2_with fail
        go_roundw
        case rel => exact ⟨k + 1, _, by omega, by go_num, hq6, hbes5, hb5⟩
        case measure => simp [intOf]; omega
      · have hki : ¬ (k : Int) < (n : Int) := by omega
        have e : bs.take k = bs := List.take_of_length_le (by have := HL.out; omega)
        rw [e] at hq hbes
        have hkn : k = n := by omega
        subst hkn
        obtain ⟨L, hL⟩ : ∃ L, newL bs = L := ⟨_, rfl⟩
        have hLl := newL_len bs
        rw [hL, HL.out] at hLl
        rw [newL_map wordOf wordOf_inj, hL] at hq
        have HE := Lib.hid hL; clear hL e
        have hlist := list_s _ _ _ _ _ hq rfl (by rw [List.length_map]; omega)
        rw [List.length_map] at hlist
        go_wp2_with fail
        refine hlist.mono ?_
        rintro e w2 ⟨vl, rfl, hown, hb2⟩
        have hnum := (ISl.of_own hbes.own).below hb2
        have hb3 := hbw.trans (hb2.mono (hB ▸ hbw.size))
        obtain ⟨A2, c2, rfl, hA2, hc2⟩ := own_slice hown
        have hr2 := Rd.of_own hown
        obtain ⟨m, hm⟩ : ∃ m, L.length = m := ⟨_, rfl⟩
        rw [hm] at hr2 hLl
        have HM := Lib.hid hm
        rw [hm]
        clear hlist hq hbes hbw hb2 hown hm hA2 hc2
        go_wp2_with fail
        go_loopw [7, 35] (fun got i wr => ∃ q : Nat, q ≤ m ∧ i = .int .i64 q ∧ wr.ownsRow w2.heap.size 3 1 got q (ivs ((L.take q).map numOf)) ∧ Below w2.heap.size w2 wr) (fun _ i _ => m - (intOf i).toNat)
        case atStart => exact ⟨0, Nat.zero_le _, rfl, World.ownsRow_nil _ _ _ _, Below.refl _ _⟩
        case round =>
          obtain ⟨q, hq, rfl, hown, hbw⟩ := hrel
          by_cases hqm : q < m
          · have hqi : (q : Int) < (m : Int) := by omega
            obtain ⟨ad, u, rfl, _, hu, hcu⟩ := (hr2.below hbw).at hqm
            rw [List.getElem?_map, List.getElem?_map, Option.map_map, Option.map_eq_some_iff] at hu
            obtain ⟨b, hb8, rfl⟩ := hu
            have hcb : wr.cell? (ad.add q) = some (.string ⟨#[b]⟩) := hcu
            have hbl := b.toNat_lt
            have hidx : ∀ h : 0 < (⟨#[b]⟩ : ByteArray).size, (⟨#[b]⟩ : ByteArray)[0]'h = b := fun _ => rfl
            clear hcu
            go_wp2_with (at_builtin; refine wpList_app _ rfl (.tmp 42) (.tmp 46) 22 rfl w2.heap.size 3 i0 _ 8 Try.underlying22 hi hz0 hz1 hz2 rfl _ _ _ rfl (hown.alloc _) (wr.heap.size + 1) (some ⟨wr.heap.size, 0, none⟩) 1 1 [.int .i64 b.toNat] rfl ⟨rfl, fun j u hj => ⟨_, rfl, Nat.lt_succ_self _, by rcases j with _ | j <;> simp at hj; subst hj; exact blk_cell (heap_alloc_new wr _) 0 _ rfl⟩⟩ (by intro u hu; simp at hu; subst hu; rfl) (by unfold maxLen; omega) (by omega) (by simp; have := hbw.size; omega) ?_; intro v4 w4 hown4 hg4 hat4)
            have hown5 : w4.ownsRow w2.heap.size 3 1 v4 (q + 1) (ivs ((L.take (q + 1)).map numOf)) := by
              rw [List.take_add_one, hb8, List.map_append, ivs_append]; exact hown4
            have hb4 := (hbw.alloc hbw.size (.cells #[.int .i64 b.toNat] 3)).grown hg4 (by simp; have := hbw.size; omega) fun k hk => (hown.lt k hk).1
            go_roundw
            case rel => exact ⟨q + 1, by omega, by go_num, hown5, hb4⟩
            case measure => simp [intOf]; omega
          · have hqi : ¬ (q : Int) < (m : Int) := by omega
            have e : L.take q = L := List.take_of_length_le (by have := HM.out; omega)
            rw [e] at hown
            go_wp2_with fail
            refine (alive17 _).mono ?_
            rintro e w3 ⟨rfl, hb4⟩
            have hown' := (ISl.of_own hown).below hb4
            have hnum' := (hnum.below hbw).below hb4
            have hb5 := hb3.trans ((hbw.trans (hb4.mono hbw.size)).mono (hB ▸ hb3.size))
            obtain ⟨A5, c5, e5, h51, h52, hr5⟩ := hnum'
            rw [List.length_map, HL.out] at e5 h51 hr5
            subst e5
            have hrn := refnew _ _ c5 _ _ _ hr5 (Nat.le_refl _) (by omega)
            rw [newL_map numOf numOf_inj, HE.out] at hrn
            clear hown hbw hb4 hr5 h51 h52
            go_wp2_with fail
            refine hrn.mono ?_
            rintro e w5 ⟨v', rfl, hs5, hb6⟩
            have heq := equal_same (hown'.below hb6) hs5 rfl
            have hb7 := hb5.trans (hb6.mono (hB ▸ hb5.size))
            clear hrn hown' hb6
            go_wp2_with fail
            refine heq.mono ?_
            rintro e _ ⟨rfl, k2, rfl⟩
            go_wp2_with fail
            go_ret
            exact ⟨rfl, bel_drewN hb7 _⟩
  · have hbi : (200 : Int) < (n : Int) := by omega
    go_enter Try.func4, Try.ntmps4
    go_wp2_with fail
    refine (alive17 _).mono ?_
    rintro e w2 ⟨rfl, hb2⟩
    go_wp2_with fail
    go_ret
    exact ⟨rfl, hb2⟩
end Go.Proofs.Ytolnmdanlggmhaa
