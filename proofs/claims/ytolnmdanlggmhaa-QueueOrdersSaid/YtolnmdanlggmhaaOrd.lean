/- slices.Equal at numbers; the example of the chapter; the law QueueOrders, walked. -/
import Derived.Test.YtolnmdanlggmhaaRef
import Derived.ArgAppend
namespace Go.Proofs.Ytolnmdanlggmhaa
open Go.RowKit

/-- A slice of numbers that came in reads as a list of numbers. -/
theorem IsRow.ints {k : IntKind} {w : World} {a : Option Addr} {len cap : Nat} {zs : List Int} (h : IsRow k w a len cap zs) :
    ∃ l : List Int, l.length = len ∧ Rd w w.heap.size a len (l.map (Value.int k)) ∧ (∀ n ∈ l, (Lit.int k n).wf = true) ∧ len ≤ cap ∧ cap ≤ maxLen := by
  rcases h with ⟨rfl, rfl, rfl, rfl⟩ | ⟨x, rfl, hl, hm, hz, hc, hw⟩
  · exact ⟨[], rfl, Rd.nil _ _ _, by simp, Nat.le_refl _, by simp [maxLen]⟩
  · refine ⟨zs.take len, by rw [List.length_take]; omega, ⟨by simp; omega, fun j u hu => ?_⟩, fun n hn => hw n (List.mem_of_mem_take hn), hl, hm⟩
    rw [List.getElem?_map] at hu
    cases hz' : (zs.take len)[j]? with
    | none => rw [hz'] at hu; cases hu
    | some z =>
      rw [hz'] at hu
      simp only [Option.map_some, Option.some.injEq] at hu
      subst hu
      have hj : j < len := by have := (List.getElem?_eq_some_iff.1 hz').1; rw [List.length_take] at this; omega
      rw [List.getElem?_take, if_pos hj] at hz'
      have hcj := hc j (by omega)
      rw [List.getD_eq_getElem?_getD, hz'] at hcj
      refine ⟨x, rfl, ?_, hcj⟩
      have := World.block_lt_of_cell? _ _ hcj
      rwa [add_block] at this

theorem len_ne {α : Type} {xs ys : List α} (h : ¬ xs.length = ys.length) : ¬ xs = ys := fun e => h (by rw [e])

set_option maxRecDepth 100000 in
set_option maxHeartbeats 1000000 in
theorem equalI (A A' : Option Addr) (n c n' c' : Nat) (xs ys : List Int) (w : World) (B : Nat) (hx : Rd w B A n (ivs xs)) (hy : Rd w B A' n' (ivs ys)) (hn : n ≤ 9223372036854775807) (hn' : n' ≤ 9223372036854775807) :
    Calls Try.prog 17 #[.slice A n c, .slice A' n' c'] w fun e w' => e = .returned (.bool (decide (xs = ys))) ∧ ∃ k, w' = w.drewN k := by
  have hlx := hx.len; have hly := hy.len
  simp only [ivs_length] at hlx hly
  have HX := Lib.hid hlx; have HY := Lib.hid hly; clear hlx hly
  by_cases hl : n = n'
  · subst hl
    go_enter Try.func17, Try.ntmps17
    go_wp2_with fail
    go_loopw [5, 13] (fun _ i wr => ∃ k : Nat, k ≤ n ∧ i = .int .i64 k ∧ Hid (xs.take k = ys.take k) ∧ ∃ q, wr = w.drewN q) (fun _ i _ => n - (intOf i).toNat)
    case atStart => exact ⟨0, Nat.zero_le _, rfl, rfl, 0, rfl⟩
    case round =>
      obtain ⟨k, hk, rfl, ht, q, rfl⟩ := hrel
      by_cases hlt : k < n
      · obtain ⟨ax, ux, rfl, hbx, hux, hcx⟩ := hx.at hlt
        obtain ⟨ay, uy, rfl, hby, huy, hcy⟩ := hy.at hlt
        obtain ⟨bx, hbx2, rfl⟩ := ivs_get hux
        obtain ⟨by_, hby2, rfl⟩ := ivs_get huy
        have hkn : (k : Int) < (n : Int) := by omega
        go_wp2_with fail
        go_quiet (fail)
        go_wp2_with fail
        · have hne : (bx != by_) = true := by assumption
          go_ret
          refine ⟨ret_eq (congrArg Value.bool ?_), q + nq, World.drewN_drewN ..⟩
          refine (decide_eq_false fun e => ?_).symm
          rw [e, hby2] at hbx2
          injection hbx2 with hbx2
          rw [hbx2] at hne
          simp at hne
        · have heq : (bx != by_) = false := by assumption
          go_roundw
          case rel =>
            refine ⟨k + 1, by omega, by go_num, ?_, _, rfl⟩
            show _ = _
            have hb : bx = by_ := by
              rw [bne_eq_false_iff_eq] at heq
              exact heq
            rw [List.take_add_one, List.take_add_one, ht.out, hbx2, hby2, hb]
          case measure => simp [intOf]; omega
      · go_wp2
        go_ret
        refine ⟨ret_eq (congrArg Value.bool ?_), q, rfl⟩
        refine (decide_eq_true ?_).symm
        have h := ht.out
        rwa [List.take_of_length_le (by rw [HX.out]; omega), List.take_of_length_le (by rw [HY.out]; omega)] at h
  · have hne : ((n : Int) == (n' : Int)) = false := by rw [beq_eq_false_iff_ne]; omega
    have hne2 : ((n : Int) != (n' : Int)) = true := by rw [bne_iff_ne]; omega
    have hd : decide (xs = ys) = false := by rw [decide_eq_false]; exact len_ne (by rw [HX.out, HY.out]; exact hl)
    have Hd := Lib.hid hd; clear hd
    go_enter Try.func17, Try.ntmps17
    go_wp2
    go_ret
    exact ⟨ret_eq (congrArg Value.bool Hd.out.symm), 0, rfl⟩

/-- Equal at two values that read alike. -/
theorem equal_same {w : World} {v v' : Value} {xs ys : List Int} (hx : ISl w v xs) (hy : ISl w v' ys) (he : xs = ys) :
    Calls Try.prog 17 #[v, v'] w fun e w' => e = .returned (.bool true) ∧ ∃ k, w' = w.drewN k := by
  obtain ⟨A, c, rfl, h1, h2, hr⟩ := hx
  obtain ⟨A', c', rfl, h1', h2', hr'⟩ := hy
  unfold maxLen at h2 h2'
  exact (equalI A A' _ c _ c' xs ys w _ hr hr' (by omega) (by omega)).mono fun _ _ ⟨h, k⟩ => ⟨by rw [h, decide_eq_true he], k⟩

/-- A block of numbers just laid. -/
theorem rd_lit {w : World} (l : List Int) : Rd (w.alloc (.cells (ivs l).toArray 3)) (w.heap.size + 1) (some ⟨w.heap.size, 0, none⟩) l.length (ivs l) :=
  ⟨ivs_length l, fun j u hu => ⟨_, rfl, Nat.lt_succ_self _, by rw [addN]; exact blk_cell (heap_alloc_new w _) _ _ (by simpa using hu)⟩⟩

set_option maxRecDepth 100000 in
set_option maxHeartbeats 2000000 in
theorem alive17 (w : World) : Calls Try.prog 15 #[] w fun e w' => e = .returned (.bool true) ∧ Below w.heap.size w w' := by
  have hb0 : Below w.heap.size w (w.alloc (.cells (ivs [5, 6, 5]).toArray 3)) := (Below.refl _ _).alloc (Nat.le_refl _) _
  have hnew := new_i (some ⟨w.heap.size, 0, none⟩) 3 3 [5, 6, 5] (w.alloc (.cells (ivs [5, 6, 5]).toArray 3)) _ (rd_lit [5, 6, 5]) (by simp) (by decide) (by omega)
  have e : newL ([5, 6, 5] : List Int) = [5, 6] := by decide
  rw [e] at hnew
  go_enter Try.func15, Try.ntmps15
  go_wp2_with fail
  refine hnew.mono ?_
  rintro e w1 ⟨rfl, hq, hb⟩
  have hb1 := hb0.trans (hb.mono hb0.size)
  clear hnew hb hb0
  have hsz : w.heap.size ≤ (w.alloc (.cells (ivs [5, 6, 5]).toArray 3)).heap.size := by simp
  generalize (w.alloc (.cells (ivs [5, 6, 5]).toArray 3)).heap.size = B at hq hsz ⊢
  have hp := pop_i _ _ _ _ _ hq (by decide) (by simp)
  go_wp2_with fail
  refine hp.mono ?_
  rintro e w2 ⟨rfl, hq2, hst⟩
  have hb2 := hb1.trans (hst.below (B := w.heap.size) (fun i hi => Nat.le_trans hsz hi) hb1.size)
  clear hp hq hst hb1
  have hp := pop_i _ _ _ _ _ hq2 (by decide) (by simp)
  go_wp2_with fail
  refine hp.mono ?_
  rintro e w3 ⟨rfl, hq3, hst⟩
  have hb3 := hb2.trans (hst.below (B := w.heap.size) (fun i hi => Nat.le_trans hsz hi) hb2.size)
  clear hp hq2 hst hb2
  have hl := len_i _ _ _ _ hq3
  go_wp2_with fail
  refine hl.mono ?_
  rintro e w4 ⟨rfl, rfl⟩
  go_wp2_with fail
  go_ret
  exact ⟨rfl, hb3⟩

/-- A queue beside a row of the call's own. -/
structure Beside (B : Nat) (w : World) (fp : Nat → Prop) (b f : Nat) (xs : List Int) (got : Value) (m : Nat) (ys : List Int) : Prop where
  q : Qui w fp b f xs
  low : ∀ i, fp i → B ≤ i ∧ i < w.heap.size
  own : w.ownsRow B 3 1 got m (ivs ys)
  ng : ∀ g, got.ownBlock = some g → ¬ fp g

theorem Beside.step {B : Nat} {w w' : World} {fp : Nat → Prop} {b f f' : Nat} {xs xs' : List Int} {got : Value} {m : Nat} {ys : List Int} (h : Beside B w fp b f xs got m ys) (hq : Qui w' fp b f' xs') (hs : QStep fp fp w w') : Beside B w' fp b f' xs' got m ys :=
  ⟨hq, fun i hi => ⟨(h.low i hi).1, by have := (h.low i hi).2; have := hs.size; omega⟩, own_keep h.own fun g hg => hs.block g (own_blk h.own g hg).2 (h.ng g hg), h.ng⟩

theorem Beside.eqL {B : Nat} {w : World} {fp : Nat → Prop} {b f : Nat} {xs xs' : List Int} {got : Value} {m : Nat} {ys ys' : List Int} (h : Beside B w fp b f xs got m ys) (h1 : xs = xs') (h2 : ys = ys') : Beside B w fp b f xs' got m ys' := by
  subst h1; subst h2; exact h
theorem Beside.app {B : Nat} {w w' : World} {fp : Nat → Prop} {b f : Nat} {xs : List Int} {got got' : Value} {m : Nat} {ys ys' : List Int} {o : Obj} {m' : Nat} (h : Beside B w fp b f xs got m ys)
    (hown : w'.ownsRow B 3 1 got' m' (ivs ys')) (hg : (w.alloc o).grownBy w' got.ownBlock) (hat : got'.ownBlock = got.ownBlock ∨ got'.ownBlock = some (w.alloc o).heap.size) : Beside B w' fp b f xs got' m' ys' := by
  have hs := hg.size
  simp only [World.size_alloc] at hs
  refine ⟨h.q.keep fun i hi hlt => ?_, fun i hi => ⟨(h.low i hi).1, by have := (h.low i hi).2; omega⟩, hown, fun g hg' hf => ?_⟩
  · exact (hg.block i (by simp; omega) (fun e => h.ng i e.symm hi)).trans (Below.heap_alloc w o i hlt)
  · rcases hat with e | e
    · exact h.ng g (e ▸ hg') hf
    · rw [e] at hg'
      injection hg' with hg'
      have := (h.low g hf).2
      simp at hg'; omega

theorem newL_sub (l : List Int) : ∀ x ∈ newL l, x ∈ l := by
  suffices ∀ (l acc : List Int) (x : Int), x ∈ l.foldl addX acc → x ∈ acc ∨ x ∈ l by
    intro x hx
    rcases this l [] x hx with h | h
    · simp at h
    · exact h
  intro l
  induction l with
  | nil => intro acc x h; exact .inl h
  | cons y l ih =>
    intro acc x h
    rw [List.foldl_cons] at h
    rcases ih _ x h with h | h
    · by_cases hy : y ∈ acc
      · rw [addX_in hy] at h; exact .inl h
      · rw [addX_out hy] at h
        simp at h
        rcases h with h | h
        · exact .inl h
        · exact .inr (by simp [h])
    · exact .inr (by simp [h])

set_option maxRecDepth 100000 in
set_option maxHeartbeats 4000000 in
theorem law_orders (A : Option Addr) (n c : Nat) (z : List Int) (w : World) (w0 : IsRow .i64 w A n c z) (hsz : n * 8 ≤ 140737488351232) :
    Calls Try.prog 3 #[.slice A n c] w fun e w' => e = .returned (.bool true) ∧ Below w.heap.size w w' := by
  obtain ⟨i0, hi, hz0, hz1, hz2⟩ := info_parts infoQi
  obtain ⟨l, hl, hr, hwf, hnc, hcm⟩ := w0.ints
  have hnew := new_i A n c l w _ hr (Nat.le_refl _) hwf (by omega)
  have HL := Lib.hid hl; have HW := Lib.hid hwf; clear hl w0 hwf
  unfold maxLen at hcm
  have hn63 : n ≤ 9223372036854775807 := by omega
  clear hnc hcm
  go_enter Try.func3, Try.ntmps3
  go_wp2_with fail
  refine hnew.mono ?_
  rintro e w1 ⟨rfl, hq, hb⟩
  clear hnew
  by_cases hbig : n ≤ 200
  · have hbi : ¬ (200 : Int) < (n : Int) := by omega
    obtain ⟨L, hL⟩ : ∃ L, newL l = L := ⟨_, rfl⟩
    have hlen := newL_len l
    have HWL : Hid (∀ x ∈ L, (Lit.int .i64 x).wf = true) := fun x hx => HW.out x (newL_sub l x (hL ▸ hx))
    rw [hL] at hq hlen
    rw [HL.out] at hlen
    have HE := Lib.hid hL; clear hL
    obtain ⟨B, hB⟩ : ∃ B, w.heap.size = B := ⟨_, rfl⟩
    rw [hB] at hq hb hr ⊢
    have hbes : Beside B w1 (fun i => B ≤ i ∧ i < w1.heap.size) (B + 1) 0 (L.drop 0) (.slice none 0 0) 0 (L.take 0) := ⟨hq.tight, fun i hi => hi, World.ownsRow_nil _ _ _ _, fun g hg => by cases hg⟩
    clear hq
    go_wp2_with fail
    go_loopw [4, 24] (fun got i wr => ∃ (k q : Nat) (fp : Nat → Prop), k ≤ n + 1 ∧ i = .int .i64 k ∧ Hid ((L.take k).length = q) ∧ Beside B wr fp (B + 1) q (L.drop k) got q (L.take k) ∧ Below B w wr) (fun _ i _ => n + 1 - (intOf i).toNat)
    case atStart => exact ⟨0, 0, _, by omega, rfl, rfl, hbes, hb⟩
    case round =>
      obtain ⟨k, q, fp, hk, rfl, hq, hbes, hbw⟩ := hrel
      clear hb
      by_cases hlt : k < n + 1
      · have hki : (k : Int) < (n : Int) + 1 := by omega
        rcases hd : L.drop k with _ | ⟨y, ys⟩
        · rw [hd] at hbes
          have hkL : L.length ≤ k := by
            have := congrArg List.length hd
            simp at this; omega
          have hp := pop_nil_i _ _ _ hbes.q
          have hbes' := hbes.eqL (xs' := L.drop (k + 1)) (ys' := L.take (k + 1)) (by rw [List.drop_of_length_le (by omega)]) ((List.take_of_length_le hkL).trans (List.take_of_length_le (by omega)).symm)
          clear hbes
          go_wp2_with fail
          refine hp.mono ?_
          rintro e w2 ⟨rfl, rfl⟩
          go_wp2_with fail
          go_roundw
          case rel => exact ⟨k + 1, q, fp, by omega, by go_num, by show _ = _; rw [List.take_of_length_le (by omega)]; rw [← hq.out, List.take_of_length_le hkL], hbes', hbw⟩
          case measure => simp [intOf]; omega
        · rw [hd] at hbes
          have hkL : k < L.length := by
            have := congrArg List.length hd
            simp at this; omega
          have hy : L[k]? = some y := by
            have := congrArg (·[0]?) hd
            simpa using this
          have hys : L.drop (k + 1) = ys := by
            have := congrArg List.tail hd
            simpa using this
          have hqk : q = k := by rw [← hq.out, List.length_take]; omega
          subst hqk
          have hwy := HWL.out y (List.mem_of_getElem? hy)
          have hyl : ys.length ≤ 200 := by rw [← hys, List.length_drop]; omega
          have hp := pop_i _ _ _ _ _ hbes.q hwy (by omega)
          have HY := Lib.hid hy; have HYS := Lib.hid hys; clear hy hys
          go_wp2_with fail
          refine hp.mono ?_
          rintro e w2 ⟨rfl, hq2, hst⟩
          have hbes2 := hbes.step hq2 hst
          have hb2 := hbw.trans (hst.below (B := B) (fun i hi => (hbes.low i hi).1) (hB ▸ hbw.size))
          clear hp hbes hst hq2 hbw
          go_wp2_with (at_builtin; refine wpList_app _ rfl (.tmp 32) (.tmp 34) 22 rfl B 3 i0 _ 8 Try.underlying22 hi hz0 hz1 hz2 rfl _ _ _ rfl (hbes2.own.alloc _) (w2.heap.size + 1) (some ⟨w2.heap.size, 0, none⟩) 1 1 [.int .i64 y] rfl ⟨rfl, fun j u hj => ⟨_, rfl, Nat.lt_succ_self _, by rcases j with _ | j <;> simp at hj; subst hj; exact blk_cell (heap_alloc_new w2 _) 0 _ rfl⟩⟩ (by intro u hu; simp at hu; subst hu; rfl) (by unfold maxLen; omega) (by omega) (by simp; have := hb2.size; omega) ?_; intro v3 w3 hown3 hg3 hat3)
          have hown4 : w3.ownsRow B 3 1 v3 (q + 1) (ivs (L.take (q + 1))) := by
            rw [List.take_add_one, HY.out, ivs_append]; exact hown3
          have hbes3 := (hbes2.app hown4 hg3 hat3).eqL HYS.out.symm rfl
          have hb3 := (hb2.alloc (hB ▸ hb2.size) (.cells #[.int .i64 y] 3)).grown hg3 (by simp; have := hb2.size; omega) fun k hk => (hbes2.own.lt k hk).1
          go_roundw
          case rel => exact ⟨q + 1, q + 1, fp, by omega, by go_num, by show _ = _; rw [List.length_take]; omega, hbes3, hb3⟩
          case measure => simp [intOf]; omega
      · have hki : ¬ (k : Int) < (n : Int) + 1 := by omega
        have e1 : L.drop k = [] := List.drop_of_length_le (by omega)
        have e2 : L.take k = L := List.take_of_length_le (by omega)
        have hbes' := hbes.eqL e1 e2
        have hqL : L.length = q := by rw [← hq.out, e2]
        clear hbes e1 e2 hq
        go_wp2_with fail
        refine (alive17 _).mono ?_
        rintro e w2 ⟨rfl, hb2⟩
        have hq2 := hbes'.q.keep fun i _ hlt => hb2.block i hlt
        have hg2 := (ISl.of_own hbes'.own).below hb2
        have hr2 := hr.below (hbw.trans (hb2.mono (hB ▸ hbw.size)))
        have hbw2 := hbw.trans (hb2.mono (hB ▸ hbw.size))
        have hrn := refnew A n c l w2 _ hr2 (hB ▸ hbw2.size) (by omega)
        clear hbes' hbw hr hb2 hr2
        go_wp2_with fail
        refine hrn.mono ?_
        rintro e w3 ⟨v', rfl, hs3, hb3⟩
        have hq3 := hq2.keep fun i _ hlt => hb3.block i hlt
        have hg3 := hg2.below hb3
        have hbw3 := hbw2.trans (hb3.mono (hB ▸ hbw2.size))
        have heq := equal_same hg3 hs3 HE.out.symm
        clear hrn hq2 hg2 hbw2 hb3
        go_wp2_with fail
        refine heq.mono ?_
        rintro e _ ⟨rfl, k2, rfl⟩
        have hq4 := hq3.keep (w' := w3.drewN k2) fun i _ hlt => rfl
        have hln := len_i _ _ _ _ hq4
        clear heq hq3
        go_wp2_with fail
        refine hln.mono ?_
        rintro e w4 ⟨rfl, rfl⟩
        go_wp2_with fail
        go_ret
        exact ⟨rfl, hB ▸ bel_drewN hbw3 _⟩
  · have hbi : (200 : Int) < (n : Int) := by omega
    go_wp2_with fail
    refine (alive17 _).mono ?_
    rintro e w2 ⟨rfl, hb2⟩
    have hb3 := hb.trans (hb2.mono hb.size)
    go_wp2_with fail
    go_ret
    exact ⟨rfl, hb3⟩
end Go.Proofs.Ytolnmdanlggmhaa
