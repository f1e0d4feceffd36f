/- The law BinInverse, walked. -/
import Derived.Test.YtmhjkghmpdnhaaaLKeeps
import Derived.OpenShut
import Derived.Deep.RegionHeld3
import Derived.Deep.RegionWith
import Derived.Test.YtmhjkghmpdnhaaaConcat
namespace Go.Proofs.Ytmhjkghmpdnhaaa
open Go.RowKit Go.OpenShut

/-- All that is written, one after the other. -/
def five (x n y : Nat) (bs : List UInt8) : List UInt8 := leb x ++ (leb n ++ (bs ++ (leb y ++ (leb n ++ (bs ++ bs)))))

theorem cat_five {w : World} {A1 A2 A3 A4 A : Option Addr} {c1 c2 c3 c4 c n X Y : Nat} {bs : List UInt8}
    (h1 : Rd w w.heap.size A1 (leb X).length (bvs (leb X))) (h2 : Rd w w.heap.size A2 ((leb n).length + n) (bvs (leb n ++ bs))) (h3 : Rd w w.heap.size A3 (leb Y).length (bvs (leb Y)))
    (h4 : Rd w w.heap.size A4 ((leb n).length + n) (bvs (leb n ++ bs))) (h5 : Rd w w.heap.size A n (bvs bs)) (hlen : (leb X).length + (leb Y).length + 2 * (leb n).length + 3 * n ≤ 1000000) :
    Calls Try.prog 31 #[.slice (some ⟨w.heap.size, 0, none⟩) 5 5] (w.alloc (.cells #[.slice A1 (leb X).length c1, .slice A2 ((leb n).length + n) c2, .slice A3 (leb Y).length c3, .slice A4 ((leb n).length + n) c4, .slice A n c] 23))
      fun e w' => ∃ v, e = .returned v ∧ w'.ownsRow (w.heap.size + 1) 5 1 v (five X n Y bs).length (bvs (five X n Y bs)) ∧ Below (w.heap.size + 1) (w.alloc (.cells #[.slice A1 (leb X).length c1, .slice A2 ((leb n).length + n) c2, .slice A3 (leb Y).length c3, .slice A4 ((leb n).length + n) c4, .slice A n c] 23)) w' := by
  have hal : ∀ {A : Option Addr} {m : Nat} {l : List Value} (o : Obj), Rd w w.heap.size A m l → Rd (w.alloc o) (w.heap.size + 1) A m l := fun o h => (h.alloc (Nat.le_refl _) o).more (by omega)
  have hbl : bs.length = n := by simpa using h5.len
  have hfl : [bvs (leb X), bvs (leb n ++ bs), bvs (leb Y), bvs (leb n ++ bs), bvs bs].flatten = bvs (five X n Y bs) := by
    simp [bvs, five]
  have hc := concat31 (some ⟨w.heap.size, 0, none⟩) 5 [bvs (leb X), bvs (leb n ++ bs), bvs (leb Y), bvs (leb n ++ bs), bvs bs]
    (w.alloc (.cells #[.slice A1 (leb X).length c1, .slice A2 ((leb n).length + n) c2, .slice A3 (leb Y).length c3, .slice A4 ((leb n).length + n) c4, .slice A n c] 23)) (w.heap.size + 1)
    (rds_blk (heap_alloc_new w _) (by omega) rfl (fun i l hi => by
      rcases i with _ | _ | _ | _ | _ | i
      · simp at hi; subst hi; exact ⟨_, rfl, SliceOf.mk' (hal _ h1)⟩
      · simp at hi; subst hi; exact ⟨_, rfl, SliceOf.mk' (hal _ h2)⟩
      · simp at hi; subst hi; exact ⟨_, rfl, SliceOf.mk' (hal _ h3)⟩
      · simp at hi; subst hi; exact ⟨_, rfl, SliceOf.mk' (hal _ h4)⟩
      · simp at hi; subst hi; exact ⟨_, rfl, SliceOf.mk' (hal _ h5)⟩
      · simp at hi)) (by simp) (by simp) (by rw [hfl]; simp [five]; omega) (by rw [hfl]; exact bvs_one _)
  rw [hfl] at hc
  refine Calls.mono hc fun e w' ⟨v, he, ho, hb⟩ => ⟨v, he, ?_, ?_⟩
  · simpa using ho
  · simpa using hb

theorem cat_five' {w : World} {A1 A2 A3 A4 A : Option Addr} {c1 c2 c3 c4 c n X Y : Nat} {bs F : List UInt8} (hF : Hid (five X n Y bs = F))
    (h1 : Rd w w.heap.size A1 (leb X).length (bvs (leb X))) (h2 : Rd w w.heap.size A2 ((leb n).length + n) (bvs (leb n ++ bs))) (h3 : Rd w w.heap.size A3 (leb Y).length (bvs (leb Y)))
    (h4 : Rd w w.heap.size A4 ((leb n).length + n) (bvs (leb n ++ bs))) (h5 : Rd w w.heap.size A n (bvs bs)) (hlen : (leb X).length + (leb Y).length + 2 * (leb n).length + 3 * n ≤ 1000000) :
    Calls Try.prog 31 #[.slice (some ⟨w.heap.size, 0, none⟩) 5 5] (w.alloc (.cells #[.slice A1 (leb X).length c1, .slice A2 ((leb n).length + n) c2, .slice A3 (leb Y).length c3, .slice A4 ((leb n).length + n) c4, .slice A n c] 23))
      fun e w' => ∃ v, e = .returned v ∧ w'.ownsRow (w.heap.size + 1) 5 1 v F.length (bvs F) ∧ Below (w.heap.size + 1) (w.alloc (.cells #[.slice A1 (leb X).length c1, .slice A2 ((leb n).length + n) c2, .slice A3 (leb Y).length c3, .slice A4 ((leb n).length + n) c4, .slice A n c] 23)) w' := by
  rw [← hF.out]; exact cat_five h1 h2 h3 h4 h5 hlen

/-! Reading what was written. -/
theorem uint_at {g x : Nat} {F m : List UInt8} {w : World} (h : Rdr w g F false) (hF : Hid (F = leb x ++ m)) (hx : U64 x) :
    Calls Try.prog 18 #[.pointer (some ⟨g, 0, none⟩)] w fun e w' => e = .returned (.int .u64 x) ∧ Rdr w' g m false ∧ w.grownBy w' (some g) := by
  have hd : Hid (dec F = some (x, (leb x).length)) := by show _ = _; rw [hF.out]; exact dec_leb hx m
  have := uint_some h hd
  rw [hF.out, List.drop_left] at this
  exact this
theorem bytes_at {g : Nat} {F bs m : List UInt8} {w : World} (h : Rdr w g F false) (hF : Hid (F = leb bs.length ++ (bs ++ m))) (hx : bs.length ≤ 1000000) :
    Calls Try.prog 23 #[.pointer (some ⟨g, 0, none⟩)] w fun e w' => ∃ A c, e = .returned (.slice A bs.length c) ∧ Rd w' w'.heap.size A bs.length (bvs bs) ∧ Rdr w' g m false ∧ w.grownBy w' (some g) := by
  have hd : Hid (dec F = some (bs.length, (leb bs.length).length)) := by show _ = _; rw [hF.out]; exact dec_leb (by omega) _
  have hx2 : bs.length ≤ F.length - (leb bs.length).length := by rw [hF.out]; simp
  have := bytes_yes h hd hx2
  have e : F.drop (leb bs.length).length = bs ++ m := by rw [hF.out, List.drop_left]
  rw [e, List.take_left, List.drop_left] at this
  exact this
theorem take_at {g : Nat} {bs m : List UInt8} {w : World} (h : Rdr w g (bs ++ m) false) :
    Calls Try.prog 26 #[.pointer (some ⟨g, 0, none⟩), .int .i64 bs.length] w fun e w' => ∃ A c, e = .returned (.slice A bs.length c) ∧ Rd w' w'.heap.size A bs.length (bvs bs) ∧ Rdr w' g m false ∧ w.grownBy w' (some g) := by
  have := take_yes (K := bs.length) h (by simp)
  rw [List.take_left, List.drop_left] at this
  exact this
theorem bytes_at' {g n : Nat} {F bs m : List UInt8} {w : World} (h : Rdr w g F false) (hF : Hid (F = leb n ++ (bs ++ m))) (hn : Hid (bs.length = n)) (hx : n ≤ 1000000) :
    Calls Try.prog 23 #[.pointer (some ⟨g, 0, none⟩)] w fun e w' => ∃ A c, e = .returned (.slice A n c) ∧ Rd w' w'.heap.size A n (bvs bs) ∧ Rdr w' g m false ∧ w.grownBy w' (some g) := by
  have := hn.out; subst this; exact bytes_at h hF hx
theorem take_at' {g n : Nat} {bs m : List UInt8} {w : World} (h : Rdr w g (bs ++ m) false) (hn : Hid (bs.length = n)) :
    Calls Try.prog 26 #[.pointer (some ⟨g, 0, none⟩), .int .i64 n] w fun e w' => ∃ A c, e = .returned (.slice A n c) ∧ Rd w' w'.heap.size A n (bvs bs) ∧ Rdr w' g m false ∧ w.grownBy w' (some g) := by
  have := hn.out; subst this; exact take_at h

theorem done_at {g : Nat} {w : World} (h : Rdr w g [] false) : Calls Try.prog 19 #[.pointer (some ⟨g, 0, none⟩)] w fun e w' => e = .returned (.bool true) ∧ w = w' := done_any h

set_option maxRecDepth 100000 in
set_option maxHeartbeats 4000000 in
theorem law_inv (x y : Int) (A : Option Addr) (n c : Nat) (z : List Int) (w : World) (w0 : (Lit.int .u64 x).wf = true) (w1 : (Lit.int .i64 y).wf = true) (w2 : IsRow .u8 w A n c z) :
    Calls Try.prog 7 #[.int .u64 x, .int .i64 y, .slice A n c] w fun e w' => e = .returned (.bool true) ∧ Below w.heap.size w w' := by
  obtain ⟨bs, hbl, hr, hnc, hcm⟩ := w2.bytes
  have hm : n ≤ 9223372036854775807 := by unfold maxLen at hcm; omega
  have HBL := Lib.hid hbl; clear hbl w2
  obtain ⟨hx0, hx1⟩ := bounds_u64 w0
  obtain ⟨hy0, hy1⟩ := bounds_i64 w1
  obtain ⟨X, rfl⟩ := Int.eq_ofNat_of_zero_le hx0
  have hX : U64 X := U64.mk (by omega)
  have hXl := hX.len
  have hY : U64 (zz y) := zz_u64 hy0 hy1
  have hYl := hY.len
  clear w0 w1 hx0 hx1
  by_cases hbig : 500 < n
  · have hb1 : (500 : Int) < (n : Int) := by omega
    go_enter Try.func7, Try.ntmps7
    go_wp2_with fail
    refine (alive_any _).mono ?_
    rintro e w' ⟨rfl, hb⟩
    go_wp2_with fail
    go_ret
    exact ⟨rfl, hb⟩
  · have hb1 : ¬ (500 : Int) < (n : Int) := by omega
    have hnl := (U64.mk (x := n) (by omega)).len
    go_enter Try.func7, Try.ntmps7
    go_wp2_with fail
    have hsz : (ByteArray.mk bs.toArray).size = n := by rw [← HBL.out]; rfl
    have Hsz := Lib.hid hsz; clear hsz
    have hstr : ∀ w', Below w.heap.size w w' → (convert 23 9 (.slice A n c)).run Try.prog w' = .ok (.string ⟨bs.toArray⟩) w' :=
      fun w' hb => run_str (P := Try.prog) (c := c) 23 9 5 Try.underlying23 Try.underlying5 Try.underlying9 (hr.below hb)
    have HS := Lib.hid hstr; clear hstr
    have hN : n ≤ 1000000 := by omega
    have h5l : (five X n (zz y) bs).length ≤ 2000 := by have := HBL.out; simp [five]; omega
    obtain ⟨F, hF⟩ : ∃ F, five X n (zz y) bs = F := ⟨_, rfl⟩
    have HF := Lib.hid hF; clear hF
    rw [HF.out] at h5l
    go_region_held3 (fun w' => Below w.heap.size w w' ∧ (convert 23 9 (.slice A n c)).run Try.prog w' = .ok (.string ⟨bs.toArray⟩) w')
      (first | exact ⟨(Below.refl _ _).drew, HS.out _ (Below.refl _ _).drew⟩ | exact ⟨hS6, HS.out _ hS6⟩ | exact ⟨hS5, HS.out _ hS5⟩ | exact ⟨hS4.alloc hS4.size _, HS.out _ (hS4.alloc hS4.size _)⟩ | exact ⟨hS4, HS.out _ hS4⟩ | exact ⟨hS3, HS.out _ hS3⟩ | exact ⟨hS2, HS.out _ hS2⟩ | exact ⟨hS1, HS.out _ hS1⟩)
      (first | (go_at_call 10; refine (bin_uint _ _ hX).mono ?_; rintro e w1 ⟨v1, rfl, hown1, hb1⟩; have hS1 : Below w.heap.size w w1 := Below.trans (Below.refl _ _).drew (hb1.mono (Nat.le_refl _)); obtain ⟨A1, c1, rfl, hr1⟩ := own_rd hown1; clear hown1 hb1) | (go_at_call 14; refine (bin_bytes A n c bs _ w.heap.size (hr.below hS1) hS1.size hN).mono ?_; rintro e w2 ⟨v2, rfl, hown2, hb2⟩; have hS2 : Below w.heap.size w w2 := hS1.trans (hb2.mono hS1.size); have hr1a := (hr1.below hb2).more hb2.size; obtain ⟨A2, c2, rfl, hr2⟩ := own_rd hown2; clear hown2 hr1 hb2) | (go_at_call 12; refine (bin_int _ _ hy0 hy1).mono ?_; rintro e w3 ⟨v3, rfl, hown3, hb3⟩; have hS3 : Below w.heap.size w w3 := hS2.trans (hb3.mono hS2.size); have hr1b := (hr1a.below hb3).more hb3.size; have hr2a := (hr2.below hb3).more hb3.size; obtain ⟨A3, c3, rfl, hr3⟩ := own_rd hown3; clear hown3 hr1a hr2 hb3) | (go_at_call 16; refine (bin_text ⟨bs.toArray⟩ _ (by rw [Hsz.out]; exact hN)).mono ?_; rintro e w4 ⟨v4, rfl, hown4, hb4⟩; rw [Hsz.out] at hown4; have hS4 : Below w.heap.size w w4 := hS3.trans (hb4.mono hS3.size); have hr1c := (hr1b.below hb4).more hb4.size; have hr2b := (hr2a.below hb4).more hb4.size; have hr3a := (hr3.below hb4).more hb4.size; obtain ⟨A4, c4, rfl, hr4⟩ := own_rd hown4; clear hown4 hr1b hr2a hr3 hb4) | (go_at_call 31; refine (cat_five' HF hr1c hr2b hr3a hr4 ((hr.below hS4).more hS4.size) (by omega)).mono ?_; rintro e w5 ⟨v5, rfl, hown5, hb5⟩; have hS5 : Below w.heap.size w w5 := (hS4.alloc hS4.size _).trans (hb5.mono (by have := hS4.size; omega)); obtain ⟨A5, c5, rfl, hr5⟩ := own_rd hown5; clear hown5 hr1c hr2b hr3a hr4 hb5) | (go_at_call 17; refine (new_any _ _ _ _ _ _ hr5 (Nat.le_refl _) (by omega)).mono ?_; rintro e w6 ⟨g, rfl, hg6, hrd, hb6⟩; have hS6 : Below w.heap.size w w6 := hS5.trans (hb6.mono hS5.size); have hgw : w.heap.size ≤ g := Nat.le_trans hS5.size hg6; clear hr5 hb6 hg6))
    have HF1 : Hid (F = leb X ++ (leb n ++ (bs ++ (leb (zz y) ++ (leb n ++ (bs ++ bs)))))) := HF.out.symm
    have HF5 : Hid (leb n ++ (bs ++ bs) = leb n ++ (bs ++ (bs ++ []))) := by show _ = _; rw [List.append_nil]
    clear hS1 hS2 hS3 hS4 hS5
    go_wp2_with fail
    go_region_held3 (fun w' => Below w.heap.size w w' ∧ (convert 23 9 (.slice A n c)).run Try.prog w' = .ok (.string ⟨bs.toArray⟩) w')
      (first | exact ⟨hS6.drew, HS.out _ hS6.drew⟩ | exact ⟨hT9, HS.out _ hT9⟩ | exact ⟨hT8, HS.out _ hT8⟩ | exact ⟨hT7, HS.out _ hT7⟩ | exact ⟨hT6, HS.out _ hT6⟩ | exact ⟨hT5, HS.out _ hT5⟩ | exact ⟨hT4, HS.out _ hT4⟩ | exact ⟨hT3, HS.out _ hT3⟩ | exact ⟨hT2, HS.out _ hT2⟩ | exact ⟨hT1, HS.out _ hT1⟩)
      (first | (go_at_call 8; refine (alive_any _).mono ?_; rintro e x1 ⟨rfl, hb1⟩; have hT1 : Below w.heap.size w x1 := hS6.drew.trans (hb1.mono hS6.size); have hrd1 := (hrd.drewN 1).below hb1 hrd.lt; clear hrd hb1 hS6) | (go_at_call 18; refine (uint_at hrd1 HF1 hX).mono ?_; rintro e x2 ⟨rfl, hrd2, hg1⟩; have hT2 : Below w.heap.size w x2 := below_grown hT1 hg1 hT1.size hgw; clear hrd1 hg1 hT1) | (go_at_call 23; refine (bytes_at' hrd2 rfl HBL hN).mono ?_; rintro e x3 ⟨B1, d1, rfl, hq1, hrd3, hg2⟩; have hT3 : Below w.heap.size w x3 := below_grown hT2 hg2 hT2.size hgw; clear hrd2 hg2 hT2) | (go_at_call 9; refine (equal_own hq1 (hr.below hT3) hN hN rfl).mono ?_; rintro e _ ⟨rfl, q1, rfl⟩; have hT4 : Below w.heap.size w (x3.drewN q1) := below_drewN hT3 q1; have hrd4 := hrd3.drewN q1; clear hrd3 hq1 hT3) | (go_at_call 21; refine (int_any (R := fun x => Rdr x g (leb n ++ (bs ++ bs)) false ∧ (x3.drewN q1).grownBy x (some g)) hY (uint_at hrd4 rfl hY)).mono ?_; rintro e x5 ⟨rfl, hrd5, hg3⟩; rw [unzz_zz]; have hT5 : Below w.heap.size w x5 := below_grown hT4 hg3 hT4.size hgw; clear hrd4 hg3 hT4) | (go_at_call 25; refine (text_any (R := fun x => Rdr x g (bs ++ []) false ∧ x5.grownBy x (some g)) ((bytes_at' hrd5 HF5 HBL hN).mono (fun e x ⟨A, c, h1, h2, h3⟩ => ⟨A, n, c, _, h1, h2, h3⟩))).mono ?_; rintro e x6 ⟨rfl, hrd6, hg4⟩; have hT6 : Below w.heap.size w x6 := below_grown hT5 hg4 hT5.size hgw; clear hrd5 hg4 hT5) | (go_at_call 26; refine (take_at' hrd6 HBL).mono ?_; rintro e x7 ⟨B2, d2, rfl, hq2, hrd7, hg5⟩; have hT7 : Below w.heap.size w x7 := below_grown hT6 hg5 hT6.size hgw; clear hrd6 hg5 hT6) | (go_at_call 9; refine (equal_own hq2 (hr.below hT7) hN hN rfl).mono ?_; rintro e _ ⟨rfl, q2, rfl⟩; have hT8 : Below w.heap.size w (x7.drewN q2) := below_drewN hT7 q2; have hrd8 := hrd7.drewN q2; clear hrd7 hq2 hT7) | (go_at_call 19; refine (done_at hrd8).mono ?_; rintro e _ ⟨rfl, rfl⟩))
    go_wp2_with fail
    go_ret
    exact ⟨rfl, hT8⟩
end Go.Proofs.Ytmhjkghmpdnhaaa
