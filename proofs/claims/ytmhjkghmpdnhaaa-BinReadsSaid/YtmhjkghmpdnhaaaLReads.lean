/- The law BinReads, walked. -/
import Derived.Test.YtmhjkghmpdnhaaaPairs
import Derived.Deep.DeepCutAuto
import Derived.Deep.LoopGhost
import Derived.Deep.Light
import Derived.Deep.CutBlock
namespace Go.Proofs.Ytmhjkghmpdnhaaa
open Go.RowKit Go.OpenShut

/-- A slice of integers that came in reads as a list of integers. -/
theorem IsRow.ints {k : IntKind} {w : World} {a : Option Addr} {len cap : Nat} {zs : List Int} (h : IsRow k w a len cap zs) :
    ∃ l : List Int, l.length = len ∧ Rd w w.heap.size a len (l.map (Value.int k)) ∧ (∀ n ∈ l, (Lit.int k n).wf = true) ∧ len ≤ cap ∧ cap ≤ maxLen := by
  rcases h with ⟨rfl, rfl, rfl, rfl⟩ | ⟨x, rfl, hl, hm, hz, hc, hw⟩
  · exact ⟨[], rfl, Rd.nil _ _ _, by simp, Nat.le_refl _, by simp [maxLen]⟩
  · refine ⟨zs.take len, by rw [List.length_take]; omega, ⟨by simp; omega, fun j u hu => ?_⟩, fun n hn => hw n (List.mem_of_mem_take hn), hl, hm⟩
    rw [List.getElem?_map] at hu
    cases hz' : (zs.take len)[j]? with
    | none => rw [hz'] at hu; cases hu
    | some z =>
      rw [hz'] at hu
      simp only [Option.map_some, Option.some.injEq] at hu
      subst hu
      have hj : j < len := by have := (List.getElem?_eq_some_iff.1 hz').1; rw [List.length_take] at this; omega
      rw [List.getElem?_take, if_pos hj] at hz'
      have hcj := hc j (by omega)
      rw [List.getD_eq_getElem?_getD, hz'] at hcj
      refine ⟨x, rfl, ?_, hcj⟩
      have := World.block_lt_of_cell? _ _ hcj
      rwa [add_block] at this

/-- What a read has left in the law's variables. -/
def Cut14 (w0 : World) (g p : Nat) (s9 s10 s11 s12 s13 s14 : Value) (wx : World) : Prop :=
  ∃ (x : Nat) (y : Int) (A A' : Option Addr) (m m' c c' : Nat) (out : List UInt8) (bs : List UInt8) (bad : Bool),
    s9 = .int .u64 x ∧ s10 = .int .u64 x ∧ s11 = .int .i64 y ∧ s12 = .int .i64 y ∧ s13 = .slice A m c ∧ s14 = .slice A' m' c' ∧
    Rd wx wx.heap.size A m (bvs out) ∧ Rd wx wx.heap.size A' m' (bvs out) ∧ m ≤ 1000000 ∧ m' ≤ 1000000 ∧ Both w0 g p wx bs bad

set_option maxRecDepth 100000 in
set_option maxHeartbeats 8000000 in
theorem law_reads (A : Option Addr) (n c : Nat) (z : List Int) (A2 : Option Addr) (n2 c2 : Nat) (z2 : List Int) (w : World) (w1 : IsRow .u8 w A n c z) (w2 : IsRow .i64 w A2 n2 c2 z2) :
    Calls Try.prog 5 #[.slice A n c, .slice A2 n2 c2] w fun e w' => e = .returned (.bool true) ∧ Below w.heap.size w w' := by
  obtain ⟨bs, hbl, hr, hnc, hcm⟩ := w1.bytes
  obtain ⟨l, hll, hr2, hwf, hnc2, hcm2⟩ := w2.ints
  clear w1 w2
  have hm : n ≤ 9223372036854775807 := by unfold maxLen at hcm; omega
  have hm2 : n2 ≤ 9223372036854775807 := by unfold maxLen at hcm2; omega
  have HBL := Lib.hid hbl; clear hbl
  have HLL := Lib.hid hll; clear hll
  have HWF := Lib.hid hwf; clear hwf
  clear hcm hcm2
  by_cases hbig : 500 < n
  · have hb1 : (500 : Int) < (n : Int) := by omega
    go_enter Try.func5, Try.ntmps5
    go_wp2_with fail
    refine (alive_any _).mono ?_
    rintro e w' ⟨rfl, hb⟩
    go_wp2_with fail
    go_ret
    exact ⟨rfl, hb⟩
  · have hb1 : ¬ (500 : Int) < (n : Int) := by omega
    by_cases hbig2 : 100 < n2
    · have hb2 : (100 : Int) < (n2 : Int) := by omega
      go_enter Try.func5, Try.ntmps5
      go_wp2_with fail
      refine (alive_any _).mono ?_
      rintro e w' ⟨rfl, hb⟩
      go_wp2_with fail
      go_ret
      exact ⟨rfl, hb⟩
    · have hb2 : ¬ (100 : Int) < (n2 : Int) := by omega
      go_enter Try.func5, Try.ntmps5
      go_wp2_with fail
      refine (new_any A n c bs _ w.heap.size hr (Nat.le_refl _) (by omega)).mono ?_
      rintro e w1 ⟨g, rfl, hg1, hrd, hb⟩
      go_wp2_with fail
      have hboth : Both w g w1.heap.size (w1.alloc (.cells #[.slice A n c, .bool false] 37)) bs false := by
        refine ⟨hrd.below ((Below.refl _ _).alloc (Nat.le_refl _) _) hrd.lt, ⟨A, c, by rw [HBL.out]; exact heap_alloc_new w1 _, by rw [HBL.out]; exact hnc, by rw [HBL.out]; omega, ?_⟩, hb.alloc hb.size _⟩
        rw [HBL.out]; exact (hr.below hb).alloc hb.size _
      have hp : w.heap.size ≤ w1.heap.size := hb.size
      have hgp : g < w1.heap.size := hrd.lt
      clear hrd hb hr
      generalize w1.alloc (.cells #[.slice A n c, .bool false] 37) = w2 at *
      generalize w1.heap.size = p at *
      go_loopg [31] n2 (fun gk i wr => ∃ k : Nat, k ≤ n2 ∧ gk = n2 - k ∧ i = .int .i64 k ∧ ∃ (bs : List UInt8) (bad : Bool), Both w g p wr bs bad)
      case atStart => exact ⟨0, Nat.zero_le _, by omega, rfl, bs, false, hboth⟩
      case round =>
        clear hboth HBL bs
        obtain ⟨k, hk, hgk, rfl, bs, bad, hboth⟩ := hrel
        have HGK := Lib.hid hgk; clear hgk
        by_cases hlt : k < n2
        · obtain ⟨ad, u, rfl, hbB, hu, hcu⟩ := (hr2.below hboth.below).at hlt
          obtain ⟨kv, hkv⟩ : ∃ kv, u = .int .i64 kv ∧ (Lit.int .i64 kv).wf = true := by
            rw [List.getElem?_map] at hu
            cases hl : l[k]? with
            | none => rw [hl] at hu; cases hu
            | some z => rw [hl] at hu; simp at hu; exact ⟨z, hu.symm, HWF.out z (List.mem_of_getElem? hl)⟩
          obtain ⟨rfl, hkw⟩ := hkv
          obtain ⟨hk0, hk1⟩ := bounds_i64 hkw
          clear hu hkw hbB
          go_upto_block 2 with fail
          go_cut [9, 10, 11, 12, 13, 14] (fun s9 s10 s11 s12 s13 s14 wx => Cut14 w g p s9 s10 s11 s12 s13 s14 wx)
          case first =>
            obtain ⟨hrd, ⟨A5, c5, hp5, hc5, hl5, hr5⟩, hbel⟩ := hboth
            have hv : RV wr w.heap.size (.agg #[.slice A5 bs.length c5, .bool bad]) bs bad := ⟨hbel.size, hl5, A5, c5, rfl, hc5, hr5⟩
            have hgw : w.heap.size ≤ g := by omega
            by_cases e0 : kv = 0
            · subst e0
              obtain ⟨x, bs', bad', hx, hP, hR⟩ := pair_uint bs bad
              have HP := Lib.hid hP; have HR := Lib.hid hR; clear hP hR
              go_wp2_with fail
              refine (HP.out g _ hrd).mono ?_
              rintro e x1 ⟨rfl, hrd1, hg1⟩
              have hp1 := (hg1.block p (blk_lt hp5) (by intro e; injection e with e; omega)).trans hp5
              have hv1 := hv.grow hg1 hgw
              have hbel1 := below_grown hbel hg1 hbel.size hgw
              have c0 := blk_cell hp1 0 _ rfl
              have c1 := blk_cell hp1 1 _ rfl
              clear hp5 hv hbel hcu hrd hr2 hr5
              go_wp2_with fail
              refine (HR.out _ _ _ hv1).mono ?_
              rintro e x2 ⟨v', rfl, hv2, hb2⟩
              clear c0 c1
              have hp2 := (hb2.block p (blk_lt hp1)).trans hp1
              have hrd2 := hrd1.below hb2 hrd1.lt
              have hbel2 := hbel1.trans (hb2.mono hbel1.size)
              obtain ⟨hB6, hl6, A6, c6, rfl, hc6, hr6⟩ := hv2
              have c0 := blk_cell hp2 0 _ rfl
              have c1 := blk_cell hp2 1 _ rfl
              have f0 := blk_frozen hp2 0
              have f1 := blk_frozen hp2 1
              go_wp2_with fail
              go_meet
              exact ⟨x, 0, none, none, 0, 0, 0, 0, [], bs', bad', rfl, rfl, rfl, rfl, rfl, rfl, Rd.nil _ _ _, Rd.nil _ _ _, by omega, by omega, both_store hrd2 hp2 ⟨hB6, hl6, A6, c6, rfl, hc6, hr6⟩ hgp hp hbel2⟩
            · by_cases e1 : kv = 1
              · subst e1
                obtain ⟨x, bs', bad', hx, hP, hR⟩ := pair_uint bs bad
                have HP := Lib.hid hP; have HR := Lib.hid hR; clear hP hR
                obtain ⟨y, hy⟩ : ∃ y, unzz x = y := ⟨_, rfl⟩
                have HY := Lib.hid hy; clear hy
                go_wp2_with fail
                refine (int_any (R := fun x1 => Rdr x1 g bs' bad' ∧ wr.grownBy x1 (some g)) hx (HP.out g _ hrd)).mono ?_
                rintro e x1 ⟨rfl, hrd1, hg1⟩
                rw [HY.out]
                have hp1 := (hg1.block p (blk_lt hp5) (by intro e; injection e with e; omega)).trans hp5
                have hv1 := hv.grow hg1 hgw
                have hbel1 := below_grown hbel hg1 hbel.size hgw
                have c0 := blk_cell hp1 0 _ rfl
                have c1 := blk_cell hp1 1 _ rfl
                clear hp5 hv hbel hcu hrd hr2 hr5
                go_wp2_with fail
                refine (rint_any hx hv1 (fun w h => HR.out w _ _ h)).mono ?_
                rintro e x2 ⟨v', rfl, hv2, hb2⟩
                rw [HY.out]
                clear c0 c1
                have hp2 := (hb2.block p (blk_lt hp1)).trans hp1
                have hrd2 := hrd1.below hb2 hrd1.lt
                have hbel2 := hbel1.trans (hb2.mono hbel1.size)
                obtain ⟨hB6, hl6, A6, c6, rfl, hc6, hr6⟩ := hv2
                have c0 := blk_cell hp2 0 _ rfl
                have c1 := blk_cell hp2 1 _ rfl
                have f0 := blk_frozen hp2 0
                have f1 := blk_frozen hp2 1
                go_wp2_with fail
                go_meet
                exact ⟨0, y, none, none, 0, 0, 0, 0, [], bs', bad', rfl, rfl, rfl, rfl, rfl, rfl, Rd.nil _ _ _, Rd.nil _ _ _, by omega, by omega, both_store hrd2 hp2 ⟨hB6, hl6, A6, c6, rfl, hc6, hr6⟩ hgp hp hbel2⟩
              · by_cases e2 : kv = 2
                · subst e2
                  obtain ⟨out, bs', bad', hol, hP, hR⟩ := pair_bytes bs bad hl5
                  have HP := Lib.hid hP; have HR := Lib.hid hR; clear hP hR
                  go_wp2_with fail
                  refine (HP.out g _ hrd).mono ?_
                  rintro e x1 ⟨A1, m1, c1', rfl, hq1, hrd1, hg1⟩
                  have hp1 := (hg1.block p (blk_lt hp5) (by intro e; injection e with e; omega)).trans hp5
                  have hv1 := hv.grow hg1 hgw
                  have hbel1 := below_grown hbel hg1 hbel.size hgw
                  have c0 := blk_cell hp1 0 _ rfl
                  have c1 := blk_cell hp1 1 _ rfl
                  clear hp5 hv hbel hcu hrd hr2 hr5
                  go_wp2_with fail
                  refine (HR.out _ _ _ hv1).mono ?_
                  rintro e x2 ⟨v', A3, m3, c3, rfl, hv2, hq3, hb2⟩
                  clear c0 c1
                  have hm1 : m1 ≤ 1000000 := by have := hq1.len; simp at this; omega
                  have hm3 : m3 ≤ 1000000 := by have := hq3.len; simp at this; omega
                  have hq1' := (hq1.below hb2).more hb2.size
                  have hp2 := (hb2.block p (blk_lt hp1)).trans hp1
                  have hrd2 := hrd1.below hb2 hrd1.lt
                  have hbel2 := hbel1.trans (hb2.mono hbel1.size)
                  obtain ⟨hB6, hl6, A6, c6, rfl, hc6, hr6⟩ := hv2
                  have c0 := blk_cell hp2 0 _ rfl
                  have c1 := blk_cell hp2 1 _ rfl
                  have f0 := blk_frozen hp2 0
                  have f1 := blk_frozen hp2 1
                  go_wp2_with fail
                  go_meet
                  exact ⟨0, 0, A1, A3, m1, m3, c1', c3, out, bs', bad', rfl, rfl, rfl, rfl, rfl, rfl, by simpa using hq1'.two_sets hp2, by simpa using (hq3.more hB6).two_sets hp2, hm1, hm3, both_store hrd2 hp2 ⟨hB6, hl6, A6, c6, rfl, hc6, hr6⟩ hgp hp hbel2⟩
                · by_cases e3 : kv = 3
                  · subst e3
                    obtain ⟨out, bs', bad', hol, hP, hR⟩ := pair_bytes bs bad hl5
                    have HP := Lib.hid hP; have HR := Lib.hid hR; clear hP hR
                    go_wp2_with fail
                    refine (text_any (out := out) (R := fun x1 => Rdr x1 g bs' bad' ∧ wr.grownBy x1 (some g)) ((HP.out g _ hrd).mono fun e x ⟨A, m, c, h1, h2, h3⟩ => ⟨A, m, c, _, h1, h2, h3⟩)).mono ?_
                    rintro e x0 ⟨rfl, hrd0, hg0⟩
                    obtain ⟨cs, x1, hrun, hq1, hb1'⟩ := run_bytes (P := Try.prog) x0 9 23 5 ⟨out.toArray⟩ Try.underlying9 Try.underlying23 Try.underlying5
                    have hrd1 := hrd0.below hb1' hrd0.lt
                    have hg1 := grown_trans hg0 (grown_of_below hb1' (some g))
                    obtain ⟨m1, hm1'⟩ : ∃ m1, (ByteArray.mk out.toArray).size = m1 := ⟨_, rfl⟩
                    rw [hm1'] at hrun hq1
                    clear hm1' hb1' hrd0 hg0
                    have hp1 := (hg1.block p (blk_lt hp5) (by intro e; injection e with e; omega)).trans hp5
                    have hv1 := hv.grow hg1 hgw
                    have hbel1 := below_grown hbel hg1 hbel.size hgw
                    have c0 := blk_cell hp1 0 _ rfl
                    have c1 := blk_cell hp1 1 _ rfl
                    clear hp5 hv hbel hcu hrd hr2 hr5
                    go_wp2_with fail
                    clear hrun
                    refine (HR.out _ _ _ hv1).mono ?_
                    rintro e x2 ⟨v', A3, m3, c3, rfl, hv2, hq3, hb2⟩
                    clear c0 c1
                    have hm1 : m1 ≤ 1000000 := by have := hq1.len; simp at this; omega
                    have hm3 : m3 ≤ 1000000 := by have := hq3.len; simp at this; omega
                    have hq1' := (hq1.below hb2).more hb2.size
                    have hp2 := (hb2.block p (blk_lt hp1)).trans hp1
                    have hrd2 := hrd1.below hb2 hrd1.lt
                    have hbel2 := hbel1.trans (hb2.mono hbel1.size)
                    obtain ⟨hB6, hl6, A6, c6, rfl, hc6, hr6⟩ := hv2
                    have c0 := blk_cell hp2 0 _ rfl
                    have c1 := blk_cell hp2 1 _ rfl
                    have f0 := blk_frozen hp2 0
                    have f1 := blk_frozen hp2 1
                    go_wp2_with fail
                    go_meet
                    exact ⟨0, 0, _, A3, m1, m3, cs, c3, out, bs', bad', rfl, rfl, rfl, rfl, rfl, rfl, by simpa using hq1'.two_sets hp2, by simpa using (hq3.more hB6).two_sets hp2, hm1, hm3, both_store hrd2 hp2 ⟨hB6, hl6, A6, c6, rfl, hc6, hr6⟩ hgp hp hbel2⟩
                  · have d0 : (kv == 0) = false := by rw [beq_eq_false_iff_ne]; exact e0
                    have d1 : (kv == 1) = false := by rw [beq_eq_false_iff_ne]; exact e1
                    have d2 : (kv == 2) = false := by rw [beq_eq_false_iff_ne]; exact e2
                    have d3 : (kv == 3) = false := by rw [beq_eq_false_iff_ne]; exact e3
                    clear e0 e1 e2 e3
                    by_cases hlow : kv < -1000
                    · obtain ⟨out, bs', bad', hol, hP, hR⟩ := pair_take (-1000 - 4) bs bad hl5
                      have HP := Lib.hid hP; have HR := Lib.hid hR; clear hP hR
                      go_wp2_with fail
                      refine (HP.out g _ hrd).mono ?_
                      rintro e x1 ⟨A1, m1, c1', rfl, hq1, hrd1, hg1⟩
                      have hp1 := (hg1.block p (blk_lt hp5) (by intro e; injection e with e; omega)).trans hp5
                      have hv1 := hv.grow hg1 hgw
                      have hbel1 := below_grown hbel hg1 hbel.size hgw
                      have c0 := blk_cell hp1 0 _ rfl
                      have c1 := blk_cell hp1 1 _ rfl
                      clear hp5 hv hbel hcu hrd hr2 hr5
                      go_wp2_with fail
                      refine (HR.out _ _ _ hv1).mono ?_
                      rintro e x2 ⟨v', A3, m3, c3, rfl, hv2, hq3, hb2⟩
                      clear c0 c1
                      have hm1 : m1 ≤ 1000000 := by have := hq1.len; simp at this; omega
                      have hm3 : m3 ≤ 1000000 := by have := hq3.len; simp at this; omega
                      have hq1' := (hq1.below hb2).more hb2.size
                      have hp2 := (hb2.block p (blk_lt hp1)).trans hp1
                      have hrd2 := hrd1.below hb2 hrd1.lt
                      have hbel2 := hbel1.trans (hb2.mono hbel1.size)
                      obtain ⟨hB6, hl6, A6, c6, rfl, hc6, hr6⟩ := hv2
                      have c0 := blk_cell hp2 0 _ rfl
                      have c1 := blk_cell hp2 1 _ rfl
                      have f0 := blk_frozen hp2 0
                      have f1 := blk_frozen hp2 1
                      go_wp2_with fail
                      go_meet
                      exact ⟨0, 0, A1, A3, m1, m3, c1', c3, out, bs', bad', rfl, rfl, rfl, rfl, rfl, rfl, by simpa using hq1'.two_sets hp2, by simpa using (hq3.more hB6).two_sets hp2, hm1, hm3, both_store hrd2 hp2 ⟨hB6, hl6, A6, c6, rfl, hc6, hr6⟩ hgp hp hbel2⟩
                    · obtain ⟨out, bs', bad', hol, hP, hR⟩ := pair_take (kv - 4) bs bad hl5
                      have HP := Lib.hid hP; have HR := Lib.hid hR; clear hP hR
                      go_wp2_with fail
                      refine (HP.out g _ hrd).mono ?_
                      rintro e x1 ⟨A1, m1, c1', rfl, hq1, hrd1, hg1⟩
                      have hp1 := (hg1.block p (blk_lt hp5) (by intro e; injection e with e; omega)).trans hp5
                      have hv1 := hv.grow hg1 hgw
                      have hbel1 := below_grown hbel hg1 hbel.size hgw
                      have c0 := blk_cell hp1 0 _ rfl
                      have c1 := blk_cell hp1 1 _ rfl
                      clear hp5 hv hbel hcu hrd hr2 hr5
                      go_wp2_with fail
                      refine (HR.out _ _ _ hv1).mono ?_
                      rintro e x2 ⟨v', A3, m3, c3, rfl, hv2, hq3, hb2⟩
                      clear c0 c1
                      have hm1 : m1 ≤ 1000000 := by have := hq1.len; simp at this; omega
                      have hm3 : m3 ≤ 1000000 := by have := hq3.len; simp at this; omega
                      have hq1' := (hq1.below hb2).more hb2.size
                      have hp2 := (hb2.block p (blk_lt hp1)).trans hp1
                      have hrd2 := hrd1.below hb2 hrd1.lt
                      have hbel2 := hbel1.trans (hb2.mono hbel1.size)
                      obtain ⟨hB6, hl6, A6, c6, rfl, hc6, hr6⟩ := hv2
                      have c0 := blk_cell hp2 0 _ rfl
                      have c1 := blk_cell hp2 1 _ rfl
                      have f0 := blk_frozen hp2 0
                      have f1 := blk_frozen hp2 1
                      go_wp2_with fail
                      go_meet
                      exact ⟨0, 0, A1, A3, m1, m3, c1', c3, out, bs', bad', rfl, rfl, rfl, rfl, rfl, rfl, by simpa using hq1'.two_sets hp2, by simpa using (hq3.more hB6).two_sets hp2, hm1, hm3, both_store hrd2 hp2 ⟨hB6, hl6, A6, c6, rfl, hc6, hr6⟩ hgp hp hbel2⟩
          case rest =>
            obtain ⟨x, y, A3, A4, m3, m4, c3, c4, out, bs', bad', rfl, rfl, rfl, rfl, rfl, rfl, hq3, hq4, hm3, hm4, hboth'⟩ := hcut
            obtain ⟨hrd, ⟨A5, c5, hp5, hc5, hl5, hr5⟩, hbel⟩ := hboth'
            obtain ⟨L, hL⟩ : ∃ L, bs'.length = L := ⟨_, rfl⟩
            have hv : RV wc w.heap.size (.agg #[.slice A5 L c5, .bool bad']) bs' bad' := by rw [← hL]; exact ⟨hbel.size, hl5, A5, c5, rfl, hc5, hr5⟩
            rw [hL] at hp5
            have HL := Lib.hid hL; clear hL
            have d0 := blk_cell hp5 0 _ rfl
            have e0 := blk_cell hp5 1 _ rfl
            have hpl := blk_lt hp5
            obtain ⟨db, hdb⟩ : ∃ db, doneB bs' bad' = db := ⟨_, rfl⟩
            have HDB := Lib.hid hdb; clear hdb
            clear hr5 hc5 hl5 hboth hcu hr2
            cases bad' with
            | false =>
              go_wp2_with fail
              go_region_held3 (fun w' => w'.cell? ⟨p, 0, none⟩ = some (.slice A5 L c5) ∧ w'.cell? ⟨p, 1, none⟩ = some (.bool false)) (first | exact ⟨dx0, dx1⟩ | exact ⟨d0, e0⟩) (first | (go_at_call 9; refine (equal_own (hq3.drewN 1) (hq4.drewN 1) hm3 hm4 rfl).mono ?_; rintro e _ ⟨rfl, q1, rfl⟩) | (go_at_call 28; refine (left_L (hrd.drewN _) HL).mono ?_; rintro e _ ⟨rfl, rfl⟩) | (go_at_call 29; refine (ok_t (t := true) (hrd.drewN _) rfl).mono ?_; rintro e _ ⟨rfl, rfl⟩) | (go_at_call 19; refine (done_t (hrd.drewN _) HDB).mono ?_; rintro e _ ⟨rfl, rfl⟩) | (go_at_call 30; refine (rdone_t (hv.drewN _) HDB).mono ?_; rintro e x1 ⟨rfl, hb1'⟩; have dx0 := (hb1'.cell (p := ⟨p, 0, none⟩) hpl).trans d0; have dx1 := (hb1'.cell (p := ⟨p, 1, none⟩) hpl).trans e0))
              go_wp2_with fail
              go_roundg (n2 - (k + 1))
              case measure => have := HGK.out; omega
              case rel => exact ⟨k + 1, by omega, rfl, by go_num, bs', _, both_end hrd hp5 hv hbel HL hb1'⟩
            | true =>
              go_wp2_with fail
              go_region_held3 (fun w' => w'.cell? ⟨p, 0, none⟩ = some (.slice A5 L c5) ∧ w'.cell? ⟨p, 1, none⟩ = some (.bool true)) (first | exact ⟨dx0, dx1⟩ | exact ⟨d0, e0⟩) (first | (go_at_call 9; refine (equal_own (hq3.drewN 1) (hq4.drewN 1) hm3 hm4 rfl).mono ?_; rintro e _ ⟨rfl, q1, rfl⟩) | (go_at_call 28; refine (left_L (hrd.drewN _) HL).mono ?_; rintro e _ ⟨rfl, rfl⟩) | (go_at_call 29; refine (ok_t (t := false) (hrd.drewN _) rfl).mono ?_; rintro e _ ⟨rfl, rfl⟩) | (go_at_call 19; refine (done_t (hrd.drewN _) HDB).mono ?_; rintro e _ ⟨rfl, rfl⟩) | (go_at_call 30; refine (rdone_t (hv.drewN _) HDB).mono ?_; rintro e x1 ⟨rfl, hb1'⟩; have dx0 := (hb1'.cell (p := ⟨p, 0, none⟩) hpl).trans d0; have dx1 := (hb1'.cell (p := ⟨p, 1, none⟩) hpl).trans e0))
              go_wp2_with fail
              go_roundg (n2 - (k + 1))
              case measure => have := HGK.out; omega
              case rel => exact ⟨k + 1, by omega, rfl, by go_num, bs', _, both_end hrd hp5 hv hbel HL hb1'⟩
        · go_wp2_with fail
          refine (alive_any _).mono ?_
          rintro e w' ⟨rfl, hb⟩
          go_wp2_with fail
          go_ret
          exact ⟨rfl, hboth.below.trans (hb.mono hboth.below.size)⟩
end Go.Proofs.Ytmhjkghmpdnhaaa
