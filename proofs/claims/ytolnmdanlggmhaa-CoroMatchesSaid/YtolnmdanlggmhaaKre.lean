/- same: it reports that a scheduler has the state of the reference's. -/
import Derived.Test.YtolnmdanlggmhaaKrc
import Derived.Test.YtolnmdanlggmhaaKrd
namespace Go.Proofs.Ytolnmdanlggmhaa
open Go.RowKit Go.Maps Go.Conc

set_option maxRecDepth 100000
set_option maxHeartbeats 4000000

theorem new_of_below {u w : World} (h : Below u.heap.size u w) : New u w := ⟨h.os, h.output, h.size, h.block⟩
theorem below_drwN {B : Nat} {a w : World} (h : Below B a w) (q : Nat) : Below B a (w.drewN q) := ⟨h.os, h.tape, h.output, h.size, h.block⟩
theorem SI.below {own : Nat → Nat} {S : Sch} {u w : World} {B : Nat} (h : SI own S u) (hb : Below B u w) (hB : u.heap.size ≤ B) : SI own S w := h.keep (OLe.refl _) fun b hl _ => hb.block b (by omega)
theorem cnt_eq {S : Sch} {m : RS} (hlen : S.cos.length = m.cos.length) (hsame : ∀ (i : Nat) (c : CoR) (rc : RCo), S.cos[i]? = some c → m.cos[i]? = some rc → c.st = rc.st ∧ c.txt = rc.txt) (st : Int) : cntOf st S.cos = m.cos.countP fun c => c.st == st := by
  unfold cntOf
  have e : S.cos.map CoR.st = m.cos.map RCo.st := by
    refine List.ext_getElem? fun i => ?_
    rw [List.getElem?_map, List.getElem?_map]
    rcases Nat.lt_or_ge i S.cos.length with h | h
    · have h' : i < m.cos.length := by omega
      rw [List.getElem?_eq_getElem h, List.getElem?_eq_getElem h']
      simp [(hsame i _ _ (List.getElem?_eq_getElem h) (List.getElem?_eq_getElem h')).1]
    · rw [List.getElem?_eq_none h, List.getElem?_eq_none (by omega)]
      rfl
  have h1 : (S.cos.countP fun c => c.st == st) = (S.cos.map CoR.st).countP (· == st) := by rw [List.countP_map]; rfl
  have h2 : (m.cos.countP fun c => c.st == st) = (m.cos.map RCo.st).countP (· == st) := by rw [List.countP_map]; rfl
  rw [h1, h2, e]

theorem same_at {own : Nat → Nat} {S : Sch} {u : World} {m : RS} {R : Nat → Prop} {wb nn nF cF : Nat} {F v : Value} {AF : Option Addr} (si : SI own S u) (hlen : S.cos.length = m.cos.length) (hsame : ∀ (i : Nat) (c : CoR) (rc : RCo), S.cos[i]? = some c → m.cos[i]? = some rc → c.st = rc.st ∧ c.txt = rc.txt) (hcl : S.closed = m.cl)
    (htr : TrAt own wb S.sb F nn m.tr u) (hs : SAt u R (.slice AF nF cF) v m) (hl20 : m.cos.length ≤ 20) (ht5 : m.tr.length ≤ 5000) : Calls Try.prog 54 #[ptr wb, v] u fun e w' => e = .returned (.bool true) ∧ New u w' := by
  have HS := Lib.hid hs
  have HSI := Lib.hid si
  obtain ⟨Ac, Aq, At, cc, cq, ct, hA, rfl, hc, _, _, ht⟩ := hs
  obtain ⟨tv, hbox, hrow, _⟩ := htr.box
  obtain ⟨A0, cap, hv, _, _⟩ := si.row.slice
  rw [List.length_map] at hv
  have hwl := obj_lt hbox
  have hb0 := (Below.refl u.heap.size u).alloc (Nat.le_refl _) (.cells #[.slice AF nF cF, .slice Ac m.cos.length cc, .slice Aq m.q.length cq, .slice At m.tr.length ct, .bool m.cl] 68)
  have hD := heap_alloc_new u (.cells #[.slice AF nF cF, .slice Ac m.cos.length cc, .slice Aq m.q.length cq, .slice At m.tr.length ct, .bool m.cl] 68)
  obtain ⟨n, hn⟩ : ∃ n, m.cos.length = n := ⟨_, rfl⟩
  obtain ⟨nt, hnt⟩ : ∃ nt, m.tr.length = nt := ⟨_, rfl⟩
  obtain ⟨A1, n1, hv1, _, _⟩ := hrow.slice
  rw [show (strsL m.tr).length = m.tr.length from List.length_map ..] at hv1
  subst hv1
  -- the contracts, in every later world
  have kStT : ∀ (i : Nat), i < n → ∃ rc, m.cos[i]? = some rc ∧ ∀ (w : World), Below u.heap.size u w → Calls Try.prog 43 #[.pointer (some ⟨S.sb, 0, none⟩), .int .i64 ((i : Int) + 1)] w (fun e w' => e = .returned (.int .i64 rc.st) ∧ w' = w) ∧ Calls Try.prog 44 #[.pointer (some ⟨S.sb, 0, none⟩), .int .i64 ((i : Int) + 1)] w (fun e w' => e = .returned (.string rc.txt) ∧ w' = w) := fun i hi => by
    obtain ⟨rc, hrc⟩ : ∃ rc, m.cos[i]? = some rc := ⟨_, List.getElem?_eq_getElem (by omega)⟩
    obtain ⟨c, hcc⟩ : ∃ c, S.cos[i]? = some c := ⟨_, List.getElem?_eq_getElem (by omega)⟩
    obtain ⟨e1, e2⟩ := hsame i c rc hcc hrc
    refine ⟨rc, hrc, fun w hb => ?_⟩
    have si' := HSI.out.below hb (Nat.le_refl _)
    have h1 := si'.sch
    have h2 := si'.row
    rw [hv] at h1 h2
    have hp : (S.cos.map fun c => ptr c.b)[i]? = some (ptr c.b) := by rw [List.getElem?_map, hcc]; rfl
    have hlm := si'.lim
    exact ⟨by rw [← e1]; exact state_at w S.sb S.qb S.sc S.cos.length cap A0 S.closed _ i c h1 h2 hp (by omega) (si'.co i c hcc), by rw [← e2]; exact text_at w S.sb S.qb S.sc S.cos.length cap A0 S.closed _ i c h1 h2 hp (by omega) (si'.co i c hcc)⟩
  have kNone : ∀ (id : Int) (w : World), (id < 1 ∨ (n : Int) < id) → Below u.heap.size u w → Calls Try.prog 43 #[.pointer (some ⟨S.sb, 0, none⟩), .int .i64 id] w (fun e w' => e = .returned (.int .i64 0) ∧ w' = w.alloc (.cells zeroCo 92)) ∧ Calls Try.prog 44 #[.pointer (some ⟨S.sb, 0, none⟩), .int .i64 id] w (fun e w' => e = .returned (.string ByteArray.empty) ∧ w' = w.alloc (.cells zeroCo 92)) := fun id w hid hb => by
    have h1 := (HSI.out.below hb (Nat.le_refl _)).sch
    rw [hv] at h1
    have hg := get_out w S.sb S.qb S.sc S.cos.length cap A0 S.closed id h1 (by omega)
    exact ⟨state_none hg, text_none hg⟩
  have kCnt : ∀ (st : Int) (w : World), Below u.heap.size u w → Calls Try.prog 47 #[.pointer (some ⟨S.sb, 0, none⟩), .int .i64 st] w (fun e w' => e = .returned (.int .i64 (m.cos.countP (fun c => c.st == st) : Nat)) ∧ ∃ q, w' = w.drewN q) := fun st w hb => by
    have si' := HSI.out.below hb (Nat.le_refl _)
    have h1 := si'.sch
    have h2 := si'.row
    rw [hv] at h1 h2
    rw [← cnt_eq hlen hsame]
    have hlm := si'.lim
    exact count_at w S.sb S.qb S.sc S.cos.length cap A0 S.closed S.cos st h1 h2 si'.co (by omega)
  have kCl : ∀ (w : World), Below u.heap.size u w → Calls Try.prog 50 #[.pointer (some ⟨S.sb, 0, none⟩)] w (fun e w' => e = .returned (.bool m.cl) ∧ w' = w) := fun w hb => by
    rw [← hcl]
    exact closed_at w S.sb S.qb S.sc S.v S.closed (HSI.out.below hb (Nat.le_refl _)).sch
  have kRef : ∀ (st : Int) (w : World), Below u.heap.size u w → Calls Try.prog 70 #[.agg #[.slice AF nF cF, .slice Ac n cc, .slice Aq m.q.length cq, .slice At nt ct, .bool m.cl], .int .i64 st] w fun e w' => e = .returned (.int .i64 (m.cos.countP (fun c => c.st == st) : Nat)) ∧ Below w.heap.size w w' := fun st w hb => by
    rw [← hn, ← hnt]
    exact refcount AF nF cF st _ m w R (HS.out.below hb) hl20
  have kEq : ∀ (w : World), Below u.heap.size u w → Calls Try.prog 71 #[.slice A1 nt n1, .slice At nt ct] w fun e w' => e = .returned (.bool true) ∧ ∃ k, w' = w.drewN k := fun w hb => by
    rw [← hnt]
    exact equal_str A1 At m.tr.length n1 ct m.tr w u.heap.size (hrow.rd.below hb) (ht.rd.below hb) (by omega)
  have kRow : ∀ (i : Nat) (rc : RCo) (w : World), m.cos[i]? = some rc → Below u.heap.size u w → ∃ g, Ac = some ⟨g, 0, none⟩ ∧ w.cell? ⟨g, i * 4 + 2, none⟩ = some (.int .i64 rc.st) ∧ w.cell? ⟨g, i * 4 + 3, none⟩ = some (.string rc.txt) := fun i rc w hrc hb => by
    obtain ⟨g, e, _, _, _, h3, h4⟩ := rd_co hA (hc.below hb) hrc
    exact ⟨g, e, h3, h4⟩
  have hwc : ∀ w, Below u.heap.size u w → w.cell? ⟨wb, 0, none⟩ = some (.pointer (some ⟨S.sb, 0, none⟩)) ∧ w.cell? ⟨wb, 3, none⟩ = some (.slice A1 nt n1) := fun w hb => by
    have h := (hb.block wb hwl).trans hbox
    exact ⟨blk_cell h 0 _ rfl, by rw [← hnt]; exact blk_cell h 3 _ rfl⟩
  have HK := Lib.hid (And.intro kStT (And.intro kNone (And.intro kCnt (And.intro kCl (And.intro kRef (And.intro kEq (And.intro kRow hwc)))))))
  have HN := Lib.hid (And.intro hn hnt)
  rw [hn, hnt] at hb0 hD ⊢
  rw [hn] at hl20
  clear kStT kNone kCnt kCl kRef kEq kRow hwc hn hnt HS HSI si hsame hcl htr hbox hrow hA hc ht hv hlen ht5
  unfold ptr
  go_enter Try.func54, Try.ntmps54
  go_wp2_with fail
  generalize (u.alloc (.cells #[.slice AF nF cF, .slice Ac n cc, .slice Aq m.q.length cq, .slice At nt ct, .bool m.cl] 68)) = w1 at *
  obtain ⟨d0, d1, d2, d3, d4, fd⟩ := five_cells hD
  have hDl := blk_lt hD
  have hbk : ∀ wr, Below (u.heap.size + 1) w1 wr → Below u.heap.size u wr ∧ wr.heap[u.heap.size]? = some (.cells #[.slice AF nF cF, .slice Ac n cc, .slice Aq m.q.length cq, .slice At nt ct, .bool m.cl] 68 (0, 0)) := fun wr h => ⟨hb0.trans (h.mono (by omega)), (h.block _ (by omega)).trans hD⟩
  have HB := Lib.hid hbk
  have H0 := Lib.hid (Below.refl (u.heap.size + 1) w1)
  clear hbk hb0 hD d0 d1 d2 d3 d4 fd
  go_loopg [5, 6, 7, 13] (n + 2) (fun gk _ _ _ z wr => ∃ k : Nat, k + gk = n + 2 ∧ z = .int .i64 (k : Int) ∧ Hid (Below (u.heap.size + 1) w1 wr))
  case atStart => exact ⟨0, by omega, rfl, H0⟩
  case round =>
    obtain ⟨k, hk, rfl, HBr⟩ := hrel
    obtain ⟨hbr, hDr⟩ := HB.out wr HBr.out
    obtain ⟨d0, d1, d2, d3, d4, fd⟩ := five_cells hDr
    have hDl' := blk_lt hDr
    obtain ⟨c0, c3⟩ := HK.out.2.2.2.2.2.2.2 wr hbr
    have hwk : IntKind.i64.wrap ((k : Int) + 1) = (k : Int) + 1 := by rw [IntKind.wrap_i64]; omega
    have hwn : IntKind.i64.wrap ((n : Int) + 2) = (n : Int) + 2 := by rw [IntKind.wrap_i64]; omega
    by_cases hlt : k < n + 2
    · have hki : (k : Int) < (n : Int) + 2 := by omega
      by_cases hin : 1 ≤ k ∧ k ≤ n
      · have hk9 := Lib.hid hk
        obtain ⟨i, rfl⟩ : ∃ i, k = i + 1 := ⟨k - 1, by omega⟩
        have ei : ((i + 1 : Nat) : Int) = (i : Int) + 1 := by omega
        have hi : i < n := by omega
        obtain ⟨rc, hrc, hST⟩ := HK.out.1 i hi
        have hbd := below_drw hbr
        obtain ⟨hst, htx⟩ := hST wr.drew hbd
        have HR := Lib.hid (below_drw HBr.out)
        clear hST hbd
        obtain ⟨g, rfl, r2, r3⟩ := HK.out.2.2.2.2.2.2.1 i rc wr hrc hbr
        have hii : (i : Int) < (n : Int) := by omega
        have hi0 : ¬ (i : Int) < 0 := by omega
        have hi1 : (1 : Int) ≤ (i : Int) + 1 := by omega
        have hi2 : (i : Int) + 1 ≤ (n : Int) := by omega
        have hmix : Try.prog.follows .mixedOrders = true := by kernel_rfl
        rw [ei] at hki hwk ⊢
        have HI := Lib.hid (And.intro ei hrc)
        clear ei hrc hk hin
        go_wp2_with fail
        go_region
        go_wp2_with fail
        refine hst.mono ?_
        rintro e w5 ⟨rfl, hw5⟩
        replace hw5 := hw5.symm
        subst hw5
        go_wp2_with fail
        refine htx.mono ?_
        rintro e w6 ⟨rfl, hw6⟩
        replace hw6 := hw6.symm
        subst hw6
        go_wp2_with fail
        go_roundg (gk - 1)
        case measure => have := hk9.out; omega
        case rel => exact ⟨i + 1 + 1, by have := hk9.out; omega, by go_num, HR⟩
      · have hnone : ((k : Int) < 1 ∨ (n : Int) < (k : Int)) := by omega
        have hwl' : wb < wr.heap.size := by have := hbr.size; omega
        have e1 : Below u.heap.size u (wr.alloc (.cells zeroCo 92)) := hbr.alloc hbr.size _
        have e2 : Below (u.heap.size + 1) w1 ((wr.alloc (.cells zeroCo 92)).alloc (.cells zeroCo 92)) := (HBr.out.alloc (by omega) _).alloc (by rw [World.size_alloc]; omega) _
        have hst := (HK.out.2.1 (k : Int) wr hnone hbr).1
        have htx := (HK.out.2.1 (k : Int) _ hnone e1).2
        have HE := Lib.hid e2
        have c0' : (wr.alloc (.cells zeroCo 92)).cell? ⟨wb, 0, none⟩ = some (.pointer (some ⟨S.sb, 0, none⟩)) := (World.cell?_alloc_lt _ _ ⟨wb, 0, none⟩ hwl').trans c0
        clear e1 e2
        by_cases hk0 : k = 0
        · subst hk0
          go_wp2_with fail
          refine hst.mono ?_
          rintro e w5 ⟨rfl, rfl⟩
          go_wp2_with fail
          refine htx.mono ?_
          rintro e w6 ⟨rfl, rfl⟩
          go_wp2_with fail
          go_roundg (n + 1)
          case measure => omega
          case rel => exact ⟨1, by omega, rfl, HE⟩
        · have hk1 : ¬ (k : Int) < 1 := by omega
          have hk1' : (1 : Int) ≤ (k : Int) := by omega
          have hk2 : ¬ (k : Int) ≤ (n : Int) := by omega
          go_wp2_with fail
          refine hst.mono ?_
          rintro e w5 ⟨rfl, rfl⟩
          go_wp2_with fail
          refine htx.mono ?_
          rintro e w6 ⟨rfl, rfl⟩
          go_wp2_with fail
          go_roundg (gk - 1)
          case measure => omega
          case rel => exact ⟨k + 1, by omega, by go_num, HE⟩
    · have hki : ¬ (k : Int) < (n : Int) + 2 := by omega
      clear hbr c0 c3 d0 d1 d2 d3 d4 fd hDr hDl'
      go_wp2_with fail
      go_loopg [8, 58] 7 (fun gk _ z wr => ∃ k : Nat, k + gk = 7 ∧ z = .int .i64 (k : Int) ∧ Hid (Below (u.heap.size + 1) w1 wr))
      case atStart => exact ⟨0, by omega, rfl, HBr⟩
      case round =>
        obtain ⟨k, hk, rfl, HBr⟩ := hrel
        obtain ⟨hbr, hDr⟩ := HB.out _ HBr.out
        obtain ⟨d0, d1, d2, d3, d4, fd⟩ := five_cells hDr
        have hDl' := blk_lt hDr
        obtain ⟨c0, c3⟩ := HK.out.2.2.2.2.2.2.2 _ hbr
        have hwk : IntKind.i64.wrap ((k : Int) + 1) = (k : Int) + 1 := by rw [IntKind.wrap_i64]; omega
        have hmix : Try.prog.follows .mixedOrders = true := by kernel_rfl
        have HK9 := Lib.hid hk
        by_cases h7 : k < 7
        · have h7i : (k : Int) < 7 := by omega
          have hcn := HK.out.2.2.1 (k : Int) _ (below_drw hbr)
          have hrf := fun w' hb' => HK.out.2.2.2.2.1 (k : Int) w' hb'
          have Hbd := Lib.hid hbr
          have HBd := HBr
          obtain ⟨y, hy⟩ : ∃ y, (m.cos.countP fun c => c.st == (k : Int)) = y := ⟨_, rfl⟩
          rw [hy] at hcn
          have hrf' : ∀ w', Below u.heap.size u w' → Calls Try.prog 70 #[.agg #[.slice AF nF cF, .slice Ac n cc, .slice Aq m.q.length cq, .slice At nt ct, .bool m.cl], .int .i64 (k : Int)] w' fun e w'' => e = .returned (.int .i64 (y : Int)) ∧ Below w'.heap.size w' w'' := fun w' hb' => by
            have := hrf w' hb'
            rw [hy] at this
            exact this
          have HF := Lib.hid hrf'
          clear hrf hrf' hy hbr hDr
          go_wp2_with fail
          go_region_with_o (first
            | (go_at_call 47; refine hcn.mono ?_; rintro e w5 ⟨rfl, q, rfl⟩)
            | (go_at_call 70; refine (HF.out _ (below_drwN Hbd.out _)).mono ?_; rintro e w6 ⟨rfl, hb6⟩))
          all_goals
            go_wp2_with fail
            go_roundg (gk - 1)
            case measure => have := HK9.out; omega
            case rel => exact ⟨k + 1, by have := HK9.out; omega, by go_num, (below_drwN HBd.out _).trans (hb6.mono (Nat.le_trans (show u.heap.size + 1 ≤ w1.heap.size by omega) HBd.out.size))⟩
        · have h7i : ¬ (k : Int) < 7 := by omega
          have heq := HK.out.2.2.2.2.2.1 _ (below_drw hbr)
          have hcl := HK.out.2.2.2.1
          have Hbd := Lib.hid hbr
          have HCL := Lib.hid hcl
          clear hcl hbr hDr
          go_wp2_with fail
          go_region_with_o (first
            | (go_at_call 71; refine heq.mono ?_; rintro e w5 ⟨rfl, q, rfl⟩)
            | (go_at_call 50; refine (HCL.out _ (below_drwN Hbd.out _)).mono ?_; rintro e w6 ⟨rfl, hw6⟩; replace hw6 := hw6.symm; subst hw6))
          all_goals
            go_wp2_with fail
            go_ret
            exact ⟨rfl, new_of_below (below_drwN Hbd.out _)⟩
end Go.Proofs.Ytolnmdanlggmhaa
