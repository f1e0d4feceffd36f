/- The law BinKeeps, walked. -/
import Derived.Test.YtmhjkghmpdnhaaaLOnly
namespace Go.Proofs.Ytmhjkghmpdnhaaa
open Go.RowKit

theorem own_ge {w : World} {base : Nat} {e : TypeId} {v : Value} {n : Nat} {xs : List Value} (h : w.ownsRow base e 1 v n xs) {go : Nat} (hb : go < base) : v.ownBlock = none ∨ v.ownBlock ≠ some go := by
  refine .inr fun e' => ?_
  have := (h.lt go e').1
  omega

theorem rd_two {w w' : World} {B B' n : Nat} {A : Option Addr} {xs : List Value} (h : Rd w B A n xs) (h' : Rd w' B' A n xs) : Rd w' B A n xs :=
  ⟨h.len, fun j u hu => by
    obtain ⟨ad, e, hb, _⟩ := h.at' j u hu
    obtain ⟨ad', e', _, hc⟩ := h'.at' j u hu
    rw [e] at e'; injection e' with e'; subst e'
    exact ⟨ad, e, hb, hc⟩⟩
theorem own_blk {w : World} {base g : Nat} {e t : TypeId} {v : Value} {n : Nat} {xs : List Value} {cs : Array Value} {fr : Nat × Nat} (h : w.ownsRow base e 1 v n xs) (hg : w.heap[g]? = some (.cells cs t fr)) (hne : e ≠ t) : v.ownBlock ≠ some g := by
  intro he
  rcases h.2 with ⟨rfl, _⟩ | ⟨g', cap, cur, rfl, _, hg', _⟩
  · simp [Value.ownBlock] at he
  · obtain rfl : g' = g := by simpa [Value.ownBlock] using he
    rw [hg] at hg'; injection hg' with hg'; injection hg' with _ ht; exact hne ht.symm
theorem own_ne {w w' : World} {base base' : Nat} {e e' : TypeId} {v v' : Value} {n n' : Nat} {xs xs' : List Value} (h : w.ownsRow base e 1 v n xs) (hv : ∀ k, v'.ownBlock = some k → k < base) (_ : w'.ownsRow base' e' 1 v' n' xs') :
    v.ownBlock = none ∨ v.ownBlock ≠ v'.ownBlock := by
  cases hb : v.ownBlock with
  | none => exact .inl rfl
  | some k =>
    refine .inr fun e' => ?_
    have h1 := (h.lt k hb).1
    have h2 := hv k e'.symm
    omega

set_option maxRecDepth 100000 in
set_option maxHeartbeats 4000000 in
theorem law_keeps (A : Option Addr) (n c : Nat) (z : List Int) (w : World) (w2 : IsRow .u8 w A n c z) :
    Calls Try.prog 6 #[.slice A n c] w fun e w' => e = .returned (.bool true) ∧ Below w.heap.size w w' := by
  obtain ⟨i0, hi, hz0, hz1, hz2⟩ := info_parts info5
  obtain ⟨bs, hbl, hr, hnc, hcm⟩ := w2.bytes
  clear w2
  have hm : n ≤ 9223372036854775807 := by unfold maxLen at hcm; omega
  have HBL := Lib.hid hbl; clear hbl
  by_cases hbig : 300 < n
  · have hb1 : (300 : Int) < (n : Int) := by omega
    go_enter Try.func6, Try.ntmps6
    go_wp2_with fail
    refine (alive_any _).mono ?_
    rintro e w' ⟨rfl, hb⟩
    go_wp2_with fail
    go_ret
    exact ⟨rfl, hb⟩
  · have hb1 : ¬ (300 : Int) < (n : Int) := by omega
    have hown0 := World.ownsRow_lit (e := 5) (size := 1) (base := w.heap.size) w #[] 0 (Nat.le_refl _) (by simp [maxLen]) (by simp)
    have hr1 := hr.alloc (Nat.le_refl _) (.cells #[] 5)
    go_enter Try.func6, Try.ntmps6
    go_wp2_with (at_builtin; refine wpList_app _ rfl (.tmp 14) (.tmp 15) 23 rfl w.heap.size 5 i0 _ 1 Try.underlying23 hi hz0 hz1 hz2 rfl _ _ _ rfl hown0 w.heap.size _ _ _ _ rfl hr1 (bvs_one _) (by unfold maxLen; omega) (by omega) (by simp) ?_; intro v' w2 hown2 hg2 hat2)
    simp only [Nat.zero_add, List.nil_append] at hown2
    have hB2 : Below w.heap.size w w2 := ((Below.refl _ _).alloc (Nat.le_refl _) _).grown hg2 (by simp) fun k hk => (hown0.lt k hk).1
    clear hat2 hg2 hown0 hr1
    obtain ⟨A1, c1, rfl, hc1, _⟩ := own_slice hown2
    have hr2 := Rd.of_own hown2
    refine (new_own A1 n c1 bs _ w2.heap.size hr2 (Nat.le_refl _) (by omega)).mono ?_
    rintro e w3 ⟨g, A2, c2, rfl, hg1, hcg, hown3, hr3, hc2, hb⟩
    have hown2' := hown2.kept (grown_of_below hb none) (by cases hv : Value.ownBlock (.slice A1 n c1) <;> simp)
    have hgl := blk_lt hcg
    have hB3 := hB2.trans (hb.mono hB2.size)
    have hs23 := hb.size
    have hs2 := hB2.size
    clear hr2 hb hB2 hcm
    go_wp2_with fail
    refine (bin_bytes A1 n c1 bs _ w3.heap.size (Rd.of_own hown2') (Nat.le_refl _) (by omega)).mono ?_
    rintro e w4 ⟨v3, rfl, hown4, hb⟩
    have hown2'' := hown2'.kept (grown_of_below hb none) (by cases hv : Value.ownBlock (.slice A1 n c1) <;> simp)
    have hown3' := hown3.kept (grown_of_below hb none) (by cases hv : Value.ownBlock (.slice A2 n c2) <;> simp)
    have hcg' := (hb.block g hgl).trans hcg
    have hB4 := hB3.trans (hb.mono hB3.size)
    have hs34 := hb.size
    have hnl := (U64.mk (x := n) (by omega)).len
    obtain ⟨A3, c3, rfl, hc3, _⟩ := own_slice hown4
    have hlt2 : ∀ k, Value.ownBlock (.slice A1 n c1) = some k → k < w2.heap.size := fun k hk => (hown2.lt k hk).2
    clear hown2 hown2' hown3 hcg hb hB3
    go_wp2_with fail
    go_loopw [23] (fun i wr => ∃ (k : Nat) (ys : List UInt8), k ≤ n ∧ i = .int .i64 k ∧ wr.ownsRow w.heap.size 5 1 (.slice A1 n c1) n (bvs ys) ∧ w4.grownBy wr (Value.ownBlock (.slice A1 n c1))) (fun i _ => n - (intOf i).toNat)
    case atStart => exact ⟨0, bs, Nat.zero_le _, rfl, hown2'', World.grownBy.refl _ _⟩
    case round =>
      obtain ⟨k, ys, hk, rfl, hownr, hgr⟩ := hrel
      by_cases hlt : k < n
      · obtain ⟨go, cap, hv, hgo, hgol⟩ := hownr.form (by omega)
        obtain ⟨rfl, rfl⟩ : A1 = some ⟨go, 0, none⟩ ∧ c1 = cap := by injection hv with h1 _ h2; exact ⟨h1, h2⟩
        clear hv
        have hyl : ys.length = n := by simpa using hownr.1
        have hcell := hownr.cellAt k (by omega)
        have hfr := hownr.frozenAt k
        obtain ⟨b, hbk⟩ : ∃ b, ys[k]? = some b := ⟨ys[k], List.getElem?_eq_getElem (by omega)⟩
        have hcell' : wr.cell? ⟨go, k, none⟩ = some (.int .u8 b.toNat) := by rw [hcell, bvs, List.getElem?_map, hbk]; rfl
        have hst := fun u => hownr.stored k u
        have HST := Lib.hid hst; clear hst
        have Hyl := Lib.hid hyl; clear hyl
        have hb2 : b.toNat < 256 := b.toNat_lt
        clear hcell hbk
        go_wp2_with fail
        go_roundw
        case rel =>
          have h1 := HST.out (.int .u8 (IntKind.u8.wrap ((b.toNat : Int) + 1)))
          refine ⟨k + 1, ys.set k (b + 1), by omega, by go_num, ?_, ?_⟩
          · have e : bvs (ys.set k (b + 1)) = (bvs ys).set k (.int .u8 (IntKind.u8.wrap ((b.toNat : Int) + 1))) := by
              rw [bvs, List.map_set]
              congr 1
            rw [e]; exact h1.1
          · exact grown_trans hgr h1.2
        case measure => simp [intOf]; omega
      · have hrow3 := hown3'.kept hgr (own_ne hown3' hlt2 hown2'')
        have hrow4 := hown4.kept hgr (own_ne hown4 (fun k hk => Nat.lt_of_lt_of_le (hlt2 k hk) hs23) hown2'')
        have hgw : wr.heap[g]? = some (.cells #[.slice A2 n c2, .bool false] 60 (0, 0)) := (hgr.block g (by omega) (fun e => by have := hlt2 g e.symm; omega)).trans hcg'
        have hrd : Rdr wr g bs false := by
          refine ⟨A2, c2, by rw [HBL.out]; exact hgw, by rw [HBL.out]; exact hc2, by rw [HBL.out]; omega, ?_⟩
          rw [HBL.out]; exact rd_two hr3 (Rd.of_own hrow3)
        have hBr : Below w.heap.size w wr := hB4.grown hgr hB4.size fun k hk => (hown2''.lt k hk).1
        have hrb := hr.below hBr
        have hfne := own_blk hrow4 hgw (by decide)
        clear hrow3 hgw hgr hownr hown2'' hown3' hcg' hB4 hr3 hown4
        go_wp2_with fail
        refine (take_yes (K := n) hrd (by rw [HBL.out]; omega)).mono ?_
        rintro e w5 ⟨A5, c5, rfl, hr5, hrd5, hgr⟩
        have hgw : w.heap.size ≤ g := by omega
        have hB5 := below_grown hBr hgr hBr.size hgw
        have hr5b := hrb.grow hgr hBr.size hgw
        have hf5 := Rd.of_own (hrow4.kept hgr (.inr hfne))
        clear hrow4 hgr hrb hBr hrd hfne hrd5
        go_wp2_with fail
        have htk : bs.take n = bs := List.take_of_length_le (by rw [HBL.out]; omega)
        rw [htk] at hr5
        refine (equal_own hr5 hr5b (by omega) (by omega) rfl).mono ?_
        rintro e _ ⟨rfl, q1, rfl⟩
        have hB6 := below_drewN hB5 q1
        have hr6 := hr5b.drewN q1
        have hf6 : Rd (w5.drewN q1) (w5.drewN q1).heap.size A3 _ _ := hf5.drewN q1
        clear hB5 hr5b hf5 hr5 htk
        generalize w5.drewN q1 = w6 at *
        go_wp2_with fail
        refine (ref_bytes A n c bs _ w.heap.size hr6 hB6.size (by omega)).mono ?_
        rintro e w7 ⟨v7, rfl, hown7, hb⟩
        obtain ⟨A7, c7, rfl, hr7⟩ := own_rd hown7
        have hB7 := hB6.trans (hb.mono hB6.size)
        have hf7 := hf6.below hb
        clear hB6 hr6 hf6 hb hown7
        go_wp2_with fail
        refine (equal_own hf7 hr7 (by omega) (by omega) rfl).mono ?_
        rintro e _ ⟨rfl, q2, rfl⟩
        have hB8 := below_drewN hB7 q2
        clear hB7 hf7 hr7
        generalize w7.drewN q2 = w8 at *
        go_wp2_with fail
        refine (alive_any _).mono ?_
        rintro e w9 ⟨rfl, hb⟩
        have hB9 := hB8.trans (hb.mono hB8.size)
        clear hB8 hb
        go_wp2_with (first | (go_at_call 18; refine (uint_nil _).mono ?_; rintro e _ ⟨rfl, rfl⟩) | (go_at_call 21; refine (int_nil _).mono ?_; rintro e _ ⟨rfl, rfl⟩) | (go_at_call 23; refine (bytes_nil _).mono ?_; rintro e _ ⟨rfl, rfl⟩) | (go_at_call 25; refine (text_nil _).mono ?_; rintro e _ ⟨rfl, rfl⟩) | (go_at_call 26; refine (take_nil _ _).mono ?_; rintro e _ ⟨rfl, rfl⟩) | (go_at_call 28; refine (left_nil _).mono ?_; rintro e _ ⟨rfl, rfl⟩) | (go_at_call 29; refine (ok_nil _).mono ?_; rintro e _ ⟨rfl, rfl⟩) | (go_at_call 19; refine (done_nil _).mono ?_; rintro e _ ⟨rfl, rfl⟩))
        go_ret
        exact ⟨rfl, hB9⟩
end Go.Proofs.Ytmhjkghmpdnhaaa
