/- Seal and Open, the program's and the reference's. -/
import Derived.Test.YthddhcodlmlaiaaSumB
import Derived.Test.YthddhcodlmlaiaaSlices
import Derived.ArgAppend
import Derived.Deep.Onto
namespace Go.Proofs.Ythddhcodlmlaiaa
open Go.RowKit

def sealC (bs : List UInt8) : List UInt8 := bs ++ lit4 (sumC bs)
theorem sealC_len (bs : List UInt8) : (sealC bs).length = bs.length + 4 := by simp [sealC, lit4]

theorem and255_u32 {x : Nat} (h : x < 4294967296) : bits BinOp.and IntKind.u32 (x : Int) 255 = ((x % 256 : Nat) : Int) := by
  have := u32_and_nat x 255 h (by decide)
  rw [nat_mask8] at this; exact this

theorem lit4_vals {x : Nat} (h : x < 4294967296) : bvs (lit4 x) = [.int .u8 ((x : Int) % 256), .int .u8 ((x : Int) / 256 % 256), .int .u8 ((x : Int) / 65536 % 256), .int .u8 ((x : Int) / 16777216)] := by
  simp only [bvs, lit4, bv, List.map_cons, List.map_nil, UInt8.toNat_ofNat']
  have e : x / 16777216 % 2 ^ 8 = x / 16777216 := Nat.mod_eq_of_lt (by omega)
  rw [e]
  rfl
theorem lit_own (x : Nat) (w : World) (h : x < 4294967296) : (w.alloc (.cells #[.int .u8 ((x : Int) % 256), .int .u8 ((x : Int) / 256 % 256), .int .u8 ((x : Int) / 65536 % 256), .int .u8 ((x : Int) / 16777216)] 5)).ownsRow w.heap.size 5 1 (.slice (some ⟨w.heap.size, 0, none⟩) 4 4) 4 (bvs (lit4 x)) := by
  have hown := World.ownsRow_lit (e := 5) (size := 1) (base := w.heap.size) w (bvs (lit4 x)).toArray 4 (Nat.le_refl _) (by simp [maxLen]) (by simp [lit4])
  have e : (bvs (lit4 x)).toArray = #[.int .u8 ((x : Int) % 256), .int .u8 ((x : Int) / 256 % 256), .int .u8 ((x : Int) / 65536 % 256), .int .u8 ((x : Int) / 16777216)] := by rw [lit4_vals h]
  rw [e] at hown
  have e2 := lit4_vals h
  rw [e2]
  exact hown

set_option maxRecDepth 100000 in
set_option maxHeartbeats 1000000 in
theorem little_any (x : Nat) (w : World) (hx : x < 4294967296) :
    Calls Try.prog 44 #[.int .u32 x] w fun e w' => ∃ v, e = .returned v ∧ w'.ownsRow w.heap.size 5 1 v 4 (bvs (lit4 x)) ∧ Below w.heap.size w w' := by
  have h1 := and255_u32 hx
  have h2 : bits BinOp.and IntKind.u32 ((x : Int) / 256) 255 = ((x / 256 % 256 : Nat) : Int) := by
    have := and255_u32 (x := x / 256) (by omega)
    rw [← this]; congr 1
  have h3 : bits BinOp.and IntKind.u32 ((x : Int) / 65536) 255 = ((x / 65536 % 256 : Nat) : Int) := by
    have := and255_u32 (x := x / 65536) (by omega)
    rw [← this]; congr 1
  have hown := lit_own x w hx
  go_enter Try.func44, Try.ntmps44
  go_wp2_with fail
  go_ret
  exact ⟨_, rfl, hown, (Below.refl _ _).alloc (Nat.le_refl _) _⟩

set_option maxRecDepth 100000 in
set_option maxHeartbeats 2000000 in
theorem seal_any (A : Option Addr) (n c : Nat) (bs : List UInt8) (w : World) (B : Nat) (hr : Rd w B A n (bvs bs)) (hB : B ≤ w.heap.size) (hnc : n ≤ c) (hn : n ≤ 3000000) :
    Calls Try.prog 22 #[.slice A n c] w fun e w' => ∃ v, e = .returned v ∧ w'.ownsRow w.heap.size 5 1 v (n + 4) (bvs (sealC bs)) ∧ Below w.heap.size w w' := by
  obtain ⟨i0, hi, hz0, hz1, hz2⟩ := info_parts infoE28
  have hl : bs.length = n := by simpa using hr.len
  have HL := Lib.hid hl; clear hl
  have hs1 := sum_any (some ⟨w.heap.size, 0, none⟩) 1 1 [bs] bs n _ _ (rds_one 28 (c := c) hr hB) (by simp) rfl (by simp) HL.out (by omega) (by omega)
  have hbx : Below w.heap.size w (w.alloc (.cells #[.slice A n c] 28)) := (Below.refl _ _).alloc (Nat.le_refl _) _
  go_enter Try.func22, Try.ntmps22
  go_wp2_with fail
  refine hs1.mono ?_
  rintro e w1 ⟨rfl, hb⟩
  have hb1 := hbx.trans (hb.mono hbx.size)
  clear hb hbx hs1
  have hr1 := (hr.more hB).below hb1
  have hx := sumC_lt bs
  obtain ⟨x, hxe⟩ : ∃ x, sumC bs = x := ⟨_, rfl⟩
  rw [hxe] at hx
  have HX := Lib.hid hxe
  rw [hxe]
  clear hxe
  have hlit := lit_own x w1 hx
  have hr2 := hr1.alloc hb1.size (.cells #[.int .u8 ((x : Int) % 256), .int .u8 ((x : Int) / 256 % 256), .int .u8 ((x : Int) / 65536 % 256), .int .u8 ((x : Int) / 16777216)] 5)
  have holds : ∀ b, A = some b → ∀ (j : Nat) u, (bvs bs)[j]? = some u → (w1.alloc (.cells #[.int .u8 ((x : Int) % 256), .int .u8 ((x : Int) / 256 % 256), .int .u8 ((x : Int) / 65536 % 256), .int .u8 ((x : Int) / 16777216)] 5)).cell? (b.add j) = some u := fun b e j u hu => by
    obtain ⟨ad, e2, _, hc⟩ := hr2.at' j u hu
    rw [e] at e2; injection e2 with e2; subst e2; exact hc
  have hnone : A = none → n = 0 ∧ n = 0 := fun e => by
    subst e
    have : bs = [] := by
      cases bs with
      | nil => rfl
      | cons b l => obtain ⟨ad, e, _⟩ := hr.at' 0 (bv b) rfl; cases e
    have h := HL.out
    rw [this] at h
    exact ⟨h.symm, h.symm⟩
  have hcl := hlit.cells (g := w1.heap.size) rfl
  have hb2 : Below w.heap.size w (w1.alloc (.cells #[.int .u8 ((x : Int) % 256), .int .u8 ((x : Int) / 256 % 256), .int .u8 ((x : Int) / 65536 % 256), .int .u8 ((x : Int) / 16777216)] 5)) := hb1.alloc hb1.size _
  have HO := Lib.hid holds; have HN := Lib.hid hnone; have HC := Lib.hid hcl; clear holds hnone hcl hr2 hr1 hlit
  have hnn : (n : Int) ≤ (n : Int) := by omega
  have hn0 : (0 : Int) ≤ (n : Int) := by omega
  have hnci : (n : Int) ≤ (c : Int) := by omega
  go_wp2_with (at_builtin; refine wpList_append_grows _ rfl (.tmp 12) (.tmp 24) 28 rfl 5 i0 _ 1 1 Try.underlying28 hi hz0 hz1 hz2 rfl (by omega) _ n n (bvs bs) rfl HN.out (by simpa using HL.out) HO.out ⟨w1.heap.size, 0, none⟩ 4 4 (bvs (lit4 x)) rfl (by simp [lit4]) HC.out (bvs_one _) (by omega) (by unfold maxLen; omega) (by omega) ?_; intro v' w2 hown2 hg2)
  all_goals
    go_ret
    refine ⟨v', rfl, ?_, ?_⟩
    · have e : bvs (sealC bs) = bvs bs ++ bvs (lit4 x) := by unfold sealC; rw [HX.out, bvs_append]
      rw [e]
      exact hown2.mono hb2.size
    · exact hb2.grown hg2 hb2.size fun k hk => by cases hk

/-- Whether bytes are sealed; what is in them. -/
def okC (bs : List UInt8) : Bool := decide (4 ≤ bs.length ∧ sealC (bs.take (bs.length - 4)) = bs)
def inC (bs : List UInt8) : List UInt8 := if okC bs = true then bs.take (bs.length - 4) else []

/-- What Open hands back. -/
def Opened (w : World) (bs : List UInt8) (e : Ending) (w' : World) : Prop :=
  ∃ v, e = .returned (.tuple #[v, .bool (okC bs)]) ∧ w'.ownsRow w.heap.size 5 1 v (inC bs).length (bvs (inC bs)) ∧ Below w.heap.size w w'
theorem Opened.no {w w' : World} {bs : List UInt8} {e : Ending} (h : okC bs = false) (he : e = .returned (.tuple #[.slice none 0 0, .bool false])) (hb : Below w.heap.size w w') : Opened w bs e w' := by
  refine ⟨.slice none 0 0, by rw [he, h], ?_, hb⟩
  have : inC bs = [] := by unfold inC; rw [if_neg (by rw [h]; decide)]
  rw [this]
  exact World.ownsRow_nil _ _ _ _
theorem Opened.yes {w w' : World} {bs : List UInt8} {e : Ending} {v : Value} {n : Nat} (h : okC bs = true) (he : e = .returned (.tuple #[v, .bool true])) (hn : bs.length = n + 4) (ho : w'.ownsRow w.heap.size 5 1 v n (bvs (bs.take n))) (hb : Below w.heap.size w w') : Opened w bs e w' := by
  refine ⟨v, by rw [he, h], ?_, hb⟩
  have : inC bs = bs.take n := by unfold inC; rw [if_pos h, show bs.length - 4 = n from by omega]
  rw [this, show (bs.take n).length = n from by rw [List.length_take]; omega]
  exact ho

set_option maxRecDepth 100000 in
set_option maxHeartbeats 2000000 in
theorem open_any (A : Option Addr) (n c : Nat) (bs : List UInt8) (w : World) (B : Nat) (hr : Rd w B A n (bvs bs)) (hB : B ≤ w.heap.size) (hnc : n ≤ c) (hn : n ≤ 3000000) :
    Calls Try.prog 23 #[.slice A n c] w fun e w' => Opened w bs e w' := by
  have hl : bs.length = n := by simpa using hr.len
  by_cases h4 : n < 4
  · have hno : okC bs = false := by unfold okC; rw [decide_eq_false_iff_not]; omega
    have HO := Lib.hid hno; clear hno hl
    have h4i : (n : Int) - 4 < 0 := by omega
    go_enter Try.func23, Try.ntmps23
    go_wp2_with fail
    go_ret2
    exact Opened.no HO.out rfl (Below.refl _ _)
  · obtain ⟨k, rfl⟩ : ∃ k, n = k + 4 := ⟨n - 4, by omega⟩
    obtain ⟨ad, _, rfl, _, _, _⟩ := hr.at (k := 0) (by omega)
    obtain ⟨t, ht⟩ : ∃ t, decide (sealC (bs.take k) = bs) = t := ⟨_, rfl⟩
    have hok : okC bs = t := by
      unfold okC; rw [show bs.length - 4 = k from by omega, ← ht]
      exact decide_eq_decide.2 ⟨fun h => h.2, fun h => ⟨by omega, h⟩⟩
    have HOK := Lib.hid hok; have HT := Lib.hid ht; have HL := Lib.hid hl; clear hok ht hl
    have h4i : ¬ ((k + 4 : Nat) : Int) - 4 < 0 := by omega
    have hk4 : ((k + 4 : Nat) : Int) - 4 = (k : Int) := by omega
    have hk0 : ¬ (k : Int) < 0 := by omega
    have hk1 : (0 : Int) ≤ (k : Int) := by omega
    have hk2 : (k : Int) ≤ (c : Int) := by omega
    have hbt : bvs (bs.take k) = (bvs bs).take k := by simp [bvs, List.map_take]
    have hrt := hr.take (k := k) (by omega)
    rw [← hbt] at hrt
    clear hbt h4
    have hse := seal_any (some ad) k c (bs.take k) w B hrt hB (by omega) (by omega)
    go_enter Try.func23, Try.ntmps23
    go_wp2_with fail
    refine hse.mono ?_
    rintro e w1 ⟨v, rfl, hown, hb1⟩
    clear hse
    obtain ⟨A1, c1, rfl, hr1⟩ := own_rd hown
    have hrb := (hr.more hB).below hb1
    have heq := equal_t (c := c1) (c' := c) hr1 hrb (by omega) (by omega) HT
    go_wp2_with fail
    refine heq.mono ?_
    rintro e _ ⟨rfl, q, rfl⟩
    have hb2 : Below w.heap.size w (w1.drewN q) := below_drewN hb1 q
    clear heq hr1 hrb hown
    cases t with
    | false =>
      go_wp2_with fail
      go_ret2
      exact Opened.no HOK.out rfl hb2
    | true =>
      have hcl := clone_any (some ad) k c (bs.take k) (w1.drewN q) _ ((hrt.more hB).below hb2) hb2.size (by omega)
      go_wp2_with fail
      refine hcl.mono ?_
      rintro e w3 ⟨v, rfl, hown, hb⟩
      go_wp2_with fail
      go_ret2
      exact Opened.yes HOK.out rfl HL.out (World.ownsRow.mono hown hb2.size) (hb2.trans (hb.mono hb2.size))

set_option maxRecDepth 100000 in
set_option maxHeartbeats 2000000 in
theorem refseal_any (A : Option Addr) (n c : Nat) (bs : List UInt8) (w : World) (B : Nat) (hr : Rd w B A n (bvs bs)) (hB : B ≤ w.heap.size) (hn : n ≤ 3000000) :
    Calls Try.prog 26 #[.slice A n c] w fun e w' => ∃ v, e = .returned v ∧ w'.ownsRow w.heap.size 5 1 v (n + 4) (bvs (sealC bs)) ∧ Below w.heap.size w w' := by
  obtain ⟨i0, hi, hz0, hz1, hz2⟩ := info_parts infoE28
  have hown := World.ownsRow_lit (e := 5) (size := 1) (base := w.heap.size) w #[] 0 (Nat.le_refl _) (by simp [maxLen]) (by simp)
  have hr1 := hr.alloc hB (.cells #[] 5)
  have hl : bs.length = n := by simpa using hr.len
  have HL := Lib.hid hl; clear hl
  go_enter Try.func26, Try.ntmps26
  go_wp2_with (at_builtin; refine wpList_app _ rfl (.tmp 3) (.tmp 4) 28 rfl w.heap.size 5 i0 _ 1 Try.underlying28 hi hz0 hz1 hz2 rfl _ _ _ rfl hown B _ _ _ _ rfl hr1 (bvs_one _) (by unfold maxLen; omega) (by omega) (by simp) ?_; intro v' w2 hown2 hg2 hat2)
  have hb2 : Below w.heap.size w w2 := ((Below.refl _ _).alloc (Nat.le_refl _) _).grown hg2 (by simp) fun k hk => (hown.lt k hk).1
  have hown2' : w2.ownsRow w.heap.size 5 1 v' n (bvs bs) := by simpa using hown2
  clear hown2 hown hg2 hat2 hr1
  have hrs := refsum_any A n c bs w2 _ ((hr.more hB).below hb2) (by omega)
  refine hrs.mono ?_
  rintro e w3 ⟨rfl, rfl⟩
  have hli := little_any (sumC bs) w3 (sumC_lt bs)
  go_wp2_with fail
  refine hli.mono ?_
  rintro e w4 ⟨v4, rfl, hown4, hb⟩
  have hb4 := hb2.trans (hb.mono hb2.size)
  obtain ⟨A4, c4, rfl, hr4⟩ := own_rd hown4
  have hown5 := hown2'.kept (w' := w4) (row := none) ⟨hb.os, hb.tape, hb.output, hb.size, fun i hi _ => hb.block i hi⟩ (Classical.em _)
  go_wp2_with (at_builtin; refine wpList_app _ rfl (.tmp 5) (.tmp 8) 28 rfl w.heap.size 5 i0 _ 1 Try.underlying28 hi hz0 hz1 hz2 rfl _ _ _ rfl hown5 w4.heap.size _ _ _ _ rfl hr4 (bvs_one _) (by unfold maxLen; omega) (by omega) hb4.size ?_; intro v6 w6 hown6 hg6 hat6)
  go_ret
  refine ⟨v6, rfl, ?_, hb4.grown hg6 hb4.size fun k hk => (hown5.lt k hk).1⟩
  have e : bvs (sealC bs) = bvs bs ++ bvs (lit4 (sumC bs)) := by unfold sealC; rw [bvs_append]
  rw [e]
  exact hown6
end Go.Proofs.Ythddhcodlmlaiaa
