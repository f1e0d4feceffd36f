/- Count, lone: how many coroutines are in a state. -/
import Derived.Test.YtolnmdanlggmhaaKe
import Derived.Test.YtolnmdanlggmhaaKi
namespace Go.Proofs.Ytolnmdanlggmhaa
open Go.RowKit Go.Maps Go.Conc

def cntOf (st : Int) (cos : List CoR) : Nat := cos.countP fun c => c.st == st

set_option maxRecDepth 100000 in
set_option maxHeartbeats 1000000 in
theorem count_at (w : World) (sb qb sc n cap : Nat) (A : Option Addr) (cl : Bool) (cos : List CoR) (st : Int) (h : SchAt w sb qb sc (.slice A n cap) cl) (hr : QRow w (.slice A n cap) (cos.map fun c => ptr c.b)) (hc : ∀ (i : Nat) c, cos[i]? = some c → CoAt w sb i c) (hn : (n : Int) < 1000000) :
    Calls Try.prog 47 #[.pointer (some ⟨sb, 0, none⟩), .int .i64 st] w fun e w' => e = .returned (.int .i64 (cntOf st cos : Nat)) ∧ ∃ q, w' = w.drewN q := by
  have c0 := cellsAt_cell h 0 (.slice A n cap) rfl
  have hrd := hr.rd
  have hlen : cos.length = n := by have := hrd.len; simpa using this
  have HL := Lib.hid hlen
  clear h hr hlen
  go_enter Try.func47, Try.ntmps47
  go_wp2_with fail
  go_loopw [5, 15] (fun m i wr => ∃ k : Nat, k ≤ n ∧ i = .int .i64 k ∧ m = .int .i64 (cntOf st (cos.take k) : Nat) ∧ ∃ q, wr = w.drewN q) (fun _ i _ => n - (intOf i).toNat)
  case atStart => exact ⟨0, Nat.zero_le _, rfl, rfl, 0, rfl⟩
  case round =>
    obtain ⟨k, hk, rfl, rfl, q, rfl⟩ := hrel
    by_cases hlt : k < n
    · obtain ⟨c, hck⟩ : ∃ c, cos[k]? = some c := ⟨_, List.getElem?_eq_getElem (by rw [HL.out]; exact hlt)⟩
      obtain ⟨ad, hA, hb, hcell'⟩ := hrd.at' k (ptr c.b) (by rw [List.getElem?_map, hck]; rfl)
      have c5 := cellsAt_cell (hc k c hck) 5 (.int .i64 c.st) rfl
      have hkn : (k : Int) < (n : Int) := by omega
      have hcl : cntOf st (cos.take k) ≤ k := Nat.le_trans List.countP_le_length (by rw [List.length_take]; omega)
      have htk : cntOf st (cos.take (k + 1)) = cntOf st (cos.take k) + if c.st == st then 1 else 0 := by
        unfold cntOf
        rw [List.take_add_one, hck, List.countP_append]
        simp
      subst hA
      generalize cntOf st (cos.take k) = m at *
      have hcell : w.cell? (ad.add k) = some (.pointer (some ⟨c.b, 0, none⟩)) := hcell'
      clear hcell'
      generalize c.b = cb at *
      generalize c.st = s at *
      have HT := Lib.hid htk
      have HM := Lib.hid (show m + 1 < 1000000 by omega)
      clear hc hck hrd c0 HL htk hcl hb
      iterate 53 (first | go_skip | go_guarded | go_step | go_upon | go_simp)
      generalize hst : (s == st) = t
      cases t
      · go_wp2
        go_roundw
        case rel => exact ⟨k + 1, by omega, by go_num, by have := HT.out; rw [hst] at this; rw [this]; rfl, _, rfl⟩
        case measure => simp [intOf]; omega
      · go_wp2
        go_roundw
        case rel => exact ⟨k + 1, by omega, by go_num, by have := HT.out; rw [hst, if_pos rfl] at this; rw [this]; have hm := HM.out; exact congrArg (Value.int .i64) (show wrap64 ((m : Int) + 1) = ((m + 1 : Nat) : Int) by unfold wrap64; omega), _, rfl⟩
        case measure => simp [intOf]; omega
    · go_wp2
      go_ret
      have e : cos.take k = cos := List.take_of_length_le (by rw [HL.out]; omega)
      rw [e]
      exact ⟨rfl, q, rfl⟩
theorem count_u {u : World} {own : Nat → Nat} {S : Sch} (si : SI own S u) (st : Int) (hn : S.cos.length < 1000000) (A : Nat → Question → Nat) (d : Nat) : Calls Try.prog 47 #[ptr S.sb, .int .i64 st] (tp u A d) fun e w' => e = .returned (.int .i64 (cntOf st S.cos : Nat)) ∧ ∃ A d, w' = tp u A d := by
  have hsch : SchAt u S.sb S.qb S.sc S.v S.closed := si.sch
  have hrow := si.row
  obtain ⟨A0, cap, hv, _, _⟩ := hrow.slice
  rw [hv] at hsch hrow
  refine (count_at (tp u A d) S.sb S.qb S.sc _ cap A0 S.closed S.cos st hsch (hrow.keep fun _ _ => rfl) (fun i c hi => si.co i c hi) (by simp; omega)).mono ?_
  rintro e w' ⟨h, q, rfl⟩
  exact ⟨h, A, d + q, rfl⟩
end Go.Proofs.Ytolnmdanlggmhaa

/- Words that several laws of the coroutines share. -/
namespace Go.Proofs.Ytolnmdanlggmhaa
open Go.RowKit Go.Maps Go.Conc
open Go.ConcN (upd upd_ne upd_same)

set_option maxRecDepth 100000
set_option maxHeartbeats 2000000

/-- The blocks of a law's own tags are as they were. -/
def Same8 (own : Nat → Nat) (w w' : World) : Prop := ∀ b, 8 ≤ own b → w'.heap[b]? = w.heap[b]?
theorem Same8.refl (own : Nat → Nat) (w : World) : Same8 own w w := fun _ _ => rfl
theorem Same6.s8 {own : Nat → Nat} {w w' : World} (h : Same6 own w w') : Same8 own w w' := fun b hb => h b (by omega)
theorem Same8.trans {own own' : Nat → Nat} {a b c : World} (h : Same8 own a b) (k : Same8 own' b c) (le : OLe own own') : Same8 own a c := fun x hx => by
  rw [k x (by rw [le x (by omega)]; exact hx), h x hx]
theorem same8_step {T : Nat → Prop} {own own' : Nat → Nat} {S S' : Sch} {FC : List Row} {u w w1 : World} (a : Agr own' FC u w1) (f' : FI own' S' FC) (st : Stp T own own' (guardW FC w) u) (hT : ∀ t, T t → t < 8) (lw : LW own w) (f : FI own S FC) : Same8 own w w1 := fun b hb => by
  have hb0 : own b ≠ 0 := by omega
  have e : own' b = own b := st.le b hb0
  rw [a.eq b (by omega) (f'.ne (by omega) (by omega) (by omega)), st.block b (by simpa [guardW] using (lw b hb0).1) (fun ht => by have := hT _ ht; omega), (agr_guard f.wf lw).eq b hb0 (f.ne (by omega) (by omega) (by omega))]

/-- The variable k of a coroutine. -/
def KbAt (own : Nat → Nat) (kb : Nat) (z : Int) (w : World) : Prop := own kb = 8 ∧ w.heap[kb]? = some (.cells #[.int .u8 z] 5 (0, 0))
theorem KbAt.keep {own own' : Nat → Nat} {kb : Nat} {z : Int} {w w' : World} (h : KbAt own kb z w) (le : OLe own own') (s : Same8 own w w') : KbAt own' kb z w' := ⟨le.tag h.1 (by omega), (s kb (by rw [h.1]; omega)).trans h.2⟩

theorem idx_b {a : Act} {o : Oper} {x y : Operand} {A : Option Addr} {ad : Addr} {n cap i : Nat} (hA : A = some ad) (w : World) (ho : o.op = .indexAddr 32 x y) (hx : a.eval x = .slice A n cap) (hy : a.eval y = .int .i64 (i : Int)) (hi : i < n) : (execOp a.eval o).run Try.prog w = .ok (.value (.pointer (some (ad.add i)))) w := by
  subst hA
  have hs := Try.underlying32
  unfold execOp
  simp only [ho, hx, hy]
  simp [go_sem, hs, hi]
theorem gtr_v {a : Act} {o : Oper} {x y : Operand} {t t' : TypeId} {p q : Int} {r : Bool} {w : World} (ho : o.op = .binOp .gtr t x y t') (hx : a.eval x = .int .i64 p) (hy : a.eval y = .int .i64 q) (hr : decide (q < p) = r) : (execOp a.eval o).run Try.prog w = .ok (.value (.bool r)) w := by
  unfold execOp
  simp only [ho, hx, hy]
  simp [go_sem, ← hr]
theorem geq_v {a : Act} {o : Oper} {x y : Operand} {t t' : TypeId} {p q : Int} {r : Bool} {w : World} (ho : o.op = .binOp .geq t x y t') (hx : a.eval x = .int .i64 p) (hy : a.eval y = .int .i64 q) (hr : decide (q ≤ p) = r) : (execOp a.eval o).run Try.prog w = .ok (.value (.bool r)) w := by
  unfold execOp
  simp only [ho, hx, hy]
  simp [go_sem, ← hr]
theorem eql_v {a : Act} {o : Oper} {x y : Operand} {p q : Int} {w : World} (ho : o.op = .binOp .eql 3 x y 3) (hx : a.eval x = .int .i64 p) (hy : a.eval y = .int .i64 q) (hr : p = q) : (execOp a.eval o).run Try.prog w = .ok (.value (.bool true)) w := by
  subst hr
  unfold execOp
  simp only [ho, hx, hy]
  simp [go_sem]
theorem stores_u8 (z : Int) : Stores1 Try.prog 5 (.int .u8 z) := fun w ad v h1 h2 => by simp [go_sem, h1, h2]
theorem frozen_new (u : World) (x : Array Value) {t : TypeId} : (u.alloc (.cells x t)).frozen? ⟨u.heap.size, 0, none⟩ = false := by
  unfold World.frozen?
  rw [show (u.alloc (.cells x t)).heap[(⟨u.heap.size, 0, none⟩ : Addr).block]? = some (.cells x t) from alloc_new' u _ rfl]
  simp
theorem kb_new (u : World) (z : Int) : ((u.alloc (.cells #[.int .u8 0] 5)).setCell ⟨u.heap.size, 0, none⟩ (.int .u8 z)).heap[u.heap.size]? = some (.cells #[.int .u8 z] 5 (0, 0)) := by
  rw [setCell_get, if_pos rfl, alloc_new' u _ rfl]
  rfl
theorem ground_zero (W : World) : Ground [] 1 (fun _ => none) W := ⟨⟨by simp, fun r hr => (by cases hr)⟩, fun r hr => (by cases hr), fun x s h => (by cases h), fun x s r h => (by cases h), by omega, rfl⟩
theorem cell_same {w w' : World} {a : Addr} (h : w'.heap[a.block]? = w.heap[a.block]?) : w'.cell? a = w.cell? a := by
  unfold World.cell?
  rw [h]
theorem cell_notOdd {w : World} {a : Addr} {x : Value} (h : w.cell? a = some x) : ¬ Odd w.heap[a.block]? := by
  unfold World.cell? at h
  rintro (⟨_, _, e⟩ | ⟨_, _, e⟩) <;> rw [e] at h <;> cases h

section
variable {E : Env} {h : Nat} {own own' : Nat → Nat} {S S' : Sch} {ks ks' : List Kid} {FC FC' : List Row} {n : Nat} {Inb : Nat → Option Seat} {w w' : World}
/-- What was there before all is as it was. -/
theorem CI.old (C : CI E h own S ks FC n Inb w) (hF : E.FC0 = []) {a : Addr} {x : Value} (hx : E.W0.cell? a = some x) : (guardW FC w).cell? a = some x := by
  have hl := cell_lt hx
  have hr : ∀ r ∈ FC, r.b ≠ a.block := fun r hr e => by
    rcases C.sup r hr with h | h
    · rw [hF] at h; cases h
    · omega
  have e1 : w.heap[a.block]? = E.W0.heap[a.block]? := C.base.eq a.block hl (fun h => by have h' : E.W0.heap.size ≤ a.block := h; omega) (fun r hr' => by rw [hF] at hr'; cases hr')
  have hx1 : w.cell? a = some x := (cell_same e1).trans hx
  rw [cell_same (guard_same hr (cell_notOdd hx1)), hx1]
/-- A new block gets a tag. -/
theorem stp_new {u u' : World} {t b : Nat} (hlt : ∀ b, own b ≠ 0 → b < u.heap.size) (ho : u'.os = u.os) (hu : u'.output = u.output) (hs : u.heap.size ≤ u'.heap.size) (hb : ∀ i, i < u.heap.size → u'.heap[i]? = u.heap[i]?) (h1 : u.heap.size ≤ b) (h2 : b < u'.heap.size) : Stp (fun _ => False) own (retagC own t (· = b)) u u' := by
  refine ⟨ho, hu, hs, fun i hi _ => hb i hi, fun i hi => tag_ne fun e => ?_, fun i hz hn => ?_, fun i hn => ?_⟩
  · subst e; have := hlt _ hi; omega
  · by_cases e : i = b
    · omega
    · rw [tag_ne e] at hn; exact absurd hz hn
  · by_cases e : i = b
    · omega
    · rw [tag_ne e] at hn; have := hlt i hn; omega
end
theorem take_snoc {α : Type} {l : List α} {i : Nat} {x : α} (h : l[i]? = some x) : l.take (i + 1) = l.take i ++ [x] := by
  rw [List.take_add_one, h]; rfl
/-- What is known of the argument. -/
def ArgAt (u : World) (A : Option Addr) (zs : List Int) : Prop := ∀ (i : Nat) z, zs[i]? = some z → ∃ ad, A = some ad ∧ u.cell? (ad.add i) = some (.int .u8 z)

theorem state_u {u : World} {own : Nat → Nat} {S : Sch} {i : Nat} {c : CoR} (si : SI own S u) (hi : S.cos[i]? = some c) (A : Nat → Question → Nat) (d : Nat) : Calls Try.prog 43 #[ptr S.sb, .int .i64 ((i : Int) + 1)] (tp u A d) fun e w' => e = .returned (.int .i64 c.st) ∧ ∃ A d, w' = tp u A d := by
  obtain ⟨A0, cap, hv, _, _⟩ := si.row.slice
  rw [List.length_map] at hv
  have hs := (si.tp A d).sch
  have hr := (si.tp A d).row
  rw [hv] at hs hr
  have hl := si.lim
  exact (state_at (tp u A d) S.sb S.qb S.sc S.cos.length cap A0 S.closed _ i c hs hr (by rw [List.getElem?_map, hi]; rfl) (by omega) ((si.tp A d).co i c hi)).mono fun _ _ ⟨h1, h2⟩ => ⟨h1, A, d, h2⟩
theorem text_u {u : World} {own : Nat → Nat} {S : Sch} {i : Nat} {c : CoR} (si : SI own S u) (hi : S.cos[i]? = some c) (A : Nat → Question → Nat) (d : Nat) : Calls Try.prog 44 #[ptr S.sb, .int .i64 ((i : Int) + 1)] (tp u A d) fun e w' => e = .returned (.string c.txt) ∧ ∃ A d, w' = tp u A d := by
  obtain ⟨A0, cap, hv, _, _⟩ := si.row.slice
  rw [List.length_map] at hv
  have hs := (si.tp A d).sch
  have hr := (si.tp A d).row
  rw [hv] at hs hr
  have hl := si.lim
  exact (text_at (tp u A d) S.sb S.qb S.sc S.cos.length cap A0 S.closed _ i c hs hr (by rw [List.getElem?_map, hi]; rfl) (by omega) ((si.tp A d).co i c hi)).mono fun _ _ ⟨h1, h2⟩ => ⟨h1, A, d, h2⟩
theorem idx_s {t : TypeId} {e : TypeId} {a : Act} {o : Oper} {x y : Operand} {A ad : Addr} {n cap i : Nat} (ht : Try.prog.underlying t = some (.slice e)) (h1 : ∀ w, (sizeOf e).run Try.prog w = .ok 1 w) (hA : A.add i = ad) (w : World) (ho : o.op = .indexAddr t x y) (hx : a.eval x = .slice (some A) n cap) (hy : a.eval y = .int .i64 (i : Int)) (hi : i < n) : (execOp a.eval o).run Try.prog w = .ok (.value (.pointer (some ad))) w := by
  subst hA
  unfold execOp
  simp only [ho, hx, hy]
  simp [go_sem, ht, h1, hi]
theorem neq_s {a : Act} {o : Oper} {x y : Operand} {p q : ByteArray} {w : World} (ho : o.op = .binOp .neq 9 x y 9) (hx : a.eval x = .string p) (hy : a.eval y = .string q) (hr : p = q) : (execOp a.eval o).run Try.prog w = .ok (.value (.bool false)) w := by
  subst hr
  unfold execOp
  simp only [ho, hx, hy]
  simp [go_sem]
theorem list_ba {p q : ByteArray} (h : p.toList = q.toList) : p = q := by
  rw [ByteArray.toList_eq, ByteArray.toList_eq] at h
  obtain ⟨⟨x⟩⟩ := p
  obtain ⟨⟨y⟩⟩ := q
  simp at h
  rw [h]
theorem eql_s {a : Act} {o : Oper} {x y : Operand} {p q : ByteArray} {r : Bool} {w : World} (ho : o.op = .binOp .eql 9 x y 9) (hx : a.eval x = .string p) (hy : a.eval y = .string q) (hr : decide (p = q) = r) : (execOp a.eval o).run Try.prog w = .ok (.value (.bool r)) w := by
  unfold execOp
  simp only [ho, hx, hy]
  have e : (p.toList == q.toList) = decide (p = q) := by
    by_cases h : p = q
    · subst h; simp
    · have : p.toList ≠ q.toList := fun h' => h (list_ba h')
      simp [h, this]
  simp [go_sem, ← hr, e]
theorem eql_f {a : Act} {o : Oper} {x y : Operand} {p q : Int} {r : Bool} {w : World} (ho : o.op = .binOp .eql 3 x y 3) (hx : a.eval x = .int .i64 p) (hy : a.eval y = .int .i64 q) (hr : decide (p = q) = r) : (execOp a.eval o).run Try.prog w = .ok (.value (.bool r)) w := by
  unfold execOp
  simp only [ho, hx, hy]
  by_cases h : p = q <;> simp [go_sem, ← hr, h]
theorem stores_any (ty : TypeId) (y : Value) : Stores1 Try.prog 20 (.iface ty y) := fun w ad v h1 h2 => by simp [go_sem, h1, h2]
theorem stores_nil : Stores1 Try.prog 20 .nilIface := fun w ad v h1 h2 => by simp [go_sem, h1, h2]
theorem infoAny : (Try.prog.info? 20).map (fun i => (i.zero, i.size, i.bytes)) = some (some .nilIface, 1, 16) := by kernel_rfl
theorem infoStr : (Try.prog.info? 9).map (fun i => (i.zero, i.size, i.bytes)) = some (some (.string ByteArray.empty), 1, 16) := by kernel_rfl
/-- New blocks get tags. -/
theorem stp_fresh {own own' : Nat → Nat} {u u' : World} (hlt : ∀ b, own b ≠ 0 → b < u.heap.size) (h : New u u') (h1 : ∀ b, b < u.heap.size → own' b = own b) (h2 : ∀ b, own' b ≠ 0 → b < u'.heap.size) : Stp (fun _ => False) own own' u u' :=
  ⟨h.os, h.output, h.size, fun b hb _ => h.block b hb, fun b hb => h1 b (hlt b hb), fun b hz hn => Classical.byContradiction fun hc => hn ((h1 b (by omega)).trans hz), h2⟩
theorem add_va (va idx : Nat) : (⟨va, 0, none⟩ : Addr).add idx = ⟨va, idx, none⟩ := by
  unfold Addr.add
  split
  · next h => subst h; rfl
  · simp

/-- Main gives up its seat. -/
theorem CI.unseat {E : Env} {own : Nat → Nat} {S : Sch} {ks : List Kid} {FC : List Row} {n : Nat} {Inb : Nat → Option Seat} {w : World} (C : CI E 0 own S ks FC n Inb w) : CI E 0 own S ks FC n (upd Inb 0 none) w := by
  refine ⟨C.si, C.fi, C.lw, C.rows, C.base, C.low, C.sub, C.sup, C.len, fun i c k hc hk => ?_, fun x s hx => ?_, fun x s hx => ?_, C.chs, fun x s hx => ?_, fun s hs r hr => ?_, C.hn, C.uniq⟩
  · have := C.kid i c k hc hk
    refine ⟨this.1, this.2.1, fun ht => ?_, this.2.2.2.1, this.2.2.2.2⟩
    obtain ⟨h1, h2, h3, h4, h5⟩ := this.2.2.1 ht
    exact ⟨h1, h2, h3, h4, by rw [upd_ne _ _ h2]; exact h5⟩
  · obtain ⟨h1, h2, h3⟩ := C.keep x s hx
    exact ⟨by rw [upd_ne _ _ h2]; exact h1, h2, h3⟩
  · by_cases e : x = 0
    · exact .inl e
    · rw [upd_ne _ _ e] at hx; exact C.only x s hx
  · by_cases e : x = 0
    · subst e; exact C.hn
    · rw [upd_ne _ _ e] at hx; exact C.top x s hx
  · rw [upd_same] at hs; cases hs
def fairMeas (q : List (Nat × Nat)) : Nat := (q.map fun p => p.2 + 1).sum
theorem fairMeas_cons (p : Nat × Nat) (q : List (Nat × Nat)) : fairMeas (p :: q) = p.2 + 1 + fairMeas q := by simp [fairMeas]
theorem fairMeas_snoc (p : Nat × Nat) (q : List (Nat × Nat)) : fairMeas (q ++ [p]) = fairMeas q + (p.2 + 1) := by simp [fairMeas]
theorem fairMeas_len (q : List (Nat × Nat)) : q.length ≤ fairMeas q := by
  induction q with
  | nil => simp [fairMeas]
  | cons p q ih => rw [fairMeas_cons]; simp; omega
def idv (i : Nat) : Value := .int .i64 ((i : Int) + 1)

end Go.Proofs.Ytolnmdanlggmhaa
