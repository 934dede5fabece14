/- Deeds: the reader of package deeds. Conditions: what the slices read as. -/
import Derived.Test.YtohgeigmdgpegaaK4
import Derived.Test.YtohgeigmdgpegaaLs
import Derived.Lib.Bytes
namespace Go.Proofs.Ytohgeigmdgpegaa
open Go.RowKit Eng
set_option linter.unusedVariables false
set_option linter.unusedSimpArgs false

def u8c (n : Nat) : List Value := [.int .u8 (n : Int)]
theorem flat_u8c (l : List Nat) : l.flatMap u8c = u8C l := by
  induction l with
  | nil => rfl
  | cons a l ih => rw [List.flatMap_cons, ih]; rfl
theorem Ls.ofRd {w0 : World} {H : Heap} {v : Value} {l : List Nat} (h : Rd w0 H 1 v l.length (u8C l)) : Ls u8c 1 w0 H v l := ⟨fun _ _ => rfl, by rw [flat_u8c]; exact h⟩
theorem Ls.toRd {w0 : World} {H : Heap} {v : Value} {l : List Nat} (h : Ls u8c 1 w0 H v l) : Rd w0 H 1 v l.length (u8C l) := by have := h.rd; rwa [flat_u8c] at this
theorem u8_nil (w0 : World) (H : Heap) : Ls u8c 1 w0 H (.slice none 0 0) [] := ⟨fun _ h => (by cases h), Rd.nil 0 none 1⟩
/-- What is still to be read, and whether it went wrong. -/
structure PS where
  l : List Nat
  bad : Bool
def tkS (m : Nat) (p : PS) : List Nat × PS := if p.bad = true ∨ p.l.length < m then ([], ⟨p.l, true⟩) else (p.l.take m, ⟨p.l.drop m, false⟩)
def numOf (l : List Nat) : Nat := l.foldl (fun n c => n * 256 + c) 0
def txtOf (l : List Nat) : ByteArray := strOfNums (l.map fun (n : Nat) => (n : Int))
def numS (m : Nat) (p : PS) : Nat × PS := (numOf (tkS m p).1, (tkS m p).2)
def txtS (m : Nat) (p : PS) : ByteArray × PS := (txtOf (tkS (numS m p).1 (numS m p).2).1, (tkS (numS m p).1 (numS m p).2).2)
/-- A reader in block rb. -/
structure Rdr (w0 : World) (HB H : Heap) (rb : Nat) (p : PS) : Prop where
  low : w0.heap.size ≤ rb
  base : HB.le H
  new : HB rb = none
  row : ∃ v, H rb = some (.row [v, .bool p.bad] 63) ∧ Ls u8c 1 w0 HB v p.l
theorem Rdr.set {w0 : World} {HB H : Heap} {rb : Nat} {p : PS} (h : Rdr w0 HB H rb p) {v : Value} {q : PS} (hv : Ls u8c 1 w0 HB v q.l) : Rdr w0 HB (H.set rb (.row [v, .bool q.bad] 63)) rb q :=
  ⟨h.low, le_set_none h.base h.new, h.new, v, Heap.set_same _ _ _, hv⟩
theorem Rdr.other {w0 : World} {HB H : Heap} {rb b : Nat} {p : PS} {it : Eng.Item} (h : Rdr w0 HB H rb p) (hb : b ≠ rb) (hn : HB b = none) : Rdr w0 HB (H.set b it) rb p := by
  obtain ⟨v, hr, hv⟩ := h.row
  exact ⟨h.low, le_set_none h.base hn, h.new, v, by rw [Heap.set_ne hb.symm]; exact hr, hv⟩
theorem tkS_len {m : Nat} {p : PS} : (tkS m p).1.length ≤ m := by
  unfold tkS
  split
  · simp
  · simp only [List.length_take]; omega

set_option maxRecDepth 4000 in
set_option maxHeartbeats 1000000 in
theorem take_F {w0 : World} {HB H : Heap} {rb : Nat} {p : PS} {K : Value → Heap → Prop} (m : Nat) (hr : Rdr w0 HB H rb p) (hm : m ≤ 9223372036854775807) (hl : p.l.length ≤ 9223372036854775807)
    (hK : ∀ v v', Ls u8c 1 w0 HB v (tkS m p).1 → Ls u8c 1 w0 HB v' (tkS m p).2.l → K v (H.set rb (.row [v', .bool (tkS m p).2.bad] 63))) :
    F Try.prog w0 34 [.pointer (some ⟨rb, 0, none⟩), .int .i64 (m : Int)] H K := by
  obtain ⟨l, bad⟩ := p
  obtain ⟨low, base, new, v, hrow, hv⟩ := hr
  simp only at hl hv hrow
  have hv0 := hv
  obtain ⟨A, c, rfl, hc, hlk⟩ := hv.open_
  have l0 : lk w0 H rb 0 = some (.slice A l.length c) := (lk_own low hrow).trans rfl
  have l1 : lk w0 H rb 1 = some (.bool bad) := (lk_own low hrow).trans rfl
  refine F_body Try.func34 rfl (N := 38) rfl (by simp) (rs := [.tmp 4]) rfl (S_of_W ?_)
  by_cases hb : bad = true ∨ l.length < m
  · have e : tkS m ⟨l, bad⟩ = ([], ⟨l, true⟩) := if_pos hb
    rw [e] at hK
    have h := hK (.slice none 0 0) (.slice A l.length c) (u8_nil _ _) hv0
    cases bad with
    | true =>
      simp (maxSteps := 400000) (dsimp := false) only [↓EP1, ↓EP2, ↓EP3, ↓EP4, ↓EP5, ↓EP6, ↓EP7, ↓EP8, EQ1, EQ2, EQ3, EQ4, EQ5, EQ6, EQ7, EQ8, EQ9, EQ10, ne_eq, Nat.reduceEqDiff, not_false_eq_true, Option.bind_some, Option.map_some, Option.bind_none, Option.map_none, List.getElem?_cons_zero, List.getElem?_cons_succ, List.size_toArray, List.length_cons, List.length_nil, List.all_cons, List.all_nil, Value.oneCell', List.map_toArray, List.map_cons, List.map_nil, List.toList_toArray, List.cons_append, List.nil_append, List.append_nil, List.set_cons_zero, List.set_cons_succ, Bool.and_self, Bool.and_true, Bool.true_and, Nat.reduceAdd, Nat.reduceMul, Nat.reduceLeDiff, Nat.reduceLT, Nat.zero_add, Nat.add_zero, Nat.one_mul, Nat.zero_mul, Nat.mul_one, if_true, if_false, true_and, and_true, and_self, Bool.false_eq_true, ite_true, ite_false, reduceCtorEq, Int.reduceLT, Int.reduceLE, Int.reduceEq, Int.reduceNe, Int.reduceBNe, Int.reduceBEq, Int.reduceToNat, Option.some.injEq, exists_eq_left', exists_eq_left, Nat.reduceSub, Bool.not_true, Bool.not_false, decide_true, decide_false, beq_self_eq_true, List.contains_nil, List.contains_cons, Bool.or_false, Bool.or_true, Bool.false_or, Bool.true_or, Nat.reduceBEq, forall_const, imp_self, true_imp_iff, false_imp_iff, decide_eq_true_eq, decide_eq_false_iff_not, not_true_eq_false, Heap.set_same, setCells_row, Heap.set_set, Option.isNone_some, Option.isNone_none, ↓SopsL_app, ↓SopsL_app0, ↓SopsL_app2, opAt_app0, opAt_app1, opAt_appn, opAt_app2, ch26, cl26, cn3_26, cu26, cv3_26, fa63_0, fa63_1, le26, lo26, lo4, sz26, sz4, sz5, l0, l1, lk_row low, hrow, Heap.set_same]
      exact h
    | false =>
      have hlt : (l.length : Int) < (m : Int) := by
        rcases hb with hb | hb
        · cases hb
        · omega
      simp (maxSteps := 400000) (dsimp := false) only [↓EP1, ↓EP2, ↓EP3, ↓EP4, ↓EP5, ↓EP6, ↓EP7, ↓EP8, EQ1, EQ2, EQ3, EQ4, EQ5, EQ6, EQ7, EQ8, EQ9, EQ10, ne_eq, Nat.reduceEqDiff, not_false_eq_true, Option.bind_some, Option.map_some, Option.bind_none, Option.map_none, List.getElem?_cons_zero, List.getElem?_cons_succ, List.size_toArray, List.length_cons, List.length_nil, List.all_cons, List.all_nil, Value.oneCell', List.map_toArray, List.map_cons, List.map_nil, List.toList_toArray, List.cons_append, List.nil_append, List.append_nil, List.set_cons_zero, List.set_cons_succ, Bool.and_self, Bool.and_true, Bool.true_and, Nat.reduceAdd, Nat.reduceMul, Nat.reduceLeDiff, Nat.reduceLT, Nat.zero_add, Nat.add_zero, Nat.one_mul, Nat.zero_mul, Nat.mul_one, if_true, if_false, true_and, and_true, and_self, Bool.false_eq_true, ite_true, ite_false, reduceCtorEq, Int.reduceLT, Int.reduceLE, Int.reduceEq, Int.reduceNe, Int.reduceBNe, Int.reduceBEq, Int.reduceToNat, Option.some.injEq, exists_eq_left', exists_eq_left, Nat.reduceSub, Bool.not_true, Bool.not_false, decide_true, decide_false, beq_self_eq_true, List.contains_nil, List.contains_cons, Bool.or_false, Bool.or_true, Bool.false_or, Bool.true_or, Nat.reduceBEq, forall_const, imp_self, true_imp_iff, false_imp_iff, decide_eq_true_eq, decide_eq_false_iff_not, not_true_eq_false, Heap.set_same, setCells_row, Heap.set_set, Option.isNone_some, Option.isNone_none, ↓SopsL_app, ↓SopsL_app0, ↓SopsL_app2, opAt_app0, opAt_app1, opAt_appn, opAt_app2, ch26, cl26, cn3_26, cu26, cv3_26, fa63_0, fa63_1, le26, lo26, lo4, sz26, sz4, sz5, l0, l1, lk_row low, hrow, Heap.set_same, hlt]
      exact h
  · have e : tkS m ⟨l, bad⟩ = (l.take m, ⟨l.drop m, false⟩) := if_neg hb
    rw [e] at hK
    have hbad : bad = false := by cases bad with
      | false => rfl
      | true => exact absurd (.inl rfl) hb
    subst hbad
    have hle : m ≤ l.length := by
      rcases Nat.lt_or_ge l.length m with h | h
      · exact absurd (.inr h) hb
      · exact h
    have hlt : ¬ (l.length : Int) < (m : Int) := by omega
    have hmc : (m : Int) ≤ (c : Int) := by omega
    have hml : (m : Int) ≤ (l.length : Int) := by omega
    have h := hK _ _ (Ls.take hv0 m hle) (Ls.drop hv0 m hle)
    simp (maxSteps := 400000) (dsimp := false) only [↓EP1, ↓EP2, ↓EP3, ↓EP4, ↓EP5, ↓EP6, ↓EP7, ↓EP8, EQ1, EQ2, EQ3, EQ4, EQ5, EQ6, EQ7, EQ8, EQ9, EQ10, ne_eq, Nat.reduceEqDiff, not_false_eq_true, Option.bind_some, Option.map_some, Option.bind_none, Option.map_none, List.getElem?_cons_zero, List.getElem?_cons_succ, List.size_toArray, List.length_cons, List.length_nil, List.all_cons, List.all_nil, Value.oneCell', List.map_toArray, List.map_cons, List.map_nil, List.toList_toArray, List.cons_append, List.nil_append, List.append_nil, List.set_cons_zero, List.set_cons_succ, Bool.and_self, Bool.and_true, Bool.true_and, Nat.reduceAdd, Nat.reduceMul, Nat.reduceLeDiff, Nat.reduceLT, Nat.zero_add, Nat.add_zero, Nat.one_mul, Nat.zero_mul, Nat.mul_one, if_true, if_false, true_and, and_true, and_self, Bool.false_eq_true, ite_true, ite_false, reduceCtorEq, Int.reduceLT, Int.reduceLE, Int.reduceEq, Int.reduceNe, Int.reduceBNe, Int.reduceBEq, Int.reduceToNat, Option.some.injEq, exists_eq_left', exists_eq_left, Nat.reduceSub, Bool.not_true, Bool.not_false, decide_true, decide_false, beq_self_eq_true, List.contains_nil, List.contains_cons, Bool.or_false, Bool.or_true, Bool.false_or, Bool.true_or, Nat.reduceBEq, forall_const, imp_self, true_imp_iff, false_imp_iff, decide_eq_true_eq, decide_eq_false_iff_not, not_true_eq_false, Heap.set_same, setCells_row, Heap.set_set, Option.isNone_some, Option.isNone_none, ↓SopsL_app, ↓SopsL_app0, ↓SopsL_app2, opAt_app0, opAt_app1, opAt_appn, opAt_app2, ch26, cl26, cn3_26, cu26, cv3_26, fa63_0, fa63_1, le26, lo26, lo4, sz26, sz4, sz5, l0, l1, lk_row low, hrow, Heap.set_same, hlt, hmc, hml, Int.natCast_nonneg, Int.toNat_natCast]
    exact h
theorem or_byte {n c : Nat} (hc : c < 256) (hn : n < 16777216) : IntKind.wrap .i64 ((BitVec.ofInt IntKind.i64.bits ((n * 256 : Nat) : Int) ||| BitVec.ofInt IntKind.i64.bits (c : Int)).toNat : Int) = ((n * 256 + c : Nat) : Int) := by
  have h1 : n * 256 < 2 ^ 64 := by omega
  have h2 : c < 2 ^ 64 := by omega
  have h : (BitVec.ofInt IntKind.i64.bits ((n * 256 : Nat) : Int) ||| BitVec.ofInt IntKind.i64.bits (c : Int)).toNat = n * 256 ||| c := by
    rw [ofInt_nat, ofInt_nat, BitVec.toNat_or, BitVec.toNat_ofNat, BitVec.toNat_ofNat]
    show (n * 256 % 18446744073709551616) ||| (c % 18446744073709551616) = _
    rw [Nat.mod_eq_of_lt (by omega), Nat.mod_eq_of_lt (by omega)]
  have e : n * 256 ||| c = n * 256 + c := by
    have := Nat.two_pow_add_eq_or_of_lt (i := 8) (b := c) (by omega) n
    rw [show n * 256 = 2 ^ 8 * n by omega]
    exact this.symm
  rw [h, e]
  exact wrap_i64 (by omega) (by omega)
theorem numOf_snoc (l : List Nat) (c : Nat) : numOf (l ++ [c]) = numOf l * 256 + c := by simp [numOf]
theorem snoc_ind {α : Type} {p : List α → Prop} (h0 : p []) (h1 : ∀ l a, p l → p (l ++ [a])) : ∀ l, p l := fun l => by
  have key : ∀ n (l : List α), l.length = n → p l := fun n => by
    induction n with
    | zero => intro l hl; rw [List.eq_nil_of_length_eq_zero hl]; exact h0
    | succ n ih =>
      intro l hl
      have hne : l ≠ [] := fun e => by rw [e] at hl; cases hl
      rw [← List.dropLast_concat_getLast hne]
      exact h1 _ _ (ih _ (by rw [List.length_dropLast, hl]; rfl))
  exact key _ l rfl
theorem numOf_lt : ∀ (l : List Nat), (∀ c ∈ l, c < 256) → numOf l < 256 ^ l.length := by
  refine snoc_ind ?_ ?_
  · intro _; simp [numOf]
  · intro l c ih h
    have h1 := ih fun x hx => h x (List.mem_append_left _ hx)
    have h2 := h c (by simp)
    rw [numOf_snoc, List.length_append, List.length_cons, List.length_nil, Nat.zero_add, Nat.pow_succ]
    have : numOf l * 256 + 256 ≤ 256 ^ l.length * 256 := by
      have : (numOf l + 1) * 256 ≤ 256 ^ l.length * 256 := Nat.mul_le_mul_right _ h1
      omega
    omega
set_option maxRecDepth 4000 in
set_option maxHeartbeats 1000000 in
theorem rnumber_F {w0 : World} {HB H : Heap} {rb : Nat} {p : PS} {K : Value → Heap → Prop} (m : Nat) (hr : Rdr w0 HB H rb p) (hm : m ≤ 4) (hl : p.l.length ≤ 9223372036854775807) (hb8 : ∀ c ∈ p.l, c < 256)
    (hK : ∀ v', Ls u8c 1 w0 HB v' (numS m p).2.l → K (.int .i64 ((numS m p).1 : Nat)) (H.set rb (.row [v', .bool (numS m p).2.bad] 63))) :
    F Try.prog w0 24 [.pointer (some ⟨rb, 0, none⟩), .int .i64 (m : Int)] H K := by
  refine F_body Try.func24 rfl (N := 23) rfl (by simp) (rs := [.tmp 4]) rfl (S_of_W ?_)
  simp (maxSteps := 400000) (dsimp := false) only [↓EP1, ↓EP2, ↓EP3, ↓EP4, ↓EP5, ↓EP6, ↓EP7, ↓EP8, EQ1, EQ2, EQ3, EQ4, EQ5, EQ6, EQ7, EQ8, EQ9, EQ10, ne_eq, Nat.reduceEqDiff, not_false_eq_true, Option.bind_some, Option.map_some, Option.bind_none, Option.map_none, List.getElem?_cons_zero, List.getElem?_cons_succ, List.size_toArray, List.length_cons, List.length_nil, List.all_cons, List.all_nil, Value.oneCell', List.map_toArray, List.map_cons, List.map_nil, List.toList_toArray, List.cons_append, List.nil_append, List.append_nil, List.set_cons_zero, List.set_cons_succ, Bool.and_self, Bool.and_true, Bool.true_and, Nat.reduceAdd, Nat.reduceMul, Nat.reduceLeDiff, Nat.reduceLT, Nat.zero_add, Nat.add_zero, Nat.one_mul, Nat.zero_mul, Nat.mul_one, if_true, if_false, true_and, and_true, and_self, Bool.false_eq_true, ite_true, ite_false, reduceCtorEq, Int.reduceLT, Int.reduceLE, Int.reduceEq, Int.reduceNe, Int.reduceBNe, Int.reduceBEq, Int.reduceToNat, Option.some.injEq, exists_eq_left', exists_eq_left, Nat.reduceSub, Bool.not_true, Bool.not_false, decide_true, decide_false, beq_self_eq_true, List.contains_nil, List.contains_cons, Bool.or_false, Bool.or_true, Bool.false_or, Bool.true_or, Nat.reduceBEq, forall_const, imp_self, true_imp_iff, false_imp_iff, decide_eq_true_eq, decide_eq_false_iff_not, not_true_eq_false, Heap.set_same, setCells_row, Heap.set_set, Option.isNone_some, Option.isNone_none, ↓SopsL_app, ↓SopsL_app0, ↓SopsL_app2, opAt_app0, opAt_app1, opAt_appn, opAt_app2, ca34, cv5_3, cw5_3, ix26, le26, lo5, sz5]
  refine take_F m hr (by omega) hl ?_
  intro v v' hv hv'
  have hr2 := (hr.set (q := (tkS m p).2) hv').base
  have hlen := tkS_len (m := m) (p := p)
  have hb : ∀ c ∈ (tkS m p).1, c < 256 := fun c hc => by
    unfold tkS at hc
    split at hc
    · cases hc
    · exact hb8 c (List.mem_of_mem_take hc)
  have hK := hK v' hv'
  unfold numS at hK
  generalize (tkS m p).1 = a at *
  obtain ⟨A, c, rfl, hc, hlk⟩ := hv.open_
  simp (maxSteps := 400000) (dsimp := false) only [↓EP1, ↓EP2, ↓EP3, ↓EP4, ↓EP5, ↓EP6, ↓EP7, ↓EP8, EQ1, EQ2, EQ3, EQ4, EQ5, EQ6, EQ7, EQ8, EQ9, EQ10, ne_eq, Nat.reduceEqDiff, not_false_eq_true, Option.bind_some, Option.map_some, Option.bind_none, Option.map_none, List.getElem?_cons_zero, List.getElem?_cons_succ, List.size_toArray, List.length_cons, List.length_nil, List.all_cons, List.all_nil, Value.oneCell', List.map_toArray, List.map_cons, List.map_nil, List.toList_toArray, List.cons_append, List.nil_append, List.append_nil, List.set_cons_zero, List.set_cons_succ, Bool.and_self, Bool.and_true, Bool.true_and, Nat.reduceAdd, Nat.reduceMul, Nat.reduceLeDiff, Nat.reduceLT, Nat.zero_add, Nat.add_zero, Nat.one_mul, Nat.zero_mul, Nat.mul_one, if_true, if_false, true_and, and_true, and_self, Bool.false_eq_true, ite_true, ite_false, reduceCtorEq, Int.reduceLT, Int.reduceLE, Int.reduceEq, Int.reduceNe, Int.reduceBNe, Int.reduceBEq, Int.reduceToNat, Option.some.injEq, exists_eq_left', exists_eq_left, Nat.reduceSub, Bool.not_true, Bool.not_false, decide_true, decide_false, beq_self_eq_true, List.contains_nil, List.contains_cons, Bool.or_false, Bool.or_true, Bool.false_or, Bool.true_or, Nat.reduceBEq, forall_const, imp_self, true_imp_iff, false_imp_iff, decide_eq_true_eq, decide_eq_false_iff_not, not_true_eq_false, Heap.set_same, setCells_row, Heap.set_set, Option.isNone_some, Option.isNone_none, ↓SopsL_app, ↓SopsL_app0, ↓SopsL_app2, opAt_app0, opAt_app1, opAt_appn, opAt_app2, ca34, cv5_3, cw5_3, ix26, le26, lo5, sz5]
  refine S_uptoC [4, 10, 11] (a.length) (fun k s => s 5 = .int .i64 (numOf (a.take k) : Nat) ∧ s 12 = .int .i64 k) ?_ ?_
  · exact ⟨by simp (maxSteps := 400000) (dsimp := false) only [↓EP1, ↓EP2, ↓EP3, ↓EP4, ↓EP5, ↓EP6, ↓EP7, ↓EP8, EQ1, EQ2, EQ3, EQ4, EQ5, EQ6, EQ7, EQ8, EQ9, EQ10, ne_eq, Nat.reduceEqDiff, not_false_eq_true, Option.bind_some, Option.map_some, Option.bind_none, Option.map_none, List.getElem?_cons_zero, List.getElem?_cons_succ, List.size_toArray, List.length_cons, List.length_nil, List.all_cons, List.all_nil, Value.oneCell', List.map_toArray, List.map_cons, List.map_nil, List.toList_toArray, List.cons_append, List.nil_append, List.append_nil, List.set_cons_zero, List.set_cons_succ, Bool.and_self, Bool.and_true, Bool.true_and, Nat.reduceAdd, Nat.reduceMul, Nat.reduceLeDiff, Nat.reduceLT, Nat.zero_add, Nat.add_zero, Nat.one_mul, Nat.zero_mul, Nat.mul_one, if_true, if_false, true_and, and_true, and_self, Bool.false_eq_true, ite_true, ite_false, reduceCtorEq, Int.reduceLT, Int.reduceLE, Int.reduceEq, Int.reduceNe, Int.reduceBNe, Int.reduceBEq, Int.reduceToNat, Option.some.injEq, exists_eq_left', exists_eq_left, Nat.reduceSub, Bool.not_true, Bool.not_false, decide_true, decide_false, beq_self_eq_true, List.contains_nil, List.contains_cons, Bool.or_false, Bool.or_true, Bool.false_or, Bool.true_or, Nat.reduceBEq, forall_const, imp_self, true_imp_iff, false_imp_iff, decide_eq_true_eq, decide_eq_false_iff_not, not_true_eq_false, Heap.set_same, setCells_row, Heap.set_set, Option.isNone_some, Option.isNone_none, ↓SopsL_app, ↓SopsL_app0, ↓SopsL_app2, opAt_app0, opAt_app1, opAt_appn, opAt_app2]; rfl, by simp (maxSteps := 400000) (dsimp := false) only [↓EP1, ↓EP2, ↓EP3, ↓EP4, ↓EP5, ↓EP6, ↓EP7, ↓EP8, EQ1, EQ2, EQ3, EQ4, EQ5, EQ6, EQ7, EQ8, EQ9, EQ10, ne_eq, Nat.reduceEqDiff, not_false_eq_true, Option.bind_some, Option.map_some, Option.bind_none, Option.map_none, List.getElem?_cons_zero, List.getElem?_cons_succ, List.size_toArray, List.length_cons, List.length_nil, List.all_cons, List.all_nil, Value.oneCell', List.map_toArray, List.map_cons, List.map_nil, List.toList_toArray, List.cons_append, List.nil_append, List.append_nil, List.set_cons_zero, List.set_cons_succ, Bool.and_self, Bool.and_true, Bool.true_and, Nat.reduceAdd, Nat.reduceMul, Nat.reduceLeDiff, Nat.reduceLT, Nat.zero_add, Nat.add_zero, Nat.one_mul, Nat.zero_mul, Nat.mul_one, if_true, if_false, true_and, and_true, and_self, Bool.false_eq_true, ite_true, ite_false, reduceCtorEq, Int.reduceLT, Int.reduceLE, Int.reduceEq, Int.reduceNe, Int.reduceBNe, Int.reduceBEq, Int.reduceToNat, Option.some.injEq, exists_eq_left', exists_eq_left, Nat.reduceSub, Bool.not_true, Bool.not_false, decide_true, decide_false, beq_self_eq_true, List.contains_nil, List.contains_cons, Bool.or_false, Bool.or_true, Bool.false_or, Bool.true_or, Nat.reduceBEq, forall_const, imp_self, true_imp_iff, false_imp_iff, decide_eq_true_eq, decide_eq_false_iff_not, not_true_eq_false, Heap.set_same, setCells_row, Heap.set_set, Option.isNone_some, Option.isNone_none, ↓SopsL_app, ↓SopsL_app0, ↓SopsL_app2, opAt_app0, opAt_app1, opAt_appn, opAt_app2]; rfl⟩
  intro k s hk ha hI
  obtain ⟨h5, h12⟩ := hI
  refine S_of_W ?_
  have n4 := ha.get 4 rfl
  try simp (maxSteps := 400000) (dsimp := false) only [↓EP1, ↓EP2, ↓EP3, ↓EP4, ↓EP5, ↓EP6, ↓EP7, ↓EP8, EQ1, EQ2, EQ3, EQ4, EQ5, EQ6, EQ7, EQ8, EQ9, EQ10, ne_eq, Nat.reduceEqDiff, not_false_eq_true, Option.bind_some, Option.map_some, Option.bind_none, Option.map_none, List.getElem?_cons_zero, List.getElem?_cons_succ, List.size_toArray, List.length_cons, List.length_nil, List.all_cons, List.all_nil, Value.oneCell', List.map_toArray, List.map_cons, List.map_nil, List.toList_toArray, List.cons_append, List.nil_append, List.append_nil, List.set_cons_zero, List.set_cons_succ, Bool.and_self, Bool.and_true, Bool.true_and, Nat.reduceAdd, Nat.reduceMul, Nat.reduceLeDiff, Nat.reduceLT, Nat.zero_add, Nat.add_zero, Nat.one_mul, Nat.zero_mul, Nat.mul_one, if_true, if_false, true_and, and_true, and_self, Bool.false_eq_true, ite_true, ite_false, reduceCtorEq, Int.reduceLT, Int.reduceLE, Int.reduceEq, Int.reduceNe, Int.reduceBNe, Int.reduceBEq, Int.reduceToNat, Option.some.injEq, exists_eq_left', exists_eq_left, Nat.reduceSub, Bool.not_true, Bool.not_false, decide_true, decide_false, beq_self_eq_true, List.contains_nil, List.contains_cons, Bool.or_false, Bool.or_true, Bool.false_or, Bool.true_or, Nat.reduceBEq, forall_const, imp_self, true_imp_iff, false_imp_iff, decide_eq_true_eq, decide_eq_false_iff_not, not_true_eq_false, Heap.set_same, setCells_row, Heap.set_set, Option.isNone_some, Option.isNone_none, ↓SopsL_app, ↓SopsL_app0, ↓SopsL_app2, opAt_app0, opAt_app1, opAt_appn, opAt_app2] at n4
  have hs4 := n4; clear n4
  have n10 := ha.get 10 rfl
  try simp (maxSteps := 400000) (dsimp := false) only [↓EP1, ↓EP2, ↓EP3, ↓EP4, ↓EP5, ↓EP6, ↓EP7, ↓EP8, EQ1, EQ2, EQ3, EQ4, EQ5, EQ6, EQ7, EQ8, EQ9, EQ10, ne_eq, Nat.reduceEqDiff, not_false_eq_true, Option.bind_some, Option.map_some, Option.bind_none, Option.map_none, List.getElem?_cons_zero, List.getElem?_cons_succ, List.size_toArray, List.length_cons, List.length_nil, List.all_cons, List.all_nil, Value.oneCell', List.map_toArray, List.map_cons, List.map_nil, List.toList_toArray, List.cons_append, List.nil_append, List.append_nil, List.set_cons_zero, List.set_cons_succ, Bool.and_self, Bool.and_true, Bool.true_and, Nat.reduceAdd, Nat.reduceMul, Nat.reduceLeDiff, Nat.reduceLT, Nat.zero_add, Nat.add_zero, Nat.one_mul, Nat.zero_mul, Nat.mul_one, if_true, if_false, true_and, and_true, and_self, Bool.false_eq_true, ite_true, ite_false, reduceCtorEq, Int.reduceLT, Int.reduceLE, Int.reduceEq, Int.reduceNe, Int.reduceBNe, Int.reduceBEq, Int.reduceToNat, Option.some.injEq, exists_eq_left', exists_eq_left, Nat.reduceSub, Bool.not_true, Bool.not_false, decide_true, decide_false, beq_self_eq_true, List.contains_nil, List.contains_cons, Bool.or_false, Bool.or_true, Bool.false_or, Bool.true_or, Nat.reduceBEq, forall_const, imp_self, true_imp_iff, false_imp_iff, decide_eq_true_eq, decide_eq_false_iff_not, not_true_eq_false, Heap.set_same, setCells_row, Heap.set_set, Option.isNone_some, Option.isNone_none, ↓SopsL_app, ↓SopsL_app0, ↓SopsL_app2, opAt_app0, opAt_app1, opAt_appn, opAt_app2] at n10
  have hs10 := n10; clear n10
  have n11 := ha.get 11 rfl
  try simp (maxSteps := 400000) (dsimp := false) only [↓EP1, ↓EP2, ↓EP3, ↓EP4, ↓EP5, ↓EP6, ↓EP7, ↓EP8, EQ1, EQ2, EQ3, EQ4, EQ5, EQ6, EQ7, EQ8, EQ9, EQ10, ne_eq, Nat.reduceEqDiff, not_false_eq_true, Option.bind_some, Option.map_some, Option.bind_none, Option.map_none, List.getElem?_cons_zero, List.getElem?_cons_succ, List.size_toArray, List.length_cons, List.length_nil, List.all_cons, List.all_nil, Value.oneCell', List.map_toArray, List.map_cons, List.map_nil, List.toList_toArray, List.cons_append, List.nil_append, List.append_nil, List.set_cons_zero, List.set_cons_succ, Bool.and_self, Bool.and_true, Bool.true_and, Nat.reduceAdd, Nat.reduceMul, Nat.reduceLeDiff, Nat.reduceLT, Nat.zero_add, Nat.add_zero, Nat.one_mul, Nat.zero_mul, Nat.mul_one, if_true, if_false, true_and, and_true, and_self, Bool.false_eq_true, ite_true, ite_false, reduceCtorEq, Int.reduceLT, Int.reduceLE, Int.reduceEq, Int.reduceNe, Int.reduceBNe, Int.reduceBEq, Int.reduceToNat, Option.some.injEq, exists_eq_left', exists_eq_left, Nat.reduceSub, Bool.not_true, Bool.not_false, decide_true, decide_false, beq_self_eq_true, List.contains_nil, List.contains_cons, Bool.or_false, Bool.or_true, Bool.false_or, Bool.true_or, Nat.reduceBEq, forall_const, imp_self, true_imp_iff, false_imp_iff, decide_eq_true_eq, decide_eq_false_iff_not, not_true_eq_false, Heap.set_same, setCells_row, Heap.set_set, Option.isNone_some, Option.isNone_none, ↓SopsL_app, ↓SopsL_app0, ↓SopsL_app2, opAt_app0, opAt_app1, opAt_appn, opAt_app2] at n11
  have hs11 := n11; clear n11
  by_cases hkn : k < a.length
  · have hk' : (k : Int) < (a.length : Int) := by omega
    have hw : IntKind.wrap .i64 ((k : Int) + 1) = ((k + 1 : Nat) : Int) := by rw [wrap_i64 (by omega) (by omega)]; omega
    obtain ⟨b, o, rfl, hlk2⟩ := hlk (by omega)
    have hl0 := lk_le hr2 (hlk2 k hkn 0 _ rfl)
    simp only [Nat.add_zero, Nat.mul_one] at hl0
    have hcb := hb _ (List.getElem_mem hkn)
    have hst : numOf (a.take (k + 1)) = numOf (a.take k) * 256 + a[k] := by rw [take_next a k hkn, numOf_snoc]
    have hlt := numOf_lt (a.take k) fun x hx => hb x (List.mem_of_mem_take hx)
    have hlt2 : numOf (a.take k) < 16777216 := by
      refine Nat.lt_of_lt_of_le hlt ?_
      have : (a.take k).length ≤ 3 := by rw [List.length_take]; omega
      exact Nat.pow_le_pow_right (by omega) this
    have hshl : IntKind.wrap .i64 (((numOf (a.take k) : Nat) : Int) * 2 ^ min 8 IntKind.i64.bits) = ((numOf (a.take k) * 256 : Nat) : Int) := by
      have e : (2 : Int) ^ min 8 IntKind.i64.bits = 256 := rfl
      rw [e, wrap_i64 (by omega) (by omega)]; omega
    have hcv : IntKind.wrap .i64 ((a[k] : Nat) : Int) = ((a[k] : Nat) : Int) := wrap_i64 (by omega) (by omega)
    have hor := or_byte hcb hlt2
    simp (maxSteps := 400000) (dsimp := false) only [↓EP1, ↓EP2, ↓EP3, ↓EP4, ↓EP5, ↓EP6, ↓EP7, ↓EP8, EQ1, EQ2, EQ3, EQ4, EQ5, EQ6, EQ7, EQ8, EQ9, EQ10, ne_eq, Nat.reduceEqDiff, not_false_eq_true, Option.bind_some, Option.map_some, Option.bind_none, Option.map_none, List.getElem?_cons_zero, List.getElem?_cons_succ, List.size_toArray, List.length_cons, List.length_nil, List.all_cons, List.all_nil, Value.oneCell', List.map_toArray, List.map_cons, List.map_nil, List.toList_toArray, List.cons_append, List.nil_append, List.append_nil, List.set_cons_zero, List.set_cons_succ, Bool.and_self, Bool.and_true, Bool.true_and, Nat.reduceAdd, Nat.reduceMul, Nat.reduceLeDiff, Nat.reduceLT, Nat.zero_add, Nat.add_zero, Nat.one_mul, Nat.zero_mul, Nat.mul_one, if_true, if_false, true_and, and_true, and_self, Bool.false_eq_true, ite_true, ite_false, reduceCtorEq, Int.reduceLT, Int.reduceLE, Int.reduceEq, Int.reduceNe, Int.reduceBNe, Int.reduceBEq, Int.reduceToNat, Option.some.injEq, exists_eq_left', exists_eq_left, Nat.reduceSub, Bool.not_true, Bool.not_false, decide_true, decide_false, beq_self_eq_true, List.contains_nil, List.contains_cons, Bool.or_false, Bool.or_true, Bool.false_or, Bool.true_or, Nat.reduceBEq, forall_const, imp_self, true_imp_iff, false_imp_iff, decide_eq_true_eq, decide_eq_false_iff_not, not_true_eq_false, Heap.set_same, setCells_row, Heap.set_set, Option.isNone_some, Option.isNone_none, ↓SopsL_app, ↓SopsL_app0, ↓SopsL_app2, opAt_app0, opAt_app1, opAt_appn, opAt_app2, ca34, cv5_3, cw5_3, ix26, le26, lo5, sz5, hs4, hs10, hs11, h5, h12, hk', hl0, hshl, hcv, hor, hw, Int.natCast_nonneg, Int.toNat_natCast]
    refine ⟨hkn, (by repeat (first | assumption | refine Agree.put rfl ?_ | exact (Agree.sub rfl ha).trans (by repeat (first | assumption | refine Agree.put rfl ?_)))), Heap.le_refl _, ?_⟩
    rw [hst]
  have hk' : ¬ (k : Int) < (a.length : Int) := by omega
  have htk : a.take k = a := List.take_of_length_le (by omega)
  rw [htk] at h5
  simp (maxSteps := 400000) (dsimp := false) only [↓EP1, ↓EP2, ↓EP3, ↓EP4, ↓EP5, ↓EP6, ↓EP7, ↓EP8, EQ1, EQ2, EQ3, EQ4, EQ5, EQ6, EQ7, EQ8, EQ9, EQ10, ne_eq, Nat.reduceEqDiff, not_false_eq_true, Option.bind_some, Option.map_some, Option.bind_none, Option.map_none, List.getElem?_cons_zero, List.getElem?_cons_succ, List.size_toArray, List.length_cons, List.length_nil, List.all_cons, List.all_nil, Value.oneCell', List.map_toArray, List.map_cons, List.map_nil, List.toList_toArray, List.cons_append, List.nil_append, List.append_nil, List.set_cons_zero, List.set_cons_succ, Bool.and_self, Bool.and_true, Bool.true_and, Nat.reduceAdd, Nat.reduceMul, Nat.reduceLeDiff, Nat.reduceLT, Nat.zero_add, Nat.add_zero, Nat.one_mul, Nat.zero_mul, Nat.mul_one, if_true, if_false, true_and, and_true, and_self, Bool.false_eq_true, ite_true, ite_false, reduceCtorEq, Int.reduceLT, Int.reduceLE, Int.reduceEq, Int.reduceNe, Int.reduceBNe, Int.reduceBEq, Int.reduceToNat, Option.some.injEq, exists_eq_left', exists_eq_left, Nat.reduceSub, Bool.not_true, Bool.not_false, decide_true, decide_false, beq_self_eq_true, List.contains_nil, List.contains_cons, Bool.or_false, Bool.or_true, Bool.false_or, Bool.true_or, Nat.reduceBEq, forall_const, imp_self, true_imp_iff, false_imp_iff, decide_eq_true_eq, decide_eq_false_iff_not, not_true_eq_false, Heap.set_same, setCells_row, Heap.set_set, Option.isNone_some, Option.isNone_none, ↓SopsL_app, ↓SopsL_app0, ↓SopsL_app2, opAt_app0, opAt_app1, opAt_appn, opAt_app2, ca34, cv5_3, cw5_3, ix26, le26, lo5, sz5, hs4, hs10, hs11, h5, h12, hk']
  exact hK
set_option maxRecDepth 4000 in
set_option maxHeartbeats 1000000 in
theorem rtext_F {w0 : World} {HB H : Heap} {rb : Nat} {p : PS} {K : Value → Heap → Prop} (m : Nat) (hr : Rdr w0 HB H rb p) (hm : m ≤ 4) (hl : p.l.length ≤ 9223372036854775807) (hb8 : ∀ c ∈ p.l, c < 256)
    (hK : ∀ v', Ls u8c 1 w0 HB v' (txtS m p).2.l → K (.string (txtS m p).1) (H.set rb (.row [v', .bool (txtS m p).2.bad] 63))) :
    F Try.prog w0 25 [.pointer (some ⟨rb, 0, none⟩), .int .i64 (m : Int)] H K := by
  refine F_body Try.func25 rfl (N := 11) rfl (by simp) (rs := [.tmp 4]) rfl (S_of_W ?_)
  simp (maxSteps := 400000) (dsimp := false) only [↓EP1, ↓EP2, ↓EP3, ↓EP4, ↓EP5, ↓EP6, ↓EP7, ↓EP8, EQ1, EQ2, EQ3, EQ4, EQ5, EQ6, EQ7, EQ8, EQ9, EQ10, ne_eq, Nat.reduceEqDiff, not_false_eq_true, Option.bind_some, Option.map_some, Option.bind_none, Option.map_none, List.getElem?_cons_zero, List.getElem?_cons_succ, List.size_toArray, List.length_cons, List.length_nil, List.all_cons, List.all_nil, Value.oneCell', List.map_toArray, List.map_cons, List.map_nil, List.toList_toArray, List.cons_append, List.nil_append, List.append_nil, List.set_cons_zero, List.set_cons_succ, Bool.and_self, Bool.and_true, Bool.true_and, Nat.reduceAdd, Nat.reduceMul, Nat.reduceLeDiff, Nat.reduceLT, Nat.zero_add, Nat.add_zero, Nat.one_mul, Nat.zero_mul, Nat.mul_one, if_true, if_false, true_and, and_true, and_self, Bool.false_eq_true, ite_true, ite_false, reduceCtorEq, Int.reduceLT, Int.reduceLE, Int.reduceEq, Int.reduceNe, Int.reduceBNe, Int.reduceBEq, Int.reduceToNat, Option.some.injEq, exists_eq_left', exists_eq_left, Nat.reduceSub, Bool.not_true, Bool.not_false, decide_true, decide_false, beq_self_eq_true, List.contains_nil, List.contains_cons, Bool.or_false, Bool.or_true, Bool.false_or, Bool.true_or, Nat.reduceBEq, forall_const, imp_self, true_imp_iff, false_imp_iff, decide_eq_true_eq, decide_eq_false_iff_not, not_true_eq_false, Heap.set_same, setCells_row, Heap.set_set, Option.isNone_some, Option.isNone_none, ↓SopsL_app, ↓SopsL_app0, ↓SopsL_app2, opAt_app0, opAt_app1, opAt_appn, opAt_app2, ca24, ca34, Heap.set_set]
  refine rnumber_F m hr hm hl hb8 ?_
  intro v' hv'
  have hr2 := hr.set (q := (numS m p).2) hv'
  have hsub : (numS m p).2.l.length ≤ p.l.length ∧ (numS m p).1 ≤ 9223372036854775807 := by
    unfold numS tkS
    split
    · exact ⟨Nat.le_refl _, by simp [numOf]⟩
    · refine ⟨by simp, ?_⟩
      have h1 := numOf_lt (p.l.take m) fun x hx => hb8 x (List.mem_of_mem_take hx)
      have h2 : (p.l.take m).length ≤ 4 := by rw [List.length_take]; omega
      have h3 : 256 ^ (p.l.take m).length ≤ 256 ^ 4 := Nat.pow_le_pow_right (by omega) h2
      simp only
      omega
  simp (maxSteps := 400000) (dsimp := false) only [↓EP1, ↓EP2, ↓EP3, ↓EP4, ↓EP5, ↓EP6, ↓EP7, ↓EP8, EQ1, EQ2, EQ3, EQ4, EQ5, EQ6, EQ7, EQ8, EQ9, EQ10, ne_eq, Nat.reduceEqDiff, not_false_eq_true, Option.bind_some, Option.map_some, Option.bind_none, Option.map_none, List.getElem?_cons_zero, List.getElem?_cons_succ, List.size_toArray, List.length_cons, List.length_nil, List.all_cons, List.all_nil, Value.oneCell', List.map_toArray, List.map_cons, List.map_nil, List.toList_toArray, List.cons_append, List.nil_append, List.append_nil, List.set_cons_zero, List.set_cons_succ, Bool.and_self, Bool.and_true, Bool.true_and, Nat.reduceAdd, Nat.reduceMul, Nat.reduceLeDiff, Nat.reduceLT, Nat.zero_add, Nat.add_zero, Nat.one_mul, Nat.zero_mul, Nat.mul_one, if_true, if_false, true_and, and_true, and_self, Bool.false_eq_true, ite_true, ite_false, reduceCtorEq, Int.reduceLT, Int.reduceLE, Int.reduceEq, Int.reduceNe, Int.reduceBNe, Int.reduceBEq, Int.reduceToNat, Option.some.injEq, exists_eq_left', exists_eq_left, Nat.reduceSub, Bool.not_true, Bool.not_false, decide_true, decide_false, beq_self_eq_true, List.contains_nil, List.contains_cons, Bool.or_false, Bool.or_true, Bool.false_or, Bool.true_or, Nat.reduceBEq, forall_const, imp_self, true_imp_iff, false_imp_iff, decide_eq_true_eq, decide_eq_false_iff_not, not_true_eq_false, Heap.set_same, setCells_row, Heap.set_set, Option.isNone_some, Option.isNone_none, ↓SopsL_app, ↓SopsL_app0, ↓SopsL_app2, opAt_app0, opAt_app1, opAt_appn, opAt_app2, ca24, ca34, Heap.set_set]
  refine take_F _ hr2 hsub.2 (by omega) ?_
  intro w w' hw hw'
  simp (maxSteps := 400000) (dsimp := false) only [↓EP1, ↓EP2, ↓EP3, ↓EP4, ↓EP5, ↓EP6, ↓EP7, ↓EP8, EQ1, EQ2, EQ3, EQ4, EQ5, EQ6, EQ7, EQ8, EQ9, EQ10, ne_eq, Nat.reduceEqDiff, not_false_eq_true, Option.bind_some, Option.map_some, Option.bind_none, Option.map_none, List.getElem?_cons_zero, List.getElem?_cons_succ, List.size_toArray, List.length_cons, List.length_nil, List.all_cons, List.all_nil, Value.oneCell', List.map_toArray, List.map_cons, List.map_nil, List.toList_toArray, List.cons_append, List.nil_append, List.append_nil, List.set_cons_zero, List.set_cons_succ, Bool.and_self, Bool.and_true, Bool.true_and, Nat.reduceAdd, Nat.reduceMul, Nat.reduceLeDiff, Nat.reduceLT, Nat.zero_add, Nat.add_zero, Nat.one_mul, Nat.zero_mul, Nat.mul_one, if_true, if_false, true_and, and_true, and_self, Bool.false_eq_true, ite_true, ite_false, reduceCtorEq, Int.reduceLT, Int.reduceLE, Int.reduceEq, Int.reduceNe, Int.reduceBNe, Int.reduceBEq, Int.reduceToNat, Option.some.injEq, exists_eq_left', exists_eq_left, Nat.reduceSub, Bool.not_true, Bool.not_false, decide_true, decide_false, beq_self_eq_true, List.contains_nil, List.contains_cons, Bool.or_false, Bool.or_true, Bool.false_or, Bool.true_or, Nat.reduceBEq, forall_const, imp_self, true_imp_iff, false_imp_iff, decide_eq_true_eq, decide_eq_false_iff_not, not_true_eq_false, Heap.set_same, setCells_row, Heap.set_set, Option.isNone_some, Option.isNone_none, ↓SopsL_app, ↓SopsL_app0, ↓SopsL_app2, opAt_app0, opAt_app1, opAt_appn, opAt_app2, ca24, ca34, Heap.set_set]
  refine cb26_9 (n := (tkS (numS m p).1 (numS m p).2).1.length) (xs := (tkS (numS m p).1 (numS m p).2).1.map fun (n : Nat) => (n : Int)) ?_ ?_
  · have := (hw.le (hr2.set (q := (tkS (numS m p).1 (numS m p).2).2) hw').base).toRd
    rw [List.map_map]
    rw [Heap.set_set] at this
    exact this
  · simp (maxSteps := 400000) (dsimp := false) only [↓EP1, ↓EP2, ↓EP3, ↓EP4, ↓EP5, ↓EP6, ↓EP7, ↓EP8, EQ1, EQ2, EQ3, EQ4, EQ5, EQ6, EQ7, EQ8, EQ9, EQ10, ne_eq, Nat.reduceEqDiff, not_false_eq_true, Option.bind_some, Option.map_some, Option.bind_none, Option.map_none, List.getElem?_cons_zero, List.getElem?_cons_succ, List.size_toArray, List.length_cons, List.length_nil, List.all_cons, List.all_nil, Value.oneCell', List.map_toArray, List.map_cons, List.map_nil, List.toList_toArray, List.cons_append, List.nil_append, List.append_nil, List.set_cons_zero, List.set_cons_succ, Bool.and_self, Bool.and_true, Bool.true_and, Nat.reduceAdd, Nat.reduceMul, Nat.reduceLeDiff, Nat.reduceLT, Nat.zero_add, Nat.add_zero, Nat.one_mul, Nat.zero_mul, Nat.mul_one, if_true, if_false, true_and, and_true, and_self, Bool.false_eq_true, ite_true, ite_false, reduceCtorEq, Int.reduceLT, Int.reduceLE, Int.reduceEq, Int.reduceNe, Int.reduceBNe, Int.reduceBEq, Int.reduceToNat, Option.some.injEq, exists_eq_left', exists_eq_left, Nat.reduceSub, Bool.not_true, Bool.not_false, decide_true, decide_false, beq_self_eq_true, List.contains_nil, List.contains_cons, Bool.or_false, Bool.or_true, Bool.false_or, Bool.true_or, Nat.reduceBEq, forall_const, imp_self, true_imp_iff, false_imp_iff, decide_eq_true_eq, decide_eq_false_iff_not, not_true_eq_false, Heap.set_same, setCells_row, Heap.set_set, Option.isNone_some, Option.isNone_none, ↓SopsL_app, ↓SopsL_app0, ↓SopsL_app2, opAt_app0, opAt_app1, opAt_appn, opAt_app2, ca24, ca34, Heap.set_set]
    exact hK w' hw'
end Go.Proofs.Ytohgeigmdgpegaa
