/- Orders: Index, Clone, New of package order. Conditions: what the arguments read as; lengths that fit. -/
import Derived.Test.YtgnepkppmjabnaaIdx
import Derived.Test.YtgnepkppmjabnaaO2
namespace Go.Proofs.Ytgnepkppmjabnaa
open Go.RowKit Eng
set_option linter.unusedVariables false
set_option linter.unusedSimpArgs false

def pairC (p : ByteArray × ByteArray) : List Value := [.string p.1, .string p.2]
def idxS (l : List ByteArray) (x : ByteArray) : Int := idxF (fun y => x.toList == y.toList) l
def u32C (d : List Nat) : List Value := d.map fun (n : Nat) => Value.int .u32 (n : Int)
theorem u32C_len (d : List Nat) : (u32C d).length = d.length := by simp [u32C]
theorem u32C_get {d : List Nat} {i : Nat} (h : i < d.length) : (u32C d)[i]? = some (.int .u32 (d.getD i 0 : Nat)) := by
  simp [u32C, List.getD_eq_getElem?_getD, List.getElem?_eq_getElem h]
theorem u32C_set (d : List Nat) (i m : Nat) : (u32C d).set i (.int .u32 (m : Nat)) = u32C (d.set i m) := by simp [u32C, List.map_set]
theorem zeros_u32 (n : Nat) : zerosOf (.int .u32 0) n = u32C (List.replicate n 0) := by
  induction n with
  | zero => rfl
  | succ n ih => rw [zeros_succ, ih]; simp [u32C, List.replicate_succ, Value.cells]
def ix (names : List ByteArray) (p : ByteArray × ByteArray) : Nat × Nat := ((idxS names p.1).toNat, (idxS names p.2).toNat)
def bad (names : List ByteArray) (p : ByteArray × ByteArray) : Bool := decide (idxS names p.1 < 0) || decide (idxS names p.2 < 0)
def twice (names : List ByteArray) : Bool := (List.range names.length).any fun i => hasS (names.take i) (names.getD i ByteArray.empty)
/-- Why names and pairs are no order: the error's number; 0: they are one. -/
def newE (names : List ByteArray) (pairs : List (ByteArray × ByteArray)) : Nat :=
  if 24 < names.length then 5 else if twice names = true then 4 else if pairs.any (bad names) = true then 3 else if circ (rowsOf names.length (pairs.map (ix names))) names.length = true then 6 else 0
/-- v is an order of these names, of each all that it is above. -/
structure Ord (w0 : World) (H : Heap) (v : Value) (names : List ByteArray) (down : List Nat) : Prop where
  out : ∃ b vn vd, v = .pointer (some ⟨b, 0, none⟩) ∧ lk w0 H b 0 = some vn ∧ lk w0 H b 1 = some vd ∧ Ls strC 1 w0 H vn names ∧ Rd w0 H 1 vd down.length (u32C down) ∧ down.length = names.length
theorem Ord.le {w0 : World} {H H' : Heap} {v : Value} {names : List ByteArray} {down : List Nat} (hl : H.le H') (h : Ord w0 H v names down) : Ord w0 H' v names down := by
  obtain ⟨b, vn, vd, hv, h0, h1, hn, hd, hle⟩ := h
  exact ⟨b, vn, vd, hv, lk_le hl h0, lk_le hl h1, hn.le hl, hd.le hl, hle⟩
theorem shl_one {j : Nat} (hj : j < 32) : IntKind.wrap .u32 (1 * 2 ^ min j IntKind.u32.bits) = ((2 ^ j : Nat) : Int) := by
  have e : min j IntKind.u32.bits = j := by
    have : IntKind.u32.bits = 32 := rfl
    omega
  have hp : 2 ^ j < 2 ^ 32 := Nat.pow_lt_pow_right (by omega) hj
  have e2 : (1 : Int) * 2 ^ j = ((2 ^ j : Nat) : Int) := by simp
  rw [e, e2]
  exact wrap_u32 (Int.natCast_nonneg _) (Int.ofNat_lt.2 (show 2 ^ j < 4294967296 from hp))
theorem bit_test (m j : Nat) : (((m / 2 ^ j &&& 1 : Nat) : Int) == 1) = m.testBit j := by
  rw [Nat.testBit_eq_decide_div_mod_eq, Nat.and_one_is_mod, Bool.eq_iff_iff]
  simp only [beq_iff_eq, decide_eq_true_eq]
  omega
theorem shr_bit {m j : Nat} (hm : m < 4294967296) (hj : j ≤ 32) : (IntKind.wrap .u32 ((BitVec.ofInt IntKind.u32.bits ((m : Int).fdiv (2 ^ min j IntKind.u32.bits)) &&& BitVec.ofInt IntKind.u32.bits 1).toNat : Int) == 1) = m.testBit j := by
  have e0 := shr_nat m j IntKind.u32.bits hj
  simp only [Int.toNat_natCast] at e0
  rw [e0]
  have := and_u32 (m := m / 2 ^ j) (n := 1) (Nat.lt_of_le_of_lt (Nat.div_le_self _ _) hm) (by decide)
  have e : ((1 : Nat) : Int) = 1 := rfl
  rw [e] at this
  rw [this, bit_test]

set_option maxHeartbeats 400000 in
theorem oindex_F {w0 : World} {H : Heap} {K : Value → Heap → Prop} (l : List ByteArray) (v : Value) (x : ByteArray) (hv : Ls strC 1 w0 H v l) (hlen : l.length ≤ 9223372036854775806) (hK : K (.int .i64 (idxS l x)) H) :
    F Try.prog w0 29 [v, .string x] H K := by
  refine F_body Try.func29 rfl (N := 8) rfl (by simp) (rs := [.tmp 4]) rfl (S_of_W ?_)
  simp (maxSteps := 400000) (dsimp := false) only [↓EP1, ↓EP2, ↓EP3, ↓EP4, ↓EP5, ↓EP6, ↓EP7, ↓EP8, EQ1, EQ2, EQ3, EQ4, EQ5, EQ6, EQ7, EQ8, EQ9, EQ10, ne_eq, Nat.reduceEqDiff, not_false_eq_true, Option.bind_some, Option.map_some, Option.bind_none, Option.map_none, List.getElem?_cons_zero, List.getElem?_cons_succ, List.size_toArray, List.length_cons, List.length_nil, List.all_cons, List.all_nil, Value.oneCell', List.map_toArray, List.map_cons, List.map_nil, List.toList_toArray, List.cons_append, List.nil_append, List.append_nil, List.set_cons_zero, List.set_cons_succ, Bool.and_self, Bool.and_true, Bool.true_and, Nat.reduceAdd, Nat.reduceMul, Nat.reduceLeDiff, Nat.reduceLT, Nat.zero_add, Nat.add_zero, Nat.one_mul, Nat.zero_mul, Nat.mul_one, if_true, if_false, true_and, and_true, and_self, Bool.false_eq_true, ite_true, ite_false, reduceCtorEq, Int.reduceLT, Int.reduceLE, Int.reduceEq, Int.reduceNe, Int.reduceBNe, Int.reduceBEq, Int.reduceToNat, Option.some.injEq, exists_eq_left', exists_eq_left, Nat.reduceSub, Bool.not_true, Bool.not_false, decide_true, decide_false, beq_self_eq_true, List.contains_nil, List.contains_cons, Bool.or_false, Bool.or_true, Bool.false_or, Bool.true_or, Nat.reduceBEq, forall_const, imp_self, true_imp_iff, false_imp_iff, decide_eq_true_eq, decide_eq_false_iff_not, not_true_eq_false, Heap.set_same, setCells_row, Heap.set_set, Option.isNone_some, Option.isNone_none, ↓SopsL_app, ↓SopsL_app0, ↓SopsL_app2, opAt_app0, opAt_app1, opAt_appn, opAt_app2, ca32]
  refine index_F l v x hv hlen ?_
  simp (maxSteps := 400000) (dsimp := false) only [↓EP1, ↓EP2, ↓EP3, ↓EP4, ↓EP5, ↓EP6, ↓EP7, ↓EP8, EQ1, EQ2, EQ3, EQ4, EQ5, EQ6, EQ7, EQ8, EQ9, EQ10, ne_eq, Nat.reduceEqDiff, not_false_eq_true, Option.bind_some, Option.map_some, Option.bind_none, Option.map_none, List.getElem?_cons_zero, List.getElem?_cons_succ, List.size_toArray, List.length_cons, List.length_nil, List.all_cons, List.all_nil, Value.oneCell', List.map_toArray, List.map_cons, List.map_nil, List.toList_toArray, List.cons_append, List.nil_append, List.append_nil, List.set_cons_zero, List.set_cons_succ, Bool.and_self, Bool.and_true, Bool.true_and, Nat.reduceAdd, Nat.reduceMul, Nat.reduceLeDiff, Nat.reduceLT, Nat.zero_add, Nat.add_zero, Nat.one_mul, Nat.zero_mul, Nat.mul_one, if_true, if_false, true_and, and_true, and_self, Bool.false_eq_true, ite_true, ite_false, reduceCtorEq, Int.reduceLT, Int.reduceLE, Int.reduceEq, Int.reduceNe, Int.reduceBNe, Int.reduceBEq, Int.reduceToNat, Option.some.injEq, exists_eq_left', exists_eq_left, Nat.reduceSub, Bool.not_true, Bool.not_false, decide_true, decide_false, beq_self_eq_true, List.contains_nil, List.contains_cons, Bool.or_false, Bool.or_true, Bool.false_or, Bool.true_or, Nat.reduceBEq, forall_const, imp_self, true_imp_iff, false_imp_iff, decide_eq_true_eq, decide_eq_false_iff_not, not_true_eq_false, Heap.set_same, setCells_row, Heap.set_set, Option.isNone_some, Option.isNone_none, ↓SopsL_app, ↓SopsL_app0, ↓SopsL_app2, opAt_app0, opAt_app1, opAt_appn, opAt_app2, ca32]
  exact hK

set_option maxHeartbeats 400000 in
theorem clone_F {w0 : World} {H : Heap} {K : Value → Heap → Prop} (l : List ByteArray) (v : Value) (hv : Ls strC 1 w0 H v l) (hlen : l.length ≤ 1000000) (hK : ∀ v' H', H.le H' → Ls strC 1 w0 H' v' l → K v' H') :
    F Try.prog w0 30 [v] H K := by
  have hv0 := hv
  obtain ⟨A, c, rfl, hc, hr⟩ := hv.open_
  refine F_body Try.func30 rfl (N := 8) rfl (by simp) (rs := [.tmp 2]) rfl (S_of_W ?_)
  cases A with
  | none =>
    have hl : l = [] := by
      rcases Nat.eq_zero_or_pos l.length with h | h
      · exact List.eq_nil_of_length_eq_zero h
      · obtain ⟨b, o, h, _⟩ := hr h; cases h
    subst hl
    simp (maxSteps := 400000) (dsimp := false) only [↓EP1, ↓EP2, ↓EP3, ↓EP4, ↓EP5, ↓EP6, ↓EP7, ↓EP8, EQ1, EQ2, EQ3, EQ4, EQ5, EQ6, EQ7, EQ8, EQ9, EQ10, ne_eq, Nat.reduceEqDiff, not_false_eq_true, Option.bind_some, Option.map_some, Option.bind_none, Option.map_none, List.getElem?_cons_zero, List.getElem?_cons_succ, List.size_toArray, List.length_cons, List.length_nil, List.all_cons, List.all_nil, Value.oneCell', List.map_toArray, List.map_cons, List.map_nil, List.toList_toArray, List.cons_append, List.nil_append, List.append_nil, List.set_cons_zero, List.set_cons_succ, Bool.and_self, Bool.and_true, Bool.true_and, Nat.reduceAdd, Nat.reduceMul, Nat.reduceLeDiff, Nat.reduceLT, Nat.zero_add, Nat.add_zero, Nat.one_mul, Nat.zero_mul, Nat.mul_one, if_true, if_false, true_and, and_true, and_self, Bool.false_eq_true, ite_true, ite_false, reduceCtorEq, Int.reduceLT, Int.reduceLE, Int.reduceEq, Int.reduceNe, Int.reduceBNe, Int.reduceBEq, Int.reduceToNat, Option.some.injEq, exists_eq_left', exists_eq_left, Nat.reduceSub, Bool.not_true, Bool.not_false, decide_true, decide_false, beq_self_eq_true, List.contains_nil, List.contains_cons, Bool.or_false, Bool.or_true, Bool.false_or, Bool.true_or, Nat.reduceBEq, forall_const, imp_self, true_imp_iff, false_imp_iff, decide_eq_true_eq, decide_eq_false_iff_not, not_true_eq_false, Heap.set_same, setCells_row, Heap.set_set, Option.isNone_some, Option.isNone_none, ↓SopsL_app, ↓SopsL_app0, ↓SopsL_app2, opAt_app0, opAt_app1, opAt_appn, opAt_app2, bs24, by9, ce9, el24, eq24, nq24, sz9, zo9, Option.isNone_none]
    exact hK _ _ (Heap.le_refl _) ⟨fun x hx => (by cases hx), Rd.nil 0 none 1⟩
  | some a =>
    simp (maxSteps := 400000) (dsimp := false) only [↓EP1, ↓EP2, ↓EP3, ↓EP4, ↓EP5, ↓EP6, ↓EP7, ↓EP8, EQ1, EQ2, EQ3, EQ4, EQ5, EQ6, EQ7, EQ8, EQ9, EQ10, ne_eq, Nat.reduceEqDiff, not_false_eq_true, Option.bind_some, Option.map_some, Option.bind_none, Option.map_none, List.getElem?_cons_zero, List.getElem?_cons_succ, List.size_toArray, List.length_cons, List.length_nil, List.all_cons, List.all_nil, Value.oneCell', List.map_toArray, List.map_cons, List.map_nil, List.toList_toArray, List.cons_append, List.nil_append, List.append_nil, List.set_cons_zero, List.set_cons_succ, Bool.and_self, Bool.and_true, Bool.true_and, Nat.reduceAdd, Nat.reduceMul, Nat.reduceLeDiff, Nat.reduceLT, Nat.zero_add, Nat.add_zero, Nat.one_mul, Nat.zero_mul, Nat.mul_one, if_true, if_false, true_and, and_true, and_self, Bool.false_eq_true, ite_true, ite_false, reduceCtorEq, Int.reduceLT, Int.reduceLE, Int.reduceEq, Int.reduceNe, Int.reduceBNe, Int.reduceBEq, Int.reduceToNat, Option.some.injEq, exists_eq_left', exists_eq_left, Nat.reduceSub, Bool.not_true, Bool.not_false, decide_true, decide_false, beq_self_eq_true, List.contains_nil, List.contains_cons, Bool.or_false, Bool.or_true, Bool.false_or, Bool.true_or, Nat.reduceBEq, forall_const, imp_self, true_imp_iff, false_imp_iff, decide_eq_true_eq, decide_eq_false_iff_not, not_true_eq_false, Heap.set_same, setCells_row, Heap.set_set, Option.isNone_some, Option.isNone_none, ↓SopsL_app, ↓SopsL_app0, ↓SopsL_app2, opAt_app0, opAt_app1, opAt_appn, opAt_app2, bs24, by9, ce9, el24, eq24, nq24, sz9, zo9, Option.isNone_some]
    intro b hb hlow
    have hle := fun it => Heap.le_set (it := it) hb
    refine append_empty E24 mn24 (Rd.srcs ((hv0.le (hle _)).rd) (all_strC _)) (by omega) (by omega) ?_ ?_
    · intro h0
      simp (maxSteps := 400000) (dsimp := false) only [↓EP1, ↓EP2, ↓EP3, ↓EP4, ↓EP5, ↓EP6, ↓EP7, ↓EP8, EQ1, EQ2, EQ3, EQ4, EQ5, EQ6, EQ7, EQ8, EQ9, EQ10, ne_eq, Nat.reduceEqDiff, not_false_eq_true, Option.bind_some, Option.map_some, Option.bind_none, Option.map_none, List.getElem?_cons_zero, List.getElem?_cons_succ, List.size_toArray, List.length_cons, List.length_nil, List.all_cons, List.all_nil, Value.oneCell', List.map_toArray, List.map_cons, List.map_nil, List.toList_toArray, List.cons_append, List.nil_append, List.append_nil, List.set_cons_zero, List.set_cons_succ, Bool.and_self, Bool.and_true, Bool.true_and, Nat.reduceAdd, Nat.reduceMul, Nat.reduceLeDiff, Nat.reduceLT, Nat.zero_add, Nat.add_zero, Nat.one_mul, Nat.zero_mul, Nat.mul_one, if_true, if_false, true_and, and_true, and_self, Bool.false_eq_true, ite_true, ite_false, reduceCtorEq, Int.reduceLT, Int.reduceLE, Int.reduceEq, Int.reduceNe, Int.reduceBNe, Int.reduceBEq, Int.reduceToNat, Option.some.injEq, exists_eq_left', exists_eq_left, Nat.reduceSub, Bool.not_true, Bool.not_false, decide_true, decide_false, beq_self_eq_true, List.contains_nil, List.contains_cons, Bool.or_false, Bool.or_true, Bool.false_or, Bool.true_or, Nat.reduceBEq, forall_const, imp_self, true_imp_iff, false_imp_iff, decide_eq_true_eq, decide_eq_false_iff_not, not_true_eq_false, Heap.set_same, setCells_row, Heap.set_set, Option.isNone_some, Option.isNone_none, ↓SopsL_app, ↓SopsL_app0, ↓SopsL_app2, opAt_app0, opAt_app1, opAt_appn, opAt_app2, bs24, by9, ce9, el24, eq24, nq24, sz9, zo9]
      have hl : l = [] := List.eq_nil_of_length_eq_zero h0
      subst hl
      exact hK _ _ (hle _) ⟨fun x hx => (by cases hx), Rd.nil 0 _ 1⟩
    · intro hp b2 c2 hb2 hlow2 hc2
      simp (maxSteps := 400000) (dsimp := false) only [↓EP1, ↓EP2, ↓EP3, ↓EP4, ↓EP5, ↓EP6, ↓EP7, ↓EP8, EQ1, EQ2, EQ3, EQ4, EQ5, EQ6, EQ7, EQ8, EQ9, EQ10, ne_eq, Nat.reduceEqDiff, not_false_eq_true, Option.bind_some, Option.map_some, Option.bind_none, Option.map_none, List.getElem?_cons_zero, List.getElem?_cons_succ, List.size_toArray, List.length_cons, List.length_nil, List.all_cons, List.all_nil, Value.oneCell', List.map_toArray, List.map_cons, List.map_nil, List.toList_toArray, List.cons_append, List.nil_append, List.append_nil, List.set_cons_zero, List.set_cons_succ, Bool.and_self, Bool.and_true, Bool.true_and, Nat.reduceAdd, Nat.reduceMul, Nat.reduceLeDiff, Nat.reduceLT, Nat.zero_add, Nat.add_zero, Nat.one_mul, Nat.zero_mul, Nat.mul_one, if_true, if_false, true_and, and_true, and_self, Bool.false_eq_true, ite_true, ite_false, reduceCtorEq, Int.reduceLT, Int.reduceLE, Int.reduceEq, Int.reduceNe, Int.reduceBNe, Int.reduceBEq, Int.reduceToNat, Option.some.injEq, exists_eq_left', exists_eq_left, Nat.reduceSub, Bool.not_true, Bool.not_false, decide_true, decide_false, beq_self_eq_true, List.contains_nil, List.contains_cons, Bool.or_false, Bool.or_true, Bool.false_or, Bool.true_or, Nat.reduceBEq, forall_const, imp_self, true_imp_iff, false_imp_iff, decide_eq_true_eq, decide_eq_false_iff_not, not_true_eq_false, Heap.set_same, setCells_row, Heap.set_set, Option.isNone_some, Option.isNone_none, ↓SopsL_app, ↓SopsL_app0, ↓SopsL_app2, opAt_app0, opAt_app1, opAt_appn, opAt_app2, bs24, by9, ce9, el24, eq24, nq24, sz9, zo9]
      exact hK _ _ (Heap.le_trans (hle _) (Heap.le_set hb2)) ⟨fun x hx => rfl, Rd.cells hlow2 (Heap.set_same _ _ _) (by rw [Ls.flat_len hv0]) hc2⟩
end Go.Proofs.Ytgnepkppmjabnaa
