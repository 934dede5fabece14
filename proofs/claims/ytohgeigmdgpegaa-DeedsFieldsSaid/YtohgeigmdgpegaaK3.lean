/- Deeds: number and Pack of package deeds. Conditions: the texts are not beyond all bounds. -/
import Derived.Test.YtohgeigmdgpegaaK2
namespace Go.Proofs.Ytohgeigmdgpegaa
open Go.RowKit Eng
set_option linter.unusedVariables false
set_option linter.unusedSimpArgs false

def u8C (l : List Nat) : List Value := l.map fun (n : Nat) => Value.int .u8 (n : Int)
theorem u8C_len (l : List Nat) : (u8C l).length = l.length := by simp [u8C]
theorem u8C_app (a b : List Nat) : u8C (a ++ b) = u8C a ++ u8C b := by simp [u8C]
theorem u8C_one (l : List Nat) : (u8C l).all Value.oneCell' = true := by
  rw [List.all_eq_true]
  intro v hv
  obtain ⟨n, _, rfl⟩ := List.mem_map.1 hv
  rfl
theorem u8C_get {l : List Nat} {i : Nat} (h : i < l.length) : (u8C l)[i]? = some (.int .u8 (l[i] : Nat)) := by simp [u8C, List.getElem?_eq_getElem h]
def bytesN (s : ByteArray) : List Nat := s.data.toList.map (·.toNat)
theorem strCells_eq (s : ByteArray) : strCells s = u8C (bytesN s) := by simp [strCells, u8C, bytesN]
theorem bytesN_len (s : ByteArray) : (bytesN s).length = s.size := by simp [bytesN]
/-- A number's bytes, the greatest first. -/
def be : Nat → Nat → List Nat
  | 0, _ => []
  | m + 1, n => n / 256 ^ m % 256 :: be m n
theorem be_len : ∀ m n, (be m n).length = m
  | 0, _ => rfl
  | m + 1, n => by simp [be, be_len m n]
/-- All but the last r bytes. -/
def beTo : Nat → Nat → Nat → List Nat
  | 0, _, _ => []
  | j + 1, m, n => beTo j m n ++ [n / 256 ^ (m - 1 - j) % 256]
theorem beTo_len : ∀ j m n, (beTo j m n).length = j
  | 0, _, _ => rfl
  | j + 1, m, n => by simp [beTo, beTo_len j m n]
theorem beTo_be : ∀ j m n, j ≤ m → beTo j m n ++ be (m - j) n = be m n
  | 0, m, n, _ => by simp [beTo]
  | j + 1, m, n, h => by
    have ih := beTo_be j m n (by omega)
    rw [← ih, beTo, List.append_assoc]
    congr 1
    have e : m - j = (m - (j + 1)) + 1 := by omega
    rw [e, be]
    have e2 : m - 1 - j = m - (j + 1) := by omega
    rw [e2]
    rfl
theorem shr_byte (n j : Nat) (hj : 8 * j ≤ 64) : IntKind.wrap .u8 ((n : Int).fdiv (2 ^ min (8 * j) IntKind.i64.bits)) = ((n / 256 ^ j % 256 : Nat) : Int) := by
  have h := shr_nat n (8 * j) IntKind.i64.bits hj
  rw [Int.toNat_natCast] at h
  rw [h, Nat.pow_mul]
  unfold IntKind.wrap
  simp only [IntKind.signed, Bool.false_and, Bool.false_eq_true, if_false, IntKind.bits]
  show ((n / 256 ^ j : Nat) : Int) % 256 = _
  omega

set_option maxRecDepth 4000 in
set_option maxHeartbeats 1000000 in
theorem number_F {w0 : World} {H : Heap} {K : Value → Heap → Prop} (n m : Nat) (hm : m ≤ 8)
    (hK : ∀ v H', H.le H' → Own w0 H' 5 1 v m (u8C (be m n)) → (∀ k, ob v = some k → H k = none) → K v H') :
    F Try.prog w0 23 [.int .i64 n, .int .i64 m] H K := by
  have hm1 : IntKind.wrap .i64 ((m : Int) - 1) = (m : Int) - 1 := wrap_i64 (by omega) (by omega)
  refine F_body Try.func23 rfl (N := 21) rfl (by simp) (rs := [.tmp 4]) rfl (S_of_W ?_)
  simp (maxSteps := 400000) (dsimp := false) only [↓EP1, ↓EP2, ↓EP3, ↓EP4, ↓EP5, ↓EP6, ↓EP7, ↓EP8, EQ1, EQ2, EQ3, EQ4, EQ5, EQ6, EQ7, EQ8, EQ9, EQ10, ne_eq, Nat.reduceEqDiff, not_false_eq_true, Option.bind_some, Option.map_some, Option.bind_none, Option.map_none, List.getElem?_cons_zero, List.getElem?_cons_succ, List.size_toArray, List.length_cons, List.length_nil, List.all_cons, List.all_nil, Value.oneCell', List.map_toArray, List.map_cons, List.map_nil, List.toList_toArray, List.cons_append, List.nil_append, List.append_nil, List.set_cons_zero, List.set_cons_succ, Bool.and_self, Bool.and_true, Bool.true_and, Nat.reduceAdd, Nat.reduceMul, Nat.reduceLeDiff, Nat.reduceLT, Nat.zero_add, Nat.add_zero, Nat.one_mul, Nat.zero_mul, Nat.mul_one, if_true, if_false, true_and, and_true, and_self, Bool.false_eq_true, ite_true, ite_false, reduceCtorEq, Int.reduceLT, Int.reduceLE, Int.reduceEq, Int.reduceNe, Int.reduceBNe, Int.reduceBEq, Int.reduceToNat, Option.some.injEq, exists_eq_left', exists_eq_left, Nat.reduceSub, Bool.not_true, Bool.not_false, decide_true, decide_false, beq_self_eq_true, List.contains_nil, List.contains_cons, Bool.or_false, Bool.or_true, Bool.false_or, Bool.true_or, Nat.reduceBEq, forall_const, imp_self, true_imp_iff, false_imp_iff, decide_eq_true_eq, decide_eq_false_iff_not, not_true_eq_false, Heap.set_same, setCells_row, Heap.set_set, Option.isNone_some, Option.isNone_none, ↓SopsL_app, ↓SopsL_app0, ↓SopsL_app2, opAt_app0, opAt_app1, opAt_appn, opAt_app2, bs26, by5, ce5, cv3_5, cw3_5, el26, sz5, zo5, hm1]
  refine S_uptoL [0, 4] (m) (fun k s H2 => H.le H2 ∧ Own w0 H2 5 1 (s 5) k (u8C (beTo k m n)) ∧ (∀ j, ob (s 5) = some j → H j = none) ∧ s 1 = .int .i64 ((m : Int) - 1 - k)) ?_ ?_
  · exact ⟨Heap.le_refl _, by simp (maxSteps := 400000) (dsimp := false) only [↓EP1, ↓EP2, ↓EP3, ↓EP4, ↓EP5, ↓EP6, ↓EP7, ↓EP8, EQ1, EQ2, EQ3, EQ4, EQ5, EQ6, EQ7, EQ8, EQ9, EQ10, ne_eq, Nat.reduceEqDiff, not_false_eq_true, Option.bind_some, Option.map_some, Option.bind_none, Option.map_none, List.getElem?_cons_zero, List.getElem?_cons_succ, List.size_toArray, List.length_cons, List.length_nil, List.all_cons, List.all_nil, Value.oneCell', List.map_toArray, List.map_cons, List.map_nil, List.toList_toArray, List.cons_append, List.nil_append, List.append_nil, List.set_cons_zero, List.set_cons_succ, Bool.and_self, Bool.and_true, Bool.true_and, Nat.reduceAdd, Nat.reduceMul, Nat.reduceLeDiff, Nat.reduceLT, Nat.zero_add, Nat.add_zero, Nat.one_mul, Nat.zero_mul, Nat.mul_one, if_true, if_false, true_and, and_true, and_self, Bool.false_eq_true, ite_true, ite_false, reduceCtorEq, Int.reduceLT, Int.reduceLE, Int.reduceEq, Int.reduceNe, Int.reduceBNe, Int.reduceBEq, Int.reduceToNat, Option.some.injEq, exists_eq_left', exists_eq_left, Nat.reduceSub, Bool.not_true, Bool.not_false, decide_true, decide_false, beq_self_eq_true, List.contains_nil, List.contains_cons, Bool.or_false, Bool.or_true, Bool.false_or, Bool.true_or, Nat.reduceBEq, forall_const, imp_self, true_imp_iff, false_imp_iff, decide_eq_true_eq, decide_eq_false_iff_not, not_true_eq_false, Heap.set_same, setCells_row, Heap.set_set, Option.isNone_some, Option.isNone_none, ↓SopsL_app, ↓SopsL_app0, ↓SopsL_app2, opAt_app0, opAt_app1, opAt_appn, opAt_app2]; exact Own.nil _ _, (by simp (maxSteps := 400000) (dsimp := false) only [↓EP1, ↓EP2, ↓EP3, ↓EP4, ↓EP5, ↓EP6, ↓EP7, ↓EP8, EQ1, EQ2, EQ3, EQ4, EQ5, EQ6, EQ7, EQ8, EQ9, EQ10, ne_eq, Nat.reduceEqDiff, not_false_eq_true, Option.bind_some, Option.map_some, Option.bind_none, Option.map_none, List.getElem?_cons_zero, List.getElem?_cons_succ, List.size_toArray, List.length_cons, List.length_nil, List.all_cons, List.all_nil, Value.oneCell', List.map_toArray, List.map_cons, List.map_nil, List.toList_toArray, List.cons_append, List.nil_append, List.append_nil, List.set_cons_zero, List.set_cons_succ, Bool.and_self, Bool.and_true, Bool.true_and, Nat.reduceAdd, Nat.reduceMul, Nat.reduceLeDiff, Nat.reduceLT, Nat.zero_add, Nat.add_zero, Nat.one_mul, Nat.zero_mul, Nat.mul_one, if_true, if_false, true_and, and_true, and_self, Bool.false_eq_true, ite_true, ite_false, reduceCtorEq, Int.reduceLT, Int.reduceLE, Int.reduceEq, Int.reduceNe, Int.reduceBNe, Int.reduceBEq, Int.reduceToNat, Option.some.injEq, exists_eq_left', exists_eq_left, Nat.reduceSub, Bool.not_true, Bool.not_false, decide_true, decide_false, beq_self_eq_true, List.contains_nil, List.contains_cons, Bool.or_false, Bool.or_true, Bool.false_or, Bool.true_or, Nat.reduceBEq, forall_const, imp_self, true_imp_iff, false_imp_iff, decide_eq_true_eq, decide_eq_false_iff_not, not_true_eq_false, Heap.set_same, setCells_row, Heap.set_set, Option.isNone_some, Option.isNone_none, ↓SopsL_app, ↓SopsL_app0, ↓SopsL_app2, opAt_app0, opAt_app1, opAt_appn, opAt_app2]; exact fun j hj => nomatch hj), by simp (maxSteps := 400000) (dsimp := false) only [↓EP1, ↓EP2, ↓EP3, ↓EP4, ↓EP5, ↓EP6, ↓EP7, ↓EP8, EQ1, EQ2, EQ3, EQ4, EQ5, EQ6, EQ7, EQ8, EQ9, EQ10, ne_eq, Nat.reduceEqDiff, not_false_eq_true, Option.bind_some, Option.map_some, Option.bind_none, Option.map_none, List.getElem?_cons_zero, List.getElem?_cons_succ, List.size_toArray, List.length_cons, List.length_nil, List.all_cons, List.all_nil, Value.oneCell', List.map_toArray, List.map_cons, List.map_nil, List.toList_toArray, List.cons_append, List.nil_append, List.append_nil, List.set_cons_zero, List.set_cons_succ, Bool.and_self, Bool.and_true, Bool.true_and, Nat.reduceAdd, Nat.reduceMul, Nat.reduceLeDiff, Nat.reduceLT, Nat.zero_add, Nat.add_zero, Nat.one_mul, Nat.zero_mul, Nat.mul_one, if_true, if_false, true_and, and_true, and_self, Bool.false_eq_true, ite_true, ite_false, reduceCtorEq, Int.reduceLT, Int.reduceLE, Int.reduceEq, Int.reduceNe, Int.reduceBNe, Int.reduceBEq, Int.reduceToNat, Option.some.injEq, exists_eq_left', exists_eq_left, Nat.reduceSub, Bool.not_true, Bool.not_false, decide_true, decide_false, beq_self_eq_true, List.contains_nil, List.contains_cons, Bool.or_false, Bool.or_true, Bool.false_or, Bool.true_or, Nat.reduceBEq, forall_const, imp_self, true_imp_iff, false_imp_iff, decide_eq_true_eq, decide_eq_false_iff_not, not_true_eq_false, Heap.set_same, setCells_row, Heap.set_set, Option.isNone_some, Option.isNone_none, ↓SopsL_app, ↓SopsL_app0, ↓SopsL_app2, opAt_app0, opAt_app1, opAt_appn, opAt_app2]; simp⟩
  intro k s H2 hk ha hI
  obtain ⟨hle, hown, hnew, h1⟩ := hI
  refine S_of_W ?_
  have n0 := ha.get 0 rfl
  try simp (maxSteps := 400000) (dsimp := false) only [↓EP1, ↓EP2, ↓EP3, ↓EP4, ↓EP5, ↓EP6, ↓EP7, ↓EP8, EQ1, EQ2, EQ3, EQ4, EQ5, EQ6, EQ7, EQ8, EQ9, EQ10, ne_eq, Nat.reduceEqDiff, not_false_eq_true, Option.bind_some, Option.map_some, Option.bind_none, Option.map_none, List.getElem?_cons_zero, List.getElem?_cons_succ, List.size_toArray, List.length_cons, List.length_nil, List.all_cons, List.all_nil, Value.oneCell', List.map_toArray, List.map_cons, List.map_nil, List.toList_toArray, List.cons_append, List.nil_append, List.append_nil, List.set_cons_zero, List.set_cons_succ, Bool.and_self, Bool.and_true, Bool.true_and, Nat.reduceAdd, Nat.reduceMul, Nat.reduceLeDiff, Nat.reduceLT, Nat.zero_add, Nat.add_zero, Nat.one_mul, Nat.zero_mul, Nat.mul_one, if_true, if_false, true_and, and_true, and_self, Bool.false_eq_true, ite_true, ite_false, reduceCtorEq, Int.reduceLT, Int.reduceLE, Int.reduceEq, Int.reduceNe, Int.reduceBNe, Int.reduceBEq, Int.reduceToNat, Option.some.injEq, exists_eq_left', exists_eq_left, Nat.reduceSub, Bool.not_true, Bool.not_false, decide_true, decide_false, beq_self_eq_true, List.contains_nil, List.contains_cons, Bool.or_false, Bool.or_true, Bool.false_or, Bool.true_or, Nat.reduceBEq, forall_const, imp_self, true_imp_iff, false_imp_iff, decide_eq_true_eq, decide_eq_false_iff_not, not_true_eq_false, Heap.set_same, setCells_row, Heap.set_set, Option.isNone_some, Option.isNone_none, ↓SopsL_app, ↓SopsL_app0, ↓SopsL_app2, opAt_app0, opAt_app1, opAt_appn, opAt_app2] at n0
  have hs0 := n0; clear n0
  have n4 := ha.get 4 rfl
  try simp (maxSteps := 400000) (dsimp := false) only [↓EP1, ↓EP2, ↓EP3, ↓EP4, ↓EP5, ↓EP6, ↓EP7, ↓EP8, EQ1, EQ2, EQ3, EQ4, EQ5, EQ6, EQ7, EQ8, EQ9, EQ10, ne_eq, Nat.reduceEqDiff, not_false_eq_true, Option.bind_some, Option.map_some, Option.bind_none, Option.map_none, List.getElem?_cons_zero, List.getElem?_cons_succ, List.size_toArray, List.length_cons, List.length_nil, List.all_cons, List.all_nil, Value.oneCell', List.map_toArray, List.map_cons, List.map_nil, List.toList_toArray, List.cons_append, List.nil_append, List.append_nil, List.set_cons_zero, List.set_cons_succ, Bool.and_self, Bool.and_true, Bool.true_and, Nat.reduceAdd, Nat.reduceMul, Nat.reduceLeDiff, Nat.reduceLT, Nat.zero_add, Nat.add_zero, Nat.one_mul, Nat.zero_mul, Nat.mul_one, if_true, if_false, true_and, and_true, and_self, Bool.false_eq_true, ite_true, ite_false, reduceCtorEq, Int.reduceLT, Int.reduceLE, Int.reduceEq, Int.reduceNe, Int.reduceBNe, Int.reduceBEq, Int.reduceToNat, Option.some.injEq, exists_eq_left', exists_eq_left, Nat.reduceSub, Bool.not_true, Bool.not_false, decide_true, decide_false, beq_self_eq_true, List.contains_nil, List.contains_cons, Bool.or_false, Bool.or_true, Bool.false_or, Bool.true_or, Nat.reduceBEq, forall_const, imp_self, true_imp_iff, false_imp_iff, decide_eq_true_eq, decide_eq_false_iff_not, not_true_eq_false, Heap.set_same, setCells_row, Heap.set_set, Option.isNone_some, Option.isNone_none, ↓SopsL_app, ↓SopsL_app0, ↓SopsL_app2, opAt_app0, opAt_app1, opAt_appn, opAt_app2] at n4
  have hs4 := n4; clear n4
  by_cases hkn : k < m
  · have hge : (0 : Int) ≤ (m : Int) - 1 - k := by omega
    have hsub : IntKind.wrap .i64 ((m : Int) - 1 - k - 1) = (m : Int) - 1 - ((k + 1 : Nat) : Int) := by rw [wrap_i64 (by omega) (by omega)]; omega
    have hmul : IntKind.wrap .i64 (8 * ((m : Int) - 1 - k)) = ((8 * (m - 1 - k) : Nat) : Int) := by rw [wrap_i64 (by omega) (by omega)]; omega
    have hnn : ¬ ((8 * (m - 1 - k) : Nat) : Int) < 0 := by omega
    have hsh := shr_byte n (m - 1 - k) (by omega)
    simp (maxSteps := 400000) (dsimp := false) only [↓EP1, ↓EP2, ↓EP3, ↓EP4, ↓EP5, ↓EP6, ↓EP7, ↓EP8, EQ1, EQ2, EQ3, EQ4, EQ5, EQ6, EQ7, EQ8, EQ9, EQ10, ne_eq, Nat.reduceEqDiff, not_false_eq_true, Option.bind_some, Option.map_some, Option.bind_none, Option.map_none, List.getElem?_cons_zero, List.getElem?_cons_succ, List.size_toArray, List.length_cons, List.length_nil, List.all_cons, List.all_nil, Value.oneCell', List.map_toArray, List.map_cons, List.map_nil, List.toList_toArray, List.cons_append, List.nil_append, List.append_nil, List.set_cons_zero, List.set_cons_succ, Bool.and_self, Bool.and_true, Bool.true_and, Nat.reduceAdd, Nat.reduceMul, Nat.reduceLeDiff, Nat.reduceLT, Nat.zero_add, Nat.add_zero, Nat.one_mul, Nat.zero_mul, Nat.mul_one, if_true, if_false, true_and, and_true, and_self, Bool.false_eq_true, ite_true, ite_false, reduceCtorEq, Int.reduceLT, Int.reduceLE, Int.reduceEq, Int.reduceNe, Int.reduceBNe, Int.reduceBEq, Int.reduceToNat, Option.some.injEq, exists_eq_left', exists_eq_left, Nat.reduceSub, Bool.not_true, Bool.not_false, decide_true, decide_false, beq_self_eq_true, List.contains_nil, List.contains_cons, Bool.or_false, Bool.or_true, Bool.false_or, Bool.true_or, Nat.reduceBEq, forall_const, imp_self, true_imp_iff, false_imp_iff, decide_eq_true_eq, decide_eq_false_iff_not, not_true_eq_false, Heap.set_same, setCells_row, Heap.set_set, Option.isNone_some, Option.isNone_none, ↓SopsL_app, ↓SopsL_app0, ↓SopsL_app2, opAt_app0, opAt_app1, opAt_appn, opAt_app2, bs26, by5, ce5, cv3_5, cw3_5, el26, sz5, zo5, hs0, hs4, h1, hge, hmul, hnn, Int.toNat_natCast, hsh]
    intro b hb hl
    refine own_append E26 mn26 (hown.le (Heap.le_set hb)) (u8C_one _) (Rd.srcs (Rd.cells hl (Heap.set_same _ _ _) rfl) rfl) (by omega) (by omega) ?_
    intro v' H3 hown2 hrest
    obtain ⟨hle2, hnew2⟩ := hrest.le (Heap.le_trans hle (Heap.le_set hb)) hnew
    simp (maxSteps := 400000) (dsimp := false) only [↓EP1, ↓EP2, ↓EP3, ↓EP4, ↓EP5, ↓EP6, ↓EP7, ↓EP8, EQ1, EQ2, EQ3, EQ4, EQ5, EQ6, EQ7, EQ8, EQ9, EQ10, ne_eq, Nat.reduceEqDiff, not_false_eq_true, Option.bind_some, Option.map_some, Option.bind_none, Option.map_none, List.getElem?_cons_zero, List.getElem?_cons_succ, List.size_toArray, List.length_cons, List.length_nil, List.all_cons, List.all_nil, Value.oneCell', List.map_toArray, List.map_cons, List.map_nil, List.toList_toArray, List.cons_append, List.nil_append, List.append_nil, List.set_cons_zero, List.set_cons_succ, Bool.and_self, Bool.and_true, Bool.true_and, Nat.reduceAdd, Nat.reduceMul, Nat.reduceLeDiff, Nat.reduceLT, Nat.zero_add, Nat.add_zero, Nat.one_mul, Nat.zero_mul, Nat.mul_one, if_true, if_false, true_and, and_true, and_self, Bool.false_eq_true, ite_true, ite_false, reduceCtorEq, Int.reduceLT, Int.reduceLE, Int.reduceEq, Int.reduceNe, Int.reduceBNe, Int.reduceBEq, Int.reduceToNat, Option.some.injEq, exists_eq_left', exists_eq_left, Nat.reduceSub, Bool.not_true, Bool.not_false, decide_true, decide_false, beq_self_eq_true, List.contains_nil, List.contains_cons, Bool.or_false, Bool.or_true, Bool.false_or, Bool.true_or, Nat.reduceBEq, forall_const, imp_self, true_imp_iff, false_imp_iff, decide_eq_true_eq, decide_eq_false_iff_not, not_true_eq_false, Heap.set_same, setCells_row, Heap.set_set, Option.isNone_some, Option.isNone_none, ↓SopsL_app, ↓SopsL_app0, ↓SopsL_app2, opAt_app0, opAt_app1, opAt_appn, opAt_app2, bs26, by5, ce5, cv3_5, cw3_5, el26, sz5, zo5, hs0, hs4, h1, hsub]
    refine ⟨hkn, (by repeat (first | assumption | refine Agree.put rfl ?_ | exact (Agree.sub rfl ha).trans (by repeat (first | assumption | refine Agree.put rfl ?_)))), _, Heap.le_refl _, hle2, ?_, hnew2⟩
    rw [beTo, u8C_app]
    exact hown2
  have hge : ¬ (0 : Int) ≤ (m : Int) - 1 - k := by omega
  obtain rfl : m = k := by omega
  have hbe := beTo_be m m n (Nat.le_refl m)
  rw [Nat.sub_self, be, List.append_nil] at hbe
  rw [hbe] at hown
  simp (maxSteps := 400000) (dsimp := false) only [↓EP1, ↓EP2, ↓EP3, ↓EP4, ↓EP5, ↓EP6, ↓EP7, ↓EP8, EQ1, EQ2, EQ3, EQ4, EQ5, EQ6, EQ7, EQ8, EQ9, EQ10, ne_eq, Nat.reduceEqDiff, not_false_eq_true, Option.bind_some, Option.map_some, Option.bind_none, Option.map_none, List.getElem?_cons_zero, List.getElem?_cons_succ, List.size_toArray, List.length_cons, List.length_nil, List.all_cons, List.all_nil, Value.oneCell', List.map_toArray, List.map_cons, List.map_nil, List.toList_toArray, List.cons_append, List.nil_append, List.append_nil, List.set_cons_zero, List.set_cons_succ, Bool.and_self, Bool.and_true, Bool.true_and, Nat.reduceAdd, Nat.reduceMul, Nat.reduceLeDiff, Nat.reduceLT, Nat.zero_add, Nat.add_zero, Nat.one_mul, Nat.zero_mul, Nat.mul_one, if_true, if_false, true_and, and_true, and_self, Bool.false_eq_true, ite_true, ite_false, reduceCtorEq, Int.reduceLT, Int.reduceLE, Int.reduceEq, Int.reduceNe, Int.reduceBNe, Int.reduceBEq, Int.reduceToNat, Option.some.injEq, exists_eq_left', exists_eq_left, Nat.reduceSub, Bool.not_true, Bool.not_false, decide_true, decide_false, beq_self_eq_true, List.contains_nil, List.contains_cons, Bool.or_false, Bool.or_true, Bool.false_or, Bool.true_or, Nat.reduceBEq, forall_const, imp_self, true_imp_iff, false_imp_iff, decide_eq_true_eq, decide_eq_false_iff_not, not_true_eq_false, Heap.set_same, setCells_row, Heap.set_set, Option.isNone_some, Option.isNone_none, ↓SopsL_app, ↓SopsL_app0, ↓SopsL_app2, opAt_app0, opAt_app1, opAt_appn, opAt_app2, bs26, by5, ce5, cv3_5, cw3_5, el26, sz5, zo5, hs0, hs4, h1, hge]
  exact hK _ _ hle hown hnew
end Go.Proofs.Ytohgeigmdgpegaa
