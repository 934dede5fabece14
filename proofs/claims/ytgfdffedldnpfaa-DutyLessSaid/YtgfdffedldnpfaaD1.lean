/- Duties, first part: how many there are of a set, by both texts. Conditions: the set is a uint32. -/
import Derived.Test.YtgfdffedldnpfaaTy
import Derived.Test.YtgfdffedldnpfaaLib
namespace Go.Proofs.Ytgfdffedldnpfaa
open Go.RowKit Eng
set_option linter.unusedVariables false
set_option linter.unusedSimpArgs false

theorem pc_pos_step {m : Nat} : (m &&& 1) + pc (m / 2) = pc m := by rw [pc_succ m, Nat.and_one_is_mod]

set_option maxHeartbeats 400000 in
theorem refCount_F {w0 : World} {H : Heap} {K : Value → Heap → Prop} (m : Nat) (hm : m < 4294967296) (hK : K (.int .i64 (pc m)) H) :
    F Try.prog w0 10 [.int .u32 m] H K := by
  have hp32 := pc_le 32 m hm
  refine F_body Try.func10 rfl (N := 14) rfl (by simp) (rs := [.tmp 2]) rfl (S_of_W ?_)
  simp (maxSteps := 400000) (dsimp := false) only [↓EP1, ↓EP2, ↓EP3, ↓EP4, ↓EP5, ↓EP6, ↓EP7, ↓EP8, EQ1, EQ2, EQ3, EQ4, EQ5, EQ6, EQ7, EQ8, EQ9, EQ10, ne_eq, Nat.reduceEqDiff, not_false_eq_true, Option.bind_some, Option.map_some, Option.bind_none, Option.map_none, List.getElem?_cons_zero, List.getElem?_cons_succ, List.size_toArray, List.length_cons, List.length_nil, List.all_cons, List.all_nil, Value.oneCell', List.map_toArray, List.map_cons, List.map_nil, List.toList_toArray, List.cons_append, List.nil_append, List.append_nil, List.set_cons_zero, List.set_cons_succ, Bool.and_self, Bool.and_true, Bool.true_and, Nat.reduceAdd, Nat.reduceMul, Nat.reduceLeDiff, Nat.reduceLT, Nat.zero_add, Nat.add_zero, Nat.one_mul, Nat.zero_mul, Nat.mul_one, if_true, if_false, true_and, and_true, and_self, Bool.false_eq_true, ite_true, ite_false, reduceCtorEq, Int.reduceLT, Int.reduceLE, Int.reduceEq, Int.reduceNe, Int.reduceBNe, Int.reduceBEq, Int.reduceToNat, Option.some.injEq, exists_eq_left', exists_eq_left, Nat.reduceSub, Bool.not_true, Bool.not_false, decide_true, decide_false, beq_self_eq_true, List.contains_nil, List.contains_cons, Bool.or_false, Bool.or_true, Bool.false_or, Bool.true_or, Nat.reduceBEq, forall_const, imp_self, true_imp_iff, false_imp_iff, decide_eq_true_eq, decide_eq_false_iff_not, not_true_eq_false, cv22_3, cw22_3]
  refine S_loopL (fun n s H' => ∃ c : Nat, H' = H ∧ n < 4294967296 ∧ s 0 = .int .u32 n ∧ s 3 = .int .i64 c ∧ c + pc n = pc m) m ⟨0, rfl, hm, by simp (maxSteps := 400000) (dsimp := false) only [↓EP1, ↓EP2, ↓EP3, ↓EP4, ↓EP5, ↓EP6, ↓EP7, ↓EP8, EQ1, EQ2, EQ3, EQ4, EQ5, EQ6, EQ7, EQ8, EQ9, EQ10, ne_eq, Nat.reduceEqDiff, not_false_eq_true, Option.bind_some, Option.map_some, Option.bind_none, Option.map_none, List.getElem?_cons_zero, List.getElem?_cons_succ, List.size_toArray, List.length_cons, List.length_nil, List.all_cons, List.all_nil, Value.oneCell', List.map_toArray, List.map_cons, List.map_nil, List.toList_toArray, List.cons_append, List.nil_append, List.append_nil, List.set_cons_zero, List.set_cons_succ, Bool.and_self, Bool.and_true, Bool.true_and, Nat.reduceAdd, Nat.reduceMul, Nat.reduceLeDiff, Nat.reduceLT, Nat.zero_add, Nat.add_zero, Nat.one_mul, Nat.zero_mul, Nat.mul_one, if_true, if_false, true_and, and_true, and_self, Bool.false_eq_true, ite_true, ite_false, reduceCtorEq, Int.reduceLT, Int.reduceLE, Int.reduceEq, Int.reduceNe, Int.reduceBNe, Int.reduceBEq, Int.reduceToNat, Option.some.injEq, exists_eq_left', exists_eq_left, Nat.reduceSub, Bool.not_true, Bool.not_false, decide_true, decide_false, beq_self_eq_true, List.contains_nil, List.contains_cons, Bool.or_false, Bool.or_true, Bool.false_or, Bool.true_or, Nat.reduceBEq, forall_const, imp_self, true_imp_iff, false_imp_iff, decide_eq_true_eq, decide_eq_false_iff_not, not_true_eq_false], by simp (maxSteps := 400000) (dsimp := false) only [↓EP1, ↓EP2, ↓EP3, ↓EP4, ↓EP5, ↓EP6, ↓EP7, ↓EP8, EQ1, EQ2, EQ3, EQ4, EQ5, EQ6, EQ7, EQ8, EQ9, EQ10, ne_eq, Nat.reduceEqDiff, not_false_eq_true, Option.bind_some, Option.map_some, Option.bind_none, Option.map_none, List.getElem?_cons_zero, List.getElem?_cons_succ, List.size_toArray, List.length_cons, List.length_nil, List.all_cons, List.all_nil, Value.oneCell', List.map_toArray, List.map_cons, List.map_nil, List.toList_toArray, List.cons_append, List.nil_append, List.append_nil, List.set_cons_zero, List.set_cons_succ, Bool.and_self, Bool.and_true, Bool.true_and, Nat.reduceAdd, Nat.reduceMul, Nat.reduceLeDiff, Nat.reduceLT, Nat.zero_add, Nat.add_zero, Nat.one_mul, Nat.zero_mul, Nat.mul_one, if_true, if_false, true_and, and_true, and_self, Bool.false_eq_true, ite_true, ite_false, reduceCtorEq, Int.reduceLT, Int.reduceLE, Int.reduceEq, Int.reduceNe, Int.reduceBNe, Int.reduceBEq, Int.reduceToNat, Option.some.injEq, exists_eq_left', exists_eq_left, Nat.reduceSub, Bool.not_true, Bool.not_false, decide_true, decide_false, beq_self_eq_true, List.contains_nil, List.contains_cons, Bool.or_false, Bool.or_true, Bool.false_or, Bool.true_or, Nat.reduceBEq, forall_const, imp_self, true_imp_iff, false_imp_iff, decide_eq_true_eq, decide_eq_false_iff_not, not_true_eq_false]; rfl, by omega⟩ ?_
  rintro n s H' ⟨c, rfl, hn, h0, h3, hc⟩
  refine S_of_W ?_
  by_cases hz : n = 0
  · subst hz
    rw [pc_zero] at hc
    simp (maxSteps := 400000) (dsimp := false) only [↓EP1, ↓EP2, ↓EP3, ↓EP4, ↓EP5, ↓EP6, ↓EP7, ↓EP8, EQ1, EQ2, EQ3, EQ4, EQ5, EQ6, EQ7, EQ8, EQ9, EQ10, ne_eq, Nat.reduceEqDiff, not_false_eq_true, Option.bind_some, Option.map_some, Option.bind_none, Option.map_none, List.getElem?_cons_zero, List.getElem?_cons_succ, List.size_toArray, List.length_cons, List.length_nil, List.all_cons, List.all_nil, Value.oneCell', List.map_toArray, List.map_cons, List.map_nil, List.toList_toArray, List.cons_append, List.nil_append, List.append_nil, List.set_cons_zero, List.set_cons_succ, Bool.and_self, Bool.and_true, Bool.true_and, Nat.reduceAdd, Nat.reduceMul, Nat.reduceLeDiff, Nat.reduceLT, Nat.zero_add, Nat.add_zero, Nat.one_mul, Nat.zero_mul, Nat.mul_one, if_true, if_false, true_and, and_true, and_self, Bool.false_eq_true, ite_true, ite_false, reduceCtorEq, Int.reduceLT, Int.reduceLE, Int.reduceEq, Int.reduceNe, Int.reduceBNe, Int.reduceBEq, Int.reduceToNat, Option.some.injEq, exists_eq_left', exists_eq_left, Nat.reduceSub, Bool.not_true, Bool.not_false, decide_true, decide_false, beq_self_eq_true, List.contains_nil, List.contains_cons, Bool.or_false, Bool.or_true, Bool.false_or, Bool.true_or, Nat.reduceBEq, forall_const, imp_self, true_imp_iff, false_imp_iff, decide_eq_true_eq, decide_eq_false_iff_not, not_true_eq_false, cv22_3, cw22_3, h0, h3]
    simpa [← hc] using hK
  · have hpos : (0 : Int) < (n : Int) := by omega
    have ha : IntKind.wrap .u32 ((BitVec.ofInt IntKind.u32.bits (n : Int) &&& BitVec.ofInt IntKind.u32.bits 1).toNat : Int) = ((n &&& 1 : Nat) : Int) := and_u32 hn (show 1 < 4294967296 by decide)
    have hs : (n : Int).fdiv (2 ^ min 1 IntKind.u32.bits) = ((n / 2 : Nat) : Int) := shr_nat n 1 32 (by omega)
    have hst := pc_pos_step (m := n)
    have hle : n &&& 1 ≤ 1 := Nat.and_le_right
    have hw : IntKind.wrap .i64 ((n &&& 1 : Nat) : Int) = ((n &&& 1 : Nat) : Int) := wrap_i64 (by omega) (by omega)
    have hw2 : IntKind.wrap .i64 ((c : Int) + ((n &&& 1 : Nat) : Int)) = ((c + (n &&& 1) : Nat) : Int) := by rw [wrap_i64 (by omega) (by omega)]; omega
    simp (maxSteps := 400000) (dsimp := false) only [↓EP1, ↓EP2, ↓EP3, ↓EP4, ↓EP5, ↓EP6, ↓EP7, ↓EP8, EQ1, EQ2, EQ3, EQ4, EQ5, EQ6, EQ7, EQ8, EQ9, EQ10, ne_eq, Nat.reduceEqDiff, not_false_eq_true, Option.bind_some, Option.map_some, Option.bind_none, Option.map_none, List.getElem?_cons_zero, List.getElem?_cons_succ, List.size_toArray, List.length_cons, List.length_nil, List.all_cons, List.all_nil, Value.oneCell', List.map_toArray, List.map_cons, List.map_nil, List.toList_toArray, List.cons_append, List.nil_append, List.append_nil, List.set_cons_zero, List.set_cons_succ, Bool.and_self, Bool.and_true, Bool.true_and, Nat.reduceAdd, Nat.reduceMul, Nat.reduceLeDiff, Nat.reduceLT, Nat.zero_add, Nat.add_zero, Nat.one_mul, Nat.zero_mul, Nat.mul_one, if_true, if_false, true_and, and_true, and_self, Bool.false_eq_true, ite_true, ite_false, reduceCtorEq, Int.reduceLT, Int.reduceLE, Int.reduceEq, Int.reduceNe, Int.reduceBNe, Int.reduceBEq, Int.reduceToNat, Option.some.injEq, exists_eq_left', exists_eq_left, Nat.reduceSub, Bool.not_true, Bool.not_false, decide_true, decide_false, beq_self_eq_true, List.contains_nil, List.contains_cons, Bool.or_false, Bool.or_true, Bool.false_or, Bool.true_or, Nat.reduceBEq, forall_const, imp_self, true_imp_iff, false_imp_iff, decide_eq_true_eq, decide_eq_false_iff_not, not_true_eq_false, cv22_3, cw22_3, h0, h3, hpos, ha, hw, hw2, hs]
    exact ⟨n / 2, by omega, _, Heap.le_refl _, c + (n &&& 1), rfl, by omega, rfl, rfl, by omega⟩

set_option maxHeartbeats 1000000 in
theorem ones_F {w0 : World} {H : Heap} {K : Value → Heap → Prop} (m : Nat) (hm : m < 4294967296) (hK : K (.int .i64 (pc m)) H) :
    F Try.prog w0 19 [.int .u32 m] H K := by
  refine F_body Try.func19 rfl (N := 21) rfl (by simp) (rs := [.tmp 2]) rfl (S_of_W ?_)
  simp (maxSteps := 400000) (dsimp := false) only [↓EP1, ↓EP2, ↓EP3, ↓EP4, ↓EP5, ↓EP6, ↓EP7, ↓EP8, EQ1, EQ2, EQ3, EQ4, EQ5, EQ6, EQ7, EQ8, EQ9, EQ10, ne_eq, Nat.reduceEqDiff, not_false_eq_true, Option.bind_some, Option.map_some, Option.bind_none, Option.map_none, List.getElem?_cons_zero, List.getElem?_cons_succ, List.size_toArray, List.length_cons, List.length_nil, List.all_cons, List.all_nil, Value.oneCell', List.map_toArray, List.map_cons, List.map_nil, List.toList_toArray, List.cons_append, List.nil_append, List.append_nil, List.set_cons_zero, List.set_cons_succ, Bool.and_self, Bool.and_true, Bool.true_and, Nat.reduceAdd, Nat.reduceMul, Nat.reduceLeDiff, Nat.reduceLT, Nat.zero_add, Nat.add_zero, Nat.one_mul, Nat.zero_mul, Nat.mul_one, if_true, if_false, true_and, and_true, and_self, Bool.false_eq_true, ite_true, ite_false, reduceCtorEq, Int.reduceLT, Int.reduceLE, Int.reduceEq, Int.reduceNe, Int.reduceBNe, Int.reduceBEq, Int.reduceToNat, Option.some.injEq, exists_eq_left', exists_eq_left, Nat.reduceSub, Bool.not_true, Bool.not_false, decide_true, decide_false, beq_self_eq_true, List.contains_nil, List.contains_cons, Bool.or_false, Bool.or_true, Bool.false_or, Bool.true_or, Nat.reduceBEq, forall_const, imp_self, true_imp_iff, false_imp_iff, decide_eq_true_eq, decide_eq_false_iff_not, not_true_eq_false, cv5_3, cw5_3, ix9]
  refine S_drawn2 mixed [0, 1, 3, 0, 8, 24, 56, 127, 0, 256, 768, 1792, 4095, 0, 8192, 24576, 65535, 131071, 262143] (.q 0 false (.q 1 false (.q 2 false (.q 3 false (.q 4 false (.q 5 false (.q 6 false (.q 7 false (.q 8 false (.q 9 false (.q 10 false (.q 11 false (.q 12 false (.q 13 false (.q 14 false (.q 15 false (.q 16 false (.q 17 false (.one 18 [] (.fin)))))))))))))))))))) (by kernel_rfl) ?_
  generalize hT : ByteArray.mk _ = T
  have hall : (List.range 256).all (fun i => byteAt T i == (pcF 8 i : Int)) = true := by rw [← hT]; decide +kernel
  have hsz : T.size = 256 := by rw [← hT]; decide +kernel
  clear hT
  have hb : ∀ i : Nat, i < 256 → byteAt T i = (pc i : Int) := fun i hi => by
    have := List.all_eq_true.1 hall i (List.mem_range.2 hi)
    rw [pc_fuel 8 i (by omega)]
    simpa using this
  clear hall
  have s24 : (m : Int).fdiv (2 ^ min 24 IntKind.u32.bits) = ((m / 16777216 : Nat) : Int) := shr_nat m 24 32 (by omega)
  have s16 : (m : Int).fdiv (2 ^ min 16 IntKind.u32.bits) = ((m / 65536 : Nat) : Int) := shr_nat m 16 32 (by omega)
  have s8 : (m : Int).fdiv (2 ^ min 8 IntKind.u32.bits) = ((m / 256 : Nat) : Int) := shr_nat m 8 32 (by omega)
  have and255 : ∀ n : Nat, n < 4294967296 → IntKind.wrap .u32 ((BitVec.ofInt IntKind.u32.bits (n : Int) &&& BitVec.ofInt IntKind.u32.bits 255).toNat : Int) = ((n % 256 : Nat) : Int) := fun n hn => by
    have := and_u32 hn (show 255 < 4294967296 by decide)
    rw [Nat.and_two_pow_sub_one_eq_mod n 8] at this
    exact this
  have a16 := and255 (m / 65536) (by omega)
  have a8 := and255 (m / 256) (by omega)
  have a0 := and255 m hm
  have i24 : ((m / 16777216 : Nat) : Int) < (T.size : Int) := by omega
  have i16 : ((m / 65536 % 256 : Nat) : Int) < (T.size : Int) := by omega
  have i8 : ((m / 256 % 256 : Nat) : Int) < (T.size : Int) := by omega
  have i0 : ((m % 256 : Nat) : Int) < (T.size : Int) := by omega
  have b24 := hb (m / 16777216) (by omega)
  have b16 := hb (m / 65536 % 256) (by omega)
  have b8 := hb (m / 256 % 256) (by omega)
  have b0 := hb (m % 256) (by omega)
  clear hb
  have p1 : pc m = pc (m / 16777216) + pc (m % 16777216) := pc_split 24 m
  have p2 : pc (m % 16777216) = pc (m % 16777216 / 65536) + pc (m % 16777216 % 65536) := pc_split 16 (m % 16777216)
  have p3 : pc (m % 65536) = pc (m % 65536 / 256) + pc (m % 65536 % 256) := pc_split 8 (m % 65536)
  rw [show m % 16777216 / 65536 = m / 65536 % 256 by omega, show m % 16777216 % 65536 = m % 65536 by omega] at p2
  rw [show m % 65536 / 256 = m / 256 % 256 by omega, show m % 65536 % 256 = m % 256 by omega] at p3
  have hle := pc_le 32 m hm
  simp (maxSteps := 400000) (dsimp := false) only [↓EP1, ↓EP2, ↓EP3, ↓EP4, ↓EP5, ↓EP6, ↓EP7, ↓EP8, EQ1, EQ2, EQ3, EQ4, EQ5, EQ6, EQ7, EQ8, EQ9, EQ10, ne_eq, Nat.reduceEqDiff, not_false_eq_true, Option.bind_some, Option.map_some, Option.bind_none, Option.map_none, List.getElem?_cons_zero, List.getElem?_cons_succ, List.size_toArray, List.length_cons, List.length_nil, List.all_cons, List.all_nil, Value.oneCell', List.map_toArray, List.map_cons, List.map_nil, List.toList_toArray, List.cons_append, List.nil_append, List.append_nil, List.set_cons_zero, List.set_cons_succ, Bool.and_self, Bool.and_true, Bool.true_and, Nat.reduceAdd, Nat.reduceMul, Nat.reduceLeDiff, Nat.reduceLT, Nat.zero_add, Nat.add_zero, Nat.one_mul, Nat.zero_mul, Nat.mul_one, if_true, if_false, true_and, and_true, and_self, Bool.false_eq_true, ite_true, ite_false, reduceCtorEq, Int.reduceLT, Int.reduceLE, Int.reduceEq, Int.reduceNe, Int.reduceBNe, Int.reduceBEq, Int.reduceToNat, Option.some.injEq, exists_eq_left', exists_eq_left, Nat.reduceSub, Bool.not_true, Bool.not_false, decide_true, decide_false, beq_self_eq_true, List.contains_nil, List.contains_cons, Bool.or_false, Bool.or_true, Bool.false_or, Bool.true_or, Nat.reduceBEq, forall_const, imp_self, true_imp_iff, false_imp_iff, decide_eq_true_eq, decide_eq_false_iff_not, not_true_eq_false, cv5_3, cw5_3, ix9, s24, s16, s8, a16, a8, a0, Int.natCast_nonneg, i24, i16, i8, i0, Int.toNat_natCast, b24, b16, b8, b0]
  generalize pc (m / 16777216) = x1 at *
  generalize pc (m / 65536 % 256) = x2 at *
  generalize pc (m / 256 % 256) = x3 at *
  generalize pc (m % 256) = x4 at *
  clear b24 b16 b8 b0 a16 a8 a0
  have w1 : IntKind.wrap .u8 ((x1 : Int) + x2) = (x1 : Int) + x2 := wrap_u8 (by omega) (by omega)
  have w2 : IntKind.wrap .u8 ((x1 : Int) + x2 + x3) = (x1 : Int) + x2 + x3 := wrap_u8 (by omega) (by omega)
  have w3 : IntKind.wrap .u8 ((x1 : Int) + x2 + x3 + x4) = (x1 : Int) + x2 + x3 + x4 := wrap_u8 (by omega) (by omega)
  rw [w1, w2, w3, wrap_i64 (by omega) (by omega)]
  have e : (x1 : Int) + x2 + x3 + x4 = ((pc m : Nat) : Int) := by omega
  rw [e]
  exact hK

set_option maxHeartbeats 400000 in
theorem count_F {w0 : World} {H : Heap} {K : Value → Heap → Prop} (m : Nat) (hm : m < 4294967296) (hK : K (.int .i64 (pc m)) H) :
    F Try.prog w0 9 [.int .u32 m] H K := by
  refine F_body Try.func9 rfl (N := 5) rfl (by simp) (rs := [.tmp 2]) rfl (S_of_W ?_)
  simp (maxSteps := 400000) (dsimp := false) only [↓EP1, ↓EP2, ↓EP3, ↓EP4, ↓EP5, ↓EP6, ↓EP7, ↓EP8, EQ1, EQ2, EQ3, EQ4, EQ5, EQ6, EQ7, EQ8, EQ9, EQ10, ne_eq, Nat.reduceEqDiff, not_false_eq_true, Option.bind_some, Option.map_some, Option.bind_none, Option.map_none, List.getElem?_cons_zero, List.getElem?_cons_succ, List.size_toArray, List.length_cons, List.length_nil, List.all_cons, List.all_nil, Value.oneCell', List.map_toArray, List.map_cons, List.map_nil, List.toList_toArray, List.cons_append, List.nil_append, List.append_nil, List.set_cons_zero, List.set_cons_succ, Bool.and_self, Bool.and_true, Bool.true_and, Nat.reduceAdd, Nat.reduceMul, Nat.reduceLeDiff, Nat.reduceLT, Nat.zero_add, Nat.add_zero, Nat.one_mul, Nat.zero_mul, Nat.mul_one, if_true, if_false, true_and, and_true, and_self, Bool.false_eq_true, ite_true, ite_false, reduceCtorEq, Int.reduceLT, Int.reduceLE, Int.reduceEq, Int.reduceNe, Int.reduceBNe, Int.reduceBEq, Int.reduceToNat, Option.some.injEq, exists_eq_left', exists_eq_left, Nat.reduceSub, Bool.not_true, Bool.not_false, decide_true, decide_false, beq_self_eq_true, List.contains_nil, List.contains_cons, Bool.or_false, Bool.or_true, Bool.false_or, Bool.true_or, Nat.reduceBEq, forall_const, imp_self, true_imp_iff, false_imp_iff, decide_eq_true_eq, decide_eq_false_iff_not, not_true_eq_false, ca19]
  refine ones_F m hm ?_
  simp (maxSteps := 400000) (dsimp := false) only [↓EP1, ↓EP2, ↓EP3, ↓EP4, ↓EP5, ↓EP6, ↓EP7, ↓EP8, EQ1, EQ2, EQ3, EQ4, EQ5, EQ6, EQ7, EQ8, EQ9, EQ10, ne_eq, Nat.reduceEqDiff, not_false_eq_true, Option.bind_some, Option.map_some, Option.bind_none, Option.map_none, List.getElem?_cons_zero, List.getElem?_cons_succ, List.size_toArray, List.length_cons, List.length_nil, List.all_cons, List.all_nil, Value.oneCell', List.map_toArray, List.map_cons, List.map_nil, List.toList_toArray, List.cons_append, List.nil_append, List.append_nil, List.set_cons_zero, List.set_cons_succ, Bool.and_self, Bool.and_true, Bool.true_and, Nat.reduceAdd, Nat.reduceMul, Nat.reduceLeDiff, Nat.reduceLT, Nat.zero_add, Nat.add_zero, Nat.one_mul, Nat.zero_mul, Nat.mul_one, if_true, if_false, true_and, and_true, and_self, Bool.false_eq_true, ite_true, ite_false, reduceCtorEq, Int.reduceLT, Int.reduceLE, Int.reduceEq, Int.reduceNe, Int.reduceBNe, Int.reduceBEq, Int.reduceToNat, Option.some.injEq, exists_eq_left', exists_eq_left, Nat.reduceSub, Bool.not_true, Bool.not_false, decide_true, decide_false, beq_self_eq_true, List.contains_nil, List.contains_cons, Bool.or_false, Bool.or_true, Bool.false_or, Bool.true_or, Nat.reduceBEq, forall_const, imp_self, true_imp_iff, false_imp_iff, decide_eq_true_eq, decide_eq_false_iff_not, not_true_eq_false, ca19]
  exact hK
end Go.Proofs.Ytgfdffedldnpfaa
