/- Shared by chapters: Within; parts of slices. Conditions: none. -/
import Derived.Test.YtohgeigmdgpegaaTy
import Derived.Test.YtohgeigmdgpegaaLib
namespace Go.Proofs.Ytohgeigmdgpegaa
open Go.RowKit Eng
set_option linter.unusedVariables false
set_option linter.unusedSimpArgs false

theorem Ls.take {α : Type} {f : α → List Value} {sz : Nat} {w0 : World} {H : Heap} {A : Option Addr} {n c : Nat} {l : List α} (h : Ls f sz w0 H (.slice A n c) l) (k : Nat) (hk : k ≤ l.length) : Ls f sz w0 H (.slice A k c) (l.take k) := by
  refine ⟨fun x hx => h.len x (List.mem_of_mem_take hx), ?_⟩
  obtain ⟨A', c', e, hc, hl, hr⟩ := h.rd.out
  cases e
  have hlen : (l.take k).length = k := by simp; omega
  rw [hlen]
  have hcells : ∀ m : List α, (∀ x ∈ m, (f x).length = sz) → (m.flatMap f).length = m.length * sz := fun m => by
    induction m with
    | nil => intro _; simp
    | cons a m ih =>
      intro hm
      rw [List.flatMap_cons, List.length_append, ih fun x hx => hm x (List.mem_cons_of_mem _ hx), hm a List.mem_cons_self, List.length_cons, Nat.succ_mul]
      omega
  refine ⟨⟨A, c, rfl, by omega, by rw [hcells _ fun x hx => h.len x (List.mem_of_mem_take hx), hlen], fun hp => ?_⟩⟩
  obtain ⟨b, o, hA, hlk⟩ := hr (by omega)
  refine ⟨b, o, hA, fun j x hj => hlk j x ?_⟩
  have e : l.flatMap f = (l.take k).flatMap f ++ (l.drop k).flatMap f := by rw [← List.flatMap_append, List.take_append_drop]
  rw [e, List.getElem?_append_left (List.getElem?_eq_some_iff.1 hj).1]
  exact hj
theorem Ls.flat_len {α : Type} {f : α → List Value} {sz : Nat} {w0 : World} {H : Heap} {v : Value} {l : List α} (h : Ls f sz w0 H v l) : (l.flatMap f).length = l.length * sz := by
  obtain ⟨A, c, _, _, hl, _⟩ := h.rd.out
  exact hl
theorem Ls.drop {α : Type} {f : α → List Value} {sz : Nat} {w0 : World} {H : Heap} {A : Option Addr} {n c : Nat} {l : List α} (h : Ls f sz w0 H (.slice A n c) l) (k : Nat) (hk : k ≤ n) : Ls f sz w0 H (.slice (cutAddr A c k sz) (n - k) (c - k)) (l.drop k) := by
  refine ⟨fun x hx => h.len x (List.mem_of_mem_drop hx), ?_⟩
  have hfl := Ls.flat_len h
  obtain ⟨A', c', e, hc, hl, hr⟩ := h.rd.out
  cases e
  have hlen : (l.drop k).length = l.length - k := by simp
  rw [hlen]
  have hcells : ∀ m : List α, (∀ x ∈ m, (f x).length = sz) → (m.flatMap f).length = m.length * sz := fun m => by
    induction m with
    | nil => intro _; simp
    | cons a m ih =>
      intro hm
      rw [List.flatMap_cons, List.length_append, ih fun x hx => hm x (List.mem_cons_of_mem _ hx), hm a List.mem_cons_self, List.length_cons, Nat.succ_mul]
      omega
  refine ⟨⟨_, _, rfl, by omega, by rw [hcells _ fun x hx => h.len x (List.mem_of_mem_drop hx), hlen], fun hp => ?_⟩⟩
  obtain ⟨b, o, rfl, hlk⟩ := hr (by omega)
  refine ⟨b, o + k * sz, ?_, fun j x hj => ?_⟩
  · unfold cutAddr
    rw [if_neg (by omega)]
    simp [add_plain]
  · have e : l.flatMap f = (l.take k).flatMap f ++ (l.drop k).flatMap f := by rw [← List.flatMap_append, List.take_append_drop]
    have hlt : ((l.take k).flatMap f).length = k * sz := by
      rw [hcells _ fun x hx => h.len x (List.mem_of_mem_take hx), List.length_take, Nat.min_eq_left (by omega)]
    have := hlk (k * sz + j) x (by rw [e, List.getElem?_append_right (by omega), hlt, Nat.add_sub_cancel_left]; exact hj)
    rwa [← Nat.add_assoc] at this

theorem take_next {α : Type} (l : List α) (k : Nat) (h : k < l.length) : l.take (k + 1) = l.take k ++ [l[k]] := by
  rw [List.take_add_one, List.getElem?_eq_getElem h]; rfl

def within (v n : Int) : Int := if n < 1 then 0 else if v.tmod n < 0 then v.tmod n + n else v.tmod n
theorem tmod_lt_abs (v n : Int) (h : 0 < n) : -n < v.tmod n ∧ v.tmod n < n := by
  have := Int.tmod_lt_of_pos v h
  have := Int.lt_tmod_of_pos v h
  omega
theorem within_lt (v n : Int) (h : 0 < n) : 0 ≤ within v n ∧ within v n < n := by
  have := tmod_lt_abs v n h
  unfold within
  repeat' split
  all_goals omega

set_option maxHeartbeats 400000 in
theorem within_F {w0 : World} {H : Heap} {K : Value → Heap → Prop} (v n : Int) (hn : n ≤ 9223372036854775807) (hK : K (.int .i64 (within v n)) H) :
    F Try.prog w0 9 [.int .i64 v, .int .i64 n] H K := by
  refine F_body Try.func9 rfl (N := 17) rfl (by simp) (rs := [.tmp 4]) rfl (S_of_W ?_)
  by_cases h : n < 1
  · simp (maxSteps := 400000) (dsimp := false) only [↓EP1, ↓EP2, ↓EP3, ↓EP4, ↓EP5, ↓EP6, ↓EP7, ↓EP8, EQ1, EQ2, EQ3, EQ4, EQ5, EQ6, EQ7, EQ8, EQ9, EQ10, ne_eq, Nat.reduceEqDiff, not_false_eq_true, Option.bind_some, Option.map_some, Option.bind_none, Option.map_none, List.getElem?_cons_zero, List.getElem?_cons_succ, List.size_toArray, List.length_cons, List.length_nil, List.all_cons, List.all_nil, Value.oneCell', List.map_toArray, List.map_cons, List.map_nil, List.toList_toArray, List.cons_append, List.nil_append, List.append_nil, List.set_cons_zero, List.set_cons_succ, Bool.and_self, Bool.and_true, Bool.true_and, Nat.reduceAdd, Nat.reduceMul, Nat.reduceLeDiff, Nat.reduceLT, Nat.zero_add, Nat.add_zero, Nat.one_mul, Nat.zero_mul, Nat.mul_one, if_true, if_false, true_and, and_true, and_self, Bool.false_eq_true, ite_true, ite_false, reduceCtorEq, Int.reduceLT, Int.reduceLE, Int.reduceEq, Int.reduceNe, Int.reduceBNe, Int.reduceBEq, Int.reduceToNat, Option.some.injEq, exists_eq_left', exists_eq_left, Nat.reduceSub, Bool.not_true, Bool.not_false, decide_true, decide_false, beq_self_eq_true, List.contains_nil, List.contains_cons, Bool.or_false, Bool.or_true, Bool.false_or, Bool.true_or, Nat.reduceBEq, forall_const, imp_self, true_imp_iff, false_imp_iff, decide_eq_true_eq, decide_eq_false_iff_not, not_true_eq_false, Heap.set_same, setCells_row, Heap.set_set, Option.isNone_some, Option.isNone_none, ↓SopsL_app, ↓SopsL_app0, ↓SopsL_app2, opAt_app0, opAt_app1, opAt_appn, opAt_app2, h]
    simpa [within, h] using hK
  · have hm := tmod_lt_abs v n (by omega)
    have h0 : n ≠ 0 := by omega
    by_cases h2 : v.tmod n < 0
    · simp (maxSteps := 400000) (dsimp := false) only [↓EP1, ↓EP2, ↓EP3, ↓EP4, ↓EP5, ↓EP6, ↓EP7, ↓EP8, EQ1, EQ2, EQ3, EQ4, EQ5, EQ6, EQ7, EQ8, EQ9, EQ10, ne_eq, Nat.reduceEqDiff, not_false_eq_true, Option.bind_some, Option.map_some, Option.bind_none, Option.map_none, List.getElem?_cons_zero, List.getElem?_cons_succ, List.size_toArray, List.length_cons, List.length_nil, List.all_cons, List.all_nil, Value.oneCell', List.map_toArray, List.map_cons, List.map_nil, List.toList_toArray, List.cons_append, List.nil_append, List.append_nil, List.set_cons_zero, List.set_cons_succ, Bool.and_self, Bool.and_true, Bool.true_and, Nat.reduceAdd, Nat.reduceMul, Nat.reduceLeDiff, Nat.reduceLT, Nat.zero_add, Nat.add_zero, Nat.one_mul, Nat.zero_mul, Nat.mul_one, if_true, if_false, true_and, and_true, and_self, Bool.false_eq_true, ite_true, ite_false, reduceCtorEq, Int.reduceLT, Int.reduceLE, Int.reduceEq, Int.reduceNe, Int.reduceBNe, Int.reduceBEq, Int.reduceToNat, Option.some.injEq, exists_eq_left', exists_eq_left, Nat.reduceSub, Bool.not_true, Bool.not_false, decide_true, decide_false, beq_self_eq_true, List.contains_nil, List.contains_cons, Bool.or_false, Bool.or_true, Bool.false_or, Bool.true_or, Nat.reduceBEq, forall_const, imp_self, true_imp_iff, false_imp_iff, decide_eq_true_eq, decide_eq_false_iff_not, not_true_eq_false, Heap.set_same, setCells_row, Heap.set_set, Option.isNone_some, Option.isNone_none, ↓SopsL_app, ↓SopsL_app0, ↓SopsL_app2, opAt_app0, opAt_app1, opAt_appn, opAt_app2, h, h2, h0]
      rw [wrap_i64 (by omega) (by omega)]
      simpa [within, h, h2] using hK
    · simp (maxSteps := 400000) (dsimp := false) only [↓EP1, ↓EP2, ↓EP3, ↓EP4, ↓EP5, ↓EP6, ↓EP7, ↓EP8, EQ1, EQ2, EQ3, EQ4, EQ5, EQ6, EQ7, EQ8, EQ9, EQ10, ne_eq, Nat.reduceEqDiff, not_false_eq_true, Option.bind_some, Option.map_some, Option.bind_none, Option.map_none, List.getElem?_cons_zero, List.getElem?_cons_succ, List.size_toArray, List.length_cons, List.length_nil, List.all_cons, List.all_nil, Value.oneCell', List.map_toArray, List.map_cons, List.map_nil, List.toList_toArray, List.cons_append, List.nil_append, List.append_nil, List.set_cons_zero, List.set_cons_succ, Bool.and_self, Bool.and_true, Bool.true_and, Nat.reduceAdd, Nat.reduceMul, Nat.reduceLeDiff, Nat.reduceLT, Nat.zero_add, Nat.add_zero, Nat.one_mul, Nat.zero_mul, Nat.mul_one, if_true, if_false, true_and, and_true, and_self, Bool.false_eq_true, ite_true, ite_false, reduceCtorEq, Int.reduceLT, Int.reduceLE, Int.reduceEq, Int.reduceNe, Int.reduceBNe, Int.reduceBEq, Int.reduceToNat, Option.some.injEq, exists_eq_left', exists_eq_left, Nat.reduceSub, Bool.not_true, Bool.not_false, decide_true, decide_false, beq_self_eq_true, List.contains_nil, List.contains_cons, Bool.or_false, Bool.or_true, Bool.false_or, Bool.true_or, Nat.reduceBEq, forall_const, imp_self, true_imp_iff, false_imp_iff, decide_eq_true_eq, decide_eq_false_iff_not, not_true_eq_false, Heap.set_same, setCells_row, Heap.set_set, Option.isNone_some, Option.isNone_none, ↓SopsL_app, ↓SopsL_app0, ↓SopsL_app2, opAt_app0, opAt_app1, opAt_appn, opAt_app2, h, h2, h0]
      simpa [within, h, h2] using hK

end Go.Proofs.Ytohgeigmdgpegaa
