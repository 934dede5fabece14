/- Deeds: Unpack of package deeds. Conditions: what the slice reads as. -/
import Derived.Test.YtohgeigmdgpegaaK5
namespace Go.Proofs.Ytohgeigmdgpegaa
open Go.RowKit Eng
set_option linter.unusedVariables false
set_option linter.unusedSimpArgs false

theorem cellAt_row {cs : List Value} {t : TypeId} {o : Nat} : Item.cellAt (.row cs t) o = cs[o]? := rfl
theorem set_over {X : Heap} {a b : Nat} {x y z : Eng.Item} (h : a ≠ b) : ((X.set a x).set b y).set a z = (X.set a z).set b y := by
  funext k
  simp only [Heap.set]
  by_cases h1 : k = a
  · subst h1; simp [h]
  · simp [h1]
structure PS.Ok (p : PS) : Prop where
  len : p.l.length ≤ 9223372036854775807
  small : ∀ c ∈ p.l, c < 256
theorem tkS_ok {m : Nat} {p : PS} (h : p.Ok) : (tkS m p).2.Ok := by
  unfold tkS
  split
  · exact ⟨h.len, h.small⟩
  · exact ⟨by have := h.len; simp; omega, fun c hc => h.small c (List.mem_of_mem_drop hc)⟩
theorem numS_ok {m : Nat} {p : PS} (h : p.Ok) : (numS m p).2.Ok := tkS_ok h
theorem txtS_ok {m : Nat} {p : PS} (h : p.Ok) : (txtS m p).2.Ok := tkS_ok (numS_ok h)
def parse (l : List Nat) : Dd × PS :=
  let k := numS 1 ⟨l, false⟩
  let s := numS 4 k.2
  let g := numS 4 s.2
  let t := numS 4 g.2
  let u := txtS 1 t.2
  let r := txtS 1 u.2
  let d := txtS 1 r.2
  let e := txtS 1 d.2
  let x := txtS 2 e.2
  (⟨k.1, s.1, g.1, t.1, u.1, r.1, d.1, e.1, x.1⟩, x.2)
/-- Bytes as a deed. -/
def unpB (l : List Nat) : Option Dd := if (!(parse l).2.bad && (may (parse l).1 && packB (parse l).1 == l)) = true then some (parse l).1 else none

theorem txt_beq (a b : List Nat) (ha : ∀ c ∈ a, c < 256) (hb : ∀ c ∈ b, c < 256) : ((txtOf a).toList == (txtOf b).toList) = (a == b) := by
  unfold txtOf
  rw [Go.Lib.strOfNums_toList, Go.Lib.strOfNums_toList, Bool.eq_iff_iff, beq_iff_eq, beq_iff_eq]
  unfold Go.Lib.bytesOf
  constructor
  · intro h
    have inj : ∀ l : List Nat, (∀ c ∈ l, c < 256) → ((l.map fun (n : Nat) => (n : Int)).map fun n => UInt8.ofNat n.toNat).map UInt8.toNat = l := fun l hl => by
      rw [List.map_map, List.map_map]
      conv => rhs; rw [← List.map_id l]
      refine List.map_congr_left fun c hc => ?_
      simp only [Function.comp_apply, Int.toNat_natCast, UInt8.toNat_ofNat', id]
      exact Nat.mod_eq_of_lt (hl c hc)
    rw [← inj a ha, ← inj b hb, h]
  · rintro rfl; rfl
set_option maxRecDepth 4000 in
set_option maxHeartbeats 1000000 in
theorem bequal_F {w0 : World} {H : Heap} {K : Value → Heap → Prop} (a b : List Nat) (v w : Value) (hv : Ls u8c 1 w0 H v a) (hw : Ls u8c 1 w0 H w b) (ha : ∀ c ∈ a, c < 256) (hb : ∀ c ∈ b, c < 256) (hK : K (.bool (a == b)) H) :
    F Try.prog w0 26 [v, w] H K := by
  refine F_body Try.func26 rfl (N := 10) rfl (by simp) (rs := [.tmp 4]) rfl (S_of_W ?_)
  simp (maxSteps := 400000) (dsimp := false) only [↓EP1, ↓EP2, ↓EP3, ↓EP4, ↓EP5, ↓EP6, ↓EP7, ↓EP8, EQ1, EQ2, EQ3, EQ4, EQ5, EQ6, EQ7, EQ8, EQ9, EQ10, ne_eq, Nat.reduceEqDiff, not_false_eq_true, Option.bind_some, Option.map_some, Option.bind_none, Option.map_none, List.getElem?_cons_zero, List.getElem?_cons_succ, List.size_toArray, List.length_cons, List.length_nil, List.all_cons, List.all_nil, Value.oneCell', List.map_toArray, List.map_cons, List.map_nil, List.toList_toArray, List.cons_append, List.nil_append, List.append_nil, List.set_cons_zero, List.set_cons_succ, Bool.and_self, Bool.and_true, Bool.true_and, Nat.reduceAdd, Nat.reduceMul, Nat.reduceLeDiff, Nat.reduceLT, Nat.zero_add, Nat.add_zero, Nat.one_mul, Nat.zero_mul, Nat.mul_one, if_true, if_false, true_and, and_true, and_self, Bool.false_eq_true, ite_true, ite_false, reduceCtorEq, Int.reduceLT, Int.reduceLE, Int.reduceEq, Int.reduceNe, Int.reduceBNe, Int.reduceBEq, Int.reduceToNat, Option.some.injEq, exists_eq_left', exists_eq_left, Nat.reduceSub, Bool.not_true, Bool.not_false, decide_true, decide_false, beq_self_eq_true, List.contains_nil, List.contains_cons, Bool.or_false, Bool.or_true, Bool.false_or, Bool.true_or, Nat.reduceBEq, forall_const, imp_self, true_imp_iff, false_imp_iff, decide_eq_true_eq, decide_eq_false_iff_not, not_true_eq_false, Heap.set_same, setCells_row, Heap.set_set, Option.isNone_some, Option.isNone_none, ↓SopsL_app, ↓SopsL_app0, ↓SopsL_app2, opAt_app0, opAt_app1, opAt_appn, opAt_app2]
  refine cb26_9 (n := a.length) (xs := a.map fun (n : Nat) => (n : Int)) (by rw [List.map_map]; exact hv.toRd) ?_
  simp (maxSteps := 400000) (dsimp := false) only [↓EP1, ↓EP2, ↓EP3, ↓EP4, ↓EP5, ↓EP6, ↓EP7, ↓EP8, EQ1, EQ2, EQ3, EQ4, EQ5, EQ6, EQ7, EQ8, EQ9, EQ10, ne_eq, Nat.reduceEqDiff, not_false_eq_true, Option.bind_some, Option.map_some, Option.bind_none, Option.map_none, List.getElem?_cons_zero, List.getElem?_cons_succ, List.size_toArray, List.length_cons, List.length_nil, List.all_cons, List.all_nil, Value.oneCell', List.map_toArray, List.map_cons, List.map_nil, List.toList_toArray, List.cons_append, List.nil_append, List.append_nil, List.set_cons_zero, List.set_cons_succ, Bool.and_self, Bool.and_true, Bool.true_and, Nat.reduceAdd, Nat.reduceMul, Nat.reduceLeDiff, Nat.reduceLT, Nat.zero_add, Nat.add_zero, Nat.one_mul, Nat.zero_mul, Nat.mul_one, if_true, if_false, true_and, and_true, and_self, Bool.false_eq_true, ite_true, ite_false, reduceCtorEq, Int.reduceLT, Int.reduceLE, Int.reduceEq, Int.reduceNe, Int.reduceBNe, Int.reduceBEq, Int.reduceToNat, Option.some.injEq, exists_eq_left', exists_eq_left, Nat.reduceSub, Bool.not_true, Bool.not_false, decide_true, decide_false, beq_self_eq_true, List.contains_nil, List.contains_cons, Bool.or_false, Bool.or_true, Bool.false_or, Bool.true_or, Nat.reduceBEq, forall_const, imp_self, true_imp_iff, false_imp_iff, decide_eq_true_eq, decide_eq_false_iff_not, not_true_eq_false, Heap.set_same, setCells_row, Heap.set_set, Option.isNone_some, Option.isNone_none, ↓SopsL_app, ↓SopsL_app0, ↓SopsL_app2, opAt_app0, opAt_app1, opAt_appn, opAt_app2]
  refine cb26_9 (n := b.length) (xs := b.map fun (n : Nat) => (n : Int)) (by rw [List.map_map]; exact hw.toRd) ?_
  have := txt_beq a b ha hb
  unfold txtOf at this
  simp (maxSteps := 400000) (dsimp := false) only [↓EP1, ↓EP2, ↓EP3, ↓EP4, ↓EP5, ↓EP6, ↓EP7, ↓EP8, EQ1, EQ2, EQ3, EQ4, EQ5, EQ6, EQ7, EQ8, EQ9, EQ10, ne_eq, Nat.reduceEqDiff, not_false_eq_true, Option.bind_some, Option.map_some, Option.bind_none, Option.map_none, List.getElem?_cons_zero, List.getElem?_cons_succ, List.size_toArray, List.length_cons, List.length_nil, List.all_cons, List.all_nil, Value.oneCell', List.map_toArray, List.map_cons, List.map_nil, List.toList_toArray, List.cons_append, List.nil_append, List.append_nil, List.set_cons_zero, List.set_cons_succ, Bool.and_self, Bool.and_true, Bool.true_and, Nat.reduceAdd, Nat.reduceMul, Nat.reduceLeDiff, Nat.reduceLT, Nat.zero_add, Nat.add_zero, Nat.one_mul, Nat.zero_mul, Nat.mul_one, if_true, if_false, true_and, and_true, and_self, Bool.false_eq_true, ite_true, ite_false, reduceCtorEq, Int.reduceLT, Int.reduceLE, Int.reduceEq, Int.reduceNe, Int.reduceBNe, Int.reduceBEq, Int.reduceToNat, Option.some.injEq, exists_eq_left', exists_eq_left, Nat.reduceSub, Bool.not_true, Bool.not_false, decide_true, decide_false, beq_self_eq_true, List.contains_nil, List.contains_cons, Bool.or_false, Bool.or_true, Bool.false_or, Bool.true_or, Nat.reduceBEq, forall_const, imp_self, true_imp_iff, false_imp_iff, decide_eq_true_eq, decide_eq_false_iff_not, not_true_eq_false, Heap.set_same, setCells_row, Heap.set_set, Option.isNone_some, Option.isNone_none, ↓SopsL_app, ↓SopsL_app0, ↓SopsL_app2, opAt_app0, opAt_app1, opAt_appn, opAt_app2, this]
  exact hK
theorem packB_lt (d : Dd) : ∀ c ∈ packB d, c < 256 := by
  have hbe : ∀ m n, ∀ c ∈ be m n, c < 256 := fun m n => by
    induction m with
    | zero => intro c hc; cases hc
    | succ m ih =>
      intro c hc
      rcases List.mem_cons.1 hc with rfl | hc
      · exact Nat.mod_lt _ (by decide)
      · exact ih c hc
  have hby : ∀ s, ∀ c ∈ bytesN s, c < 256 := fun s c hc => by
    obtain ⟨x, _, rfl⟩ := List.mem_map.1 hc
    exact x.toNat_lt
  have htx : ∀ s, ∀ c ∈ txt s, c < 256 := fun s c hc => by
    rcases List.mem_cons.1 hc with rfl | hc
    · exact Nat.mod_lt _ (by decide)
    · exact hby s c hc
  intro c hc
  unfold packB at hc
  simp only [List.mem_append, List.mem_flatMap] at hc
  rcases hc with ((hc | ⟨n, _, hc⟩) | ⟨s, _, hc⟩) | hc | hc
  · rw [List.mem_singleton.1 hc]; exact Nat.mod_lt _ (by decide)
  · exact hbe _ _ c hc
  · exact htx s c hc
  · exact hbe _ _ c hc
  · exact hby _ c hc

set_option maxRecDepth 8000 in
set_option maxHeartbeats 4000000 in
theorem unpack_F {w0 : World} {H : Heap} {K : Value → Heap → Prop} (l : List Nat) (v : Value) (hv : Ls u8c 1 w0 H v l) (hl : l.length ≤ 9223372036854775807) (hb8 : ∀ c ∈ l, c < 256)
    (hE : unpB l = none → K (.tuple #[Dd.zero.val, errV 2]) H) (hK : ∀ d, unpB l = some d → K (.tuple #[d.val, .nilIface]) H) :
    F Try.prog w0 13 [v] H K := by
  have hp : unpB l = if (!(parse l).2.bad && (may (parse l).1 && packB (parse l).1 == l)) = true then some (parse l).1 else none := rfl
  have hv0 := hv
  obtain ⟨A0, c0, rfl, _, _⟩ := hv.open_
  refine F_less_post ?_
  refine F_body Try.func13 rfl (N := 60) rfl (by simp) (rs := [.cell 2 25, .tmp 3]) rfl (S_of_W ?_)
  simp (maxSteps := 400000) (dsimp := false) only [↓EP1, ↓EP2, ↓EP3, ↓EP4, ↓EP5, ↓EP6, ↓EP7, ↓EP8, EQ1, EQ2, EQ3, EQ4, EQ5, EQ6, EQ7, EQ8, EQ9, EQ10, ne_eq, Nat.reduceEqDiff, not_false_eq_true, Option.bind_some, Option.map_some, Option.bind_none, Option.map_none, List.getElem?_cons_zero, List.getElem?_cons_succ, List.size_toArray, List.length_cons, List.length_nil, List.all_cons, List.all_nil, Value.oneCell', List.map_toArray, List.map_cons, List.map_nil, List.toList_toArray, List.cons_append, List.nil_append, List.append_nil, List.set_cons_zero, List.set_cons_succ, Bool.and_self, Bool.and_true, Bool.true_and, Nat.reduceAdd, Nat.reduceMul, Nat.reduceLeDiff, Nat.reduceLT, Nat.zero_add, Nat.add_zero, Nat.one_mul, Nat.zero_mul, Nat.mul_one, if_true, if_false, true_and, and_true, and_self, Bool.false_eq_true, ite_true, ite_false, reduceCtorEq, Int.reduceLT, Int.reduceLE, Int.reduceEq, Int.reduceNe, Int.reduceBNe, Int.reduceBEq, Int.reduceToNat, Option.some.injEq, exists_eq_left', exists_eq_left, Nat.reduceSub, Bool.not_true, Bool.not_false, decide_true, decide_false, beq_self_eq_true, List.contains_nil, List.contains_cons, Bool.or_false, Bool.or_true, Bool.false_or, Bool.true_or, Nat.reduceBEq, forall_const, imp_self, true_imp_iff, false_imp_iff, decide_eq_true_eq, decide_eq_false_iff_not, not_true_eq_false, Heap.set_same, setCells_row, Heap.set_set, Option.isNone_some, Option.isNone_none, ↓SopsL_app, ↓SopsL_app0, ↓SopsL_app2, opAt_app0, opAt_app1, opAt_appn, opAt_app2, bl25, bl63, ca11, ca24, ca25, ca26, en28, eq28, fa25_1, fa25_2, fa25_3, fa25_4, fa25_5, fa25_6, fa25_7, fa25_8, fa63_1, lo25, lo4, mi38, nn28, nq28, pl25_0, pl25_1, pl25_2, pl25_3, pl25_4, pl25_5, pl25_6, pl25_7, pl25_8, pl63_0, pl63_1, sz25, sz3, sz9, zo25, zo63]
  intro b2 hb2 hl2 rb hrb hlr
  generalize hHB : H.set b2 _ = HB at *
  have hle : H.le HB := by rw [← hHB]; exact Heap.le_set hb2
  have hB2 : HB b2 = some (.row [.int .i64 0, .int .i64 0, .int .i64 0, .int .i64 0, .string noB, .string noB, .string noB, .string noB, .string noB] 25) := by rw [← hHB]; exact Heap.set_same _ _ _
  clear hHB
  have hvB := hv0.le hle
  have n2r : b2 ≠ rb := fun e => by rw [e] at hB2; rw [hB2] at hrb; cases hrb
  have ok0 : PS.Ok ⟨l, false⟩ := ⟨hl, hb8⟩
  have R0 : Rdr w0 HB (HB.set rb (.row [.slice A0 l.length c0, .bool false] 63)) rb ⟨l, false⟩ := ⟨hlr, Heap.le_set hrb, hrb, _, Heap.set_same _ _ _, hvB⟩
  refine rnumber_F 1 R0 (by decide) ok0.len ok0.small ?_
  have ok1 := numS_ok (m := 1) ok0
  intro v1 hv1
  simp (maxSteps := 400000) (dsimp := false) only [↓EP1, ↓EP2, ↓EP3, ↓EP4, ↓EP5, ↓EP6, ↓EP7, ↓EP8, EQ1, EQ2, EQ3, EQ4, EQ5, EQ6, EQ7, EQ8, EQ9, EQ10, ne_eq, Nat.reduceEqDiff, not_false_eq_true, Option.bind_some, Option.map_some, Option.bind_none, Option.map_none, List.getElem?_cons_zero, List.getElem?_cons_succ, List.size_toArray, List.length_cons, List.length_nil, List.all_cons, List.all_nil, Value.oneCell', List.map_toArray, List.map_cons, List.map_nil, List.toList_toArray, List.cons_append, List.nil_append, List.append_nil, List.set_cons_zero, List.set_cons_succ, Bool.and_self, Bool.and_true, Bool.true_and, Nat.reduceAdd, Nat.reduceMul, Nat.reduceLeDiff, Nat.reduceLT, Nat.zero_add, Nat.add_zero, Nat.one_mul, Nat.zero_mul, Nat.mul_one, if_true, if_false, true_and, and_true, and_self, Bool.false_eq_true, ite_true, ite_false, reduceCtorEq, Int.reduceLT, Int.reduceLE, Int.reduceEq, Int.reduceNe, Int.reduceBNe, Int.reduceBEq, Int.reduceToNat, Option.some.injEq, exists_eq_left', exists_eq_left, Nat.reduceSub, Bool.not_true, Bool.not_false, decide_true, decide_false, beq_self_eq_true, List.contains_nil, List.contains_cons, Bool.or_false, Bool.or_true, Bool.false_or, Bool.true_or, Nat.reduceBEq, forall_const, imp_self, true_imp_iff, false_imp_iff, decide_eq_true_eq, decide_eq_false_iff_not, not_true_eq_false, Heap.set_same, setCells_row, Heap.set_set, Option.isNone_some, Option.isNone_none, ↓SopsL_app, ↓SopsL_app0, ↓SopsL_app2, opAt_app0, opAt_app1, opAt_appn, opAt_app2, bl25, bl63, ca11, ca24, ca25, ca26, en28, eq28, fa25_1, fa25_2, fa25_3, fa25_4, fa25_5, fa25_6, fa25_7, fa25_8, fa63_1, lo25, lo4, mi38, nn28, nq28, pl25_0, pl25_1, pl25_2, pl25_3, pl25_4, pl25_5, pl25_6, pl25_7, pl25_8, pl63_0, pl63_1, sz25, sz3, sz9, zo25, zo63, lk_row hlr]
  intro b5 hb5 hl5
  have n5r : b5 ≠ rb := fun e => by rw [e, Heap.set_same] at hb5; cases hb5
  have hb5' : HB b5 = none := by rwa [Heap.set_ne n5r] at hb5
  have n52 : b2 ≠ b5 := fun e => by rw [e] at hB2; rw [hB2] at hb5'; cases hb5'
  have mkR : ∀ (p : PS) (u : Value) (it : Eng.Item), Ls u8c 1 w0 HB u p.l → Rdr w0 HB ((HB.set rb (.row [u, .bool p.bad] 63)).set b5 it) rb p := fun p u it hu =>
    ⟨hlr, le_set_none (Heap.le_set hrb) hb5', hrb, u, by rw [Heap.set_ne n5r.symm, Heap.set_same], hu⟩
  obtain ⟨q1, hq1⟩ : ∃ q, numS 1 ⟨l, false⟩ = q := ⟨_, rfl⟩
  rw [hq1] at hv1 ok1 ⊢
  refine rnumber_F 4 (mkR _ _ _ hv1) (by decide) ok1.len ok1.small ?_
  have ok2 := numS_ok (m := 4) ok1
  obtain ⟨q2, hq2⟩ : ∃ q, numS 4 q1.2 = q := ⟨_, rfl⟩
  rw [hq2] at ok2 ⊢
  intro v2 hv2
  simp (maxSteps := 400000) (dsimp := false) only [↓EP1, ↓EP2, ↓EP3, ↓EP4, ↓EP5, ↓EP6, ↓EP7, ↓EP8, EQ1, EQ2, EQ3, EQ4, EQ5, EQ6, EQ7, EQ8, EQ9, EQ10, ne_eq, Nat.reduceEqDiff, not_false_eq_true, Option.bind_some, Option.map_some, Option.bind_none, Option.map_none, List.getElem?_cons_zero, List.getElem?_cons_succ, List.size_toArray, List.length_cons, List.length_nil, List.all_cons, List.all_nil, Value.oneCell', List.map_toArray, List.map_cons, List.map_nil, List.toList_toArray, List.cons_append, List.nil_append, List.append_nil, List.set_cons_zero, List.set_cons_succ, Bool.and_self, Bool.and_true, Bool.true_and, Nat.reduceAdd, Nat.reduceMul, Nat.reduceLeDiff, Nat.reduceLT, Nat.zero_add, Nat.add_zero, Nat.one_mul, Nat.zero_mul, Nat.mul_one, if_true, if_false, true_and, and_true, and_self, Bool.false_eq_true, ite_true, ite_false, reduceCtorEq, Int.reduceLT, Int.reduceLE, Int.reduceEq, Int.reduceNe, Int.reduceBNe, Int.reduceBEq, Int.reduceToNat, Option.some.injEq, exists_eq_left', exists_eq_left, Nat.reduceSub, Bool.not_true, Bool.not_false, decide_true, decide_false, beq_self_eq_true, List.contains_nil, List.contains_cons, Bool.or_false, Bool.or_true, Bool.false_or, Bool.true_or, Nat.reduceBEq, forall_const, imp_self, true_imp_iff, false_imp_iff, decide_eq_true_eq, decide_eq_false_iff_not, not_true_eq_false, Heap.set_same, setCells_row, Heap.set_set, Option.isNone_some, Option.isNone_none, ↓SopsL_app, ↓SopsL_app0, ↓SopsL_app2, opAt_app0, opAt_app1, opAt_appn, opAt_app2, bl25, bl63, ca11, ca24, ca25, ca26, en28, eq28, fa25_1, fa25_2, fa25_3, fa25_4, fa25_5, fa25_6, fa25_7, fa25_8, fa63_1, lo25, lo4, mi38, nn28, nq28, pl25_0, pl25_1, pl25_2, pl25_3, pl25_4, pl25_5, pl25_6, pl25_7, pl25_8, pl63_0, pl63_1, sz25, sz3, sz9, zo25, zo63, lk_row hlr, lk_row hl2, lk_row hl5, lk_set_ne n5r, lk_set_ne n5r.symm, Heap.set_ne n5r, Heap.set_ne n5r.symm, set_over n5r, set_over n5r.symm]
  refine rnumber_F 4 (mkR _ _ _ hv2) (by decide) ok2.len ok2.small ?_
  have ok3 := numS_ok (m := 4) ok2
  obtain ⟨q3, hq3⟩ : ∃ q, numS 4 q2.2 = q := ⟨_, rfl⟩
  rw [hq3] at ok3 ⊢
  intro v3 hv3
  simp (maxSteps := 400000) (dsimp := false) only [↓EP1, ↓EP2, ↓EP3, ↓EP4, ↓EP5, ↓EP6, ↓EP7, ↓EP8, EQ1, EQ2, EQ3, EQ4, EQ5, EQ6, EQ7, EQ8, EQ9, EQ10, ne_eq, Nat.reduceEqDiff, not_false_eq_true, Option.bind_some, Option.map_some, Option.bind_none, Option.map_none, List.getElem?_cons_zero, List.getElem?_cons_succ, List.size_toArray, List.length_cons, List.length_nil, List.all_cons, List.all_nil, Value.oneCell', List.map_toArray, List.map_cons, List.map_nil, List.toList_toArray, List.cons_append, List.nil_append, List.append_nil, List.set_cons_zero, List.set_cons_succ, Bool.and_self, Bool.and_true, Bool.true_and, Nat.reduceAdd, Nat.reduceMul, Nat.reduceLeDiff, Nat.reduceLT, Nat.zero_add, Nat.add_zero, Nat.one_mul, Nat.zero_mul, Nat.mul_one, if_true, if_false, true_and, and_true, and_self, Bool.false_eq_true, ite_true, ite_false, reduceCtorEq, Int.reduceLT, Int.reduceLE, Int.reduceEq, Int.reduceNe, Int.reduceBNe, Int.reduceBEq, Int.reduceToNat, Option.some.injEq, exists_eq_left', exists_eq_left, Nat.reduceSub, Bool.not_true, Bool.not_false, decide_true, decide_false, beq_self_eq_true, List.contains_nil, List.contains_cons, Bool.or_false, Bool.or_true, Bool.false_or, Bool.true_or, Nat.reduceBEq, forall_const, imp_self, true_imp_iff, false_imp_iff, decide_eq_true_eq, decide_eq_false_iff_not, not_true_eq_false, Heap.set_same, setCells_row, Heap.set_set, Option.isNone_some, Option.isNone_none, ↓SopsL_app, ↓SopsL_app0, ↓SopsL_app2, opAt_app0, opAt_app1, opAt_appn, opAt_app2, bl25, bl63, ca11, ca24, ca25, ca26, en28, eq28, fa25_1, fa25_2, fa25_3, fa25_4, fa25_5, fa25_6, fa25_7, fa25_8, fa63_1, lo25, lo4, mi38, nn28, nq28, pl25_0, pl25_1, pl25_2, pl25_3, pl25_4, pl25_5, pl25_6, pl25_7, pl25_8, pl63_0, pl63_1, sz25, sz3, sz9, zo25, zo63, lk_row hlr, lk_row hl2, lk_row hl5, lk_set_ne n5r, lk_set_ne n5r.symm, Heap.set_ne n5r, Heap.set_ne n5r.symm, set_over n5r, set_over n5r.symm]
  refine rnumber_F 4 (mkR _ _ _ hv3) (by decide) ok3.len ok3.small ?_
  have ok4 := numS_ok (m := 4) ok3
  obtain ⟨q4, hq4⟩ : ∃ q, numS 4 q3.2 = q := ⟨_, rfl⟩
  rw [hq4] at ok4 ⊢
  intro v4 hv4
  simp (maxSteps := 400000) (dsimp := false) only [↓EP1, ↓EP2, ↓EP3, ↓EP4, ↓EP5, ↓EP6, ↓EP7, ↓EP8, EQ1, EQ2, EQ3, EQ4, EQ5, EQ6, EQ7, EQ8, EQ9, EQ10, ne_eq, Nat.reduceEqDiff, not_false_eq_true, Option.bind_some, Option.map_some, Option.bind_none, Option.map_none, List.getElem?_cons_zero, List.getElem?_cons_succ, List.size_toArray, List.length_cons, List.length_nil, List.all_cons, List.all_nil, Value.oneCell', List.map_toArray, List.map_cons, List.map_nil, List.toList_toArray, List.cons_append, List.nil_append, List.append_nil, List.set_cons_zero, List.set_cons_succ, Bool.and_self, Bool.and_true, Bool.true_and, Nat.reduceAdd, Nat.reduceMul, Nat.reduceLeDiff, Nat.reduceLT, Nat.zero_add, Nat.add_zero, Nat.one_mul, Nat.zero_mul, Nat.mul_one, if_true, if_false, true_and, and_true, and_self, Bool.false_eq_true, ite_true, ite_false, reduceCtorEq, Int.reduceLT, Int.reduceLE, Int.reduceEq, Int.reduceNe, Int.reduceBNe, Int.reduceBEq, Int.reduceToNat, Option.some.injEq, exists_eq_left', exists_eq_left, Nat.reduceSub, Bool.not_true, Bool.not_false, decide_true, decide_false, beq_self_eq_true, List.contains_nil, List.contains_cons, Bool.or_false, Bool.or_true, Bool.false_or, Bool.true_or, Nat.reduceBEq, forall_const, imp_self, true_imp_iff, false_imp_iff, decide_eq_true_eq, decide_eq_false_iff_not, not_true_eq_false, Heap.set_same, setCells_row, Heap.set_set, Option.isNone_some, Option.isNone_none, ↓SopsL_app, ↓SopsL_app0, ↓SopsL_app2, opAt_app0, opAt_app1, opAt_appn, opAt_app2, bl25, bl63, ca11, ca24, ca25, ca26, en28, eq28, fa25_1, fa25_2, fa25_3, fa25_4, fa25_5, fa25_6, fa25_7, fa25_8, fa63_1, lo25, lo4, mi38, nn28, nq28, pl25_0, pl25_1, pl25_2, pl25_3, pl25_4, pl25_5, pl25_6, pl25_7, pl25_8, pl63_0, pl63_1, sz25, sz3, sz9, zo25, zo63, lk_row hlr, lk_row hl2, lk_row hl5, lk_set_ne n5r, lk_set_ne n5r.symm, Heap.set_ne n5r, Heap.set_ne n5r.symm, set_over n5r, set_over n5r.symm]
  refine rtext_F 1 (mkR _ _ _ hv4) (by decide) ok4.len ok4.small ?_
  have ok5 := txtS_ok (m := 1) ok4
  obtain ⟨q5, hq5⟩ : ∃ q, txtS 1 q4.2 = q := ⟨_, rfl⟩
  rw [hq5] at ok5 ⊢
  intro v5 hv5
  simp (maxSteps := 400000) (dsimp := false) only [↓EP1, ↓EP2, ↓EP3, ↓EP4, ↓EP5, ↓EP6, ↓EP7, ↓EP8, EQ1, EQ2, EQ3, EQ4, EQ5, EQ6, EQ7, EQ8, EQ9, EQ10, ne_eq, Nat.reduceEqDiff, not_false_eq_true, Option.bind_some, Option.map_some, Option.bind_none, Option.map_none, List.getElem?_cons_zero, List.getElem?_cons_succ, List.size_toArray, List.length_cons, List.length_nil, List.all_cons, List.all_nil, Value.oneCell', List.map_toArray, List.map_cons, List.map_nil, List.toList_toArray, List.cons_append, List.nil_append, List.append_nil, List.set_cons_zero, List.set_cons_succ, Bool.and_self, Bool.and_true, Bool.true_and, Nat.reduceAdd, Nat.reduceMul, Nat.reduceLeDiff, Nat.reduceLT, Nat.zero_add, Nat.add_zero, Nat.one_mul, Nat.zero_mul, Nat.mul_one, if_true, if_false, true_and, and_true, and_self, Bool.false_eq_true, ite_true, ite_false, reduceCtorEq, Int.reduceLT, Int.reduceLE, Int.reduceEq, Int.reduceNe, Int.reduceBNe, Int.reduceBEq, Int.reduceToNat, Option.some.injEq, exists_eq_left', exists_eq_left, Nat.reduceSub, Bool.not_true, Bool.not_false, decide_true, decide_false, beq_self_eq_true, List.contains_nil, List.contains_cons, Bool.or_false, Bool.or_true, Bool.false_or, Bool.true_or, Nat.reduceBEq, forall_const, imp_self, true_imp_iff, false_imp_iff, decide_eq_true_eq, decide_eq_false_iff_not, not_true_eq_false, Heap.set_same, setCells_row, Heap.set_set, Option.isNone_some, Option.isNone_none, ↓SopsL_app, ↓SopsL_app0, ↓SopsL_app2, opAt_app0, opAt_app1, opAt_appn, opAt_app2, bl25, bl63, ca11, ca24, ca25, ca26, en28, eq28, fa25_1, fa25_2, fa25_3, fa25_4, fa25_5, fa25_6, fa25_7, fa25_8, fa63_1, lo25, lo4, mi38, nn28, nq28, pl25_0, pl25_1, pl25_2, pl25_3, pl25_4, pl25_5, pl25_6, pl25_7, pl25_8, pl63_0, pl63_1, sz25, sz3, sz9, zo25, zo63, lk_row hlr, lk_row hl2, lk_row hl5, lk_set_ne n5r, lk_set_ne n5r.symm, Heap.set_ne n5r, Heap.set_ne n5r.symm, set_over n5r, set_over n5r.symm]
  refine rtext_F 1 (mkR _ _ _ hv5) (by decide) ok5.len ok5.small ?_
  have ok6 := txtS_ok (m := 1) ok5
  obtain ⟨q6, hq6⟩ : ∃ q, txtS 1 q5.2 = q := ⟨_, rfl⟩
  rw [hq6] at ok6 ⊢
  intro v6 hv6
  simp (maxSteps := 400000) (dsimp := false) only [↓EP1, ↓EP2, ↓EP3, ↓EP4, ↓EP5, ↓EP6, ↓EP7, ↓EP8, EQ1, EQ2, EQ3, EQ4, EQ5, EQ6, EQ7, EQ8, EQ9, EQ10, ne_eq, Nat.reduceEqDiff, not_false_eq_true, Option.bind_some, Option.map_some, Option.bind_none, Option.map_none, List.getElem?_cons_zero, List.getElem?_cons_succ, List.size_toArray, List.length_cons, List.length_nil, List.all_cons, List.all_nil, Value.oneCell', List.map_toArray, List.map_cons, List.map_nil, List.toList_toArray, List.cons_append, List.nil_append, List.append_nil, List.set_cons_zero, List.set_cons_succ, Bool.and_self, Bool.and_true, Bool.true_and, Nat.reduceAdd, Nat.reduceMul, Nat.reduceLeDiff, Nat.reduceLT, Nat.zero_add, Nat.add_zero, Nat.one_mul, Nat.zero_mul, Nat.mul_one, if_true, if_false, true_and, and_true, and_self, Bool.false_eq_true, ite_true, ite_false, reduceCtorEq, Int.reduceLT, Int.reduceLE, Int.reduceEq, Int.reduceNe, Int.reduceBNe, Int.reduceBEq, Int.reduceToNat, Option.some.injEq, exists_eq_left', exists_eq_left, Nat.reduceSub, Bool.not_true, Bool.not_false, decide_true, decide_false, beq_self_eq_true, List.contains_nil, List.contains_cons, Bool.or_false, Bool.or_true, Bool.false_or, Bool.true_or, Nat.reduceBEq, forall_const, imp_self, true_imp_iff, false_imp_iff, decide_eq_true_eq, decide_eq_false_iff_not, not_true_eq_false, Heap.set_same, setCells_row, Heap.set_set, Option.isNone_some, Option.isNone_none, ↓SopsL_app, ↓SopsL_app0, ↓SopsL_app2, opAt_app0, opAt_app1, opAt_appn, opAt_app2, bl25, bl63, ca11, ca24, ca25, ca26, en28, eq28, fa25_1, fa25_2, fa25_3, fa25_4, fa25_5, fa25_6, fa25_7, fa25_8, fa63_1, lo25, lo4, mi38, nn28, nq28, pl25_0, pl25_1, pl25_2, pl25_3, pl25_4, pl25_5, pl25_6, pl25_7, pl25_8, pl63_0, pl63_1, sz25, sz3, sz9, zo25, zo63, lk_row hlr, lk_row hl2, lk_row hl5, lk_set_ne n5r, lk_set_ne n5r.symm, Heap.set_ne n5r, Heap.set_ne n5r.symm, set_over n5r, set_over n5r.symm]
  refine rtext_F 1 (mkR _ _ _ hv6) (by decide) ok6.len ok6.small ?_
  have ok7 := txtS_ok (m := 1) ok6
  obtain ⟨q7, hq7⟩ : ∃ q, txtS 1 q6.2 = q := ⟨_, rfl⟩
  rw [hq7] at ok7 ⊢
  intro v7 hv7
  simp (maxSteps := 400000) (dsimp := false) only [↓EP1, ↓EP2, ↓EP3, ↓EP4, ↓EP5, ↓EP6, ↓EP7, ↓EP8, EQ1, EQ2, EQ3, EQ4, EQ5, EQ6, EQ7, EQ8, EQ9, EQ10, ne_eq, Nat.reduceEqDiff, not_false_eq_true, Option.bind_some, Option.map_some, Option.bind_none, Option.map_none, List.getElem?_cons_zero, List.getElem?_cons_succ, List.size_toArray, List.length_cons, List.length_nil, List.all_cons, List.all_nil, Value.oneCell', List.map_toArray, List.map_cons, List.map_nil, List.toList_toArray, List.cons_append, List.nil_append, List.append_nil, List.set_cons_zero, List.set_cons_succ, Bool.and_self, Bool.and_true, Bool.true_and, Nat.reduceAdd, Nat.reduceMul, Nat.reduceLeDiff, Nat.reduceLT, Nat.zero_add, Nat.add_zero, Nat.one_mul, Nat.zero_mul, Nat.mul_one, if_true, if_false, true_and, and_true, and_self, Bool.false_eq_true, ite_true, ite_false, reduceCtorEq, Int.reduceLT, Int.reduceLE, Int.reduceEq, Int.reduceNe, Int.reduceBNe, Int.reduceBEq, Int.reduceToNat, Option.some.injEq, exists_eq_left', exists_eq_left, Nat.reduceSub, Bool.not_true, Bool.not_false, decide_true, decide_false, beq_self_eq_true, List.contains_nil, List.contains_cons, Bool.or_false, Bool.or_true, Bool.false_or, Bool.true_or, Nat.reduceBEq, forall_const, imp_self, true_imp_iff, false_imp_iff, decide_eq_true_eq, decide_eq_false_iff_not, not_true_eq_false, Heap.set_same, setCells_row, Heap.set_set, Option.isNone_some, Option.isNone_none, ↓SopsL_app, ↓SopsL_app0, ↓SopsL_app2, opAt_app0, opAt_app1, opAt_appn, opAt_app2, bl25, bl63, ca11, ca24, ca25, ca26, en28, eq28, fa25_1, fa25_2, fa25_3, fa25_4, fa25_5, fa25_6, fa25_7, fa25_8, fa63_1, lo25, lo4, mi38, nn28, nq28, pl25_0, pl25_1, pl25_2, pl25_3, pl25_4, pl25_5, pl25_6, pl25_7, pl25_8, pl63_0, pl63_1, sz25, sz3, sz9, zo25, zo63, lk_row hlr, lk_row hl2, lk_row hl5, lk_set_ne n5r, lk_set_ne n5r.symm, Heap.set_ne n5r, Heap.set_ne n5r.symm, set_over n5r, set_over n5r.symm]
  refine rtext_F 1 (mkR _ _ _ hv7) (by decide) ok7.len ok7.small ?_
  have ok8 := txtS_ok (m := 1) ok7
  obtain ⟨q8, hq8⟩ : ∃ q, txtS 1 q7.2 = q := ⟨_, rfl⟩
  rw [hq8] at ok8 ⊢
  intro v8 hv8
  simp (maxSteps := 400000) (dsimp := false) only [↓EP1, ↓EP2, ↓EP3, ↓EP4, ↓EP5, ↓EP6, ↓EP7, ↓EP8, EQ1, EQ2, EQ3, EQ4, EQ5, EQ6, EQ7, EQ8, EQ9, EQ10, ne_eq, Nat.reduceEqDiff, not_false_eq_true, Option.bind_some, Option.map_some, Option.bind_none, Option.map_none, List.getElem?_cons_zero, List.getElem?_cons_succ, List.size_toArray, List.length_cons, List.length_nil, List.all_cons, List.all_nil, Value.oneCell', List.map_toArray, List.map_cons, List.map_nil, List.toList_toArray, List.cons_append, List.nil_append, List.append_nil, List.set_cons_zero, List.set_cons_succ, Bool.and_self, Bool.and_true, Bool.true_and, Nat.reduceAdd, Nat.reduceMul, Nat.reduceLeDiff, Nat.reduceLT, Nat.zero_add, Nat.add_zero, Nat.one_mul, Nat.zero_mul, Nat.mul_one, if_true, if_false, true_and, and_true, and_self, Bool.false_eq_true, ite_true, ite_false, reduceCtorEq, Int.reduceLT, Int.reduceLE, Int.reduceEq, Int.reduceNe, Int.reduceBNe, Int.reduceBEq, Int.reduceToNat, Option.some.injEq, exists_eq_left', exists_eq_left, Nat.reduceSub, Bool.not_true, Bool.not_false, decide_true, decide_false, beq_self_eq_true, List.contains_nil, List.contains_cons, Bool.or_false, Bool.or_true, Bool.false_or, Bool.true_or, Nat.reduceBEq, forall_const, imp_self, true_imp_iff, false_imp_iff, decide_eq_true_eq, decide_eq_false_iff_not, not_true_eq_false, Heap.set_same, setCells_row, Heap.set_set, Option.isNone_some, Option.isNone_none, ↓SopsL_app, ↓SopsL_app0, ↓SopsL_app2, opAt_app0, opAt_app1, opAt_appn, opAt_app2, bl25, bl63, ca11, ca24, ca25, ca26, en28, eq28, fa25_1, fa25_2, fa25_3, fa25_4, fa25_5, fa25_6, fa25_7, fa25_8, fa63_1, lo25, lo4, mi38, nn28, nq28, pl25_0, pl25_1, pl25_2, pl25_3, pl25_4, pl25_5, pl25_6, pl25_7, pl25_8, pl63_0, pl63_1, sz25, sz3, sz9, zo25, zo63, lk_row hlr, lk_row hl2, lk_row hl5, lk_set_ne n5r, lk_set_ne n5r.symm, Heap.set_ne n5r, Heap.set_ne n5r.symm, set_over n5r, set_over n5r.symm]
  refine rtext_F 2 (mkR _ _ _ hv8) (by decide) ok8.len ok8.small ?_
  obtain ⟨q9, hq9⟩ : ∃ q, txtS 2 q8.2 = q := ⟨_, rfl⟩
  rw [hq9]
  intro v9 hv9
  have hpl : parse l = (⟨(q1.1 : Nat), (q2.1 : Nat), (q3.1 : Nat), (q4.1 : Nat), q5.1, q6.1, q7.1, q8.1, q9.1⟩, q9.2) := by
    unfold parse
    simp only [hq1, hq2, hq3, hq4, hq5, hq6, hq7, hq8, hq9]
  rw [hpl] at hp
  simp only at hp
  generalize hD : (⟨(q1.1 : Nat), (q2.1 : Nat), (q3.1 : Nat), (q4.1 : Nat), q5.1, q6.1, q7.1, q8.1, q9.1⟩ : Dd) = D at hp
  simp (maxSteps := 400000) (dsimp := false) only [↓EP1, ↓EP2, ↓EP3, ↓EP4, ↓EP5, ↓EP6, ↓EP7, ↓EP8, EQ1, EQ2, EQ3, EQ4, EQ5, EQ6, EQ7, EQ8, EQ9, EQ10, ne_eq, Nat.reduceEqDiff, not_false_eq_true, Option.bind_some, Option.map_some, Option.bind_none, Option.map_none, List.getElem?_cons_zero, List.getElem?_cons_succ, List.size_toArray, List.length_cons, List.length_nil, List.all_cons, List.all_nil, Value.oneCell', List.map_toArray, List.map_cons, List.map_nil, List.toList_toArray, List.cons_append, List.nil_append, List.append_nil, List.set_cons_zero, List.set_cons_succ, Bool.and_self, Bool.and_true, Bool.true_and, Nat.reduceAdd, Nat.reduceMul, Nat.reduceLeDiff, Nat.reduceLT, Nat.zero_add, Nat.add_zero, Nat.one_mul, Nat.zero_mul, Nat.mul_one, if_true, if_false, true_and, and_true, and_self, Bool.false_eq_true, ite_true, ite_false, reduceCtorEq, Int.reduceLT, Int.reduceLE, Int.reduceEq, Int.reduceNe, Int.reduceBNe, Int.reduceBEq, Int.reduceToNat, Option.some.injEq, exists_eq_left', exists_eq_left, Nat.reduceSub, Bool.not_true, Bool.not_false, decide_true, decide_false, beq_self_eq_true, List.contains_nil, List.contains_cons, Bool.or_false, Bool.or_true, Bool.false_or, Bool.true_or, Nat.reduceBEq, forall_const, imp_self, true_imp_iff, false_imp_iff, decide_eq_true_eq, decide_eq_false_iff_not, not_true_eq_false, Heap.set_same, setCells_row, Heap.set_set, Option.isNone_some, Option.isNone_none, ↓SopsL_app, ↓SopsL_app0, ↓SopsL_app2, opAt_app0, opAt_app1, opAt_appn, opAt_app2, bl25, bl63, ca11, ca24, ca25, ca26, en28, eq28, fa25_1, fa25_2, fa25_3, fa25_4, fa25_5, fa25_6, fa25_7, fa25_8, fa63_1, lo25, lo4, mi38, nn28, nq28, pl25_0, pl25_1, pl25_2, pl25_3, pl25_4, pl25_5, pl25_6, pl25_7, pl25_8, pl63_0, pl63_1, sz25, sz3, sz9, zo25, zo63, lk_row hlr, lk_row hl2, lk_row hl5, lk_set_ne n5r, lk_set_ne n5r.symm, Heap.set_ne n5r, Heap.set_ne n5r.symm, set_over n5r, set_over n5r.symm]
  have hRr := mkR q9.2 v9 (.row [.int .i64 (q1.1 : Nat), .int .i64 (q2.1 : Nat), .int .i64 (q3.1 : Nat), .int .i64 (q4.1 : Nat), .string q5.1, .string q6.1, .string q7.1, .string q8.1, .string q9.1] 25) hv9
  have hX2 : ((HB.set rb (.row [v9, .bool q9.2.bad] 63)).set b5 (.row [.int .i64 (q1.1 : Nat), .int .i64 (q2.1 : Nat), .int .i64 (q3.1 : Nat), .int .i64 (q4.1 : Nat), .string q5.1, .string q6.1, .string q7.1, .string q8.1, .string q9.1] 25)) b2 = some (.row [.int .i64 0, .int .i64 0, .int .i64 0, .int .i64 0, .string noB, .string noB, .string noB, .string noB, .string noB] 25) := by rw [Heap.set_ne n52, Heap.set_ne n2r]; exact hB2
  have hX5 : ((HB.set rb (.row [v9, .bool q9.2.bad] 63)).set b5 (.row [.int .i64 (q1.1 : Nat), .int .i64 (q2.1 : Nat), .int .i64 (q3.1 : Nat), .int .i64 (q4.1 : Nat), .string q5.1, .string q6.1, .string q7.1, .string q8.1, .string q9.1] 25)) b5 = some (.row [.int .i64 (q1.1 : Nat), .int .i64 (q2.1 : Nat), .int .i64 (q3.1 : Nat), .int .i64 (q4.1 : Nat), .string q5.1, .string q6.1, .string q7.1, .string q8.1, .string q9.1] 25) := Heap.set_same _ _ _
  obtain ⟨vr, hXr, hvr⟩ := hRr.row
  have hHX : H.le ((HB.set rb (.row [v9, .bool q9.2.bad] 63)).set b5 (.row [.int .i64 (q1.1 : Nat), .int .i64 (q2.1 : Nat), .int .i64 (q3.1 : Nat), .int .i64 (q4.1 : Nat), .string q5.1, .string q6.1, .string q7.1, .string q8.1, .string q9.1] 25)) := Heap.le_trans hle hRr.base
  have hvX := hvB.le hRr.base
  generalize ((HB.set rb (.row [v9, .bool q9.2.bad] 63)).set b5 (.row [.int .i64 (q1.1 : Nat), .int .i64 (q2.1 : Nat), .int .i64 (q3.1 : Nat), .int .i64 (q4.1 : Nat), .string q5.1, .string q6.1, .string q7.1, .string q8.1, .string q9.1] 25)) = X at *
  have e2 : errV 2 = .iface 38 (.int .i64 2) := rfl
  have e1 : errV 1 = .iface 38 (.int .i64 1) := rfl
  have hlkr := fun (Y : Heap) (h : X.le Y) (o : Nat) => lk_own (o := o) hlr (h rb _ hXr)
  have hlk5 := fun (Y : Heap) (h : X.le Y) (o : Nat) => lk_own (o := o) hl5 (h b5 _ hX5)
  rw [e2] at hE
  refine pack_F ⟨(q1.1 : Nat), (q2.1 : Nat), (q3.1 : Nat), (q4.1 : Nat), q5.1, q6.1, q7.1, q8.1, q9.1⟩ ?_ ?_
  · intro hm
    rw [hD] at hm
    have hn : unpB l = none := by rw [hp, if_neg]; rw [hm]; simp
    rw [e1]
    have f1 := hlkr X (Heap.le_refl X)
    cases hbad : q9.2.bad with
    | true =>
      rw [hbad] at hXr f1
      simp (maxSteps := 400000) (dsimp := false) only [↓EP1, ↓EP2, ↓EP3, ↓EP4, ↓EP5, ↓EP6, ↓EP7, ↓EP8, EQ1, EQ2, EQ3, EQ4, EQ5, EQ6, EQ7, EQ8, EQ9, EQ10, ne_eq, Nat.reduceEqDiff, not_false_eq_true, Option.bind_some, Option.map_some, Option.bind_none, Option.map_none, List.getElem?_cons_zero, List.getElem?_cons_succ, List.size_toArray, List.length_cons, List.length_nil, List.all_cons, List.all_nil, Value.oneCell', List.map_toArray, List.map_cons, List.map_nil, List.toList_toArray, List.cons_append, List.nil_append, List.append_nil, List.set_cons_zero, List.set_cons_succ, Bool.and_self, Bool.and_true, Bool.true_and, Nat.reduceAdd, Nat.reduceMul, Nat.reduceLeDiff, Nat.reduceLT, Nat.zero_add, Nat.add_zero, Nat.one_mul, Nat.zero_mul, Nat.mul_one, if_true, if_false, true_and, and_true, and_self, Bool.false_eq_true, ite_true, ite_false, reduceCtorEq, Int.reduceLT, Int.reduceLE, Int.reduceEq, Int.reduceNe, Int.reduceBNe, Int.reduceBEq, Int.reduceToNat, Option.some.injEq, exists_eq_left', exists_eq_left, Nat.reduceSub, Bool.not_true, Bool.not_false, decide_true, decide_false, beq_self_eq_true, List.contains_nil, List.contains_cons, Bool.or_false, Bool.or_true, Bool.false_or, Bool.true_or, Nat.reduceBEq, forall_const, imp_self, true_imp_iff, false_imp_iff, decide_eq_true_eq, decide_eq_false_iff_not, not_true_eq_false, Heap.set_same, setCells_row, Heap.set_set, Option.isNone_some, Option.isNone_none, ↓SopsL_app, ↓SopsL_app0, ↓SopsL_app2, opAt_app0, opAt_app1, opAt_appn, opAt_app2, bl25, bl63, ca11, ca24, ca25, ca26, en28, eq28, fa25_1, fa25_2, fa25_3, fa25_4, fa25_5, fa25_6, fa25_7, fa25_8, fa63_1, lo25, lo4, mi38, nn28, nq28, pl25_0, pl25_1, pl25_2, pl25_3, pl25_4, pl25_5, pl25_6, pl25_7, pl25_8, pl63_0, pl63_1, sz25, sz3, sz9, zo25, zo63, f1, hX2, cellAt_row, resOf_c, resOf_ct, resOf_cc, resC_ptr, lk_row hl2]
      exact ⟨H, le_set_none hHX hb2, hE hn⟩
    | false =>
      rw [hbad] at hXr f1
      simp (maxSteps := 400000) (dsimp := false) only [↓EP1, ↓EP2, ↓EP3, ↓EP4, ↓EP5, ↓EP6, ↓EP7, ↓EP8, EQ1, EQ2, EQ3, EQ4, EQ5, EQ6, EQ7, EQ8, EQ9, EQ10, ne_eq, Nat.reduceEqDiff, not_false_eq_true, Option.bind_some, Option.map_some, Option.bind_none, Option.map_none, List.getElem?_cons_zero, List.getElem?_cons_succ, List.size_toArray, List.length_cons, List.length_nil, List.all_cons, List.all_nil, Value.oneCell', List.map_toArray, List.map_cons, List.map_nil, List.toList_toArray, List.cons_append, List.nil_append, List.append_nil, List.set_cons_zero, List.set_cons_succ, Bool.and_self, Bool.and_true, Bool.true_and, Nat.reduceAdd, Nat.reduceMul, Nat.reduceLeDiff, Nat.reduceLT, Nat.zero_add, Nat.add_zero, Nat.one_mul, Nat.zero_mul, Nat.mul_one, if_true, if_false, true_and, and_true, and_self, Bool.false_eq_true, ite_true, ite_false, reduceCtorEq, Int.reduceLT, Int.reduceLE, Int.reduceEq, Int.reduceNe, Int.reduceBNe, Int.reduceBEq, Int.reduceToNat, Option.some.injEq, exists_eq_left', exists_eq_left, Nat.reduceSub, Bool.not_true, Bool.not_false, decide_true, decide_false, beq_self_eq_true, List.contains_nil, List.contains_cons, Bool.or_false, Bool.or_true, Bool.false_or, Bool.true_or, Nat.reduceBEq, forall_const, imp_self, true_imp_iff, false_imp_iff, decide_eq_true_eq, decide_eq_false_iff_not, not_true_eq_false, Heap.set_same, setCells_row, Heap.set_set, Option.isNone_some, Option.isNone_none, ↓SopsL_app, ↓SopsL_app0, ↓SopsL_app2, opAt_app0, opAt_app1, opAt_appn, opAt_app2, bl25, bl63, ca11, ca24, ca25, ca26, en28, eq28, fa25_1, fa25_2, fa25_3, fa25_4, fa25_5, fa25_6, fa25_7, fa25_8, fa63_1, lo25, lo4, mi38, nn28, nq28, pl25_0, pl25_1, pl25_2, pl25_3, pl25_4, pl25_5, pl25_6, pl25_7, pl25_8, pl63_0, pl63_1, sz25, sz3, sz9, zo25, zo63, f1, hX2, cellAt_row, resOf_c, resOf_ct, resOf_cc, resC_ptr, lk_row hl2]
      exact ⟨H, le_set_none hHX hb2, hE hn⟩
  · intro hm v' H' hown
    rw [hD] at hm hown
    have f1 := hlkr H' hown.le
    have f5 := hlk5 H' hown.le
    have hY2 := hown.le b2 _ hX2
    have hHY := Heap.le_trans hHX hown.le
    cases hbad : q9.2.bad with
    | true =>
      rw [hbad] at f1
      have hn : unpB l = none := by rw [hp, if_neg]; rw [hbad]; simp
      simp (maxSteps := 400000) (dsimp := false) only [↓EP1, ↓EP2, ↓EP3, ↓EP4, ↓EP5, ↓EP6, ↓EP7, ↓EP8, EQ1, EQ2, EQ3, EQ4, EQ5, EQ6, EQ7, EQ8, EQ9, EQ10, ne_eq, Nat.reduceEqDiff, not_false_eq_true, Option.bind_some, Option.map_some, Option.bind_none, Option.map_none, List.getElem?_cons_zero, List.getElem?_cons_succ, List.size_toArray, List.length_cons, List.length_nil, List.all_cons, List.all_nil, Value.oneCell', List.map_toArray, List.map_cons, List.map_nil, List.toList_toArray, List.cons_append, List.nil_append, List.append_nil, List.set_cons_zero, List.set_cons_succ, Bool.and_self, Bool.and_true, Bool.true_and, Nat.reduceAdd, Nat.reduceMul, Nat.reduceLeDiff, Nat.reduceLT, Nat.zero_add, Nat.add_zero, Nat.one_mul, Nat.zero_mul, Nat.mul_one, if_true, if_false, true_and, and_true, and_self, Bool.false_eq_true, ite_true, ite_false, reduceCtorEq, Int.reduceLT, Int.reduceLE, Int.reduceEq, Int.reduceNe, Int.reduceBNe, Int.reduceBEq, Int.reduceToNat, Option.some.injEq, exists_eq_left', exists_eq_left, Nat.reduceSub, Bool.not_true, Bool.not_false, decide_true, decide_false, beq_self_eq_true, List.contains_nil, List.contains_cons, Bool.or_false, Bool.or_true, Bool.false_or, Bool.true_or, Nat.reduceBEq, forall_const, imp_self, true_imp_iff, false_imp_iff, decide_eq_true_eq, decide_eq_false_iff_not, not_true_eq_false, Heap.set_same, setCells_row, Heap.set_set, Option.isNone_some, Option.isNone_none, ↓SopsL_app, ↓SopsL_app0, ↓SopsL_app2, opAt_app0, opAt_app1, opAt_appn, opAt_app2, bl25, bl63, ca11, ca24, ca25, ca26, en28, eq28, fa25_1, fa25_2, fa25_3, fa25_4, fa25_5, fa25_6, fa25_7, fa25_8, fa63_1, lo25, lo4, mi38, nn28, nq28, pl25_0, pl25_1, pl25_2, pl25_3, pl25_4, pl25_5, pl25_6, pl25_7, pl25_8, pl63_0, pl63_1, sz25, sz3, sz9, zo25, zo63, f1, f5, hY2, cellAt_row, resOf_c, resOf_ct, resOf_cc, resC_ptr, lk_row hl2]
      exact ⟨H, le_set_none hHY hb2, hE hn⟩
    | false =>
      rw [hbad] at f1
      simp (maxSteps := 400000) (dsimp := false) only [↓EP1, ↓EP2, ↓EP3, ↓EP4, ↓EP5, ↓EP6, ↓EP7, ↓EP8, EQ1, EQ2, EQ3, EQ4, EQ5, EQ6, EQ7, EQ8, EQ9, EQ10, ne_eq, Nat.reduceEqDiff, not_false_eq_true, Option.bind_some, Option.map_some, Option.bind_none, Option.map_none, List.getElem?_cons_zero, List.getElem?_cons_succ, List.size_toArray, List.length_cons, List.length_nil, List.all_cons, List.all_nil, Value.oneCell', List.map_toArray, List.map_cons, List.map_nil, List.toList_toArray, List.cons_append, List.nil_append, List.append_nil, List.set_cons_zero, List.set_cons_succ, Bool.and_self, Bool.and_true, Bool.true_and, Nat.reduceAdd, Nat.reduceMul, Nat.reduceLeDiff, Nat.reduceLT, Nat.zero_add, Nat.add_zero, Nat.one_mul, Nat.zero_mul, Nat.mul_one, if_true, if_false, true_and, and_true, and_self, Bool.false_eq_true, ite_true, ite_false, reduceCtorEq, Int.reduceLT, Int.reduceLE, Int.reduceEq, Int.reduceNe, Int.reduceBNe, Int.reduceBEq, Int.reduceToNat, Option.some.injEq, exists_eq_left', exists_eq_left, Nat.reduceSub, Bool.not_true, Bool.not_false, decide_true, decide_false, beq_self_eq_true, List.contains_nil, List.contains_cons, Bool.or_false, Bool.or_true, Bool.false_or, Bool.true_or, Nat.reduceBEq, forall_const, imp_self, true_imp_iff, false_imp_iff, decide_eq_true_eq, decide_eq_false_iff_not, not_true_eq_false, Heap.set_same, setCells_row, Heap.set_set, Option.isNone_some, Option.isNone_none, ↓SopsL_app, ↓SopsL_app0, ↓SopsL_app2, opAt_app0, opAt_app1, opAt_appn, opAt_app2, bl25, bl63, ca11, ca24, ca25, ca26, en28, eq28, fa25_1, fa25_2, fa25_3, fa25_4, fa25_5, fa25_6, fa25_7, fa25_8, fa63_1, lo25, lo4, mi38, nn28, nq28, pl25_0, pl25_1, pl25_2, pl25_3, pl25_4, pl25_5, pl25_6, pl25_7, pl25_8, pl63_0, pl63_1, sz25, sz3, sz9, zo25, zo63, f1, f5, hY2, cellAt_row, resOf_c, resOf_ct, resOf_cc, resC_ptr, lk_row hl2]
      refine bequal_F (packB D) l _ _ (Ls.ofRd hown.own.rd) (hvX.le hown.le) (packB_lt D) hb8 ?_
      cases heq : (packB D == l) with
      | false =>
        have hn : unpB l = none := by rw [hp, if_neg]; rw [hbad, hm, heq]; simp
        simp (maxSteps := 400000) (dsimp := false) only [↓EP1, ↓EP2, ↓EP3, ↓EP4, ↓EP5, ↓EP6, ↓EP7, ↓EP8, EQ1, EQ2, EQ3, EQ4, EQ5, EQ6, EQ7, EQ8, EQ9, EQ10, ne_eq, Nat.reduceEqDiff, not_false_eq_true, Option.bind_some, Option.map_some, Option.bind_none, Option.map_none, List.getElem?_cons_zero, List.getElem?_cons_succ, List.size_toArray, List.length_cons, List.length_nil, List.all_cons, List.all_nil, Value.oneCell', List.map_toArray, List.map_cons, List.map_nil, List.toList_toArray, List.cons_append, List.nil_append, List.append_nil, List.set_cons_zero, List.set_cons_succ, Bool.and_self, Bool.and_true, Bool.true_and, Nat.reduceAdd, Nat.reduceMul, Nat.reduceLeDiff, Nat.reduceLT, Nat.zero_add, Nat.add_zero, Nat.one_mul, Nat.zero_mul, Nat.mul_one, if_true, if_false, true_and, and_true, and_self, Bool.false_eq_true, ite_true, ite_false, reduceCtorEq, Int.reduceLT, Int.reduceLE, Int.reduceEq, Int.reduceNe, Int.reduceBNe, Int.reduceBEq, Int.reduceToNat, Option.some.injEq, exists_eq_left', exists_eq_left, Nat.reduceSub, Bool.not_true, Bool.not_false, decide_true, decide_false, beq_self_eq_true, List.contains_nil, List.contains_cons, Bool.or_false, Bool.or_true, Bool.false_or, Bool.true_or, Nat.reduceBEq, forall_const, imp_self, true_imp_iff, false_imp_iff, decide_eq_true_eq, decide_eq_false_iff_not, not_true_eq_false, Heap.set_same, setCells_row, Heap.set_set, Option.isNone_some, Option.isNone_none, ↓SopsL_app, ↓SopsL_app0, ↓SopsL_app2, opAt_app0, opAt_app1, opAt_appn, opAt_app2, bl25, bl63, ca11, ca24, ca25, ca26, en28, eq28, fa25_1, fa25_2, fa25_3, fa25_4, fa25_5, fa25_6, fa25_7, fa25_8, fa63_1, lo25, lo4, mi38, nn28, nq28, pl25_0, pl25_1, pl25_2, pl25_3, pl25_4, pl25_5, pl25_6, pl25_7, pl25_8, pl63_0, pl63_1, sz25, sz3, sz9, zo25, zo63, f1, f5, hY2, cellAt_row, resOf_c, resOf_ct, resOf_cc, resC_ptr, lk_row hl2]
        exact ⟨H, le_set_none hHY hb2, hE hn⟩
      | true =>
        have hn : unpB l = some D := by rw [hp, if_pos]; rw [hbad, hm, heq]; rfl
        have h := hK D hn
        rw [← hD] at h
        simp (maxSteps := 400000) (dsimp := false) only [↓EP1, ↓EP2, ↓EP3, ↓EP4, ↓EP5, ↓EP6, ↓EP7, ↓EP8, EQ1, EQ2, EQ3, EQ4, EQ5, EQ6, EQ7, EQ8, EQ9, EQ10, ne_eq, Nat.reduceEqDiff, not_false_eq_true, Option.bind_some, Option.map_some, Option.bind_none, Option.map_none, List.getElem?_cons_zero, List.getElem?_cons_succ, List.size_toArray, List.length_cons, List.length_nil, List.all_cons, List.all_nil, Value.oneCell', List.map_toArray, List.map_cons, List.map_nil, List.toList_toArray, List.cons_append, List.nil_append, List.append_nil, List.set_cons_zero, List.set_cons_succ, Bool.and_self, Bool.and_true, Bool.true_and, Nat.reduceAdd, Nat.reduceMul, Nat.reduceLeDiff, Nat.reduceLT, Nat.zero_add, Nat.add_zero, Nat.one_mul, Nat.zero_mul, Nat.mul_one, if_true, if_false, true_and, and_true, and_self, Bool.false_eq_true, ite_true, ite_false, reduceCtorEq, Int.reduceLT, Int.reduceLE, Int.reduceEq, Int.reduceNe, Int.reduceBNe, Int.reduceBEq, Int.reduceToNat, Option.some.injEq, exists_eq_left', exists_eq_left, Nat.reduceSub, Bool.not_true, Bool.not_false, decide_true, decide_false, beq_self_eq_true, List.contains_nil, List.contains_cons, Bool.or_false, Bool.or_true, Bool.false_or, Bool.true_or, Nat.reduceBEq, forall_const, imp_self, true_imp_iff, false_imp_iff, decide_eq_true_eq, decide_eq_false_iff_not, not_true_eq_false, Heap.set_same, setCells_row, Heap.set_set, Option.isNone_some, Option.isNone_none, ↓SopsL_app, ↓SopsL_app0, ↓SopsL_app2, opAt_app0, opAt_app1, opAt_appn, opAt_app2, bl25, bl63, ca11, ca24, ca25, ca26, en28, eq28, fa25_1, fa25_2, fa25_3, fa25_4, fa25_5, fa25_6, fa25_7, fa25_8, fa63_1, lo25, lo4, mi38, nn28, nq28, pl25_0, pl25_1, pl25_2, pl25_3, pl25_4, pl25_5, pl25_6, pl25_7, pl25_8, pl63_0, pl63_1, sz25, sz3, sz9, zo25, zo63, f1, f5, hY2, cellAt_row, resOf_c, resOf_ct, resOf_cc, resC_ptr, lk_row hl2]
        exact ⟨H, le_set_none hHY hb2, h⟩
end Go.Proofs.Ytohgeigmdgpegaa
