/- The engine's eighteenth part: '==' of structs of plain fields and of arrays of numbers. Conditions: none. -/
import Derived.Test.YtgnepkppmjabnaaEng17
import Derived.Laws.StructEq
import Derived.ChangeKeysEq
namespace Go.Proofs.Ytgnepkppmjabnaa.Eng
open Go.RowKit
set_option linter.unusedVariables false
set_option linter.unusedSimpArgs false
/-- Two structs' fields, one by one: are they equal? -/
def FieldsEq (P : Program) (xs ys : Array Value) : List Field → List Bool → Prop
  | [], [] => True
  | f :: fs, r :: rs => f.name ≠ "_" ∧ (∃ a b, xs[f.offset]? = some a ∧ ys[f.offset]? = some b ∧ P.plainKey f.type = true ∧ ∀ d w, (Op.equalIn (d + 1) f.type a b).run P w = .ok r w) ∧ FieldsEq P xs ys fs rs
  | _, _ => False
section
variable {P : Program}
theorem run_fieldsEq (xs ys : Array Value) (d : Nat) (w : World) : ∀ (fs : List Field) (rs : List Bool), FieldsEq P xs ys fs rs → (Op.eqFields (d + 1) xs ys fs).run P w = .ok (rs.all id) w
  | [], [], _ => by simp [Op.eqFields]
  | [], _ :: _, h => h.elim
  | _ :: _, [], h => h.elim
  | f :: fs, r :: rs, ⟨hn, ⟨a, b, ha, hb, hp, he⟩, h⟩ => by
    have ih := run_fieldsEq xs ys d w fs rs h
    simp only [Op.eqFields, hn, ne_eq, not_false_eq_true, if_true, Sem.run_bind, run_part_plain w hp ha, run_part_plain w hp hb, Result.andThen_ok, he d w]
    cases r with
    | true => simpa using ih
    | false => simp
theorem eqr_struct {t : TypeId} {xs ys : Array Value} {rs : List Bool} (ht : P.underlying t = some (.struct (P.fieldsOf t))) (hp : P.stoodInHeld t = false) (h : FieldsEq P xs ys (P.fieldsOf t).toList rs) : EqR P t (.agg xs) (.agg ys) (rs.all id) := fun d w => by
  rw [run_equalIn_struct w (d + 1) t xs ys ht hp]
  exact run_fieldsEq xs ys d w _ _ h
theorem fieldInt {t : TypeId} {k k' : IntKind} {a b : Int} (h : P.underlying t = some (.int k')) : ∀ d w, (Op.equalIn (d + 1) t (.int k a) (.int k b)).run P w = .ok (a == b) w := fun d w => by simp [Op.equalIn, run_underlying h]
theorem fieldBool {t : TypeId} {a b : Bool} (h : P.underlying t = some .bool) : ∀ d w, (Op.equalIn (d + 1) t (.bool a) (.bool b)).run P w = .ok (a == b) w := fun d w => by simp [Op.equalIn, run_underlying h]
theorem fieldStr {t : TypeId} {a b : ByteArray} (h : P.underlying t = some .string) : ∀ d w, (Op.equalIn (d + 1) t (.string a) (.string b)).run P w = .ok (a.toList == b.toList) w := fun d w => by
  simp only [Op.equalIn, Sem.run_bind, run_underlying h, Result.andThen_ok, Sem.run_pure, beq_toListBytes]
theorem noGuard_agg {t : TypeId} {x y : Operand} {a b : Array Value} (h : P.eqGuardType P.depth t = false) : NoGuard P t x y (.agg a) (.agg b) := fun op w => by
  cases op <;> simp [eqGuard, h]
theorem BinK_eq_agg {t : TypeId} {x y : Operand} {K : Value → Prop} {a b : Array Value} {r : Bool} (hg : P.eqGuardType P.depth t = false) (h : EqR P t (.agg a) (.agg b) r) : BinK P .eql t x y (.agg a) (.agg b) K ↔ K (.bool r) :=
  BinK_eq_of h (noGuard_agg hg) fun w => by simp [binOp]
theorem BinK_ne_agg {t : TypeId} {x y : Operand} {K : Value → Prop} {a b : Array Value} {r : Bool} (hg : P.eqGuardType P.depth t = false) (h : EqR P t (.agg a) (.agg b) r) : BinK P .neq t x y (.agg a) (.agg b) K ↔ K (.bool (!r)) :=
  BinK_ne_of h (noGuard_agg hg) fun w => by simp [binOp]
theorem run_itemsEq {e : TypeId} (hp : P.plainKey e = true) (k : IntKind) (k' : IntKind) (he : P.underlying e = some (.int k')) (xs ys : List Int) (d : Nat) (w : World) : ∀ (m i : Nat), i + m = xs.length → i + m = ys.length →
    (Op.eqItems (d + 1) e 1 (xs.map (Value.int k)).toArray (ys.map (Value.int k)).toArray (List.range' i m)).run P w = .ok (xs.drop i == ys.drop i) w := by
  intro m
  induction m with
  | zero =>
    intro i hx hy
    rw [List.drop_of_length_le (by omega), List.drop_of_length_le (by omega)]
    simp [Op.eqItems]
  | succ m ih =>
    intro i hx hy
    have h1 : ((xs.map (Value.int k)).toArray)[i * 1]? = some (.int k (xs[i]'(by omega))) := by simp [List.getElem?_eq_getElem (show i < xs.length by omega)]
    have h2 : ((ys.map (Value.int k)).toArray)[i * 1]? = some (.int k (ys[i]'(by omega))) := by simp [List.getElem?_eq_getElem (show i < ys.length by omega)]
    rw [List.range'_succ]
    simp only [Op.eqItems, Sem.run_bind, run_part_plain w hp h1, run_part_plain w hp h2, Result.andThen_ok, fieldInt (P := P) he d w]
    rw [List.drop_eq_getElem_cons (show i < xs.length by omega), List.drop_eq_getElem_cons (show i < ys.length by omega)]
    have := ih (i + 1) (by omega) (by omega)
    have e : (xs[i]'(by omega) :: xs.drop (i + 1) == ys[i]'(by omega) :: ys.drop (i + 1)) = ((xs[i]'(by omega) == ys[i]'(by omega)) && (xs.drop (i + 1) == ys.drop (i + 1))) := rfl
    rw [e]
    cases (xs[i]'(by omega) == ys[i]'(by omega)) with
    | true =>
      simp only [Bool.not_true, Bool.false_eq_true, if_false, this, Bool.true_and]
    | false => simp only [Bool.not_false, if_true, Sem.run_pure, Bool.false_and]
theorem eqr_ints {t e : TypeId} {n : Nat} {k k' : IntKind} (hu : P.underlying t = some (.array n e)) (he : P.underlying e = some (.int k')) (hc : P.cellsOf e = 1) (hp : P.plainKey e = true) {xs ys : List Int} (hx : xs.length = n) (hy : ys.length = n) :
    EqR P t (.agg (xs.map (Value.int k)).toArray) (.agg (ys.map (Value.int k)).toArray) (xs == ys) := fun d w => by
  obtain ⟨i, hi⟩ := info_of_under he
  have := run_equalIn_array (P := P) (d + 1) (xs.map (Value.int k)).toArray (ys.map (Value.int k)).toArray hu hi (w := w)
  rw [this, hc]
  have h := run_itemsEq hp k k' he xs ys d w n 0 (by omega) (by omega)
  simp only [List.drop_zero, ← List.range_eq_range'] at h
  exact h
end
theorem le_set_none {H H' : Heap} {b : Nat} {it : Item} (hl : H.le H') (hb : H b = none) : H.le (H'.set b it) := fun k jt hk => by
  have hne : k ≠ b := fun e => by subst e; rw [hb] at hk; cases hk
  rw [Heap.set_ne hne]
  exact hl k jt hk
/-- A loop whose rounds are counted, memory as it was. -/
theorem S_uptoC {P : Program} {w0 : World} {N : Nat} {H : Heap} {c : Code} {s : Slots} {Q : Post} (L : List Nat) (n : Nat) (I : Nat → Slots → Prop) (h0 : I 0 s)
    (round : ∀ k s', k ≤ n → Agree L s' s → I k s' → S P w0 N c s' H (thenQ (fun s2 H2 => k < n ∧ Agree L s2 s ∧ H.le H2 ∧ I (k + 1) s2) Q)) : S P w0 N (.loop c) s H Q :=
  S_uptoL L n (fun k s' H' => H' = H ∧ I k s') ⟨rfl, h0⟩ fun k s' H' hk ha h => by
    obtain ⟨rfl, hI⟩ := h
    exact (round k s' hk ha hI).mono fun e s2 H2 q => by
      cases e <;> first
        | (obtain ⟨h1, h2, h3, h4⟩ := q; exact ⟨h1, h2, H', h3, rfl, h4⟩)
        | exact q
/-! ### Results that lie in memory -/
section
variable {P : Program} {w0 : World} {s : Slots} {H : Heap}
def resC (P : Program) (w0 : World) (H : Heap) (t : TypeId) (v : Value) : Option Value :=
  match v with
  | .pointer (some ⟨b, o, none⟩) => loadOf P w0 H t b o
  | _ => none
theorem resC_ptr {t : TypeId} {b o : Nat} : resC P w0 H t (.pointer (some ⟨b, o, none⟩)) = loadOf P w0 H t b o := rfl
theorem resOne_cell {a t : Nat} : resOne P w0 s H (.cell a t) = resC P w0 H t (s a) := rfl
theorem resOne_tmp {u : Nat} : resOne P w0 s H (.tmp u) = some (s u) := rfl
theorem resOf_c {a t : Nat} : resOf P w0 [.cell a t] s H = resC P w0 H t (s a) := by
  unfold resOf
  simp only [List.mapM_cons, List.mapM_nil, resOne_cell]
  cases resC P w0 H t (s a) <;> rfl
theorem resOf_ct {a t u : Nat} : resOf P w0 [.cell a t, .tmp u] s H = (resC P w0 H t (s a)).map fun v => .tuple #[v, s u] := by
  unfold resOf
  simp only [List.mapM_cons, List.mapM_nil, resOne_cell, resOne_tmp]
  cases resC P w0 H t (s a) <;> rfl
theorem resOf_cc {a t b u : Nat} : resOf P w0 [.cell a t, .cell b u] s H = (resC P w0 H t (s a)).bind fun v => (resC P w0 H u (s b)).map fun v2 => .tuple #[v, v2] := by
  unfold resOf
  simp only [List.mapM_cons, List.mapM_nil, resOne_cell]
  cases resC P w0 H t (s a) <;> cases resC P w0 H u (s b) <;> rfl
end
end Go.Proofs.Ytgnepkppmjabnaa.Eng
