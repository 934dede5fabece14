/- Orders, plain laws: who is above whom; sets. Conditions: none. -/
import Derived.Test.YtgnepkppmjabnaaO1
namespace Go.Proofs.Ytgnepkppmjabnaa
set_option linter.unusedVariables false
set_option linter.unusedSimpArgs false

def rowsOf (n : Nat) (ps : List (Nat × Nat)) : List Nat := closeTo n (baseOf n ps) n
def circ (d : List Nat) (n : Nat) : Bool := (List.range n).any fun i => bitAt d i i
def downOf (n : Nat) (ps : List (Nat × Nat)) : List Nat := selfTo (rowsOf n ps) n
section
variable {n : Nat} {ps : List (Nat × Nat)} (h : ∀ p ∈ ps, p.1 < n ∧ p.2 < n)
include h
theorem rows_len : (rowsOf n ps).length = n := by rw [rowsOf, closeTo_len, baseOf_len n ps fun p hp => (h p hp).1]
theorem down_len : (downOf n ps).length = n := by rw [downOf, selfTo_len, rows_len h]
theorem rows_closed : Closed (baseOf n ps) (rowsOf n ps) := by
  have hl := baseOf_len n ps fun p hp => (h p hp).1
  have := closed_all (baseOf n ps) fun i k hb => by
    rw [baseOf_bit n ps (fun p hp => (h p hp).1), List.any_eq_true] at hb
    obtain ⟨p, hp, hb⟩ := hb
    simp only [Bool.and_eq_true, decide_eq_true_eq] at hb
    rw [hl, ← hb.2]
    exact (h p hp).2
  rw [hl] at this
  exact this
theorem rows_least (T : Nat → Nat → Prop) (h1 : ∀ p ∈ ps, T p.1 p.2) (h2 : ∀ i j k, T i j → T j k → T i k) : ∀ i k, bitAt (rowsOf n ps) i k = true → T i k := by
  refine (rows_closed h).least T (fun i k hb => ?_) h2
  rw [baseOf_bit n ps (fun p hp => (h p hp).1), List.any_eq_true] at hb
  obtain ⟨p, hp, hb⟩ := hb
  simp only [Bool.and_eq_true, decide_eq_true_eq] at hb
  obtain ⟨rfl, rfl⟩ := hb
  exact h1 p hp
theorem rows_holds (p : Nat × Nat) (hp : p ∈ ps) : bitAt (rowsOf n ps) p.1 p.2 = true := by
  refine (rows_closed h).holds _ _ ?_
  rw [baseOf_bit n ps (fun p hp => (h p hp).1), List.any_eq_true]
  exact ⟨p, hp, by simp⟩
theorem rows_in (i k : Nat) (hb : bitAt (rowsOf n ps) i k = true) : i < n ∧ k < n :=
  rows_least h (fun i k => i < n ∧ k < n) h (fun _ _ _ a b => ⟨a.1, b.2⟩) i k hb
theorem down_iff (i k : Nat) : bitAt (downOf n ps) i k = true ↔ bitAt (rowsOf n ps) i k = true ∨ (i < n ∧ i = k) := by
  rw [downOf, selfTo_bit _ _ (by rw [rows_len h]; exact Nat.le_refl _)]
  simp
theorem down_in (i k : Nat) (hb : bitAt (downOf n ps) i k = true) : i < n ∧ k < n := by
  rcases (down_iff h i k).1 hb with hb | ⟨a, rfl⟩
  · exact rows_in h i k hb
  · exact ⟨a, a⟩
theorem down_self (i : Nat) (hi : i < n) : bitAt (downOf n ps) i i = true := (down_iff h i i).2 (.inr ⟨hi, rfl⟩)
theorem down_holds (p : Nat × Nat) (hp : p ∈ ps) : bitAt (downOf n ps) p.1 p.2 = true := (down_iff h _ _).2 (.inl (rows_holds h p hp))
theorem down_trans (i j k : Nat) (a : bitAt (downOf n ps) i j = true) (b : bitAt (downOf n ps) j k = true) : bitAt (downOf n ps) i k = true := by
  rcases (down_iff h i j).1 a with a | ⟨a, rfl⟩
  · rcases (down_iff h j k).1 b with b | ⟨b, rfl⟩
    · exact (down_iff h i k).2 (.inl ((rows_closed h).trans i j k a b))
    · exact (down_iff h i j).2 (.inl a)
  · exact b
theorem rows_lt (hn : n ≤ 32) : ∀ x ∈ rowsOf n ps, x < 4294967296 :=
  closeTo_lt n 32 _ (base_lt ps 32 (fun p hp => by have := (h p hp).2; omega) _ fun x hx => by rw [(List.mem_replicate.1 hx).2]; decide) n
theorem down_lt (hn : n ≤ 32) : ∀ x ∈ downOf n ps, x < 4294967296 := selfTo_lt _ 32 (rows_lt h hn) n hn
end
theorem circ_false {d : List Nat} {n : Nat} (h : ∀ i, i < n → bitAt d i i = false) : circ d n = false := by
  unfold circ
  rw [List.any_eq_false]
  intro i hi
  rw [h i (List.mem_range.1 hi)]
  exact Bool.false_ne_true
/-- Pairs whose first number is the less one. -/
structure Ups (n : Nat) (ps : List (Nat × Nat)) : Prop where
  all : ∀ p ∈ ps, p.1 < p.2 ∧ p.2 < n
theorem Ups.in_ {n : Nat} {ps : List (Nat × Nat)} (h : Ups n ps) : ∀ p ∈ ps, p.1 < n ∧ p.2 < n := fun p hp => by have := h.all p hp; omega
theorem Ups.rows {n : Nat} {ps : List (Nat × Nat)} (h : Ups n ps) (i k : Nat) (hb : bitAt (rowsOf n ps) i k = true) : i < k :=
  rows_least h.in_ (fun i k => i < k) (fun p hp => (h.all p hp).1) (fun _ _ _ a b => Nat.lt_trans a b) i k hb
theorem Ups.circ {n : Nat} {ps : List (Nat × Nat)} (h : Ups n ps) : circ (rowsOf n ps) n = false := circ_false fun i hi => by
  cases hb : bitAt (rowsOf n ps) i i with
  | false => rfl
  | true => have := h.rows i i hb; omega
theorem Ups.anti {n : Nat} {ps : List (Nat × Nat)} (h : Ups n ps) (i k : Nat) (a : bitAt (downOf n ps) i k = true) (b : bitAt (downOf n ps) k i = true) : i = k := by
  rcases (down_iff h.in_ i k).1 a with a | ⟨_, a⟩
  · rcases (down_iff h.in_ k i).1 b with b | ⟨_, b⟩
    · have := h.rows _ _ a
      have := h.rows _ _ b
      omega
    · exact b.symm
  · exact a
theorem in_snoc {n : Nat} {ps : List (Nat × Nat)} {a b : Nat} (h : ∀ p ∈ ps, p.1 < n ∧ p.2 < n) (ha : a < n) (hb : b < n) : ∀ p ∈ ps ++ [(a, b)], p.1 < n ∧ p.2 < n := fun p hp => by
  rcases List.mem_append.1 hp with hp | hp
  · exact h p hp
  · rw [List.mem_singleton.1 hp]; exact ⟨ha, hb⟩
theorem Ups.snoc {n : Nat} {ps : List (Nat × Nat)} {a b : Nat} (h : Ups n ps) (hab : a < b) (hb : b < n) : Ups n (ps ++ [(a, b)]) := ⟨fun p hp => by
  rcases List.mem_append.1 hp with hp | hp
  · exact h.all p hp
  · rw [List.mem_singleton.1 hp]; exact ⟨hab, hb⟩⟩
section
variable {n : Nat} {ps : List (Nat × Nat)} (h : ∀ p ∈ ps, p.1 < n ∧ p.2 < n) {a b : Nat} (ha : a < n) (hb : b < n)
include h ha hb
theorem grow_new : bitAt (downOf n (ps ++ [(a, b)])) a b = true := down_holds (in_snoc h ha hb) (a, b) (by simp)
theorem grow_more (i k : Nat) (x : bitAt (downOf n ps) i k = true) : bitAt (downOf n (ps ++ [(a, b)])) i k = true := by
  rcases (down_iff h i k).1 x with x | ⟨hi, rfl⟩
  · refine (down_iff (in_snoc h ha hb) i k).2 (.inl ?_)
    exact rows_least h (fun i k => bitAt (rowsOf n (ps ++ [(a, b)])) i k = true) (fun p hp => rows_holds (in_snoc h ha hb) p (by simp [hp])) (fun i j k => (rows_closed (in_snoc h ha hb)).trans i j k) i k x
  · exact down_self (in_snoc h ha hb) i hi
theorem grow_less (hw : bitAt (downOf n ps) a b = true) (i k : Nat) (x : bitAt (downOf n (ps ++ [(a, b)])) i k = true) : bitAt (downOf n ps) i k = true := by
  rcases (down_iff (in_snoc h ha hb) i k).1 x with x | ⟨hi, rfl⟩
  · refine rows_least (in_snoc h ha hb) (fun i k => bitAt (downOf n ps) i k = true) (fun p hp => ?_) (fun i j k => down_trans h i j k) i k x
    rcases List.mem_append.1 hp with hp | hp
    · exact down_holds h p hp
    · rw [List.mem_singleton.1 hp]; exact hw
  · exact down_self h i hi
theorem grow_over (i k : Nat) (x : bitAt (downOf n (ps ++ [(a, b)])) i k = true) (hn : ¬ bitAt (downOf n ps) i k = true) : bitAt (downOf n ps) i a = true ∧ bitAt (downOf n ps) b k = true := by
  rcases (down_iff (in_snoc h ha hb) i k).1 x with x | ⟨hi, rfl⟩
  · have := rows_least (in_snoc h ha hb) (fun i k => bitAt (downOf n ps) i k = true ∨ (bitAt (downOf n ps) i a = true ∧ bitAt (downOf n ps) b k = true)) (fun p hp => ?_) (fun i j k x y => ?_) i k x
    · exact this.resolve_left hn
    · rcases List.mem_append.1 hp with hp | hp
      · exact .inl (down_holds h p hp)
      · rw [List.mem_singleton.1 hp]; exact .inr ⟨down_self h a ha, down_self h b hb⟩
    · rcases x with x | ⟨x1, x2⟩
      · rcases y with y | ⟨y1, y2⟩
        · exact .inl (down_trans h i j k x y)
        · exact .inr ⟨down_trans h i j a x y1, y2⟩
      · rcases y with y | ⟨y1, y2⟩
        · exact .inr ⟨x1, down_trans h b j k x2 y⟩
        · exact .inr ⟨x1, y2⟩
  · exact (hn (down_self h i hi)).elim
end

/-! ### Sets -/
def downTo (d : List Nat) (s m : Nat) : Nat := (List.range m).foldl (fun o i => if s.testBit i = true then o ||| d.getD i 0 else o) 0
def upTo (d : List Nat) (s m : Nat) : Nat := (List.range m).foldl (fun o i => if d.getD i 0 &&& s = 0 then o else o ||| 2 ^ i) 0
theorem downTo_succ (d : List Nat) (s m : Nat) : downTo d s (m + 1) = if s.testBit m = true then downTo d s m ||| d.getD m 0 else downTo d s m := by simp [downTo, List.range_succ]
theorem upTo_succ (d : List Nat) (s m : Nat) : upTo d s (m + 1) = if d.getD m 0 &&& s = 0 then upTo d s m else upTo d s m ||| 2 ^ m := by simp [upTo, List.range_succ]
theorem downTo_bit (d : List Nat) (s k : Nat) : ∀ m, (downTo d s m).testBit k = true ↔ ∃ i, i < m ∧ s.testBit i = true ∧ bitAt d i k = true
  | 0 => by simp [downTo]
  | m + 1 => by
    rw [downTo_succ]
    have ih := downTo_bit d s k m
    by_cases h : s.testBit m = true
    · rw [if_pos h, Nat.testBit_or, Bool.or_eq_true, ih]
      constructor
      · rintro (⟨i, a, b⟩ | b)
        · exact ⟨i, by omega, b⟩
        · exact ⟨m, by omega, h, b⟩
      · rintro ⟨i, a, b, c⟩
        by_cases e : i = m
        · subst e; exact .inr c
        · exact .inl ⟨i, by omega, b, c⟩
    · rw [if_neg h, ih]
      constructor
      · rintro ⟨i, a, b⟩; exact ⟨i, by omega, b⟩
      · rintro ⟨i, a, b, c⟩
        by_cases e : i = m
        · subst e; exact (h b).elim
        · exact ⟨i, by omega, b, c⟩
theorem and_zero_iff (x y : Nat) : x &&& y = 0 ↔ ∀ k, ¬ (x.testBit k = true ∧ y.testBit k = true) := by
  constructor
  · intro h k hk
    have : (x &&& y).testBit k = true := by rw [Nat.testBit_and, hk.1, hk.2]; rfl
    rw [h] at this
    simp at this
  · intro h
    refine Nat.eq_of_testBit_eq fun k => ?_
    rw [Nat.testBit_and, Nat.zero_testBit]
    have := h k
    cases hx : x.testBit k <;> cases hy : y.testBit k <;> simp_all
theorem upTo_bit (d : List Nat) (s k : Nat) : ∀ m, (upTo d s m).testBit k = true ↔ k < m ∧ ∃ j, bitAt d k j = true ∧ s.testBit j = true
  | 0 => by simp [upTo]
  | m + 1 => by
    rw [upTo_succ]
    have ih := upTo_bit d s k m
    by_cases h : d.getD m 0 &&& s = 0
    · rw [if_pos h, ih]
      have h2 := (and_zero_iff _ _).1 h
      constructor
      · rintro ⟨a, b⟩; exact ⟨by omega, b⟩
      · rintro ⟨a, j, b, c⟩
        by_cases e : k = m
        · subst e; exact (h2 j ⟨b, c⟩).elim
        · exact ⟨by omega, j, b, c⟩
    · rw [if_neg h, Nat.testBit_or, Bool.or_eq_true, ih, Nat.testBit_two_pow]
      constructor
      · rintro (⟨a, b⟩ | e)
        · exact ⟨by omega, b⟩
        · have e : m = k := by simpa using e
          subst e
          refine ⟨by omega, ?_⟩
          apply Classical.byContradiction
          intro hn
          exact h ((and_zero_iff _ _).2 fun j hj => hn ⟨j, hj.1, hj.2⟩)
      · rintro ⟨a, b⟩
        by_cases e : k = m
        · subst e; exact .inr (by simp)
        · exact .inl ⟨by omega, b⟩
end Go.Proofs.Ytgnepkppmjabnaa
