/- Orders, plain laws: rows of bits that are closed by way of each number in turn. Conditions: none. -/
import Derived.Test.YtgnepkppmjabnaaLib
namespace Go.Proofs.Ytgnepkppmjabnaa
set_option linter.unusedVariables false
set_option linter.unusedSimpArgs false

def bitAt (d : List Nat) (i k : Nat) : Bool := (d.getD i 0).testBit k
def orAt (d : List Nat) (i m : Nat) : List Nat := d.set i (d.getD i 0 ||| m)
theorem orAt_len (d : List Nat) (i m : Nat) : (orAt d i m).length = d.length := by simp [orAt]
theorem bitAt_orAt (d : List Nat) (i m j k : Nat) (hi : i < d.length) : bitAt (orAt d i m) j k = (bitAt d j k || (decide (i = j) && m.testBit k)) := by
  unfold bitAt orAt
  simp only [List.getD_eq_getElem?_getD, List.getElem?_set]
  by_cases h : i = j
  · subst h
    simp [hi, Nat.testBit_or]
  · simp [h]
def baseOf (n : Nat) (ps : List (Nat × Nat)) : List Nat := ps.foldl (fun d p => orAt d p.1 (2 ^ p.2)) (List.replicate n 0)
def wayI (w : Nat) (d : List Nat) (i : Nat) : List Nat := if bitAt d i w = true then orAt d i (d.getD w 0) else d
def wayTo (w : Nat) (d : List Nat) (m : Nat) : List Nat := (List.range m).foldl (wayI w) d
def closeTo (n : Nat) (d : List Nat) (m : Nat) : List Nat := (List.range m).foldl (fun d w => wayTo w d n) d
def selfTo (d : List Nat) (m : Nat) : List Nat := (List.range m).foldl (fun d i => orAt d i (2 ^ i)) d
theorem wayTo_succ (w : Nat) (d : List Nat) (m : Nat) : wayTo w d (m + 1) = wayI w (wayTo w d m) m := by simp [wayTo, List.range_succ]
theorem closeTo_succ (n : Nat) (d : List Nat) (m : Nat) : closeTo n d (m + 1) = wayTo m (closeTo n d m) n := by simp [closeTo, List.range_succ]
theorem selfTo_succ (d : List Nat) (m : Nat) : selfTo d (m + 1) = orAt (selfTo d m) m (2 ^ m) := by simp [selfTo, List.range_succ]
theorem wayI_len (w : Nat) (d : List Nat) (i : Nat) : (wayI w d i).length = d.length := by unfold wayI; split <;> simp [orAt_len]
theorem wayTo_len (w : Nat) (d : List Nat) : ∀ m, (wayTo w d m).length = d.length
  | 0 => rfl
  | m + 1 => by rw [wayTo_succ, wayI_len, wayTo_len w d m]
theorem closeTo_len (n : Nat) (d : List Nat) : ∀ m, (closeTo n d m).length = d.length
  | 0 => rfl
  | m + 1 => by rw [closeTo_succ, wayTo_len, closeTo_len n d m]
theorem selfTo_len (d : List Nat) : ∀ m, (selfTo d m).length = d.length
  | 0 => rfl
  | m + 1 => by rw [selfTo_succ, orAt_len, selfTo_len d m]
theorem base_step (ps : List (Nat × Nat)) : ∀ (d : List Nat), (∀ p ∈ ps, p.1 < d.length) →
    (ps.foldl (fun d p => orAt d p.1 (2 ^ p.2)) d).length = d.length ∧ ∀ i k, bitAt (ps.foldl (fun d p => orAt d p.1 (2 ^ p.2)) d) i k = (bitAt d i k || ps.any fun p => decide (p.1 = i) && decide (p.2 = k)) := by
  induction ps with
  | nil => intro d _; simp
  | cons p ps ih =>
    intro d h
    have hp := h p List.mem_cons_self
    obtain ⟨h1, h2⟩ := ih (orAt d p.1 (2 ^ p.2)) fun q hq => by rw [orAt_len]; exact h q (List.mem_cons_of_mem _ hq)
    simp only [List.foldl_cons]
    refine ⟨by rw [h1, orAt_len], fun i k => ?_⟩
    rw [h2, bitAt_orAt _ _ _ _ _ hp, Nat.testBit_two_pow, List.any_cons, Bool.or_assoc]
theorem bitAt_replicate (n i k : Nat) : bitAt (List.replicate n 0) i k = false := by
  unfold bitAt
  rw [List.getD_eq_getElem?_getD, List.getElem?_replicate]
  split <;> simp
theorem baseOf_len (n : Nat) (ps : List (Nat × Nat)) (h : ∀ p ∈ ps, p.1 < n) : (baseOf n ps).length = n := by
  have := (base_step ps (List.replicate n 0) (by simpa using h)).1
  simpa [baseOf] using this
theorem baseOf_bit (n : Nat) (ps : List (Nat × Nat)) (h : ∀ p ∈ ps, p.1 < n) (i k : Nat) : bitAt (baseOf n ps) i k = ps.any fun p => decide (p.1 = i) && decide (p.2 = k) := by
  have := (base_step ps (List.replicate n 0) (by simpa using h)).2 i k
  rw [bitAt_replicate, Bool.false_or] at this
  exact this
theorem wayTo_bit (w : Nat) (d : List Nat) : ∀ m, m ≤ d.length → ∀ i k, bitAt (wayTo w d m) i k = (bitAt d i k || (decide (i < m) && bitAt d i w && bitAt d w k))
  | 0, _, i, k => by simp [wayTo]
  | m + 1, h, i, k => by
    have ih := wayTo_bit w d m (by omega)
    rw [wayTo_succ]
    unfold wayI
    have hmw : bitAt (wayTo w d m) m w = bitAt d m w := by rw [ih]; simp
    have hw : ∀ k, ((wayTo w d m).getD w 0).testBit k = bitAt d w k := fun k => by
      have := ih w k
      unfold bitAt at this ⊢
      rw [this]
      cases (d.getD w 0).testBit k <;> simp
    rw [hmw]
    by_cases hb : bitAt d m w = true
    · rw [if_pos hb, bitAt_orAt _ _ _ _ _ (by rw [wayTo_len]; omega), ih, hw]
      by_cases e : m = i
      · subst e; simp [hb]
      · have : (decide (i < m + 1)) = decide (i < m) := by rw [decide_eq_decide]; omega
        simp [e, this]
    · rw [if_neg hb, ih]
      by_cases e : m = i
      · subst e; simp [hb]
      · have : (decide (i < m + 1)) = decide (i < m) := by rw [decide_eq_decide]; omega
        simp [this]
theorem bitAt_far (d : List Nat) (i k : Nat) (h : d.length ≤ i) : bitAt d i k = false := by
  unfold bitAt
  rw [List.getD_eq_getElem?_getD, List.getElem?_eq_none h]
  simp
theorem way_bit (w : Nat) (d : List Nat) (i k : Nat) : bitAt (wayTo w d d.length) i k = (bitAt d i k || (bitAt d i w && bitAt d w k)) := by
  rw [wayTo_bit w d _ (Nat.le_refl _)]
  by_cases h : i < d.length
  · simp [h]
  · simp [bitAt_far d i _ (Nat.le_of_not_lt h)]
/-- What the closing gives: it holds what was there; it is transitive; it is within all that is transitive and holds that. -/
structure Closed (d r : List Nat) : Prop where
  holds : ∀ i k, bitAt d i k = true → bitAt r i k = true
  trans : ∀ i j k, bitAt r i j = true → bitAt r j k = true → bitAt r i k = true
  least : ∀ T : Nat → Nat → Prop, (∀ i k, bitAt d i k = true → T i k) → (∀ i j k, T i j → T j k → T i k) → ∀ i k, bitAt r i k = true → T i k
theorem closed_upto (d : List Nat) : ∀ m, (∀ i k, bitAt d i k = true → bitAt (closeTo d.length d m) i k = true) ∧
    (∀ j, j < m → ∀ i k, bitAt (closeTo d.length d m) i j = true → bitAt (closeTo d.length d m) j k = true → bitAt (closeTo d.length d m) i k = true) ∧
    ∀ T : Nat → Nat → Prop, (∀ i k, bitAt d i k = true → T i k) → (∀ i j k, T i j → T j k → T i k) → ∀ i k, bitAt (closeTo d.length d m) i k = true → T i k
  | 0 => ⟨fun i k h => h, fun j h => by omega, fun T h _ i k hb => h i k hb⟩
  | m + 1 => by
    obtain ⟨h1, h2, h3⟩ := closed_upto d m
    have hs : ∀ i k, bitAt (closeTo d.length d (m + 1)) i k = (bitAt (closeTo d.length d m) i k || (bitAt (closeTo d.length d m) i m && bitAt (closeTo d.length d m) m k)) := fun i k => by
      rw [closeTo_succ]
      have := way_bit m (closeTo d.length d m) i k
      rwa [closeTo_len] at this
    generalize closeTo d.length d m = c at *
    generalize closeTo d.length d (m + 1) = c' at *
    refine ⟨fun i k h => by rw [hs, h1 i k h]; rfl, fun j hj i k hij hjk => ?_, fun T ht tt i k h => ?_⟩
    · rw [hs] at hij hjk ⊢
      simp only [Bool.or_eq_true, Bool.and_eq_true] at hij hjk ⊢
      by_cases e : j = m
      · subst e
        have a : bitAt c i j = true := hij.elim id (·.1)
        have b : bitAt c j k = true := hjk.elim id (·.2)
        exact .inr ⟨a, b⟩
      · have hj : j < m := by omega
        rcases hij with a | ⟨a, a2⟩ <;> rcases hjk with b | ⟨b, b2⟩
        · exact .inl (h2 j hj i k a b)
        · exact .inr ⟨h2 j hj i m a b, b2⟩
        · exact .inr ⟨a, h2 j hj m k a2 b⟩
        · exact .inr ⟨a, b2⟩
    · rw [hs] at h
      simp only [Bool.or_eq_true, Bool.and_eq_true] at h
      rcases h with h | ⟨a, b⟩
      · exact h3 T ht tt i k h
      · exact tt i m k (h3 T ht tt i m a) (h3 T ht tt m k b)
theorem closed_all (d : List Nat) (hw : ∀ i k, bitAt d i k = true → k < d.length) : Closed d (closeTo d.length d d.length) := by
  obtain ⟨h1, h2, h3⟩ := closed_upto d d.length
  refine ⟨h1, fun i j k hij hjk => h2 j ?_ i k hij hjk, h3⟩
  refine h3 (fun i j => j < d.length) (fun i k h => hw i k h) (fun _ _ _ _ h => h) i j hij
theorem selfTo_bit (d : List Nat) : ∀ m, m ≤ d.length → ∀ i k, bitAt (selfTo d m) i k = (bitAt d i k || (decide (i < m) && decide (i = k)))
  | 0, _, i, k => by simp [selfTo]
  | m + 1, h, i, k => by
    rw [selfTo_succ, bitAt_orAt _ _ _ _ _ (by rw [selfTo_len]; omega), selfTo_bit d m (by omega), Nat.testBit_two_pow, Bool.or_assoc]
    congr 1
    rw [Bool.eq_iff_iff]
    simp only [Bool.or_eq_true, Bool.and_eq_true, decide_eq_true_eq]
    omega
theorem orAt_lt (d : List Nat) (i m b : Nat) (h : ∀ x ∈ d, x < 2 ^ b) (hm : m < 2 ^ b) : ∀ x ∈ orAt d i m, x < 2 ^ b := by
  intro x hx
  unfold orAt at hx
  rcases List.mem_or_eq_of_mem_set hx with hx | rfl
  · exact h x hx
  · refine Nat.or_lt_two_pow ?_ hm
    rw [List.getD_eq_getElem?_getD]
    cases hg : d[i]? with
    | none => exact Nat.two_pow_pos b
    | some y => exact h y (List.mem_of_getElem? hg)
theorem getD_lt (d : List Nat) (i b : Nat) (h : ∀ x ∈ d, x < 2 ^ b) : d.getD i 0 < 2 ^ b := by
  rw [List.getD_eq_getElem?_getD]
  cases hg : d[i]? with
  | none => exact Nat.two_pow_pos b
  | some y => exact h y (List.mem_of_getElem? hg)
theorem base_lt (ps : List (Nat × Nat)) (b : Nat) (hp : ∀ p ∈ ps, p.2 < b) : ∀ d : List Nat, (∀ x ∈ d, x < 2 ^ b) → ∀ x ∈ ps.foldl (fun d p => orAt d p.1 (2 ^ p.2)) d, x < 2 ^ b := by
  induction ps with
  | nil => intro d h; exact h
  | cons p ps ih =>
    intro d h
    rw [List.foldl_cons]
    exact ih (fun q hq => hp q (List.mem_cons_of_mem _ hq)) _ (orAt_lt d _ _ b h (Nat.pow_lt_pow_right (by omega) (hp p List.mem_cons_self)))
theorem wayTo_lt (w b : Nat) (d : List Nat) (h : ∀ x ∈ d, x < 2 ^ b) : ∀ m, ∀ x ∈ wayTo w d m, x < 2 ^ b
  | 0 => h
  | m + 1 => by
    rw [wayTo_succ]
    have ih := wayTo_lt w b d h m
    unfold wayI
    split
    · exact orAt_lt _ _ _ b ih (getD_lt _ _ b ih)
    · exact ih
theorem closeTo_lt (n b : Nat) (d : List Nat) (h : ∀ x ∈ d, x < 2 ^ b) : ∀ m, ∀ x ∈ closeTo n d m, x < 2 ^ b
  | 0 => h
  | m + 1 => by rw [closeTo_succ]; exact wayTo_lt _ b _ (closeTo_lt n b d h m) n
theorem selfTo_lt (d : List Nat) (b : Nat) (h : ∀ x ∈ d, x < 2 ^ b) : ∀ m, m ≤ b → ∀ x ∈ selfTo d m, x < 2 ^ b
  | 0, _ => h
  | m + 1, hm => by rw [selfTo_succ]; exact orAt_lt _ _ _ b (selfTo_lt d b h m (by omega)) (Nat.pow_lt_pow_right (by omega) (by omega))
end Go.Proofs.Ytgnepkppmjabnaa
