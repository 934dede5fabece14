/- The reference's closure is the closure; its test for names that are twice. Plain laws. Conditions: none. -/
import Derived.Test.YtgnepkppmjabnaaO13
namespace Go.Proofs.Ytgnepkppmjabnaa
open Go.RowKit Eng
set_option linter.unusedVariables false
set_option linter.unusedSimpArgs false

def refI (i : Nat) (d : List Nat) (k : Nat) : List Nat := if bitAt d i k = true then orAt d i (d.getD k 0) else d
def refRow (i : Nat) (d : List Nat) (m : Nat) : List Nat := (List.range m).foldl (refI i) d
def refRnd (n : Nat) (d : List Nat) (m : Nat) : List Nat := (List.range m).foldl (fun d i => refRow i d n) d
def refCl (n : Nat) (d : List Nat) (m : Nat) : List Nat := (List.range m).foldl (fun d _ => refRnd n d n) d
theorem refRow_succ (i : Nat) (d : List Nat) (m : Nat) : refRow i d (m + 1) = refI i (refRow i d m) m := by simp [refRow, List.range_succ]
theorem refRnd_succ (n : Nat) (d : List Nat) (m : Nat) : refRnd n d (m + 1) = refRow m (refRnd n d m) n := by simp [refRnd, List.range_succ]
theorem refCl_succ (n : Nat) (d : List Nat) (m : Nat) : refCl n d (m + 1) = refRnd n (refCl n d m) n := by simp [refCl, List.range_succ]
theorem refI_len (i : Nat) (d : List Nat) (k : Nat) : (refI i d k).length = d.length := by unfold refI; split <;> simp [orAt_len]
theorem refRow_len (i : Nat) (d : List Nat) : ∀ m, (refRow i d m).length = d.length
  | 0 => rfl
  | m + 1 => by rw [refRow_succ, refI_len, refRow_len i d m]
theorem refRnd_len (n : Nat) (d : List Nat) : ∀ m, (refRnd n d m).length = d.length
  | 0 => rfl
  | m + 1 => by rw [refRnd_succ, refRow_len, refRnd_len n d m]
theorem refCl_len (n : Nat) (d : List Nat) : ∀ m, (refCl n d m).length = d.length
  | 0 => rfl
  | m + 1 => by rw [refCl_succ, refRnd_len, refCl_len n d m]
theorem refI_lt (i b : Nat) (d : List Nat) (h : ∀ x ∈ d, x < 2 ^ b) (k : Nat) : ∀ x ∈ refI i d k, x < 2 ^ b := by
  unfold refI
  split
  · exact orAt_lt d i _ b h (getD_lt d k b h)
  · exact h
theorem refRow_lt (i b : Nat) (d : List Nat) (h : ∀ x ∈ d, x < 2 ^ b) : ∀ m, ∀ x ∈ refRow i d m, x < 2 ^ b
  | 0 => h
  | m + 1 => by rw [refRow_succ]; exact refI_lt i b _ (refRow_lt i b d h m) m
theorem refRnd_lt (n b : Nat) (d : List Nat) (h : ∀ x ∈ d, x < 2 ^ b) : ∀ m, ∀ x ∈ refRnd n d m, x < 2 ^ b
  | 0 => h
  | m + 1 => by rw [refRnd_succ]; exact refRow_lt m b _ (refRnd_lt n b d h m) n
theorem refCl_lt (n b : Nat) (d : List Nat) (h : ∀ x ∈ d, x < 2 ^ b) : ∀ m, ∀ x ∈ refCl n d m, x < 2 ^ b
  | 0 => h
  | m + 1 => by rw [refCl_succ]; exact refRnd_lt n b _ (refCl_lt n b d h m) n
theorem refI_bit (i : Nat) (d : List Nat) (k j q : Nat) : bitAt (refI i d k) j q = (bitAt d j q || (decide (i = j) && bitAt d i k && bitAt d k q)) := by
  unfold refI
  cases h : bitAt d i k with
  | false => simp
  | true =>
    have hi : i < d.length := by
      rcases Nat.lt_or_ge i d.length with h1 | h1
      · exact h1
      · rw [bitAt_far d i k h1] at h; cases h
    rw [if_pos rfl, bitAt_orAt d i _ j q hi]
    simp [bitAt]
theorem refI_mono (i : Nat) (d : List Nat) (k j q : Nat) (h : bitAt d j q = true) : bitAt (refI i d k) j q = true := by rw [refI_bit, h, Bool.true_or]
theorem refRow_mono (i : Nat) (d : List Nat) (j q : Nat) (h : bitAt d j q = true) : ∀ m, bitAt (refRow i d m) j q = true
  | 0 => h
  | m + 1 => by rw [refRow_succ]; exact refI_mono _ _ _ _ _ (refRow_mono i d j q h m)
theorem refRnd_mono (n : Nat) (d : List Nat) (j q : Nat) (h : bitAt d j q = true) : ∀ m, bitAt (refRnd n d m) j q = true
  | 0 => h
  | m + 1 => by rw [refRnd_succ]; exact refRow_mono _ _ _ _ (refRnd_mono n d j q h m) n
theorem refRow_step (i w q : Nat) (d : List Nat) (h1 : bitAt d i w = true) (h2 : bitAt d w q = true) : ∀ m, w < m → bitAt (refRow i d m) i q = true
  | 0, h => by omega
  | m + 1, h => by
    rw [refRow_succ]
    by_cases e : w = m
    · subst e
      rw [refI_bit, refRow_mono i d i w h1 w, refRow_mono i d w q h2 w]
      simp
    · exact refI_mono _ _ _ _ _ (refRow_step i w q d h1 h2 m (by omega))
theorem refRnd_step (n i w q : Nat) (d : List Nat) (hw : w < n) (h1 : bitAt d i w = true) (h2 : bitAt d w q = true) : ∀ m, i < m → bitAt (refRnd n d m) i q = true
  | 0, h => by omega
  | m + 1, h => by
    rw [refRnd_succ]
    by_cases e : i = m
    · subst e
      exact refRow_step i w q _ (refRnd_mono n d i w h1 i) (refRnd_mono n d w q h2 i) n hw
    · exact refRow_mono _ _ _ _ (refRnd_step n i w q d hw h1 h2 m (by omega)) n
theorem refI_sub (T : Nat → Nat → Prop) (ht : ∀ i j k, T i j → T j k → T i k) (i : Nat) (d : List Nat) (k : Nat) (h : ∀ j q, bitAt d j q = true → T j q) : ∀ j q, bitAt (refI i d k) j q = true → T j q := fun j q hb => by
  rw [refI_bit] at hb
  simp only [Bool.or_eq_true, Bool.and_eq_true, decide_eq_true_eq] at hb
  rcases hb with hb | ⟨⟨rfl, a⟩, b⟩
  · exact h j q hb
  · exact ht _ _ _ (h _ _ a) (h _ _ b)
theorem refRow_sub (T : Nat → Nat → Prop) (ht : ∀ i j k, T i j → T j k → T i k) (i : Nat) (d : List Nat) (h : ∀ j q, bitAt d j q = true → T j q) : ∀ m, ∀ j q, bitAt (refRow i d m) j q = true → T j q
  | 0 => h
  | m + 1 => by rw [refRow_succ]; exact refI_sub T ht _ _ _ (refRow_sub T ht i d h m)
theorem refRnd_sub (T : Nat → Nat → Prop) (ht : ∀ i j k, T i j → T j k → T i k) (n : Nat) (d : List Nat) (h : ∀ j q, bitAt d j q = true → T j q) : ∀ m, ∀ j q, bitAt (refRnd n d m) j q = true → T j q
  | 0 => h
  | m + 1 => by rw [refRnd_succ]; exact refRow_sub T ht _ _ (refRnd_sub T ht n d h m) n
theorem refCl_sub (T : Nat → Nat → Prop) (ht : ∀ i j k, T i j → T j k → T i k) (n : Nat) (d : List Nat) (h : ∀ j q, bitAt d j q = true → T j q) : ∀ m, ∀ j q, bitAt (refCl n d m) j q = true → T j q
  | 0 => h
  | m + 1 => by rw [refCl_succ]; exact refRnd_sub T ht _ _ (refCl_sub T ht n d h m) n
theorem refCl_sup (n : Nat) (d : List Nat) (hd : d.length = n) : ∀ m, m ≤ n → ∀ i k, bitAt (closeTo n d m) i k = true → bitAt (refCl n d m) i k = true
  | 0, _ => fun i k h => h
  | m + 1, hm => fun i k h => by
    have ih := refCl_sup n d hd m (by omega)
    have hl : (closeTo n d m).length = n := by rw [closeTo_len, hd]
    have wb := way_bit m (closeTo n d m) i k
    rw [hl] at wb
    rw [closeTo_succ, wb] at h
    rw [refCl_succ]
    simp only [Bool.or_eq_true, Bool.and_eq_true] at h
    rcases h with h | ⟨a, b⟩
    · exact refRnd_mono n _ i k (ih i k h) n
    · have hi : i < n := by
        rcases Nat.lt_or_ge i n with h1 | h1
        · exact h1
        · rw [bitAt_far _ i m (by rw [hl]; exact h1)] at a; cases a
      exact refRnd_step n i m k _ (by omega) (ih i m a) (ih m k b) n hi
theorem bits_ext {d e : List Nat} (hl : d.length = e.length) (h : ∀ i k, bitAt d i k = bitAt e i k) : d = e := by
  refine List.ext_getElem hl fun i h1 h2 => Nat.eq_of_testBit_eq fun k => ?_
  have := h i k
  simpa [bitAt, List.getD_eq_getElem?_getD, List.getElem?_eq_getElem h1, List.getElem?_eq_getElem h2] using this
theorem refCl_rows (n : Nat) (ps : List (Nat × Nat)) (h : ∀ p ∈ ps, p.1 < n ∧ p.2 < n) : refCl n (baseOf n ps) n = rowsOf n ps := by
  have hb : (baseOf n ps).length = n := baseOf_len n ps fun p hp => (h p hp).1
  refine bits_ext (by rw [refCl_len, hb, rows_len h]) fun i k => ?_
  rw [Bool.eq_iff_iff]
  constructor
  · exact refCl_sub (fun i k => bitAt (rowsOf n ps) i k = true) (fun i j k a b => (rows_closed h).trans i j k a b) n _ (fun j q hq => (rows_closed h).holds j q hq) n i k
  · exact refCl_sup n _ hb n (Nat.le_refl n) i k
theorem hasS_take (names : List ByteArray) (j : Nat) (hj : j < names.length) : (idxS names names[j] = j) ↔ hasS (names.take j) names[j] = false := by
  have hself : (names[j].toList == names[j].toList) = true := beq_self_eq_true _
  constructor
  · intro h
    unfold hasS
    rw [List.any_eq_false]
    intro y hy
    obtain ⟨i, hi, rfl⟩ := List.getElem_of_mem hy
    rw [List.length_take] at hi
    rw [List.getElem_take]
    unfold idxS idxF at h
    split at h
    · rename_i q hq
      obtain ⟨h1, h2, h3⟩ := List.findIdx?_eq_some_iff_getElem.1 hq
      have : q = j := by omega
      subst this
      have := h3 i (by omega)
      simpa using this
    · omega
  · intro h
    refine idxF_found hj hself fun i hi hij => ?_
    unfold hasS at h
    rw [List.any_eq_false] at h
    have := h names[i] (List.mem_of_getElem? (i := i) (by rw [List.getElem?_take_of_lt hij]; exact List.getElem?_eq_getElem hi))
    simpa using this
end Go.Proofs.Ytgnepkppmjabnaa
