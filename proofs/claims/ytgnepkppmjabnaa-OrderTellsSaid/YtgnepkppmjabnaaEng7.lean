/- The engine's seventh part: the walk of one order of a region that draws its order, and that it stands for all. Conditions: none. -/
import Derived.Test.YtgnepkppmjabnaaEng6
namespace Go.Proofs.Ytgnepkppmjabnaa.Eng
open Go.RowKit
set_option linter.unusedVariables false
set_option linter.unusedSimpArgs false

section
variable {P : Program} {w0 : World} {N : Nat} {ops : Array Oper} {H : Heap} {K : Slots → Heap → Prop}
def Down (ops : Array Oper) (listed : Array Bool) : Prop := ∀ k o, ops[k]? = some o → listed.getD k true = true → ∀ e ∈ o.after, Region.binds .any e = true → listed.getD e.on false = true
theorem getD_set (listed : Array Bool) (j k : Nat) (d : Bool) : (listed.setIfInBounds j true).getD k d = if k = j ∧ j < listed.size then true else listed.getD k d := by
  simp only [Array.getD_eq_getD_getElem?, Array.getElem?_setIfInBounds]
  by_cases h : j = k
  · subst h
    by_cases h2 : j < listed.size
    · simp [h2]
    · simp [h2, Array.getElem?_eq_none (Nat.le_of_not_lt h2)]
  · simp [h, Ne.symm h]
theorem Down.step {listed : Array Bool} {j : Nat} (h : Down ops listed) (hj : j ∈ Region.ready .any ops listed) : Down ops (listed.setIfInBounds j true) := by
  intro k o ho hk e he hb
  rw [getD_set] at hk ⊢
  split
  · rfl
  · by_cases hkj : k = j ∧ j < listed.size
    · obtain ⟨rfl, _⟩ := hkj
      obtain ⟨_, o', ho', hall⟩ := mem_ready.1 hj
      rw [ho] at ho'
      cases ho'
      exact hall e he hb
    · rw [if_neg hkj] at hk
      exact h k o ho hk e he hb
theorem anc_listed {listed : Array Bool} (h : Down ops listed) : ∀ (n j : Nat) (o : Oper), ops[j]? = some o → (∀ e ∈ o.after, Region.binds .any e = true → listed.getD e.on false = true) → ∀ i ∈ anc ops n j, listed.getD i false = true := by
  intro n
  induction n with
  | zero => intro j o _ _ i hi; simp [anc] at hi
  | succ n ih =>
    intro j o ho hall i hi
    simp only [anc, ho, List.mem_flatMap] at hi
    obtain ⟨e, he, hi⟩ := hi
    split at hi
    · rename_i hb
      have hl := hall e (by simpa using he) hb
      rcases List.mem_cons.1 hi with rfl | hi
      · exact hl
      · cases ho2 : ops[e.on]? with
        | none => cases n <;> simp [anc, ho2] at hi
        | some o2 =>
          refine ih e.on o2 ho2 (h e.on o2 ho2 ?_) i hi
          simp only [Array.getD_eq_getD_getElem?] at hl ⊢
          cases hx : listed[e.on]? with
          | none => rfl
          | some b => rw [hx] at hl; exact hl
    · cases hi
theorem not_ahead {listed : Array Bool} {i j : Nat} (h : Down ops listed) (hj : j ∈ Region.ready .any ops listed) (hi : listed.getD i true = false) : ahead ops i j = false := by
  obtain ⟨_, o, ho, hall⟩ := mem_ready.1 hj
  by_cases hc : ahead ops i j = true
  · have := anc_listed h ops.size j o ho hall i (by simpa [ahead] using hc)
    simp only [Array.getD_eq_getD_getElem?] at this hi
    cases hx : listed[i]? with
    | none => rw [hx] at this; cases this
    | some b => rw [hx] at this hi; simp at this hi; rw [this] at hi; cases hi
  · simpa using hc
theorem SA_sub : ∀ (n : Nat) (listed : Array Bool) (pend pend' : Pend) (s : Slots) (H : Heap), (∀ x ∈ pend', x ∈ pend) → SA P w0 N ops K n listed pend s H → SA P w0 N ops K n listed pend' s H := by
  intro n
  induction n with
  | zero => intro listed pend pend' s H _ h; exact h
  | succ n ih =>
    intro listed pend pend' s H hs h
    have hk : ∀ j, ∀ x ∈ keepP ops j pend', x ∈ keepP ops j pend := fun j x hx => by
      simp only [keepP, List.mem_filter] at hx ⊢
      exact ⟨hs x hx.1, hx.2⟩
    exact ⟨h.1, fun j hj => stepV_mono (h.2 j hj) fun s H hq => ⟨fun x hx => hq.1 x (hk j x hx), ih _ _ _ _ _ (hk j) hq.2⟩⟩
/-- A quiet operation may be done first. -/
theorem SA_first {i : Nat} {v : Value} : ∀ (n : Nat) (listed : Array Bool) (pend : Pend) (s : Slots) (H : Heap), Down ops listed → i ∈ Region.ready .any ops listed →
    (∀ j, j ≠ i → listed.getD j true = false → ahead ops i j = false → (∀ t, dstOf ops i = some t → t ∉ looks ops j) ∧ (∀ t, dstOf ops i = some t → dstOf ops j ≠ some t) ∧ (∀ t, dstOf ops j = some t → t ∉ looks ops i)) →
    (∀ t, dstOf ops i = some t → t ∉ looks ops i) → (∀ x ∈ pend, ∀ t, dstOf ops i = some t → t ∉ looks ops x.1) → quietAt P w0 N ops i s H v → (∀ x ∈ pend, quietAt P w0 N ops x.1 s H x.2) →
    SA P w0 N ops K n (listed.setIfInBounds i true) ((i, v) :: pend) (putO s (dstOf ops i) v) H → SA P w0 N ops K (n + 1) listed pend s H := by
  intro n
  induction n with
  | zero =>
    intro listed pend s H hd hi c1 c2 c3 hq hp h
    refine ⟨fun h0 => (by rw [h0] at hi; cases hi), fun j hj => ?_⟩
    by_cases hji : j = i
    · subst hji
      refine stepV_quiet hq ⟨fun x hx => ?_, h⟩
      have hx' := (List.mem_filter.1 hx).1
      exact (quietAt_put (c3 x hx')).2 (hp x hx')
    · have := ready_mono hj hji
      rw [h.1] at this
      cases this
  | succ n ih =>
    intro listed pend s H hd hi c1 c2 c3 hq hp h
    refine ⟨fun h0 => (by rw [h0] at hi; cases hi), fun j hj => ?_⟩
    by_cases hji : j = i
    · subst hji
      refine stepV_quiet hq ⟨fun x hx => ?_, SA_sub _ _ _ _ _ _ (fun x hx => List.mem_cons_of_mem _ (List.mem_filter.1 hx).1) h⟩
      have hx' := (List.mem_filter.1 hx).1
      exact (quietAt_put (c3 x hx')).2 (hp x hx')
    · have hui : listed.getD i true = false := by have := (mem_ready.1 hi).1; simpa using this
      have huj : listed.getD j true = false := by have := (mem_ready.1 hj).1; simpa using this
      have hna := not_ahead hd hj hui
      obtain ⟨d1, d2, d3⟩ := c1 j hji huj hna
      have h2 := stepV_put d1 d2 (h.2 j (ready_mono hj hji))
      refine stepV_mono h2 fun s' H' hk => ?_
      have hkeep : keepP ops j ((i, v) :: pend) = (i, v) :: keepP ops j pend := by simp [keepP, hna]
      rw [hkeep] at hk
      obtain ⟨hk1, hk2⟩ := hk
      have c3' : ∀ x ∈ keepP ops j pend, ∀ t, dstOf ops i = some t → t ∉ looks ops x.1 := fun x hx => c3 x (List.mem_filter.1 hx).1
      have hp' : ∀ x ∈ keepP ops j pend, quietAt P w0 N ops x.1 s' H' x.2 := fun x hx => (quietAt_put (c3' x hx)).1 (hk1 x (List.mem_cons_of_mem _ hx))
      refine ⟨hp', ih _ _ _ _ (hd.step hj) (ready_mono hi (Ne.symm hji)) ?_ c2 c3' ((quietAt_put c2).1 (hk1 (i, v) List.mem_cons_self)) hp' ?_⟩
      · intro k hk hku
        refine c1 k hk ?_
        rw [getD_set] at hku
        split at hku
        · cases hku
        · exact hku
      · rw [Array.setIfInBounds_comm _ _ hji]
        exact hk2
end
end Go.Proofs.Ytgnepkppmjabnaa.Eng
