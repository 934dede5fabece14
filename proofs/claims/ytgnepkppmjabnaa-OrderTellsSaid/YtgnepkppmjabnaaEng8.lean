/- The engine's eighth part: the tree of one order, its check, and the rule for a region that draws its order. Conditions: none. -/
import Derived.Test.YtgnepkppmjabnaaEng7
namespace Go.Proofs.Ytgnepkppmjabnaa.Eng
open Go.RowKit
set_option linter.unusedVariables false
set_option linter.unusedSimpArgs false

/-- One order: q: an operation that only looks; one, two, three: what else may come next. -/
inductive Tr where
  | fin
  | q (i : Nat) (t : Tr)
  | one (j : Nat) (t : Tr)
  | two (j : Nat) (t : Tr) (j2 : Nat) (t2 : Tr)
  | three (j : Nat) (t : Tr) (j2 : Nat) (t2 : Tr) (j3 : Nat) (t3 : Tr)
def Tr.depth : Tr → Nat
  | .fin => 0
  | .q _ t => t.depth + 1
  | .one _ t => t.depth + 1
  | .two _ t _ t2 => max t.depth t2.depth + 1
  | .three _ t _ t2 _ t3 => max t.depth (max t2.depth t3.depth) + 1
def qAt (P : Program) (w0 : World) (N : Nat) (ops : Array Oper) (i : Nat) (s : Slots) (H : Heap) (K : Value → Prop) : Prop :=
  match ops[i]? with
  | some o => dstOk N o.dst ∧ if want ops s o = true then qV P w0 o.op o.type s H K else K undef
  | none => False
def recheck (P : Program) (w0 : World) (N : Nat) (ops : Array Oper) (s : Slots) (H : Heap) : Pend → Prop
  | [] => True
  | x :: r => qAt P w0 N ops x.1 s H (· = x.2) ∧ recheck P w0 N ops s H r
def loadAt (ops : Array Oper) (i : Nat) : Bool := ((ops[i]?).map fun o => isLoad o.op).getD false
/-- The walk that is asked. 'pend': what was read from memory, and may have been read later. -/
def SR (P : Program) (w0 : World) (N : Nat) (ops : Array Oper) (K : Slots → Heap → Prop) : Tr → Pend → Slots → Heap → Prop
  | .fin, _, s, H => K s H
  | .q i t, pend, s, H => qAt P w0 N ops i s H fun v => SR P w0 N ops K t (if loadAt ops i = true then (i, v) :: pend else pend) (putO s (dstOf ops i) v) H
  | .one j t, pend, s, H => stepV P w0 N ops j s H fun s' H' => recheck P w0 N ops s' H' (keepP ops j pend) ∧ SR P w0 N ops K t (keepP ops j pend) s' H'
  | .two j t j2 t2, pend, s, H => (stepV P w0 N ops j s H fun s' H' => recheck P w0 N ops s' H' (keepP ops j pend) ∧ SR P w0 N ops K t (keepP ops j pend) s' H') ∧
      (stepV P w0 N ops j2 s H fun s' H' => recheck P w0 N ops s' H' (keepP ops j2 pend) ∧ SR P w0 N ops K t2 (keepP ops j2 pend) s' H')
  | .three j t j2 t2 j3 t3, pend, s, H => (stepV P w0 N ops j s H fun s' H' => recheck P w0 N ops s' H' (keepP ops j pend) ∧ SR P w0 N ops K t (keepP ops j pend) s' H') ∧
      (stepV P w0 N ops j2 s H fun s' H' => recheck P w0 N ops s' H' (keepP ops j2 pend) ∧ SR P w0 N ops K t2 (keepP ops j2 pend) s' H') ∧
      (stepV P w0 N ops j3 s H fun s' H' => recheck P w0 N ops s' H' (keepP ops j3 pend) ∧ SR P w0 N ops K t3 (keepP ops j3 pend) s' H')
/-- May i be done ahead of j? -/
def free (ops : Array Oper) (i j : Nat) : Bool :=
  match dstOf ops i with
  | some t => !(looks ops j).contains t && !(dstOf ops j == some t) && (match dstOf ops j with
    | some u => !(looks ops i).contains u
    | none => true)
  | none => (match dstOf ops j with
    | some u => !(looks ops i).contains u
    | none => true)
def blind (ops : Array Oper) (i : Nat) (x : Nat) : Bool :=
  match dstOf ops i with
  | some t => !(looks ops x).contains t
  | none => true
def keepI (ops : Array Oper) (j : Nat) (pend : List Nat) : List Nat := pend.filter fun x => !ahead ops x j
def chk (ops : Array Oper) : Tr → Array Bool → List Nat → Bool
  | .fin, listed, _ => (Region.ready .any ops listed).isEmpty
  | .q i t, listed, pend => (Region.ready .any ops listed).contains i && ((List.range ops.size).all fun j => j == i || listed.getD j true || ahead ops i j || free ops i j) && blind ops i i && (pend.all fun x => blind ops i x) &&
      chk ops t (listed.setIfInBounds i true) (i :: pend)
  | .one j t, listed, pend => (Region.ready .any ops listed == [j]) && ((keepI ops j pend).all fun x => blind ops j x) && chk ops t (listed.setIfInBounds j true) (keepI ops j pend)
  | .two j t j2 t2, listed, pend => (Region.ready .any ops listed == [j, j2]) && ((keepI ops j pend).all fun x => blind ops j x) && chk ops t (listed.setIfInBounds j true) (keepI ops j pend) &&
      ((keepI ops j2 pend).all fun x => blind ops j2 x) && chk ops t2 (listed.setIfInBounds j2 true) (keepI ops j2 pend)
  | .three j t j2 t2 j3 t3, listed, pend => (Region.ready .any ops listed == [j, j2, j3]) && ((keepI ops j pend).all fun x => blind ops j x) && chk ops t (listed.setIfInBounds j true) (keepI ops j pend) &&
      ((keepI ops j2 pend).all fun x => blind ops j2 x) && chk ops t2 (listed.setIfInBounds j2 true) (keepI ops j2 pend) && ((keepI ops j3 pend).all fun x => blind ops j3 x) && chk ops t3 (listed.setIfInBounds j3 true) (keepI ops j3 pend)

section
variable {P : Program} {w0 : World} {N : Nat} {ops : Array Oper} {K : Slots → Heap → Prop}
theorem quietAt_of_qAt {i : Nat} {s : Slots} {H : Heap} {v : Value} (h : qAt P w0 N ops i s H (· = v)) : quietAt P w0 N ops i s H v := by
  unfold qAt at h
  split at h
  · rename_i o ho
    refine ⟨o, ho, h.1, ?_⟩
    have h2 := h.2
    split at h2 <;> rename_i hw
    · rw [if_pos hw]; exact h2
    · rw [if_neg hw]; exact h2.symm
  · exact h.elim
theorem qAt_one {i : Nat} {s : Slots} {H : Heap} {K : Value → Prop} (h : qAt P w0 N ops i s H K) : ∃ v, quietAt P w0 N ops i s H v ∧ K v := by
  unfold qAt at h
  split at h
  · rename_i o ho
    have h2 := h.2
    split at h2 <;> rename_i hw
    · obtain ⟨v, hv, hk⟩ := qV_one h2
      exact ⟨v, ⟨o, ho, h.1, by rw [if_pos hw]; exact hv⟩, hk⟩
    · exact ⟨undef, ⟨o, ho, h.1, by rw [if_neg hw]⟩, h2⟩
  · exact h.elim
theorem recheck_mem {s : Slots} {H : Heap} : ∀ {pend : Pend}, recheck P w0 N ops s H pend → ∀ x ∈ pend, quietAt P w0 N ops x.1 s H x.2
  | [], _, x, hx => by cases hx
  | y :: r, h, x, hx => by
    rcases List.mem_cons.1 hx with rfl | hx
    · exact quietAt_of_qAt h.1
    · exact recheck_mem h.2 x hx
theorem stepV_at {j : Nat} {s : Slots} {H : Heap} {K : Slots → Heap → Prop} (h : stepV P w0 N ops j s H K) : stepV P w0 N ops j s H fun s' H' => (∃ u, s' = putO s (dstOf ops j) u) ∧ K s' H' := by
  unfold stepV at h ⊢
  cases hj : ops[j]? with
  | none => simp only [hj] at h ⊢; exact ⟨⟨undef, by simp [dstOf, hj, putO]⟩, h⟩
  | some o =>
    simp only [hj] at h ⊢
    have e : dstOf ops j = o.dst := by simp [dstOf, hj]
    refine ⟨h.1, ?_⟩
    have h2 := h.2
    split at h2 <;> rename_i hw
    · rw [if_pos hw]; exact opV_mono_ h2 fun u H' hk => ⟨⟨u, by rw [e]⟩, hk⟩
    · rw [if_neg hw]; exact ⟨⟨undef, by rw [e]⟩, h2⟩
theorem quietAt_heap {i : Nat} {s : Slots} {H H' : Heap} {v : Value} (hl : loadAt ops i = false) (h : quietAt P w0 N ops i s H v) : quietAt P w0 N ops i s H' v := by
  obtain ⟨o, ho, hd, h⟩ := h
  refine ⟨o, ho, hd, ?_⟩
  have : isLoad o.op = false := by simpa [loadAt, ho] using hl
  rw [qV_heap (H' := H) this]
  exact h
theorem blind_spec {i x : Nat} (h : blind ops i x = true) : ∀ t, dstOf ops i = some t → t ∉ looks ops x := fun t ht => by simpa [blind, ht] using h
theorem free_spec {i j : Nat} (h : free ops i j = true) : (∀ t, dstOf ops i = some t → t ∉ looks ops j) ∧ (∀ t, dstOf ops i = some t → dstOf ops j ≠ some t) ∧ (∀ t, dstOf ops j = some t → t ∉ looks ops i) := by
  unfold free at h
  refine ⟨fun t ht => ?_, fun t ht => ?_, fun t ht => ?_⟩
  · rw [ht] at h; simp at h; exact h.1.1
  · rw [ht] at h; simp at h; exact h.1.2
  · cases hi : dstOf ops i with
    | none => rw [hi, ht] at h; simpa using h
    | some u => rw [hi, ht] at h; simp at h; exact h.2
/-- What is owed behind a step of j, out of what is rechecked. -/
theorem owed {j : Nat} {s s' : Slots} {H H' : Heap} {pend : Pend} (hp : ∀ x ∈ pend, quietAt P w0 N ops x.1 s H x.2) (hs : ∃ u, s' = putO s (dstOf ops j) u) (hb : ∀ x ∈ keepP ops j pend, blind ops j x.1 = true)
    (hr : recheck P w0 N ops s' H' (keepP ops j (pend.filter fun x => loadAt ops x.1))) : ∀ x ∈ keepP ops j pend, quietAt P w0 N ops x.1 s' H' x.2 := by
  intro x hx
  by_cases hl : loadAt ops x.1 = true
  · refine recheck_mem hr x ?_
    simp only [keepP, List.mem_filter] at hx ⊢
    exact ⟨⟨hx.1, hl⟩, hx.2⟩
  · obtain ⟨u, rfl⟩ := hs
    refine quietAt_heap (by simpa using hl) ((quietAt_put (blind_spec (hb x hx))).2 (hp x (List.mem_filter.1 hx).1))
theorem keep_filter (j : Nat) (pend : Pend) : keepP ops j (pend.filter fun x => loadAt ops x.1) = (keepP ops j pend).filter fun x => loadAt ops x.1 := by
  simp only [keepP, List.filter_filter]
  congr 1
  funext x
  exact Bool.and_comm _ _
theorem keep_idx (j : Nat) (pend : Pend) : (keepP ops j pend).map (·.1) = keepI ops j (pend.map (·.1)) := by
  simp only [keepP, keepI, List.filter_map]
  rfl
theorem SR_sound : ∀ (t : Tr) (n : Nat) (listed : Array Bool) (pend : Pend) (s : Slots) (H : Heap), t.depth ≤ n → chk ops t listed (pend.map (·.1)) = true → Down ops listed → (∀ x ∈ pend, quietAt P w0 N ops x.1 s H x.2) →
    SR P w0 N ops K t (pend.filter fun x => loadAt ops x.1) s H → SA P w0 N ops K n listed pend s H := by
  have act : ∀ (t : Tr) (j n : Nat) (listed : Array Bool) (pend : Pend) (s : Slots) (H : Heap), (∀ (n : Nat) (listed : Array Bool) (pend : Pend) (s : Slots) (H : Heap), t.depth ≤ n → chk ops t listed (pend.map (·.1)) = true → Down ops listed → (∀ x ∈ pend, quietAt P w0 N ops x.1 s H x.2) →
      SR P w0 N ops K t (pend.filter fun x => loadAt ops x.1) s H → SA P w0 N ops K n listed pend s H) → t.depth ≤ n → j ∈ Region.ready .any ops listed → ((keepI ops j (pend.map (·.1))).all fun x => blind ops j x) = true →
      chk ops t (listed.setIfInBounds j true) (keepI ops j (pend.map (·.1))) = true → Down ops listed → (∀ x ∈ pend, quietAt P w0 N ops x.1 s H x.2) →
      (stepV P w0 N ops j s H fun s' H' => recheck P w0 N ops s' H' (keepP ops j (pend.filter fun x => loadAt ops x.1)) ∧ SR P w0 N ops K t (keepP ops j (pend.filter fun x => loadAt ops x.1)) s' H') →
      stepV P w0 N ops j s H fun s' H' => (∀ x ∈ keepP ops j pend, quietAt P w0 N ops x.1 s' H' x.2) ∧ SA P w0 N ops K n (listed.setIfInBounds j true) (keepP ops j pend) s' H' := by
    intro t j n listed pend s H ih hn hj hb hc hd hp h
    refine stepV_mono (stepV_at h) fun s' H' hk => ?_
    obtain ⟨hs, hr, hk⟩ := hk
    have hb' : ∀ x ∈ keepP ops j pend, blind ops j x.1 = true := fun x hx => by
      rw [← keep_idx] at hb
      exact List.all_eq_true.1 hb x.1 (List.mem_map_of_mem hx)
    have ho := owed hp hs hb' hr
    refine ⟨ho, ih n _ _ _ _ hn (by rw [keep_idx]; exact hc) (hd.step hj) ho ?_⟩
    rw [← keep_filter]
    exact hk
  intro t
  induction t with
  | fin =>
    intro n listed pend s H hn hc hd hp h
    have h0 : Region.ready .any ops listed = [] := by simpa [chk] using hc
    cases n with
    | zero => exact ⟨h0, h⟩
    | succ n => exact ⟨fun _ => h, fun j hj => by rw [h0] at hj; cases hj⟩
  | q i t ih =>
    intro n listed pend s H hn hc hd hp h
    simp only [chk, Bool.and_eq_true] at hc
    obtain ⟨⟨⟨⟨hi, hf⟩, hb⟩, hpb⟩, hc⟩ := hc
    cases n with
    | zero => simp [Tr.depth] at hn
    | succ n =>
      obtain ⟨v, hv, hk⟩ := qAt_one h
      have hi : i ∈ Region.ready .any ops listed := by simpa using hi
      have hpb' : ∀ x ∈ pend, blind ops i x.1 = true := fun x hx => List.all_eq_true.1 hpb x.1 (List.mem_map_of_mem hx)
      refine SA_first n listed pend s H hd hi ?_ (blind_spec hb) (fun x hx => blind_spec (hpb' x hx)) hv hp (ih n _ ((i, v) :: pend) _ _ (by simp [Tr.depth] at hn; omega) (by simpa using hc) (hd.step hi) ?_ ?_)
      · intro j hji hju hja
        refine free_spec ?_
        by_cases hjs : j < ops.size
        · have := List.all_eq_true.1 hf j (List.mem_range.2 hjs)
          simp only [Bool.or_eq_true, beq_iff_eq, hju, hja, Bool.false_eq_true, or_false] at this
          exact this.resolve_left hji
        · have hn : ops[j]? = none := Array.getElem?_eq_none (Nat.le_of_not_lt hjs)
          have hd0 : dstOf ops j = none := by simp [dstOf, hn]
          have hl0 : looks ops j = [] := by simp [looks, hn]
          unfold free
          rw [hd0, hl0]
          cases dstOf ops i <;> rfl
      · intro x hx
        rcases List.mem_cons.1 hx with rfl | hx
        · exact (quietAt_put (blind_spec hb)).2 hv
        · exact (quietAt_put (blind_spec (hpb' x hx))).2 (hp x hx)
      · simp only [List.filter_cons]
        exact hk
  | one j t ih =>
    intro n listed pend s H hn hc hd hp h
    simp only [chk, Bool.and_eq_true, beq_iff_eq] at hc
    obtain ⟨⟨hj, hb⟩, hc⟩ := hc
    cases n with
    | zero => simp [Tr.depth] at hn
    | succ n =>
      refine ⟨fun h0 => (by rw [hj] at h0; cases h0), fun k hk => ?_⟩
      rw [hj] at hk
      obtain rfl : k = j := by simpa using hk
      exact act t k n listed pend s H ih (by simp [Tr.depth] at hn; omega) (by rw [hj]; simp) hb hc hd hp h
  | two j t j2 t2 ih ih2 =>
    intro n listed pend s H hn hc hd hp h
    simp only [chk, Bool.and_eq_true, beq_iff_eq] at hc
    obtain ⟨⟨⟨⟨hj, hb⟩, hc⟩, hb2⟩, hc2⟩ := hc
    cases n with
    | zero => simp [Tr.depth] at hn
    | succ n =>
      refine ⟨fun h0 => (by rw [hj] at h0; cases h0), fun k hk => ?_⟩
      have hk' := hk
      rw [hj] at hk
      simp only [Tr.depth, Nat.add_le_add_iff_right] at hn
      rcases (by simpa using hk : k = j ∨ k = j2) with rfl | rfl
      · exact act t k n listed pend s H ih (by omega) hk' hb hc hd hp h.1
      · exact act t2 k n listed pend s H ih2 (by omega) hk' hb2 hc2 hd hp h.2
  | three j t j2 t2 j3 t3 ih ih2 ih3 =>
    intro n listed pend s H hn hc hd hp h
    simp only [chk, Bool.and_eq_true, beq_iff_eq] at hc
    obtain ⟨⟨⟨⟨⟨⟨hj, hb⟩, hc⟩, hb2⟩, hc2⟩, hb3⟩, hc3⟩ := hc
    cases n with
    | zero => simp [Tr.depth] at hn
    | succ n =>
      refine ⟨fun h0 => (by rw [hj] at h0; cases h0), fun k hk => ?_⟩
      have hk' := hk
      rw [hj] at hk
      simp only [Tr.depth, Nat.add_le_add_iff_right] at hn
      rcases (by simpa using hk : k = j ∨ k = j2 ∨ k = j3) with rfl | rfl | rfl
      · exact act t k n listed pend s H ih (by omega) hk' hb hc hd hp h.1
      · exact act t2 k n listed pend s H ih2 (by omega) hk' hb2 hc2 hd hp h.2.1
      · exact act t3 k n listed pend s H ih3 (by omega) hk' hb3 hc3 hd hp h.2.2
/-- A region that draws its order, by the walk of one. -/
theorem S_draw {id : Nat} {l : List Oper} {s : Slots} {H : Heap} {Q : Post} (hm : P.follows .mixedOrders = true) (t : Tr) (hc : (decide (t.depth ≤ l.length) && chk l.toArray t (Array.replicate l.length false) []) = true)
    (h : SR P w0 N l.toArray (fun s H => Q .normal s H) t [] s H) : S P w0 N (.region id l.toArray true) s H Q := by
  simp only [Bool.and_eq_true, decide_eq_true_eq] at hc
  intro w a hw ha
  refine wp_region_any hm ?_
  simp only [List.size_toArray]
  refine wpAny_sound' (fun _ _ h => h) l.length _ [] s H a _ (SR_sound t l.length _ [] s H hc.1 hc.2 ?_ (fun x hx => by cases hx) h) hw.drew ha
  intro k o ho hk
  have := (Array.getElem?_eq_some_iff.1 ho).1
  simp only [List.size_toArray] at this
  simp [Array.getD_eq_getD_getElem?, this] at hk
end
end Go.Proofs.Ytgnepkppmjabnaa.Eng
