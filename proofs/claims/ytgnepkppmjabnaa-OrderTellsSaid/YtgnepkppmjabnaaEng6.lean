/- The engine's sixth part: regions whose order is drawn. One order is walked (a tree where memory is touched in an order that is left open); a check by the kernel tells that it stands for all. Conditions: none. -/
import Derived.Test.YtgnepkppmjabnaaEng5
namespace Go.Proofs.Ytgnepkppmjabnaa.Eng
open Go.RowKit
set_option linter.unusedVariables false
set_option linter.unusedSimpArgs false

/-- The value of an operation that writes nothing and makes nothing. -/
def qV (P : Program) (w0 : World) (op : Op) (ty : TypeId) (s : Slots) (H : Heap) (K : Value → Prop) : Prop :=
  match op with
  | .move x => K (ev s x)
  | .pick c a b => PickK (ev s c) (ev s a) (ev s b) K
  | .build t parts => PureK P (Instr.build t (parts.map fun (i, x) => (i, ev s x))) K
  | .load t a => LoadK P w0 H t (ev s a) K
  | .nilCheck x => NilK (ev s x) K
  | .binOp op t x y _ => BinK P op t x y (ev s x) (ev s y) K
  | .unOp op _ x => PureK P (Op.unary op (ev s x)) K
  | .convert src dst x => PureK P (convert src dst (ev s x)) K
  | .makeInterface t x => PureK P (Instr.makeInterface t (ev s x)) K
  | .makeFunc fn first captured => K (.func fn (first.map (ev s)) (captured.map (ev s)))
  | .slice t x lo hi mx => PureK P (Instr.sliceAt t (ev s x) (lo.map (ev s)) (hi.map (ev s)) (mx.map (ev s))) K
  | .fieldAddr t x f => PureK P (Instr.fieldAt t (ev s x) f) K
  | .field t x f => PureK P (Instr.field t (ev s x) f) K
  | .indexAddr t x ix => PureK P (Instr.indexAt t (ev s x) (ev s ix)) K
  | .index t x ix => PureK P (Instr.index t (ev s x) (ev s ix)) K
  | .typeAssert x t u ok => PureK P (Instr.typeAssert (ev s x) t u ok) K
  | .extract x i => PureK P (Instr.extract (ev s x) i) K
  | .call ⟨.builtin .len, args, ts⟩ => PureK P (Builtin.len_ ts ty (args.map (ev s))) K
  | .call ⟨.builtin .cap, args, ts⟩ => PureK P (Builtin.cap_ ts ty (args.map (ev s))) K
  | .call ⟨.builtin .min, args, ts⟩ => PureK P (Builtin.min_ ts ty (args.map (ev s))) K
  | .call ⟨.builtin .max, args, ts⟩ => PureK P (Builtin.max_ ts ty (args.map (ev s))) K
  | _ => False
/-- Does it lk at memory? -/
def isLoad : Op → Bool
  | .load .. => true
  | _ => false

section
variable {P : Program} {w0 : World} {N : Nat} {H : Heap} {s s' : Slots}
theorem pairs_congr (ps : Array (Nat × Operand)) (hp : ∀ x ∈ ps.map (·.2), ev s x = ev s' x) : (ps.map fun (i, x) => (i, ev s x)) = (ps.map fun (i, x) => (i, ev s' x)) :=
  Array.map_congr_left fun p hm => by
    obtain ⟨i, x⟩ := p
    simp only [hp x (Array.mem_map.2 ⟨(i, x), hm, rfl⟩)]
theorem opV_congr {op : Op} {ty : TypeId} {K : Value → Heap → Prop} (h : ∀ x ∈ op.operands, ev s x = ev s' x) : opV P w0 op ty s H K = opV P w0 op ty s' H K := by
  cases op <;> simp only [Op.operands] at h <;> simp only [opV]
  case build t ps => rw [pairs_congr ps fun x hx => h x (by simpa using hx)]
  case buildSlice t n ps =>
    have : (ps.toList.map fun p => (p.1, ev s p.2)) = (ps.toList.map fun p => (p.1, ev s' p.2)) := List.map_congr_left fun p hm => by
      rw [h p.2 (by simp only [List.mem_toArray, List.mem_map]; exact ⟨p, hm, rfl⟩)]
    rw [this]
  case makeFunc fn first captured =>
    rw [Array.map_congr_left (xs := first) fun x hx => h x (by simp [hx]), Array.map_congr_left (xs := captured) fun x hx => h x (by simp [hx])]
  case call c =>
    obtain ⟨callee, args, ts⟩ := c
    have ha : args.map (ev s) = args.map (ev s') := Array.map_congr_left fun x hx => h x (by simp [Call.operands, hx])
    have hl : args.toList.map (ev s) = args.toList.map (ev s') := List.map_congr_left fun x hx => h x (by simp [Call.operands, Array.mem_toList_iff.1 hx])
    unfold CallK
    simp only [ha, hl]
    cases callee with
    | value f => simp only [h f (by simp [Call.operands])]
    | builtin b => cases b <;> rfl
    | invoke r m => rfl
  case makeMap t r => cases r <;> simp_all
  case slice t x lo hi mx => cases lo <;> cases hi <;> cases mx <;> simp_all
  all_goals (first | rfl | (simp_all; done))
theorem qV_congr {op : Op} {ty : TypeId} {K : Value → Prop} (h : ∀ x ∈ op.operands, ev s x = ev s' x) : qV P w0 op ty s H K = qV P w0 op ty s' H K := by
  cases op <;> simp only [Op.operands] at h <;> simp only [qV]
  case build t ps => rw [pairs_congr ps fun x hx => h x (by simpa using hx)]
  case makeFunc fn first captured =>
    rw [Array.map_congr_left (xs := first) fun x hx => h x (by simp [hx]), Array.map_congr_left (xs := captured) fun x hx => h x (by simp [hx])]
  case call c =>
    obtain ⟨callee, args, ts⟩ := c
    have ha : args.map (ev s) = args.map (ev s') := Array.map_congr_left fun x hx => h x (by simp [Call.operands, hx])
    cases callee with
    | builtin b => cases b <;> simp only [ha]
    | _ => rfl
  case slice t x lo hi mx => cases lo <;> cases hi <;> cases mx <;> simp_all
  all_goals (first | rfl | (simp_all; done))
theorem PureK_one {x : Sem Value} {K : Value → Prop} (h : PureK P x K) : ∃ v, PureK P x (· = v) ∧ K v := let ⟨r, hr, k⟩ := h; ⟨r, ⟨r, hr, rfl⟩, k⟩
theorem LoadK_one {t : TypeId} {x : Value} {K : Value → Prop} (h : LoadK P w0 H t x K) : ∃ v, LoadK P w0 H t x (· = v) ∧ K v := by
  unfold LoadK at h ⊢
  split at h
  · split at h
    · rename_i hv; exact ⟨_, by simp [hv], h⟩
    · exact h.elim
  · exact h.elim
theorem qV_one {op : Op} {ty : TypeId} {K : Value → Prop} (h : qV P w0 op ty s H K) : ∃ v, qV P w0 op ty s H (· = v) ∧ K v := by
  unfold qV at h ⊢
  split at h
  all_goals first
    | exact ⟨_, rfl, h⟩
    | exact PureK_one h
    | exact LoadK_one h
    | (unfold PickK at h ⊢; split at h; exact ⟨_, rfl, h⟩; exact h.elim)
    | (unfold NilK at h ⊢; split at h; exact ⟨_, rfl, h⟩; exact ⟨_, rfl, h⟩; exact h.elim)
    | exact h.elim
theorem LoadK_mono {t : TypeId} {x : Value} {K K' : Value → Prop} (h : LoadK P w0 H t x K) (hk : ∀ v, K v → K' v) : LoadK P w0 H t x K' := by
  obtain ⟨v, h1, h2⟩ := LoadK_one h
  unfold LoadK at h1 ⊢
  split at h1
  · split at h1
    · subst h1; exact hk _ h2
    · exact h1.elim
  · exact h1.elim
theorem opV_of_qV {op : Op} {ty : TypeId} {v : Value} {K : Value → Heap → Prop} (h : qV P w0 op ty s H (· = v)) (hk : K v H) : opV P w0 op ty s H K := by
  have hm : ∀ u, u = v → K u H := fun u e => e ▸ hk
  unfold qV at h
  split at h <;> simp only [opV, CallK]
  all_goals first
    | exact hm _ h
    | exact PureK_mono h hm
    | exact LoadK_mono h hm
    | (unfold PickK at h ⊢; split at h; exact hm _ h; exact h.elim)
    | (unfold NilK at h ⊢; split at h; exact hm _ h; exact hm _ h; exact h.elim)
    | (unfold ConvK; split; exact PureK_mono h hm; exact PureK_mono h hm; (obtain ⟨r, hr, rfl⟩ := h; exact fun w hw => ⟨_, w, H, hr w, hw, hk⟩))
    | exact h.elim
theorem qV_heap {op : Op} {ty : TypeId} {H' : Heap} {K : Value → Prop} (hl : isLoad op = false) : qV P w0 op ty s H K = qV P w0 op ty s H' K := by
  cases op
  case call c =>
    obtain ⟨callee, args, ts⟩ := c
    cases callee with
    | builtin b => cases b <;> rfl
    | _ => rfl
  all_goals first | rfl | cases hl
end

/-! ### One operation of a region; what is looked at; what must come ahead -/
section
variable (P : Program) (w0 : World) (N : Nat) (ops : Array Oper)
def stepV (i : Nat) (s : Slots) (H : Heap) (next : Slots → Heap → Prop) : Prop :=
  match ops[i]? with
  | none => next s H
  | some o => dstOk N o.dst ∧ if want ops s o = true then opV P w0 o.op o.type s H (fun v H' => next (putO s o.dst v) H') else next (putO s o.dst undef) H
/-- Operation i gives v here, and touches nothing. -/
def quietAt (i : Nat) (s : Slots) (H : Heap) (v : Value) : Prop :=
  ∃ o, ops[i]? = some o ∧ dstOk N o.dst ∧ if want ops s o = true then qV P w0 o.op o.type s H (· = v) else v = undef
def dstOf (i : Nat) : Option Tmp := (ops[i]?).bind (·.dst)
def looks (i : Nat) : List Tmp := ((ops[i]?).map (Oper.looksAt ops)).getD []
/-- The binding edges' other ends, and theirs, n deep. -/
def anc : Nat → Nat → List Nat
  | 0, _ => []
  | n + 1, i => match ops[i]? with
    | none => []
    | some o => o.after.toList.flatMap fun e => if Region.binds .any e then e.on :: anc n e.on else []
def ahead (i j : Nat) : Bool := (anc ops ops.size j).contains i
end
section
variable {P : Program} {w0 : World} {N : Nat} {ops : Array Oper} {H : Heap}
theorem ev_putO {s : Slots} {d : Option Tmp} {v : Value} {x : Operand} (h : ∀ t, d = some t → x ≠ .tmp t) : ev (putO s d v) x = ev s x := by
  cases d with
  | none => rfl
  | some d =>
    cases x with
    | tmp t =>
      have : t ≠ d := fun e => h d rfl (e ▸ rfl)
      simp [ev, putO, put, this]
    | _ => rfl
theorem want_putO {s : Slots} {d : Option Tmp} {v : Value} {o : Oper} (h : ∀ t, d = some t → t ∉ o.looksAt ops) : want ops (putO s d v) o = want ops s o := by
  cases d with
  | none => rfl
  | some d =>
    unfold want
    cases hg : o.guard with
    | none => rfl
    | some g =>
      obtain ⟨j, b⟩ := g
      cases hd : (ops[j]?).bind (·.dst) with
      | none => simp only [hd]
      | some t =>
        have hne : t ≠ d := fun e => h d rfl (by subst e; simp [Oper.looksAt, hg, hd])
        simp only [hd, putO, put, if_neg hne]
theorem operands_look {o : Oper} {t : Tmp} (h : Operand.tmp t ∈ o.op.operands) : t ∈ o.looksAt ops := List.mem_append_left _ (List.mem_filterMap.2 ⟨.tmp t, by simpa using h, rfl⟩)
theorem quietAt_put {i : Nat} {s : Slots} {v u : Value} {d : Option Tmp} (h : ∀ t, d = some t → t ∉ looks ops i) : quietAt P w0 N ops i (putO s d u) H v ↔ quietAt P w0 N ops i s H v := by
  unfold quietAt
  refine exists_congr fun o => and_congr_right fun ho => and_congr_right fun _ => ?_
  have hl : ∀ t, d = some t → t ∉ o.looksAt ops := fun t ht => by have := h t ht; simpa [looks, ho] using this
  rw [want_putO hl, qV_congr (s := putO s d u) (s' := s) fun x hx => ev_putO fun t ht e => hl t ht (operands_look (by rw [← e]; exact hx))]
theorem putO_comm {s : Slots} {x y : Option Tmp} {v u : Value} (h : ∀ t, x = some t → y ≠ some t) : putO (putO s x v) y u = putO (putO s y u) x v := by
  cases x with
  | none => rfl
  | some d =>
    cases y with
    | none => rfl
    | some e =>
      have hne : e ≠ d := fun he => h d rfl (he ▸ rfl)
      funext k
      simp only [putO, put]
      by_cases h1 : k = e <;> by_cases h2 : k = d <;> simp_all
theorem opV_mono_ {op : Op} {ty : TypeId} {s : Slots} {K K' : Value → Heap → Prop} (h : opV P w0 op ty s H K) (hk : ∀ v H', K v H' → K' v H') : opV P w0 op ty s H K' := by
  have new : ∀ {it : Item} {K K' : Nat → Heap → Prop}, NewK w0 H it K → (∀ b H', K b H' → K' b H') → NewK w0 H it K' := fun h hk b h1 h2 => hk _ _ (h b h1 h2)
  have opk : ∀ {x : Sem Value}, OpK P w0 x H K → OpK P w0 x H K' := fun h w hw => let ⟨r, w', H', a, b, c⟩ := h w hw; ⟨r, w', H', a, b, hk _ _ c⟩
  cases op <;> simp only [opV] at h ⊢
  case alloc e => unfold AllocK at h ⊢; split <;> rename_i hz <;> simp only [hz] at h; exact new h fun _ _ => hk _ _
  case box => exact new h fun _ _ => hk _ _
  case pick => unfold PickK at h ⊢; split <;> rename_i hz <;> simp only [hz] at h; exact hk _ _ h
  case nilCheck =>
    unfold NilK at h ⊢
    split <;> rename_i hz <;> simp only [hz] at h
    · exact hk _ _ h
    · exact hk _ _ h
  case convert =>
    unfold ConvK at h ⊢
    split
    · rename_i hz; simp only [hz] at h; exact PureK_mono h fun _ => hk _ _
    · rename_i hz hx; simp only [hz, hx] at h ⊢; exact PureK_mono h fun _ => hk _ _
    · rename_i hn1 hn2
      split at h
      · rename_i hz; exact (hn1 _ hz).elim
      · rename_i hz hx; exact (hn2 _ hz hx).elim
      · exact opk h
  case load => exact LoadK_mono h fun _ => hk _ _
  case store =>
    unfold StoreK at h ⊢
    split <;> rename_i hz <;> simp only [hz] at h
    split <;> rename_i hz2 <;> simp only [hz2] at h
    exact ⟨h.1, h.2.1, hk _ _ h.2.2⟩
  case buildSlice =>
    unfold BuildSliceK at h ⊢
    split <;> rename_i hz <;> simp only [hz] at h
    split <;> rename_i hz2 <;> simp only [hz2] at h
    refine ⟨h.1, h.2.1, ?_⟩
    have h3 := h.2.2
    split <;> rename_i hz3 <;> simp only [hz3] at h3
    exact new h3 fun _ _ => hk _ _
  case makeSlice =>
    unfold MakeK at h ⊢
    split
    · rename_i hz1 hz2 hz3
      simp only [hz1, hz2, hz3] at h
      split <;> rename_i hz <;> simp only [hz] at h
      exact ⟨h.1, h.2.1, h.2.2.1, h.2.2.2.1, h.2.2.2.2.1, new h.2.2.2.2.2 fun _ _ => hk _ _⟩
    · rename_i hneg
      split at h
      · rename_i h1 h2 h3; exact (hneg _ _ _ _ _ h1 h2 h3).elim
      · exact h
  case call c =>
    unfold CallK at h ⊢
    split <;> rename_i hz <;> simp only [hz] at h
    · unfold FunK at h ⊢
      split <;> rename_i hf <;> simp only [hf] at h
      exact ⟨h.1, h.2.mono hk⟩
    all_goals first | exact PureK_mono h fun _ => hk _ _ | exact opk h
  all_goals first | exact hk _ _ h | exact PureK_mono h fun _ => hk _ _ | exact opk h | exact h
theorem stepV_mono {i : Nat} {s : Slots} {K K' : Slots → Heap → Prop} (h : stepV P w0 N ops i s H K) (hk : ∀ s H, K s H → K' s H) : stepV P w0 N ops i s H K' := by
  unfold stepV at h ⊢
  split at h
  · exact hk _ _ h
  · refine ⟨h.1, ?_⟩
    have h2 := h.2
    split at h2 <;> rename_i hw
    · rw [if_pos hw]; exact opV_mono_ h2 fun _ _ => hk _ _
    · rw [if_neg hw]; exact hk _ _ h2
theorem stepV_quiet {i : Nat} {s : Slots} {v : Value} {K : Slots → Heap → Prop} (h : quietAt P w0 N ops i s H v) (hk : K (putO s (dstOf ops i) v) H) : stepV P w0 N ops i s H K := by
  obtain ⟨o, ho, hd, h⟩ := h
  unfold stepV
  simp only [ho]
  have e : dstOf ops i = o.dst := by simp [dstOf, ho]
  rw [e] at hk
  refine ⟨hd, ?_⟩
  split at h
  · rename_i hw; rw [if_pos hw]; exact opV_of_qV h hk
  · rename_i hw; rw [if_neg hw, ← h]; exact hk
/-- A step of j, seen from slots that bear i's value already. -/
theorem stepV_put {i j : Nat} {s : Slots} {v : Value} {K : Slots → Heap → Prop} (h1 : ∀ t, dstOf ops i = some t → t ∉ looks ops j) (h2 : ∀ t, dstOf ops i = some t → dstOf ops j ≠ some t)
    (h : stepV P w0 N ops j (putO s (dstOf ops i) v) H K) : stepV P w0 N ops j s H (fun s' H' => K (putO s' (dstOf ops i) v) H') := by
  unfold stepV at h ⊢
  cases hj : ops[j]? with
  | none => simp only [hj] at h ⊢; exact h
  | some o =>
    simp only [hj] at h ⊢
    have hl : ∀ t, dstOf ops i = some t → t ∉ o.looksAt ops := fun t ht => by have := h1 t ht; simpa [looks, hj] using this
    have hd : ∀ t, dstOf ops i = some t → o.dst ≠ some t := fun t ht => by have := h2 t ht; simpa [dstOf, hj] using this
    refine ⟨h.1, ?_⟩
    have h3 := h.2
    rw [want_putO hl] at h3
    split at h3 <;> rename_i hw
    · rw [if_pos hw]
      rw [opV_congr (s := putO s (dstOf ops i) v) (s' := s) fun x hx => ev_putO fun t ht e => hl t ht (operands_look (by rw [← e]; exact hx))] at h3
      refine opV_mono_ h3 fun u H' hk => ?_
      rwa [putO_comm hd] at hk
    · rw [if_neg hw]
      rwa [putO_comm hd] at h3

/-! ### All orders, with what was read ahead held against what is written -/
abbrev Pend := List (Nat × Value)
def keepP (ops : Array Oper) (j : Nat) (pend : Pend) : Pend := pend.filter fun x => !ahead ops x.1 j
def SA (P : Program) (w0 : World) (N : Nat) (ops : Array Oper) (K : Slots → Heap → Prop) : Nat → Array Bool → Pend → Slots → Heap → Prop
  | 0, listed, _, s, H => Region.ready .any ops listed = [] ∧ K s H
  | n + 1, listed, pend, s, H => (Region.ready .any ops listed = [] → K s H) ∧ ∀ j ∈ Region.ready .any ops listed,
      stepV P w0 N ops j s H fun s' H' => (∀ x ∈ keepP ops j pend, quietAt P w0 N ops x.1 s' H' x.2) ∧ SA P w0 N ops K n (listed.setIfInBounds j true) (keepP ops j pend) s' H'
theorem wpAny_sound' {Q : Post} {K : Slots → Heap → Prop} (hK : ∀ s H, K s H → Q .normal s H) : ∀ (n : Nat) (listed : Array Bool) (pend : Pend) (s : Slots) (H : Heap) (a : Act) (w : World), SA P w0 N ops K n listed pend s H → Sat w0 H w → Rs N s a →
    wpAny P .any ops (good w0 N Q) n listed a w := by
  intro n
  induction n with
  | zero => intro listed pend s H a w h hw ha; exact ⟨h.1, s, H, ha, hw, hK s H h.2⟩
  | succ n ih =>
    intro listed pend s H a w h hw ha
    refine ⟨fun h0 => ⟨s, H, ha, hw, hK s H (h.1 h0)⟩, fun j hj => ?_⟩
    have h2 := h.2 j hj
    unfold stepV at h2
    unfold wpOp
    cases ho : ops[j]? with
    | none =>
      simp only [ho] at h2 ⊢
      exact ih _ _ _ _ _ _ h2.2 hw ha
    | some o =>
      simp only [ho] at h2 ⊢
      rw [want_eq ha]
      split
      · rename_i hwant
        have h3 := h2.2
        rw [if_pos hwant] at h3
        refine .inl (Oper.wp_mono ?_ (opV_sound hw ha h3))
        rintro a' w' ⟨v, H', rfl, hs, hk⟩
        exact ih _ _ _ _ _ _ hk.2 hs (ha.put h2.1 v)
      · rename_i hwant
        have h3 := h2.2
        rw [if_neg hwant] at h3
        exact ih _ _ _ _ _ _ h3.2 hw (ha.put h2.1 undef)
end
end Go.Proofs.Ytgnepkppmjabnaa.Eng
