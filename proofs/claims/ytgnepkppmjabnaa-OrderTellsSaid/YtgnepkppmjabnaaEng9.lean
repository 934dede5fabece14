/- The engine's ninth part: the walk of a region that draws its order, laid out for rewriting. Conditions: none. -/
import Derived.Test.YtgnepkppmjabnaaEng8
namespace Go.Proofs.Ytgnepkppmjabnaa.Eng
open Go.RowKit
set_option linter.unusedVariables false
set_option linter.unusedSimpArgs false

/-- As Tr, with what the check reckons written beside: l: does it read memory; ks: what is kept behind a step. -/
inductive TX where
  | fin
  | q (i : Nat) (l : Bool) (t : TX)
  | one (j : Nat) (ks : List Nat) (t : TX)
  | two (j : Nat) (ks : List Nat) (t : TX) (j2 : Nat) (ks2 : List Nat) (t2 : TX)
  | three (j : Nat) (ks : List Nat) (t : TX) (j2 : Nat) (ks2 : List Nat) (t2 : TX) (j3 : Nat) (ks3 : List Nat) (t3 : TX)
def TX.tr : TX → Tr
  | .fin => .fin
  | .q i _ t => .q i t.tr
  | .one j _ t => .one j t.tr
  | .two j _ t j2 _ t2 => .two j t.tr j2 t2.tr
  | .three j _ t j2 _ t2 j3 _ t3 => .three j t.tr j2 t2.tr j3 t3.tr
/-- Are the notes right? ld: what was read so far. -/
def TX.ok (ops : Array Oper) : TX → List Nat → Bool
  | .fin, _ => true
  | .q i l t, ld => l == loadAt ops i && t.ok ops (if l = true then i :: ld else ld)
  | .one j ks t, ld => ks == keepI ops j ld && t.ok ops ks
  | .two j ks t j2 ks2 t2, ld => ks == keepI ops j ld && t.ok ops ks && ks2 == keepI ops j2 ld && t2.ok ops ks2
  | .three j ks t j2 ks2 t2 j3 ks3 t3, ld => ks == keepI ops j ld && t.ok ops ks && ks2 == keepI ops j2 ld && t2.ok ops ks2 && ks3 == keepI ops j3 ld && t3.ok ops ks3
def opAt : List Oper → Nat → Option Oper
  | [], _ => none
  | o :: _, 0 => some o
  | _ :: l, n + 1 => opAt l n
theorem opAt_eq (l : List Oper) : ∀ n, opAt l n = l.toArray[n]? := by
  induction l with
  | nil => intro n; simp [opAt]
  | cons o l ih => intro n; cases n with
    | zero => simp [opAt]
    | succ n => simp [opAt, ih]
def pick1 (ks : List Nat) : Pend → Pend
  | [] => []
  | x :: r => if ks.contains x.1 = true then x :: pick1 ks r else pick1 ks r
def QO (P : Program) (w0 : World) (N : Nat) (l : List Oper) (o : Option Oper) (s : Slots) (H : Heap) (K : Value → Slots → Prop) : Prop :=
  match o with
  | some o => dstOk N o.dst ∧ if want l.toArray s o = true then qV P w0 o.op o.type s H (fun v => K v (putO s o.dst v)) else K undef (putO s o.dst undef)
  | none => False
def WO (P : Program) (w0 : World) (N : Nat) (l : List Oper) (o : Option Oper) (s : Slots) (H : Heap) (K : Slots → Heap → Prop) : Prop :=
  match o with
  | some o => dstOk N o.dst ∧ if want l.toArray s o = true then opV P w0 o.op o.type s H (fun v H' => K (putO s o.dst v) H') else K (putO s o.dst undef) H
  | none => False
def reO (P : Program) (w0 : World) (N : Nat) (l : List Oper) (s : Slots) (H : Heap) : Pend → Prop
  | [] => True
  | x :: r => QO P w0 N l (opAt l x.1) s H (fun v _ => v = x.2) ∧ reO P w0 N l s H r
def SX (P : Program) (w0 : World) (N : Nat) (l : List Oper) (K : Slots → Heap → Prop) : TX → Pend → Slots → Heap → Prop
  | .fin, _, s, H => K s H
  | .q i ld t, pend, s, H => QO P w0 N l (opAt l i) s H fun v s' => SX P w0 N l K t (if ld = true then (i, v) :: pend else pend) s' H
  | .one j ks t, pend, s, H => WO P w0 N l (opAt l j) s H fun s' H' => reO P w0 N l s' H' (pick1 ks pend) ∧ SX P w0 N l K t (pick1 ks pend) s' H'
  | .two j ks t j2 ks2 t2, pend, s, H => (WO P w0 N l (opAt l j) s H fun s' H' => reO P w0 N l s' H' (pick1 ks pend) ∧ SX P w0 N l K t (pick1 ks pend) s' H') ∧
      (WO P w0 N l (opAt l j2) s H fun s' H' => reO P w0 N l s' H' (pick1 ks2 pend) ∧ SX P w0 N l K t2 (pick1 ks2 pend) s' H')
  | .three j ks t j2 ks2 t2 j3 ks3 t3, pend, s, H => (WO P w0 N l (opAt l j) s H fun s' H' => reO P w0 N l s' H' (pick1 ks pend) ∧ SX P w0 N l K t (pick1 ks pend) s' H') ∧
      (WO P w0 N l (opAt l j2) s H fun s' H' => reO P w0 N l s' H' (pick1 ks2 pend) ∧ SX P w0 N l K t2 (pick1 ks2 pend) s' H') ∧
      (WO P w0 N l (opAt l j3) s H fun s' H' => reO P w0 N l s' H' (pick1 ks3 pend) ∧ SX P w0 N l K t3 (pick1 ks3 pend) s' H')
section
variable {P : Program} {w0 : World} {N : Nat} {l : List Oper} {K : Slots → Heap → Prop}
theorem pick_keep (j : Nat) : ∀ (pend : Pend) (ks : List Nat), (∀ x ∈ pend, ks.contains x.1 = !ahead l.toArray x.1 j) → pick1 ks pend = keepP l.toArray j pend := by
  intro pend
  induction pend with
  | nil => intro ks _; rfl
  | cons x r ih =>
    intro ks h
    have h1 := h x List.mem_cons_self
    have h2 := ih ks fun y hy => h y (List.mem_cons_of_mem _ hy)
    simp only [pick1, h1, keepP, List.filter_cons]
    split <;> rename_i hx
    · rw [h2]; rfl
    · rw [h2]; rfl
theorem keep_contains {j : Nat} {ks ld : List Nat} (hk : ks = keepI l.toArray j ld) {pend : Pend} (hp : pend.map (·.1) = ld) : ∀ x ∈ pend, ks.contains x.1 = !ahead l.toArray x.1 j := by
  intro x hx
  subst hk hp
  have hm : x.1 ∈ pend.map (·.1) := List.mem_map_of_mem hx
  simp only [keepI, List.contains_eq_mem, List.mem_filter]
  by_cases ha : ahead l.toArray x.1 j = true
  · simp [ha]
  · simp only [Bool.not_eq_true] at ha
    simp [ha, hm]
theorem QO_qAt {i : Nat} {s : Slots} {H : Heap} {K : Value → Slots → Prop} (h : QO P w0 N l (opAt l i) s H K) : qAt P w0 N l.toArray i s H (fun v => K v (putO s (dstOf l.toArray i) v)) := by
  unfold QO at h
  unfold qAt
  rw [opAt_eq] at h
  split at h
  · rename_i o ho
    simp only [ho]
    have e : dstOf l.toArray i = o.dst := by simp only [dstOf, ho]; rfl
    rw [e]
    exact h
  · exact h.elim
theorem WO_stepV {i : Nat} {s : Slots} {H : Heap} {K : Slots → Heap → Prop} (h : WO P w0 N l (opAt l i) s H K) : stepV P w0 N l.toArray i s H K := by
  unfold WO at h
  unfold stepV
  rw [opAt_eq] at h
  split at h
  · rename_i o ho; simp only [ho]; exact h
  · exact h.elim
theorem qV_of_one {op : Op} {ty : TypeId} {s : Slots} {H : Heap} {v : Value} {K : Value → Prop} (h : qV P w0 op ty s H (· = v)) (hk : K v) : qV P w0 op ty s H K := by
  have hm : ∀ u, u = v → K u := fun u e => e ▸ hk
  unfold qV at h ⊢
  split at h
  all_goals first
    | exact hm _ h
    | exact PureK_mono h hm
    | exact LoadK_mono h hm
    | (unfold PickK at h ⊢; split at h; exact hm _ h; exact h.elim)
    | (unfold NilK at h ⊢; split at h; exact hm _ h; exact hm _ h; exact h.elim)
    | exact h.elim
theorem qAt_mono {ops : Array Oper} {i : Nat} {s : Slots} {H : Heap} {K K' : Value → Prop} (h : qAt P w0 N ops i s H K) (hk : ∀ v, K v → K' v) : qAt P w0 N ops i s H K' := by
  unfold qAt at h ⊢
  split at h
  · rename_i o ho
    refine ⟨h.1, ?_⟩
    have h2 := h.2
    split at h2 <;> rename_i hw
    · rw [if_pos hw]
      obtain ⟨v, hv, k⟩ := qV_one h2
      exact qV_of_one hv (hk v k)
    · rw [if_neg hw]; exact hk _ h2
  · exact h
theorem reO_recheck {s : Slots} {H : Heap} : ∀ {pend : Pend}, reO P w0 N l s H pend → recheck P w0 N l.toArray s H pend
  | [], _ => trivial
  | x :: r, h => ⟨QO_qAt (K := fun v _ => v = x.2) h.1, reO_recheck h.2⟩
theorem SX_SR : ∀ (t : TX) (ld : List Nat) (pend : Pend) (s : Slots) (H : Heap), t.ok l.toArray ld = true → pend.map (·.1) = ld → SX P w0 N l K t pend s H → SR P w0 N l.toArray K t.tr pend s H := by
  have act : ∀ (t : TX) (j : Nat) (ks ld : List Nat) (pend : Pend) (s : Slots) (H : Heap), (∀ (ld : List Nat) (pend : Pend) (s : Slots) (H : Heap), t.ok l.toArray ld = true → pend.map (·.1) = ld → SX P w0 N l K t pend s H → SR P w0 N l.toArray K t.tr pend s H) →
      ks = keepI l.toArray j ld → t.ok l.toArray ks = true → pend.map (·.1) = ld → (WO P w0 N l (opAt l j) s H fun s' H' => reO P w0 N l s' H' (pick1 ks pend) ∧ SX P w0 N l K t (pick1 ks pend) s' H') →
      stepV P w0 N l.toArray j s H fun s' H' => recheck P w0 N l.toArray s' H' (keepP l.toArray j pend) ∧ SR P w0 N l.toArray K t.tr (keepP l.toArray j pend) s' H' := by
    intro t j ks ld pend s H ih hks hok hp h
    refine stepV_mono (WO_stepV h) fun s' H' hk => ?_
    rw [pick_keep j pend ks (keep_contains hks hp)] at hk
    exact ⟨reO_recheck hk.1, ih ks _ _ _ hok (by rw [keep_idx, hp, hks]) hk.2⟩
  intro t
  induction t with
  | fin => intro ld pend s H _ _ h; exact h
  | q i d t ih =>
    intro ld pend s H hok hp h
    simp only [TX.ok, Bool.and_eq_true, beq_iff_eq] at hok
    obtain ⟨hd, hok⟩ := hok
    refine qAt_mono (QO_qAt h) fun v hv => ?_
    rw [← hd]
    refine ih _ _ _ _ hok ?_ hv
    split
    · simp [hp]
    · exact hp
  | one j ks t ih =>
    intro ld pend s H hok hp h
    simp only [TX.ok, Bool.and_eq_true, beq_iff_eq] at hok
    exact act t j ks ld pend s H ih hok.1 hok.2 hp h
  | two j ks t j2 ks2 t2 ih ih2 =>
    intro ld pend s H hok hp h
    simp only [TX.ok, Bool.and_eq_true, beq_iff_eq] at hok
    exact ⟨act t j ks ld pend s H ih hok.1.1.1 hok.1.1.2 hp h.1, act t2 j2 ks2 ld pend s H ih2 hok.1.2 hok.2 hp h.2⟩
  | three j ks t j2 ks2 t2 j3 ks3 t3 ih ih2 ih3 =>
    intro ld pend s H hok hp h
    simp only [TX.ok, Bool.and_eq_true, beq_iff_eq] at hok
    exact ⟨act t j ks ld pend s H ih hok.1.1.1.1.1 hok.1.1.1.1.2 hp h.1, act t2 j2 ks2 ld pend s H ih2 hok.1.1.1.2 hok.1.1.2 hp h.2.1, act t3 j3 ks3 ld pend s H ih3 hok.1.2 hok.2 hp h.2.2⟩
def TX.fits (l : List Oper) (t : TX) : Bool := decide (t.tr.depth ≤ l.length) && chk l.toArray t.tr (Array.replicate l.length false) [] && t.ok l.toArray []
/-- A region that draws its order. -/
theorem S_drawn {id : Nat} {s : Slots} {H : Heap} {Q : Post} (hm : P.follows .mixedOrders = true) (t : TX) (hc : t.fits l = true) (h : SX P w0 N l (fun s H => Q .normal s H) t [] s H) : S P w0 N (.region id l.toArray true) s H Q := by
  simp only [TX.fits, Bool.and_eq_true] at hc
  exact S_draw hm t.tr (by simp only [Bool.and_eq_true]; exact hc.1) (SX_SR t [] [] s H hc.2 rfl h)
theorem QO_congr {o : Option Oper} {s : Slots} {H : Heap} {K : Value → Slots → Prop} : QO P w0 N l o s H K = QO P w0 N l o s H K := rfl
theorem QO_some {o : Oper} {s : Slots} {H : Heap} {K : Value → Slots → Prop} : QO P w0 N l (some o) s H K = (dstOk N o.dst ∧ if want l.toArray s o = true then qV P w0 o.op o.type s H (fun v => K v (putO s o.dst v)) else K undef (putO s o.dst undef)) := rfl
theorem WO_some {o : Oper} {s : Slots} {H : Heap} {K : Slots → Heap → Prop} : WO P w0 N l (some o) s H K = (dstOk N o.dst ∧ if want l.toArray s o = true then opV P w0 o.op o.type s H (fun v H' => K (putO s o.dst v) H') else K (putO s o.dst undef) H) := rfl
end
end Go.Proofs.Ytgnepkppmjabnaa.Eng
