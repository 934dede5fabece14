/- The engine's seventeenth part: code cut in two, with what holds between. Conditions: none. -/
import Derived.Test.YtgnepkppmjabnaaEng16
namespace Go.Proofs.Ytgnepkppmjabnaa.Eng
open Go.RowKit
set_option linter.unusedVariables false
set_option linter.unusedSimpArgs false
section
variable {P : Program} {w0 : World} {N : Nat}
theorem SopsL_mono {ops : Array Oper} {K K' : Slots → Heap → Prop} (hk : ∀ s H, K s H → K' s H) : ∀ (l : List Oper) (s : Slots) (H : Heap), SopsL P w0 N ops l s H K → SopsL P w0 N ops l s H K'
  | [], s, H, h => hk s H h
  | o :: r, s, H, h => by
    refine ⟨h.1, ?_⟩
    have h2 := h.2
    split at h2 <;> rename_i hw
    · rw [if_pos hw]
      exact opV_mono_ h2 fun v H' h => SopsL_mono hk r _ _ h
    · rw [if_neg hw]
      exact SopsL_mono hk r _ _ h2
theorem W_mono {c : Code} : ∀ {s : Slots} {H : Heap} {Q Q' : Post}, (∀ e s H, Q e s H → Q' e s H) → W P w0 N c s H Q → W P w0 N c s H Q' := by
  induction c with
  | skip => intro s H Q Q' hq h; exact hq _ _ _ h
  | ret => intro s H Q Q' hq h; exact hq _ _ _ h
  | exit i => intro s H Q Q' hq h; exact hq _ _ _ h
  | seq x y ihx ihy =>
    intro s H Q Q' hq h
    refine ihx (fun e s H q => ?_) h
    cases e <;> first | exact ihy hq q | exact hq _ _ _ q
  | block i c ih =>
    intro s H Q Q' hq h
    refine ih (fun e s H q => ?_) h
    cases e with
    | exit j =>
      simp only [blockQ_exit] at q ⊢
      split <;> rename_i hj
      · rw [if_pos hj] at q; exact hq _ _ _ q
      · rw [if_neg hj] at q; exact hq _ _ _ q
    | _ => exact hq _ _ _ q
  | cond c x y ihx ihy =>
    intro s H Q Q' hq h
    simp only [W] at h ⊢
    unfold CondK at h ⊢
    split at h
    · exact ⟨fun e => ihx hq (h.1 e), fun e => ihy hq (h.2 e)⟩
    · exact h.elim
  | region id ops d =>
    intro s H Q Q' hq h
    cases d with
    | true => exact S.mono h hq
    | false => exact SopsL_mono (fun s H h => hq _ _ _ h) _ _ _ h
  | _ => intro s H Q Q' hq h; exact S.mono h hq
/-- The first k parts of a code, and what follows. -/
def splitC : Nat → Code → Code × Code
  | 0, c => (.skip, c)
  | n + 1, .seq x y => (.seq x (splitC n y).1, (splitC n y).2)
  | _ + 1, c => (c, .skip)
theorem W_split : ∀ (k : Nat) (c : Code) (s : Slots) (H : Heap) (Q : Post), W P w0 N (splitC k c).1 s H (thenQ (fun s H => W P w0 N (splitC k c).2 s H Q) Q) → W P w0 N c s H Q
  | 0, c, s, H, Q, h => h
  | k + 1, c, s, H, Q, h => by
    cases c
    case seq x y =>
      have h' : W P w0 N x s H (thenQ (fun s H => W P w0 N (splitC k y).1 s H (thenQ (fun s H => W P w0 N (splitC k y).2 s H Q) Q)) (thenQ (fun s H => W P w0 N (splitC k y).2 s H Q) Q)) := h
      show W P w0 N x s H (thenQ (fun s H => W P w0 N y s H Q) Q)
      refine W_mono (fun e s H q => ?_) h'
      cases e <;> first | exact W_split k y s H Q q | exact q
    all_goals exact W_mono (fun e s H q => by cases e <;> exact q) h
def preC (n : Nat) (c : Code) : Code := (splitC n c).1
def restC (n : Nat) (c : Code) : Code := (splitC n c).2
section
variable {s : Slots} {H : Heap} {Q : Post} {x y c : Code} {n : Nat}
theorem W_pre0 : W P w0 N (preC 0 c) s H Q = Q .normal s H := rfl
theorem W_pre1 : W P w0 N (preC (n + 1) (.seq x y)) s H Q = W P w0 N x s H (thenQ (fun s H => W P w0 N (preC n y) s H Q) Q) := rfl
theorem W_rest0 : W P w0 N (restC 0 c) s H Q = W P w0 N c s H Q := rfl
theorem W_rest1 : W P w0 N (restC (n + 1) (.seq x y)) s H Q = W P w0 N (restC n y) s H Q := rfl
end
theorem W_cut {c : Code} {s : Slots} {H : Heap} {Q : Post} (k : Nat) (R : Slots → Heap → Prop) (h1 : W P w0 N (preC k c) s H (thenQ R Q)) (h2 : ∀ s H, R s H → W P w0 N (restC k c) s H Q) : W P w0 N c s H Q := by
  refine W_split k c s H Q ?_
  refine W_mono (fun e s H q => ?_) h1
  cases e <;> first | exact h2 s H q | exact q
end
end Go.Proofs.Ytgnepkppmjabnaa.Eng
