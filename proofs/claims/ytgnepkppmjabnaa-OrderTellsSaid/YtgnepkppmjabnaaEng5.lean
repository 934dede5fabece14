/- The engine's fifth part: code as one formula (W) that is laid open by rewriting. Conditions: none. -/
import Derived.Test.YtgnepkppmjabnaaEng4
namespace Go.Proofs.Ytgnepkppmjabnaa.Eng
open Go.RowKit
set_option linter.unusedVariables false
set_option linter.unusedSimpArgs false

def CondK (t : Value) (A B : Prop) : Prop :=
  match t with
  | .bool t => (t = true → A) ∧ (t = false → B)
  | _ => False
theorem CondK_bool {t : Bool} {A B : Prop} : CondK (.bool t) A B ↔ ((t = true → A) ∧ (t = false → B)) := Iff.rfl
theorem CondK_congr {t t' : Value} {A B : Prop} (h : t = t') : CondK t A B = CondK t' A B := by rw [h]
/-- Code as a formula; loops and regions that draw their order stay as they are. -/
def W (P : Program) (w0 : World) (N : Nat) : Code → Slots → Heap → Post → Prop
  | .skip, s, H, Q => Q .normal s H
  | .ret, s, H, Q => Q .ret s H
  | .exit i, s, H, Q => Q (.exit i) s H
  | .seq x y, s, H, Q => W P w0 N x s H (thenQ (fun s H => W P w0 N y s H Q) Q)
  | .block i c, s, H, Q => W P w0 N c s H (blockQ i Q)
  | .cond c x y, s, H, Q => CondK (ev s c) (W P w0 N x s H Q) (W P w0 N y s H Q)
  | .region _ ops false, s, H, Q => SopsL P w0 N ops ops.toList s H (fun s H => Q .normal s H)
  | c, s, H, Q => S P w0 N c s H Q
section
variable {P : Program} {w0 : World} {N : Nat}
theorem S_of_W {c : Code} : ∀ {s : Slots} {H : Heap} {Q : Post}, W P w0 N c s H Q → S P w0 N c s H Q := by
  induction c with
  | skip => intro s H Q h; exact S_skip h
  | ret => intro s H Q h; exact S_ret h
  | exit i => intro s H Q h; exact S_exit h
  | seq x y ihx ihy =>
    intro s H Q h
    exact S_seq ((ihx h).mono fun e s H q => by cases e <;> first | exact ihy q | exact q)
  | block i c ih => intro s H Q h; exact S_block (ih h)
  | cond c x y ihx ihy =>
    intro s H Q h
    simp only [W] at h
    unfold CondK at h
    split at h
    · rename_i t ht; exact S_cond t ht (fun e => ihx (h.1 e)) (fun e => ihy (h.2 e))
    · exact h.elim
  | region id ops d =>
    intro s H Q h
    cases d with
    | true => exact h
    | false => exact S_region (l := ops.toList) (by simpa [W] using h)
  | _ => intro s H Q h; exact h
/-- Code and what follows, parted by what holds between. -/
theorem S_cut {x y : Code} {s : Slots} {H : Heap} {Q : Post} (R : Slots → Heap → Prop) (h1 : S P w0 N x s H (thenQ R Q)) (h2 : ∀ s H, R s H → S P w0 N y s H Q) : S P w0 N (.seq x y) s H Q :=
  S_seq (h1.mono fun e s H q => by cases e <;> first | exact h2 _ _ q | exact q)
theorem want_none {ops : Array Oper} {s : Slots} {d : Option Tmp} {op : Op} {t : TypeId} {p : String} {a : Array Edge} : want ops s ⟨d, op, t, p, a, none⟩ = true := rfl
theorem begin0_nil (i : Nat) : begin0 [] i = undef := rfl
theorem begin0_zero (v : Value) (l : List Value) : begin0 (v :: l) 0 = v := rfl
theorem begin0_succ (v : Value) (l : List Value) (i : Nat) : begin0 (v :: l) (i + 1) = begin0 l i := rfl
theorem W_congr {c : Code} {s : Slots} {H : Heap} {Q : Post} : W P w0 N c s H Q = W P w0 N c s H Q := rfl
theorem SopsL_congr {ops : Array Oper} {l : List Oper} {s : Slots} {H : Heap} {K : Slots → Heap → Prop} : SopsL P w0 N ops l s H K = SopsL P w0 N ops l s H K := rfl
theorem LoadK_congr {H : Heap} {t : TypeId} {x x' : Value} {K : Value → Prop} (h : x = x') : LoadK P w0 H t x K = LoadK P w0 H t x' K := by rw [h]
theorem StoreK_congr {H : Heap} {t : TypeId} {x x' v v' : Value} {K : Heap → Prop} (h : x = x') (h2 : v = v') : StoreK P w0 H t x v K = StoreK P w0 H t x' v' K := by rw [h, h2]
theorem FunK_congr {H : Heap} {f f' : Value} {a a' : List Value} {K : Value → Heap → Prop} (h : f = f') (h2 : a = a') : FunK P w0 f a H K = FunK P w0 f' a' H K := by rw [h, h2]
theorem OpK_congr {H : Heap} {x x' : Sem Value} {K : Value → Heap → Prop} (h : x = x') : OpK P w0 x H K = OpK P w0 x' H K := by rw [h]
theorem F_congr {H : Heap} {f : FuncId} {a a' : List Value} {K : Value → Heap → Prop} (h : a = a') : F P w0 f a H K = F P w0 f a' H K := by rw [h]
theorem S_congr {c : Code} {s : Slots} {H : Heap} {Q : Post} : S P w0 N c s H Q = S P w0 N c s H Q := rfl
theorem PickK_bool {t : Bool} {a b : Value} {K : Value → Prop} : PickK (.bool t) a b K ↔ K (if t = true then a else b) := Iff.rfl
theorem FunK_func {H : Heap} {g : FuncId} {a b : Array Value} {l : List Value} {K : Value → Heap → Prop} : FunK P w0 (.func (.func g) a b) l H K ↔ (Callable P g ∧ F P w0 g (a.toList ++ l ++ b.toList) H K) := Iff.rfl
end
end Go.Proofs.Ytgnepkppmjabnaa.Eng
