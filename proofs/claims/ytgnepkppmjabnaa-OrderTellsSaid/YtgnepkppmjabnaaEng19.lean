/- The engine's nineteenth part: rows that become slices of the call's own. Conditions: none. -/
import Derived.Test.YtgnepkppmjabnaaEng18
namespace Go.Proofs.Ytgnepkppmjabnaa.Eng
open Go.RowKit
set_option linter.unusedVariables false
set_option linter.unusedSimpArgs false
section
variable {P : Program} {w0 : World} {N : Nat} {H : Heap}
/-- A row may grow. -/
theorem Sat.flexRow {w : World} {b : Nat} {cs : List Value} {t : TypeId} (h : Sat w0 H w) (hb : H b = some (.row cs t)) {cap : Nat} (hc : cs.length = cap) : Sat w0 (H.set b (.flex cs cap t)) w := by
  refine ⟨h.below, fun k it hk => ?_⟩
  by_cases e : k = b
  · subst e
    rw [Heap.set_same] at hk
    cases hk
    obtain ⟨h1, fr, h2, h3⟩ := h.items k _ hb
    exact ⟨h1, [], fr, by simpa using h2, by simpa using h3, by simpa using hc⟩
  · rw [Heap.set_ne e] at hk
    exact h.items k it hk
theorem S_flex {c : Code} {s : Slots} {Q : Post} {b : Nat} {cs : List Value} {t : TypeId} {cap : Nat} (hb : H b = some (.row cs t)) (hc : cs.length = cap) (h : S P w0 N c s (H.set b (.flex cs cap t)) Q) : S P w0 N c s H Q :=
  fun w a hw ha => h w a (hw.flexRow hb hc) ha
theorem OpK_flex {x : Sem Value} {K : Value → Heap → Prop} {b : Nat} {cs : List Value} {t : TypeId} {cap : Nat} (hb : H b = some (.row cs t)) (hc : cs.length = cap) (h : OpK P w0 x (H.set b (.flex cs cap t)) K) : OpK P w0 x H K :=
  fun w hw => h w (hw.flexRow hb hc)
theorem F_flex {f : FuncId} {args : List Value} {K : Value → Heap → Prop} {b : Nat} {cs : List Value} {t : TypeId} {cap : Nat} (hb : H b = some (.row cs t)) (hc : cs.length = cap) (h : F P w0 f args (H.set b (.flex cs cap t)) K) : F P w0 f args H K :=
  fun w hw => h w (hw.flexRow hb hc)
/-- What a slice of the call's own, and what else is known, may be at a loop's head. -/
structure OwnB (w0 : World) (HB H : Heap) (e sz : Nat) (v : Value) (n : Nat) (cs : List Value) : Prop where
  le : HB.le H
  own : Own w0 H e sz v n cs
  new : ∀ j, ob v = some j → HB j = none
theorem OwnB.nil (HB : Heap) (e sz : Nat) : OwnB w0 HB HB e sz (.slice none 0 0) 0 [] := ⟨Heap.le_refl _, Own.nil _ _, fun j hj => by cases hj⟩
theorem OwnB.set {HB : Heap} {e sz : Nat} {v : Value} {n : Nat} {cs : List Value} (h : OwnB w0 HB H e sz v n cs) {b : Nat} (hb : H b = none) (it : Item) : OwnB w0 HB (H.set b it) e sz v n cs :=
  ⟨Heap.le_trans h.le (Heap.le_set hb), h.own.le (Heap.le_set hb), h.new⟩
theorem OwnB.le' {HB H' : Heap} {e sz : Nat} {v : Value} {n : Nat} {cs : List Value} (h : OwnB w0 HB H e sz v n cs) (hl : H.le H') : OwnB w0 HB H' e sz v n cs :=
  ⟨Heap.le_trans h.le hl, h.own.le hl, h.new⟩
/-- A new block may be known to all that follows. -/
theorem OwnB.base {HB : Heap} {e sz : Nat} {v : Value} {n : Nat} {cs : List Value} (h : OwnB w0 HB H e sz v n cs) {b : Nat} (hb : H b = none) (it : Item) : OwnB w0 (HB.set b it) (H.set b it) e sz v n cs :=
  ⟨le_set_mono h.le, h.own.le (Heap.le_set hb), fun j hj => by
    obtain ⟨x, hx⟩ := h.own.known hj
    have hne : j ≠ b := fun e => by subst e; rw [hb] at hx; cases hx
    rw [Heap.set_ne hne]
    exact h.new j hj⟩
theorem OwnB.app {HB H' : Heap} {e sz : Nat} {v v' : Value} {n n' : Nat} {cs cs' : List Value} (h : OwnB w0 HB H e sz v n cs) (ho : Own w0 H' e sz v' n' cs') (hr : Rest H v H' v') : OwnB w0 HB H' e sz v' n' cs' := by
  obtain ⟨h1, h2⟩ := hr.le h.le h.new
  exact ⟨h1, ho, h2⟩
/-- A row is a slice of the call's own. -/
theorem OwnB.row {HB : Heap} {e sz n c : Nat} {b : Nat} {cs : List Value} (hl : HB.le H) (hb : HB b = none) (hlow : w0.heap.size ≤ b) (hlen : cs.length = n * sz) (hn : n ≤ c) (hc : c * sz = n * sz) :
    OwnB w0 HB (H.set b (.flex cs (n * sz) e)) e sz (.slice (some ⟨b, 0, none⟩) n c) n cs :=
  ⟨le_set_none hl hb, .inr ⟨b, c, rfl, hn, hlow, by rw [hc]; exact Heap.set_same _ _ _, hlen⟩, fun j hj => by
    have : b = j := by simpa [ob] using hj
    subst this
    exact hb⟩
theorem own_appendB {T U e ty : TypeId} {sz bytes : Nat} {z : Value} (E : Elt P T e sz bytes z) (hU : Many P U) {HB : Heap} {n m : Nat} {v x : Value} {cs ys : List Value} (hv : OwnB w0 HB H e sz v n cs) (h1 : cs.all Value.oneCell' = true)
    (hx : Srcs P w0 H sz x m ys) (hlim : (n + m) * bytes ≤ 140737488355328) (h63 : n + m ≤ 9223372036854775807) {K : Value → Heap → Prop}
    (hK : ∀ v' H', OwnB w0 HB H' e sz v' (n + m) (cs ++ ys) → K v' H') : OpK P w0 (Builtin.append_ #[T, U] ty #[v, x]) H K :=
  own_append E hU hv.own h1 hx hlim h63 fun v' H' ho hr => hK v' H' (hv.app ho hr)
end
end Go.Proofs.Ytgnepkppmjabnaa.Eng
