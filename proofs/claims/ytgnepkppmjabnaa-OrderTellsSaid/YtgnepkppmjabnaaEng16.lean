/- The engine's sixteenth part: loops that keep slots as they were; cuts by three bounds. Conditions: none. -/
import Derived.Test.YtgnepkppmjabnaaEng15
namespace Go.Proofs.Ytgnepkppmjabnaa.Eng
open Go.RowKit
set_option linter.unusedVariables false
set_option linter.unusedSimpArgs false
/-- The slots of L are as they were. -/
def Agree (L : List Nat) (s s0 : Slots) : Prop := ∀ i, L.contains i = true → s i = s0 i
theorem Agree.refl (L : List Nat) (s : Slots) : Agree L s s := fun _ _ => rfl
theorem Agree.get {L : List Nat} {s s0 : Slots} (h : Agree L s s0) (i : Nat) (hi : L.contains i = true) : s i = s0 i := h i hi
theorem Agree.put {L : List Nat} {s s0 : Slots} {d : Nat} {v : Value} (hd : L.contains d = false) (h : Agree L s s0) : Agree L (Eng.put s d v) s0 := fun i hi => by
  have : i ≠ d := fun e => by subst e; rw [hi] at hd; cases hd
  rw [put_ne this]
  exact h i hi
theorem Agree.sub {L L' : List Nat} {s s0 : Slots} (hl : L.all (fun i => L'.contains i) = true) (h : Agree L' s s0) : Agree L s s0 := fun i hi => h i (List.all_eq_true.1 hl i (by simpa using hi))
theorem Agree.trans {L : List Nat} {s s1 s0 : Slots} (h : Agree L s s1) (h2 : Agree L s1 s0) : Agree L s s0 := fun i hi => (h i hi).trans (h2 i hi)
section
variable {P : Program} {w0 : World} {N : Nat} {H : Heap}
/-- A loop whose rounds are counted from 0 on, at most n of them; L: slots that it leaves. -/
theorem S_uptoL {c : Code} {s : Slots} {Q : Post} (L : List Nat) (n : Nat) (I : Nat → Slots → Heap → Prop) (h0 : I 0 s H)
    (round : ∀ k s' H', k ≤ n → Agree L s' s → I k s' H' → S P w0 N c s' H' (thenQ (fun s2 H2 => k < n ∧ Agree L s2 s ∧ ∃ H3, H3.le H2 ∧ I (k + 1) s2 H3) Q)) : S P w0 N (.loop c) s H Q :=
  S_upto n (fun k s' H' => Agree L s' s ∧ I k s' H') ⟨.refl L s, h0⟩ fun k s' H' hk h => (round k s' H' hk h.1 h.2).mono fun e s2 H2 q => by
    cases e <;> first
      | (obtain ⟨h1, h2, H3, h3, h4⟩ := q; exact ⟨h1, H3, h3, h2, h4⟩)
      | exact q
/-- A loop, by what holds at its head and a number that goes down; L: slots that it leaves. -/
theorem S_whileL {c : Code} {s : Slots} {Q : Post} (L : List Nat) (n : Nat) (I : Nat → Slots → Heap → Prop) (h0 : I n s H)
    (round : ∀ k s' H', Agree L s' s → I k s' H' → S P w0 N c s' H' (thenQ (fun s2 H2 => ∃ m, m < k ∧ Agree L s2 s ∧ ∃ H3, H3.le H2 ∧ I m s2 H3) Q)) : S P w0 N (.loop c) s H Q :=
  S_loopL (fun k s' H' => Agree L s' s ∧ I k s' H') n ⟨.refl L s, h0⟩ fun k s' H' h => (round k s' H' h.1 h.2).mono fun e s2 H2 q => by
    cases e <;> first
      | (obtain ⟨m, h1, h2, H3, h3, h4⟩ := q; exact ⟨m, h1, H3, h3, h2, h4⟩)
      | exact q
end
section
variable {P : Program} {K : Value → Prop} {t e : TypeId} {k : IntKind} {i : Int}
theorem PureK_cut3 (hu : P.underlying t = some (.slice e)) (sz : Nat) (hs : szOf P e = some sz) {A : Option Addr} {n c : Nat} {j m : Int} {k2 k3 : IntKind} (h0 : 0 ≤ i) (h1 : i ≤ j) (h2 : j ≤ m) (h3 : m ≤ (c : Int)) :
    PureK P (Instr.sliceAt t (.slice A n c) (some (.int k i)) (some (.int k2 j)) (some (.int k3 m))) K ↔ K (.slice (cutAddr A m.toNat i.toNat sz) (j.toNat - i.toNat) (m.toNat - i.toNat)) := PureK_run fun w => by
  simp only [szOf, Option.map_eq_some_iff] at hs
  obtain ⟨inf, hi, rfl⟩ := hs
  have hz : ∀ w, (sizeOf e).run P w = .ok inf.size w := fun w => by simp [sizeOf, typeInfo, hi]
  have h4 : i ≤ (j.toNat : Int) := by omega
  have h5 : j ≤ (m.toNat : Int) := by omega
  simp [Instr.sliceAt, Instr.slice, Instr.sliceBounds, run_underlying hu, hz, run_bound (k := k3) (P := P) (by omega : 0 ≤ m) h3, run_bound (k := k2) (P := P) (by omega : 0 ≤ j) h5, run_bound (k := k) (P := P) h0 h4, cutAddr]
theorem PureK_cut3n (hu : P.underlying t = some (.slice e)) (sz : Nat) (hs : szOf P e = some sz) {A : Option Addr} {n c : Nat} {j m : Int} {k2 k3 : IntKind} (h1 : 0 ≤ j) (h2 : j ≤ m) (h3 : m ≤ (c : Int)) :
    PureK P (Instr.sliceAt t (.slice A n c) none (some (.int k2 j)) (some (.int k3 m))) K ↔ K (.slice A j.toNat m.toNat) := PureK_run fun w => by
  simp only [szOf, Option.map_eq_some_iff] at hs
  obtain ⟨inf, hi, rfl⟩ := hs
  have hz : ∀ w, (sizeOf e).run P w = .ok inf.size w := fun w => by simp [sizeOf, typeInfo, hi]
  have h5 : j ≤ (m.toNat : Int) := by omega
  have e0 : A.map (fun x => x.add (0 * inf.size)) = A := by cases A <;> simp [Addr.add]
  simp [Instr.sliceAt, Instr.slice, Instr.sliceBounds, run_underlying hu, hz, run_bound (k := k3) (P := P) (by omega : 0 ≤ m) h3, run_bound (k := k2) (P := P) h1 h5]
  intro _
  simpa using e0
end
/-! ### Cuts of texts and of arrays -/
section
variable {P : Program} {K : Value → Prop} {t e : TypeId} {k k2 : IntKind} {i j : Int}
theorem PureK_cutS (hu : P.underlying t = some .string) {s : ByteArray} (h0 : 0 ≤ i) (h1 : i ≤ j) (h2 : j ≤ (s.size : Int)) :
    PureK P (Instr.sliceAt t (.string s) (some (.int k i)) (some (.int k2 j)) none) K ↔ K (.string (s.extract i.toNat j.toNat)) := PureK_run fun w => by
  have h4 : i ≤ (j.toNat : Int) := by omega
  simp [Instr.sliceAt, Instr.slice, Instr.sliceBounds, run_underlying hu, run_bound (k := k2) (P := P) (by omega : 0 ≤ j) h2, run_bound (k := k) (P := P) h0 h4]
theorem PureK_cutS_lo (hu : P.underlying t = some .string) {s : ByteArray} (h0 : 0 ≤ i) (h1 : i ≤ (s.size : Int)) :
    PureK P (Instr.sliceAt t (.string s) (some (.int k i)) none none) K ↔ K (.string (s.extract i.toNat s.size)) := PureK_run fun w => by
  simp [Instr.sliceAt, Instr.slice, Instr.sliceBounds, run_underlying hu, run_bound (k := k) (P := P) h0 h1]
theorem PureK_cutS_hi (hu : P.underlying t = some .string) {s : ByteArray} (h0 : 0 ≤ i) (h1 : i ≤ (s.size : Int)) :
    PureK P (Instr.sliceAt t (.string s) none (some (.int k i)) none) K ↔ K (.string (s.extract 0 i.toNat)) := PureK_run fun w => by
  simp [Instr.sliceAt, Instr.slice, Instr.sliceBounds, run_underlying hu, run_bound (k := k) (P := P) h0 h1]
theorem PureK_cutA {arr : TypeId} {n : Nat} (hu : P.underlying t = some (.pointer arr)) (ha : P.underlying arr = some (.array n e)) (sz : Nat) (hs : szOf P e = some sz) {b o : Nat} (h0 : 0 ≤ i) (h1 : i ≤ j) (h2 : j ≤ (n : Int)) :
    PureK P (Instr.sliceAt t (.pointer (some ⟨b, o, none⟩)) (some (.int k i)) (some (.int k2 j)) none) K ↔ K (.slice (cutAddr (some ⟨b, o, none⟩) n i.toNat sz) (j.toNat - i.toNat) (n - i.toNat)) := PureK_run fun w => by
  simp only [szOf, Option.map_eq_some_iff] at hs
  obtain ⟨inf, hi, rfl⟩ := hs
  have hz : ∀ w, (sizeOf e).run P w = .ok inf.size w := fun w => by simp [sizeOf, typeInfo, hi]
  have h4 : i ≤ (j.toNat : Int) := by omega
  simp [Instr.sliceAt, Instr.slice, Instr.sliceBounds, run_underlying hu, run_underlying ha, hz, asAddr, run_bound (k := k2) (P := P) (by omega : 0 ≤ j) h2, run_bound (k := k) (P := P) h0 h4, cutAddr]
  split <;> simp
theorem PureK_cutA_lo {arr : TypeId} {n : Nat} (hu : P.underlying t = some (.pointer arr)) (ha : P.underlying arr = some (.array n e)) (sz : Nat) (hs : szOf P e = some sz) {b o : Nat} (h0 : 0 ≤ i) (h1 : i ≤ (n : Int)) :
    PureK P (Instr.sliceAt t (.pointer (some ⟨b, o, none⟩)) (some (.int k i)) none none) K ↔ K (.slice (cutAddr (some ⟨b, o, none⟩) n i.toNat sz) (n - i.toNat) (n - i.toNat)) := PureK_run fun w => by
  simp only [szOf, Option.map_eq_some_iff] at hs
  obtain ⟨inf, hi, rfl⟩ := hs
  have hz : ∀ w, (sizeOf e).run P w = .ok inf.size w := fun w => by simp [sizeOf, typeInfo, hi]
  simp [Instr.sliceAt, Instr.slice, Instr.sliceBounds, run_underlying hu, run_underlying ha, hz, asAddr, run_bound (k := k) (P := P) h0 h1, cutAddr]
  split <;> simp
theorem PureK_cutA_hi {arr : TypeId} {n : Nat} (hu : P.underlying t = some (.pointer arr)) (ha : P.underlying arr = some (.array n e)) (sz : Nat) (hs : szOf P e = some sz) {b o : Nat} (h0 : 0 ≤ i) (h1 : i ≤ (n : Int)) :
    PureK P (Instr.sliceAt t (.pointer (some ⟨b, o, none⟩)) none (some (.int k i)) none) K ↔ K (.slice (some ⟨b, o, none⟩) i.toNat n) := PureK_run fun w => by
  simp only [szOf, Option.map_eq_some_iff] at hs
  obtain ⟨inf, hi, rfl⟩ := hs
  have hz : ∀ w, (sizeOf e).run P w = .ok inf.size w := fun w => by simp [sizeOf, typeInfo, hi]
  simp [Instr.sliceAt, Instr.slice, Instr.sliceBounds, run_underlying hu, run_underlying ha, hz, asAddr, run_bound (k := k) (P := P) h0 h1, add_plain]
theorem PureK_cutA_all {arr : TypeId} {n : Nat} (hu : P.underlying t = some (.pointer arr)) (ha : P.underlying arr = some (.array n e)) (sz : Nat) (hs : szOf P e = some sz) {b o : Nat} :
    PureK P (Instr.sliceAt t (.pointer (some ⟨b, o, none⟩)) none none none) K ↔ K (.slice (some ⟨b, o, none⟩) n n) := PureK_run fun w => by
  simp only [szOf, Option.map_eq_some_iff] at hs
  obtain ⟨inf, hi, rfl⟩ := hs
  have hz : ∀ w, (sizeOf e).run P w = .ok inf.size w := fun w => by simp [sizeOf, typeInfo, hi]
  simp [Instr.sliceAt, Instr.slice, Instr.sliceBounds, run_underlying hu, run_underlying ha, hz, asAddr, add_plain]
end
theorem PureK_buildA {P : Program} {K : Value → Prop} {t e : TypeId} {n : Nat} {z : Value} (hz : zeroOf P t = some z) (hu : P.underlying t = some (.array n e)) (he : (P.info? e).isSome = true) {ps : Array (Nat × Value)} : PureK P (Instr.build t ps) K ↔ BuildK P t z ps K := by
  unfold BuildK
  split
  · rename_i cs hcs
    refine PureK_run fun w => ?_
    have hf := fill_eq _ _ _ _ hcs
    obtain ⟨i, hi⟩ := Option.isSome_iff_exists.1 he
    have hpl : (fun i => some (i * P.cellsOf e, P.cellsOf e)) = placeOf P t := by
      funext i
      simp [placeOf, hu]
    simp only [Instr.build, Sem.run_bind, run_zero hz, Result.andThen_ok, run_underlying hu, run_sizeOf w hi, Sem.run_pure]
    have hz2 : z.cells.toList.toArray = z.cells := by simp
    rw [hz2, ← hpl] at hf
    rw [hf]
    rfl
  · exact Iff.rfl
/-! ### Lists of operations that are written in parts -/
section
variable {P : Program} {w0 : World} {N : Nat} {ops : Array Oper} {s : Slots} {H : Heap} {KS : Slots → Heap → Prop} {o : Oper} {l r a b c : List Oper} {n : Nat}
theorem SopsL_app : SopsL P w0 N ops (List.append (o :: l) r) s H KS = SopsL P w0 N ops (o :: List.append l r) s H KS := rfl
theorem SopsL_app0 : SopsL P w0 N ops (List.append [] r) s H KS = SopsL P w0 N ops r s H KS := rfl
theorem app_assoc' : List.append (List.append a b) c = List.append a (List.append b c) := List.append_assoc a b c
theorem SopsL_app2 : SopsL P w0 N ops (List.append (List.append a b) c) s H KS = SopsL P w0 N ops (List.append a (List.append b c)) s H KS := by rw [app_assoc']
theorem opAt_app0 : opAt (List.append (o :: l) r) 0 = some o := rfl
theorem opAt_app1 : opAt (List.append (o :: l) r) (n + 1) = opAt (List.append l r) n := rfl
theorem opAt_appn : opAt (List.append [] r) n = opAt r n := rfl
theorem opAt_app2 : opAt (List.append (List.append a b) c) n = opAt (List.append a (List.append b c)) n := by rw [app_assoc']
end
/-! ### More on memory -/
theorem optT_of {α : Type} {o : Option α} {v : α} {K : α → Prop} {tk : TkA K} (h : o = some v) (hk : K v) : OptT o K tk := by rw [h]; exact hk
theorem St.nil (w0 : World) (H : Heap) (ea eb sz : Nat) : St w0 H H ea eb sz (.slice none 0 0) (.slice none 0 0) 0 0 [] [] :=
  ⟨Heap.le_refl _, Own.nil _ _, Own.nil _ _, fun k hk => (by cases hk), fun k hk => (by cases hk), fun k hk => (by cases hk)⟩
section
variable {P : Program} {w0 : World} {H : Heap}
/-- append to a slice without elements and without room. -/
theorem append_empty {T U e ty : TypeId} {sz bytes : Nat} {z : Value} (E : Elt P T e sz bytes z) (hU : Many P U) {A : Option Addr} {m : Nat} {x : Value} {ys : List Value}
    (hx : Srcs P w0 H sz x m ys) (hb : m * bytes ≤ 140737488355328) (h63 : m ≤ 9223372036854775807) {K : Value → Heap → Prop} (h0 : m = 0 → K (.slice A 0 0) H) (hK : 0 < m → MovedK w0 H e sz m ys K) :
    OpK P w0 (Builtin.append_ #[T, U] ty #[.slice A 0 0, x]) H K := by
  rcases Nat.eq_zero_or_pos m with h | h
  · subst h
    intro w hw
    have hy : ys = [] := List.eq_nil_of_length_eq_zero (by rw [hx.size]; simp)
    have hc := hx.one_toArray hw
    subst hy
    exact ⟨_, _, _, run_append_none (ty := ty) E hU hx.len hc (Nat.le_refl 0), hw, h0 rfl⟩
  · have := append_grow (ty := ty) E hU (Rd.nil 0 A sz) (xs := []) rfl hx (n := 0) (c := 0) (by omega) (by rw [Nat.zero_add]; exact hb) (by omega) (K := K) (by rw [Nat.zero_add, List.nil_append]; exact hK h)
    exact this
theorem setCells_row {o : Nat} {vs cs : List Value} {t : TypeId} : Item.setCells o vs (.row cs t) = if o + vs.length ≤ cs.length then some (.row (setRange cs o vs) t) else none := rfl
/-- One cell of a row of the call's own. -/
theorem set_one {b o : Nat} {v : Value} {cs : List Value} {t : TypeId} (ho : o < cs.length) : ((H.set b (.row cs t)) b).bind (Item.setCells o [v]) = some (.row (cs.set o v) t) := by
  rw [Heap.set_same, Option.bind_some, setCells_row, if_pos (by simp; omega)]
  rfl
theorem set_one_at {H' : Heap} {b o : Nat} {v : Value} {cs : List Value} {t : TypeId} (h : H' b = some (.row cs t)) (ho : o < cs.length) : (H' b).bind (Item.setCells o [v]) = some (.row (cs.set o v) t) := by
  rw [h, Option.bind_some, setCells_row, if_pos (by simp; omega)]
  rfl
theorem lk_set_ne {b b2 o : Nat} {it : Item} (h : b2 ≠ b) : lk w0 (H.set b it) b2 o = lk w0 H b2 o := by
  unfold lk
  rw [Heap.set_ne h]
theorem Heap.set_set (H : Heap) (b : Nat) (x y : Item) : (H.set b x).set b y = H.set b y := by
  funext k
  simp only [Heap.set]
  split <;> rfl
theorem fresh_ne {b b2 : Nat} {it : Item} (h : H b = some it) (h2 : H b2 = none) : b2 ≠ b := fun e => by subst e; rw [h] at h2; cases h2
theorem set_fresh {b b2 : Nat} {it : Item} (h : (H.set b it) b2 = none) : b2 ≠ b ∧ H b2 = none := by
  have hne : b2 ≠ b := fun e => by subst e; rw [Heap.set_same] at h; cases h
  exact ⟨hne, by rwa [Heap.set_ne hne] at h⟩
/-- What was laid between may be forgotten. -/
theorem le_over {a b : Nat} {x y z : Item} (hb : (H.set a x) b = none) : (H.set a y).le (((H.set a x).set b z).set a y) := by
  obtain ⟨hne, hb⟩ := set_fresh hb
  intro k it hk
  by_cases e : k = a
  · subst e; rw [Heap.set_same] at hk ⊢; exact hk
  · rw [Heap.set_ne e] at hk ⊢
    by_cases e2 : k = b
    · subst e2; rw [hb] at hk; cases hk
    · rw [Heap.set_ne e2, Heap.set_ne e]; exact hk
theorem le_set_mono {H' : Heap} {a : Nat} {x : Item} (h : H.le H') : (H.set a x).le (H'.set a x) := by
  intro k it hk
  by_cases e : k = a
  · subst e; rw [Heap.set_same] at hk ⊢; exact hk
  · rw [Heap.set_ne e] at hk ⊢; exact h k it hk
end
end Go.Proofs.Ytgnepkppmjabnaa.Eng
