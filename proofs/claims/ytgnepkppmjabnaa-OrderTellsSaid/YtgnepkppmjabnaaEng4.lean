/- The engine's fourth part: regions in the order of the text; slices that are read or grown; strings and bytes; the parts of values and of memory, operation by operation. Conditions: none. -/
import Derived.Test.YtgnepkppmjabnaaEng3
namespace Go.Proofs.Ytgnepkppmjabnaa.Eng
open Go.RowKit
set_option linter.unusedVariables false
set_option linter.unusedSimpArgs false

section
variable {P : Program} {w0 : World} {N : Nat}
theorem want_eq {ops : Array Oper} {s : Slots} {a : Act} (ha : Rs N s a) (o : Oper) : Region.wanted o (yielded ops a.tmps) = want ops s o := by
  unfold Region.wanted want
  cases o.guard with
  | none => rfl
  | some g =>
    obtain ⟨j, b⟩ := g
    simp only [yielded]
    cases hd : (ops[j]?).bind (·.dst) with
    | none => simp
    | some t =>
      have := ha.at_ t
      simp only [Option.bind_some]
      cases ht : a.tmps[t]? with
      | none =>
        have h2 : a.tmps.getD t undef = undef := by simp [Array.getD_eq_getD_getElem?, ht]
        rw [h2] at this
        rw [← this]
        rfl
      | some v =>
        have h2 : a.tmps.getD t undef = v := by simp [Array.getD_eq_getD_getElem?, ht]
        rw [h2] at this
        subst this
        generalize s t = v
        cases v <;> simp
theorem wpList_sound {ops : Array Oper} {Q : Post} {K : Slots → Heap → Prop} (hK : ∀ s H, K s H → Q .normal s H) : ∀ (l : List Oper) (s : Slots) (H : Heap) (a : Act) (w : World), SopsL P w0 N ops l s H K → Sat w0 H w → Rs N s a →
    wpList P ops (good w0 N Q) l a w := by
  intro l
  induction l with
  | nil => intro s H a w h hw ha; exact ⟨s, H, ha, hw, hK s H h⟩
  | cons o l ih =>
    intro s H a w h hw ha
    obtain ⟨hd, h⟩ := h
    unfold wpList
    rw [want_eq ha]
    split
    · rename_i hwant
      rw [if_pos hwant] at h
      refine .inl (Oper.wp_mono ?_ (opV_sound hw ha h))
      rintro a' w' ⟨v, H', rfl, hs, hk⟩
      exact ih _ _ _ _ hk hs (ha.put hd v)
    · rename_i hwant
      rw [if_neg hwant] at h
      exact ih _ _ _ _ h hw (ha.put hd undef)
theorem S_region {id : Nat} {l : List Oper} {s : Slots} {H : Heap} {Q : Post} (h : SopsL P w0 N l.toArray l s H (fun s H => Q .normal s H)) : S P w0 N (.region id l.toArray false) s H Q :=
  fun w a hw ha => wp_region_lit (wpList_sound (fun _ _ h => h) l s H a w h hw ha)
end

/-! ### Addresses, indexes, cuts -/
theorem add_plain (b o n : Nat) : (⟨b, o, none⟩ : Addr).add n = ⟨b, o + n, none⟩ := by unfold Addr.add; split <;> simp_all
section
variable {P : Program} {w0 : World} {K : Value → Prop} {t e : TypeId} {k : IntKind} {i : Int}
theorem PureK_indexAt_slice (hu : P.underlying t = some (.slice e)) (sz : Nat) (hs : szOf P e = some sz) {a : Addr} {n c : Nat} (h0 : 0 ≤ i) (h1 : i < (n : Int)) :
    PureK P (Instr.indexAt t (.slice (some a) n c) (.int k i)) K ↔ K (.pointer (some (a.add (i.toNat * sz)))) := PureK_run fun w => by
  simp only [szOf, Option.map_eq_some_iff] at hs
  obtain ⟨inf, hi, rfl⟩ := hs
  have hz : ∀ w, (sizeOf e).run P w = .ok inf.size w := fun w => by simp [sizeOf, typeInfo, hi]
  simp [Instr.indexAt, asIntOf, run_underlying hu, h0, h1, hz]
theorem PureK_indexAt_array {m : Nat} (hu : P.underlying t = some (.array m e)) (sz : Nat) (hs : szOf P e = some sz) {a : Addr} (h0 : 0 ≤ i) (h1 : i < (m : Int)) :
    PureK P (Instr.indexAt t (.pointer (some a)) (.int k i)) K ↔ K (.pointer (some (a.add (i.toNat * sz)))) := PureK_run fun w => by
  simp only [szOf, Option.map_eq_some_iff] at hs
  obtain ⟨inf, hi, rfl⟩ := hs
  have hz : ∀ w, (sizeOf e).run P w = .ok inf.size w := fun w => by simp [sizeOf, typeInfo, hi]
  simp [Instr.indexAt, asIntOf, run_underlying hu, h0, h1, hz, Instr.sureAddr]
/-- Field f of a struct behind a pointer: offset, size. -/
def fieldOf (P : Program) (t : TypeId) (f : Nat) : Option (Nat × Nat) :=
  match P.underlying t with
  | some (.struct fs) => (fs[f]?).bind fun x => (szOf P x.type).map fun n => (x.offset, n)
  | _ => none
theorem PureK_fieldAt {f o sz : Nat} (hf : fieldOf P t f = some (o, sz + 1)) {a : Addr} : PureK P (Instr.fieldAt t (.pointer (some a)) f) K ↔ K (.pointer (some (a.add o))) := PureK_run fun w => by
  unfold fieldOf at hf
  split at hf
  · rename_i fs hu
    simp only [Option.bind_eq_some_iff, Option.map_eq_some_iff, szOf, Prod.mk.injEq] at hf
    obtain ⟨x, hx, n, ⟨inf, hi, rfl⟩, rfl, hn⟩ := hf
    have hz : (sizeOf x.type).run P w = .ok (sz + 1) w := by simp [sizeOf, typeInfo, hi, hn]
    simp [Instr.fieldAt, run_underlying hu, hx, Instr.sureAddr, fieldPlace, hz]
  · cases hf
theorem PureK_index_str (hu : P.underlying t = some .string) {s : ByteArray} (h0 : 0 ≤ i) (h1 : i < (s.size : Int)) :
    PureK P (Instr.index t (.string s) (.int k i)) K ↔ K (.int .u8 ((s[i.toNat]'(by omega)).toNat)) := PureK_run fun w => by
  have : s[i.toNat]? = some (s[i.toNat]'(by omega)) := getElem?_pos s i.toNat (by omega)
  simp [Instr.index, asIntOf, run_underlying hu, h0, this]
theorem PureK_len_slice (hu : P.underlying t = some (.slice e)) {ty : TypeId} {A : Option Addr} {n c : Nat} : PureK P (Builtin.len_ #[t] ty #[.slice A n c]) K ↔ K (.int .i64 n) := PureK_run fun w => by
  simp [Builtin.len_, run_underlying hu, goInt]
theorem PureK_len_str (hu : P.underlying t = some .string) {ty : TypeId} {s : ByteArray} : PureK P (Builtin.len_ #[t] ty #[.string s]) K ↔ K (.int .i64 s.size) := PureK_run fun w => by
  simp [Builtin.len_, run_underlying hu, goInt]
theorem PureK_cap_slice (hu : P.underlying t = some (.slice e)) {ty : TypeId} {A : Option Addr} {n c : Nat} : PureK P (Builtin.cap_ #[t] ty #[.slice A n c]) K ↔ K (.int .i64 c) := PureK_run fun w => by
  simp [Builtin.cap_, run_underlying hu, goInt]
theorem PureK_min {ts : Array TypeId} {ty : TypeId} {a b : Int} : PureK P (Builtin.min_ ts ty #[.int k a, .int k b]) K ↔ K (.int k (min a b)) := PureK_run fun w => by
  have : (if b < a then b else a) = min a b := by omega
  simp [Builtin.min_, Builtin.min2, this]
theorem PureK_max {ts : Array TypeId} {ty : TypeId} {a b : Int} : PureK P (Builtin.max_ ts ty #[.int k a, .int k b]) K ↔ K (.int k (max a b)) := PureK_run fun w => by
  have : (if a < b then b else a) = max a b := by omega
  simp [Builtin.max_, Builtin.max2, this]
/-- A cut of a slice, its bounds as numbers. -/
def cutAddr (A : Option Addr) (c l sz : Nat) : Option Addr := if c = l then A else A.map (·.add (l * sz))
theorem run_bound {P : Program} {i : Int} {y : Nat} {code : BoundsCode} (h0 : 0 ≤ i) (h1 : i ≤ (y : Int)) (w : World) : (Instr.sliceBound (.int k i) y code).run P w = .ok i.toNat w := by
  simp [Instr.sliceBound, asIntOf, h0, h1]
theorem PureK_cut (hu : P.underlying t = some (.slice e)) (sz : Nat) (hs : szOf P e = some sz) {A : Option Addr} {n c : Nat} {j : Int} {k' : IntKind} (h0 : 0 ≤ i) (h1 : i ≤ j) (h2 : j ≤ (c : Int)) :
    PureK P (Instr.sliceAt t (.slice A n c) (some (.int k i)) (some (.int k' j)) none) K ↔ K (.slice (cutAddr A c i.toNat sz) (j.toNat - i.toNat) (c - i.toNat)) := PureK_run fun w => by
  simp only [szOf, Option.map_eq_some_iff] at hs
  obtain ⟨inf, hi, rfl⟩ := hs
  have hz : ∀ w, (sizeOf e).run P w = .ok inf.size w := fun w => by simp [sizeOf, typeInfo, hi]
  have h3 : i ≤ (j.toNat : Int) := by omega
  simp [Instr.sliceAt, Instr.slice, Instr.sliceBounds, run_underlying hu, hz, run_bound (k := k') (P := P) (by omega : 0 ≤ j) h2, run_bound (k := k) (P := P) h0 h3, cutAddr]
theorem PureK_cut_lo (hu : P.underlying t = some (.slice e)) (sz : Nat) (hs : szOf P e = some sz) {A : Option Addr} {n c : Nat} (h0 : 0 ≤ i) (h1 : i ≤ (n : Int)) :
    PureK P (Instr.sliceAt t (.slice A n c) (some (.int k i)) none none) K ↔ K (.slice (cutAddr A c i.toNat sz) (n - i.toNat) (c - i.toNat)) := PureK_run fun w => by
  simp only [szOf, Option.map_eq_some_iff] at hs
  obtain ⟨inf, hi, rfl⟩ := hs
  have hz : ∀ w, (sizeOf e).run P w = .ok inf.size w := fun w => by simp [sizeOf, typeInfo, hi]
  simp [Instr.sliceAt, Instr.slice, Instr.sliceBounds, run_underlying hu, hz, run_bound (k := k) (P := P) h0 h1, cutAddr]
theorem PureK_cut_hi (hu : P.underlying t = some (.slice e)) (sz : Nat) (hs : szOf P e = some sz) {A : Option Addr} {n c : Nat} (h0 : 0 ≤ i) (h1 : i ≤ (c : Int)) :
    PureK P (Instr.sliceAt t (.slice A n c) none (some (.int k i)) none) K ↔ K (.slice A i.toNat c) := PureK_run fun w => by
  simp only [szOf, Option.map_eq_some_iff] at hs
  obtain ⟨inf, hi, rfl⟩ := hs
  have hz : ∀ w, (sizeOf e).run P w = .ok inf.size w := fun w => by simp [sizeOf, typeInfo, hi]
  have e0 : A.map (fun x => x.add (0 * inf.size)) = A := by cases A <;> simp [Addr.add]
  simp [Instr.sliceAt, Instr.slice, Instr.sliceBounds, run_underlying hu, hz, run_bound (k := k) (P := P) h0 h1]
  intro _
  simpa using e0
end

/-! ### A slice that is read -/
/-- v is a slice of n elements (of sz cells each) whose cells are xs. -/
structure Rd (w0 : World) (H : Heap) (sz : Nat) (v : Value) (n : Nat) (xs : List Value) : Prop where
  out : ∃ A c, v = .slice A n c ∧ n ≤ c ∧ xs.length = n * sz ∧ (0 < n → ∃ b o, A = some ⟨b, o, none⟩ ∧ ∀ j x, xs[j]? = some x → lk w0 H b (o + j) = some x)
/-- What is appended or copied: m elements whose cells are ys. -/
structure Srcs (P : Program) (w0 : World) (H : Heap) (sz : Nat) (x : Value) (m : Nat) (ys : List Value) : Prop where
  len : ∀ w, (Builtin.lenOf x).run P w = .ok m w
  cells : ∀ k, k ≤ m → ∀ w, Sat w0 H w → (Builtin.firstCells sz k x).run P w = .ok (ys.take (k * sz)).toArray w
  size : ys.length = m * sz
  one : ys.all Value.oneCell' = true
section
variable {P : Program} {w0 : World} {H : Heap}
theorem Rd.nil (c : Nat) (A : Option Addr) (sz : Nat) : Rd w0 H sz (.slice A 0 c) 0 [] := ⟨⟨A, c, rfl, Nat.zero_le _, by simp, fun h => by omega⟩⟩
theorem mapM_look {b o : Nat} {xs : List Value} : ∀ (k i : Nat), i + k ≤ xs.length → (∀ j x, xs[j]? = some x → lk w0 H b (o + j) = some x) →
    ((List.range' i k).mapM fun j => lk w0 H b (o + j)) = some ((xs.drop i).take k) := by
  intro k
  induction k with
  | zero => intro i _ _; simp
  | succ k ih =>
    intro i h hl
    rw [List.range'_succ, List.mapM_cons, ih (i + 1) (by omega) hl, hl i (xs[i]'(by omega)) (List.getElem?_eq_getElem _)]
    simp only [Option.pure_def, Option.bind_eq_bind, Option.bind_some, Option.some.injEq]
    rw [List.drop_eq_getElem_cons (by omega : i < xs.length), List.take_succ_cons]
theorem Rd.srcs {sz : Nat} {v : Value} {n : Nat} {xs : List Value} (h : Rd w0 H sz v n xs) (h1 : xs.all Value.oneCell' = true) : Srcs P w0 H sz v n xs := by
  obtain ⟨A, c, rfl, hc, hl, hr⟩ := h
  refine ⟨fun w => by simp [Builtin.lenOf], fun k hk w hw => ?_, hl, h1⟩
  cases A with
  | none =>
    have h0 : n = 0 := by
      rcases Nat.eq_zero_or_pos n with h | h
      · exact h
      · obtain ⟨b, o, h, _⟩ := hr h; cases h
    subst h0
    have : xs = [] := List.eq_nil_of_length_eq_zero (by omega)
    subst this
    simp [Builtin.firstCells]
  | some a =>
    rcases Nat.eq_zero_or_pos n with h0 | h0
    · subst h0
      have hk0 : k = 0 := by omega
      subst hk0
      simp [Builtin.firstCells, loadCells, loadCellsFrom]
    · obtain ⟨b, o, ha, hl'⟩ := hr h0
      cases ha
      have hkn : k * sz ≤ xs.length := by rw [hl]; exact Nat.mul_le_mul_right _ hk
      have := run_loadCells_sat (P := P) hw (k * sz) 0 _ #[] (mapM_look (w0 := w0) (H := H) (b := b) (o := o) (k * sz) 0 (by omega) hl')
      simpa [Builtin.firstCells, loadCells] using this
/-- The bytes of a string. -/
def strCells (s : ByteArray) : List Value := s.data.toList.map fun b => .int .u8 b.toNat
theorem srcs_str (s : ByteArray) : Srcs P w0 H 1 (.string s) s.size (strCells s) := by
  refine ⟨fun w => by simp [Builtin.lenOf], fun k hk w hw => ?_, by simp [strCells], List.all_eq_true.2 fun v hv => by
    simp only [strCells, List.mem_map] at hv
    obtain ⟨u, _, rfl⟩ := hv
    rfl⟩
  simp only [Builtin.firstCells, Sem.run_pure]
  congr 1
  apply Array.ext'
  simp [strCells, List.map_take]
/-- What is known of a slice type T: its elements' type, size, bytes, zero value. -/
structure Elt (P : Program) (T e : TypeId) (sz bytes : Nat) (z : Value) : Prop where
  und : P.underlying T = some (.slice e)
  info : (P.info? e).map (fun i => (i.zero, i.size, i.bytes)) = some (some z, sz, bytes)
  zs : z.cells.size = sz
theorem Elt.run_size {T e : TypeId} {sz bytes : Nat} {z : Value} (E : Elt P T e sz bytes z) (w : World) : (sizeOf e).run P w = .ok sz w := by
  obtain ⟨i, hi, h⟩ := Option.map_eq_some_iff.1 E.info
  simp only [Prod.mk.injEq] at h
  simp [sizeOf, typeInfo, hi, h]
theorem Elt.run_zero {T e : TypeId} {sz bytes : Nat} {z : Value} (E : Elt P T e sz bytes z) (w : World) : (zeroValue e).run P w = .ok z w := by
  obtain ⟨i, hi, h⟩ := Option.map_eq_some_iff.1 E.info
  simp only [Prod.mk.injEq] at h
  simp [zeroValue, typeInfo, hi, h]
theorem Elt.run_info {T e : TypeId} {sz bytes : Nat} {z : Value} (E : Elt P T e sz bytes z) : ∃ i : TypeInfo, i.bytes = bytes ∧ ∀ w, (typeInfo e).run P w = .ok i w := by
  obtain ⟨i, hi, h⟩ := Option.map_eq_some_iff.1 E.info
  simp only [Prod.mk.injEq] at h
  exact ⟨i, h.2.2, fun w => by simp [typeInfo, hi]⟩
theorem Elt.sz {T e : TypeId} {sz bytes : Nat} {z : Value} (E : Elt P T e sz bytes z) : szOf P e = some sz := by
  obtain ⟨i, hi, h⟩ := Option.map_eq_some_iff.1 E.info
  simp only [Prod.mk.injEq] at h
  simp [szOf, hi, h]

/-- A type whose values are appended as a slice's or a string's elements. -/
def Many (P : Program) (U : TypeId) : Prop := (∃ e2, P.underlying U = some (.slice e2)) ∨ P.underlying U = some .string
theorem run_append_room {T U e ty : TypeId} {sz bytes : Nat} {z : Value} (E : Elt P T e sz bytes z) (hU : Many P U) {b o n c m : Nat} {x : Value} {w : World} {ys : List Value} (hx : ∀ w, (Builtin.lenOf x).run P w = .ok m w)
    (hc : (Builtin.firstCells sz m x).run P w = .ok ys.toArray w) (hn : n + m ≤ c) :
    (Builtin.append_ #[T, U] ty #[.slice (some ⟨b, o, none⟩) n c, x]).run P w = ((storeCells ⟨b, o + n * sz, none⟩ ys).run P w).andThen fun _ w' => .ok (.slice (some ⟨b, o, none⟩) (n + m) c) w' := by
  rcases hU with ⟨e2, hU⟩ | hU <;> simp [Builtin.append_, run_underlying E.und, run_underlying hU, E.run_size, hx, hn, hc, add_plain]
theorem run_append_none {T U e ty : TypeId} {sz bytes : Nat} {z : Value} (E : Elt P T e sz bytes z) (hU : Many P U) {c : Nat} {A : Option Addr} {n : Nat} {x : Value} {w : World} (hx : ∀ w, (Builtin.lenOf x).run P w = .ok 0 w)
    (hc : (Builtin.firstCells sz 0 x).run P w = .ok #[] w) (hn : n ≤ c) :
    (Builtin.append_ #[T, U] ty #[.slice A n c, x]).run P w = .ok (.slice A n c) w := by
  rcases hU with ⟨e2, hU⟩ | hU <;> cases A <;> simp [Builtin.append_, run_underlying E.und, run_underlying hU, E.run_size, hx, hn, hc, storeCells]
theorem run_append_grow {T U e ty : TypeId} {sz bytes : Nat} {z : Value} (E : Elt P T e sz bytes z) (hU : Many P U) {A : Option Addr} {n c m : Nat} {x : Value} {w : World} {xs ys : List Value} (hx : ∀ w, (Builtin.lenOf x).run P w = .ok m w)
    (ho : (Builtin.firstCells sz n (.slice A n c)).run P w.drew = .ok xs.toArray w.drew) (hc : (Builtin.firstCells sz m x).run P w.drew = .ok ys.toArray w.drew) (hn : c < n + m) (hb : (n + m) * bytes ≤ 140737488355328) (h63 : n + m ≤ 9223372036854775807) :
    ∃ c', n + m ≤ c' ∧ (Builtin.append_ #[T, U] ty #[.slice A n c, x]).run P w = .ok (.slice (some ⟨w.heap.size, 0, none⟩) (n + m) c') (w.drew.alloc (.cells (xs.toArray ++ ys.toArray ++ Builtin.zeroCells z.cells (c' - (n + m))) e)) := by
  obtain ⟨i, hib, hi⟩ := E.run_info
  have h1 : ¬ n + m ≤ c := by omega
  have h2 : ¬ ((9223372036854775807 : Int) < (n : Int) + (m : Int)) := by omega
  have h3 : ¬ 281474976710656 < Builtin.nextslicecap (n + m) c * bytes := by have := growslice_fits hn hb; omega
  refine ⟨(Question.appendCap (n + m) c e).cut (w.tape w.drawn (Question.appendCap (n + m) c e)), by simp only [Question.cut]; omega, ?_⟩
  have hf : (Question.appendCap (n + m) c e).forced = false := rfl
  rcases hU with ⟨e2, hU⟩ | hU <;> simp [Builtin.append_, run_underlying E.und, run_underlying hU, E.run_size, E.run_zero, hx, h1, h2, h3, hi, hib, hf, ho, hc, newRow] <;> rw [show ∀ Z : Array Value, xs.toArray ++ (ys.toArray ++ Z) = (xs ++ ys).toArray ++ Z from fun Z => by apply Array.ext'; simp]

theorem drew_eq (w : World) : w.drew = { w with drawn := w.drawn + 1 } := rfl
theorem alloc_eq (w : World) (o : Obj) : w.alloc o = { w with heap := w.heap.push o } := rfl
/-- A new block that begins with cs and has cap cells. -/
theorem Sat.newFlex {w : World} (hw : Sat w0 H w) (cs : List Value) (rest : Array Value) (cap : Nat) (hcap : cs.length + rest.size = cap) (e : TypeId) :
    Sat w0 (H.set w.heap.size (.flex cs cap e)) (w.drew.alloc (.cells (cs.toArray ++ rest) e)) := by
  have h := hw.drew.push (.cells (cs.toArray ++ rest) e) (.flex cs cap e) ⟨rest.toList, (0, 0), by simp, fun i hi => by omega, by simp; exact hcap⟩
  exact h
theorem Srcs.one_toArray {sz m : Nat} {x : Value} {ys : List Value} (h : Srcs P w0 H sz x m ys) {w : World} (hw : Sat w0 H w) : (Builtin.firstCells sz m x).run P w = .ok ys.toArray w := by
  have := h.cells m (Nat.le_refl _) w hw
  rwa [List.take_of_length_le (by rw [h.size]; exact Nat.le_refl _)] at this
/-- What a slice becomes that had to move. -/
def MovedK (w0 : World) (H : Heap) (e sz n : Nat) (cs : List Value) (K : Value → Heap → Prop) : Prop :=
  ∀ b c, H b = none → w0.heap.size ≤ b → n ≤ c → K (.slice (some ⟨b, 0, none⟩) n c) (H.set b (.flex cs (c * sz) e))
/-- append where there is no room: a new array. -/
theorem append_grow {T U e ty : TypeId} {sz bytes : Nat} {z : Value} (E : Elt P T e sz bytes z) (hU : Many P U) {A : Option Addr} {n c m : Nat} {x : Value} {xs ys : List Value} (hr : Rd w0 H sz (.slice A n c) n xs) (h1 : xs.all Value.oneCell' = true)
    (hx : Srcs P w0 H sz x m ys) (hn : c < n + m) (hb : (n + m) * bytes ≤ 140737488355328) (h63 : n + m ≤ 9223372036854775807) {K : Value → Heap → Prop} (hK : MovedK w0 H e sz (n + m) (xs ++ ys) K) :
    OpK P w0 (Builtin.append_ #[T, U] ty #[.slice A n c, x]) H K := fun w hw => by
  obtain ⟨c', hc', hrun⟩ := run_append_grow (ty := ty) E hU hx.len ((hr.srcs h1).one_toArray hw.drew) (hx.one_toArray hw.drew) hn hb h63
  refine ⟨_, _, _, hrun, ?_, hK w.heap.size c' hw.fresh hw.base hc'⟩
  have hl : (xs ++ ys).length = (n + m) * sz := by
    have := (hr.srcs (P := P) h1).size
    simp only [List.length_append, this, hx.size, Nat.add_mul]
  have := hw.newFlex (xs ++ ys) (Builtin.zeroCells z.cells (c' - (n + m))) (c' * sz) (by
    rw [hl]
    simp only [Builtin.zeroCells, Array.size_map, Array.size_range, E.zs]
    rw [← Nat.add_mul]
    congr 1
    omega) e
  rwa [← List.append_toArray] at this
/-- append to nil. -/
theorem append_nil {T U e ty : TypeId} {sz bytes : Nat} {z : Value} (E : Elt P T e sz bytes z) (hU : Many P U) {m : Nat} {x : Value} {ys : List Value}
    (hx : Srcs P w0 H sz x m ys) (hb : m * bytes ≤ 140737488355328) (h63 : m ≤ 9223372036854775807) {K : Value → Heap → Prop} (h0 : m = 0 → K (.slice none 0 0) H) (hK : 0 < m → MovedK w0 H e sz m ys K) :
    OpK P w0 (Builtin.append_ #[T, U] ty #[.slice none 0 0, x]) H K := by
  rcases Nat.eq_zero_or_pos m with h | h
  · subst h
    intro w hw
    have hy : ys = [] := List.eq_nil_of_length_eq_zero (by rw [hx.size]; simp)
    have hc := hx.one_toArray hw
    subst hy
    exact ⟨_, _, _, run_append_none (ty := ty) E hU hx.len hc (Nat.le_refl 0), hw, h0 rfl⟩
  · have := append_grow (ty := ty) E hU (Rd.nil 0 none sz) (xs := []) rfl hx (n := 0) (c := 0) (by omega) (by rw [Nat.zero_add]; exact hb) (by omega) (K := K) (by rw [Nat.zero_add, List.nil_append]; exact hK h)
    exact this
theorem setRange_at_end (cs rest ys : List Value) (h : ys.length ≤ rest.length) : setRange (cs ++ rest) cs.length ys = (cs ++ ys) ++ rest.drop ys.length := by
  induction ys generalizing cs rest with
  | nil => simp [setRange]
  | cons y ys ih =>
    cases rest with
    | nil => simp at h
    | cons r rest =>
      simp only [List.length_cons, Nat.add_le_add_iff_right] at h
      simp only [setRange]
      have : (cs ++ r :: rest).set cs.length y = (cs ++ [y]) ++ rest := by simp
      rw [this]
      have h2 := ih (cs ++ [y]) rest h
      simp only [List.length_append, List.length_cons, List.length_nil] at h2
      rw [h2]
      simp
theorem OpK_less {x : Sem Value} {K : Value → Heap → Prop} (h : OpK P w0 x H (fun v H' => ∃ H'', H''.le H' ∧ K v H'')) : OpK P w0 x H K := fun w hw => by
  obtain ⟨r, w', H', hr, hs, H'', hl, hk⟩ := h w hw
  exact ⟨r, w', H'', hr, hs.mono hl, hk⟩
/-- append to a slice of the call's own that ends where its known cells end. -/
theorem append_own {T U e ty : TypeId} {sz bytes : Nat} {z : Value} (E : Elt P T e sz bytes z) (hU : Many P U) {b n c m : Nat} {x : Value} {cs ys : List Value} (hb : H b = some (.flex cs (c * sz) e)) (hlow : w0.heap.size ≤ b) (hcs : cs.length = n * sz) (hnc : n ≤ c)
    (h1 : cs.all Value.oneCell' = true) (hx : Srcs P w0 H sz x m ys) (hlim : (n + m) * bytes ≤ 140737488355328) (h63 : n + m ≤ 9223372036854775807) {K : Value → Heap → Prop}
    (hK : ∀ b' c', (b' = b ∨ H b' = none) → w0.heap.size ≤ b' → n + m ≤ c' → K (.slice (some ⟨b', 0, none⟩) (n + m) c') ((H.del b).set b' (.flex (cs ++ ys) (c' * sz) e))) :
    OpK P w0 (Builtin.append_ #[T, U] ty #[.slice (some ⟨b, 0, none⟩) n c, x]) H K := by
  have hlook : ∀ j v, cs[j]? = some v → lk w0 H b (0 + j) = some v := fun j v hv => by
    unfold lk
    rw [if_neg (by omega), hb]
    simpa [Item.cellAt] using hv
  have hrd : Rd w0 H sz (.slice (some ⟨b, 0, none⟩) n c) n cs := ⟨_, _, rfl, hnc, hcs, fun _ => ⟨b, 0, rfl, hlook⟩⟩
  by_cases hn : n + m ≤ c
  · intro w hw
    have hrun := run_append_room (P := P) (ty := ty) E hU (b := b) (o := 0) hx.len (hx.one_toArray hw) hn
    obtain ⟨_, rest, fr, hh, hclear, hcap⟩ := hw.items b _ hb
    have hrl : ys.length ≤ rest.length := by
      rw [hx.size]
      simp only [List.length_append, hcs] at hcap
      have : (n + m) * sz ≤ c * sz := Nat.mul_le_mul_right _ hn
      rw [Nat.add_mul] at this
      omega
    obtain ⟨w', hr, hw', e1, e2, e3, e4, e5⟩ := storeCells_row P (arr := #[]) ys (n * sz) 0 w (cs ++ rest).toArray hh (by simpa using hclear) (by simp only [List.size_toArray, List.length_append]; rw [hcs]; omega) hx.one
    have hz : (storeCells ⟨b, 0 + n * sz, none⟩ ys).run P w = .ok () w' := by rw [Nat.zero_add]; exact hr
    rw [hz] at hrun
    refine ⟨_, w', _, hrun, ?_, hK b c (.inl rfl) hlow hn⟩
    simp only [Nat.add_zero, List.toList_toArray, ← hcs] at hw'
    rw [setRange_at_end cs rest ys hrl] at hw'
    refine (hw.del b).write hlow _ ⟨rest.drop ys.length, fr, hw', ?_, ?_⟩ e1 e2 e3 e4 e5
    · intro i hi
      refine hclear i ?_
      simp only [List.length_append, List.length_drop] at hi ⊢
      omega
    · simp only [List.length_append, List.length_drop] at hcap ⊢
      omega
  · refine OpK_less (append_grow (ty := ty) (K := fun v H' => ∃ H'', H''.le H' ∧ K v H'') E hU hrd h1 hx (by omega) hlim h63 ?_)
    intro b' c' hb' hlow' hc'
    refine ⟨_, ?_, hK b' c' (.inr hb') hlow' hc'⟩
    intro k it hk
    by_cases e : k = b'
    · subst e; rw [Heap.set_same] at hk ⊢; exact hk
    · rw [Heap.set_ne e] at hk ⊢
      by_cases e2 : k = b
      · subst e2; rw [Heap.del_same] at hk; cases hk
      · rw [Heap.del_ne e2] at hk; exact hk
end
end Go.Proofs.Ytgnepkppmjabnaa.Eng
