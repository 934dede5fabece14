/- The engine's third part: the operations with memory; a region's operations one behind the other (SopsL); that all this is what the machine does. Conditions: none. -/
import Derived.Test.YtgnepkppmjabnaaEng2
namespace Go.Proofs.Ytgnepkppmjabnaa.Eng
open Go.RowKit
set_option linter.unusedVariables false
set_option linter.unusedSimpArgs false

/-! ### Facts of types -/
def zeroOf (P : Program) (t : TypeId) : Option Value := (P.info? t).bind (·.zero)
/-- Where a struct's or an array's parts lie: offset and size. -/
def placeOf (P : Program) (t : TypeId) (i : Nat) : Option (Nat × Nat) :=
  match P.underlying t with
  | some (.struct fs) => (fs[i]?).map fun f => (f.offset, P.cellsOf f.type)
  | some (.array _ e) => some (i * P.cellsOf e, P.cellsOf e)
  | _ => none
def elemOf' (P : Program) (t : TypeId) : Option TypeId :=
  match P.underlying t with
  | some (.slice e) => some e
  | _ => none
def szOf (P : Program) (t : TypeId) : Option Nat := (P.info? t).map (·.size)
def setRange (cs : List Value) (o : Nat) : List Value → List Value
  | [] => cs
  | v :: vs => setRange (cs.set o v) (o + 1) vs
theorem setRange_length (cs : List Value) (o : Nat) (vs : List Value) : (setRange cs o vs).length = cs.length := by
  induction vs generalizing cs o with
  | nil => rfl
  | cons v vs ih => simp [setRange, ih]
theorem setRange_append (cs rest : List Value) (o : Nat) (vs : List Value) (h : o + vs.length ≤ cs.length) : setRange (cs ++ rest) o vs = setRange cs o vs ++ rest := by
  induction vs generalizing cs o with
  | nil => rfl
  | cons v vs ih =>
    simp only [List.length_cons] at h
    simp only [setRange]
    rw [List.set_append_left _ _ (by omega), ih _ _ (by simp; omega)]
def fillV (place : Nat → Option (Nat × Nat)) (cells : List Value) : List (Nat × Value) → Option (List Value)
  | [] => some cells
  | (i, v) :: rest =>
    match place i with
    | none => none
    | some (off, size) => if v.cells.size = size ∧ off + size ≤ cells.length then fillV place (setRange cells off v.cells.toList) rest else none

/-! ### Memory -/
def Item.setCells (o : Nat) (vs : List Value) : Item → Option Item
  | .row cs ty => if o + vs.length ≤ cs.length then some (.row (setRange cs o vs) ty) else none
  | .flex cs cap ty => if o + vs.length ≤ cs.length then some (.flex (setRange cs o vs) cap ty) else none
  | .obj _ => none
def LoadK (P : Program) (w0 : World) (H : Heap) (t : TypeId) (x : Value) (K : Value → Prop) : Prop :=
  match x with
  | .pointer (some ⟨b, o, none⟩) => match loadOf P w0 H t b o with
    | some v => K v
    | none => False
  | _ => False
def StoreK (P : Program) (w0 : World) (H : Heap) (t : TypeId) (x v : Value) (K : Heap → Prop) : Prop :=
  match x with
  | .pointer (some ⟨b, o, none⟩) => match (H b).bind (Item.setCells o v.cells.toList) with
    | some it => szOf P t = some v.cells.size ∧ v.cells.toList.all Value.oneCell' = true ∧ K (H.set b it)
    | none => False
  | _ => False
def NewK (w0 : World) (H : Heap) (it : Item) (K : Nat → Heap → Prop) : Prop := ∀ b, H b = none → w0.heap.size ≤ b → K b (H.set b it)
def AllocK (P : Program) (w0 : World) (H : Heap) (t : TypeId) (K : Value → Heap → Prop) : Prop :=
  match zeroOf P t with
  | some z => NewK w0 H (.row z.cells.toList t) fun b H' => K (.pointer (some ⟨b, 0, none⟩)) H'
  | none => False
def BoxK (w0 : World) (H : Heap) (t : TypeId) (v : Value) (K : Value → Heap → Prop) : Prop :=
  NewK w0 H (.row v.cells.toList t) fun b H' => K (.pointer (some ⟨b, 0, none⟩)) H'
def zerosOf (z : Value) (n : Nat) : List Value := (List.replicate n z.cells.toList).flatten
def BuildSliceK (P : Program) (w0 : World) (H : Heap) (t : TypeId) (len : Nat) (parts : List (Nat × Value)) (K : Value → Heap → Prop) : Prop :=
  match elemOf' P t with
  | some e => match zeroOf P e with
    | some z => len * P.cellsOf e ≤ 16777216 ∧ z.cells.size = P.cellsOf e ∧ match fillV (fun i => some (i * P.cellsOf e, P.cellsOf e)) (zerosOf z len) parts with
      | some cs => NewK w0 H (.row cs e) fun b H' => K (.slice (some ⟨b, 0, none⟩) len len) H'
      | none => False
    | none => False
  | none => False
def MakeK (P : Program) (w0 : World) (H : Heap) (t : TypeId) (l c : Value) (K : Value → Heap → Prop) : Prop :=
  match elemOf' P t, l, c with
  | some e, .int _ l, .int _ c => match zeroOf P e with
    | some z => 0 ≤ l ∧ l ≤ c ∧ c ≤ 9223372036854775807 ∧ P.bytesOf e * c ≤ 281474976710656 ∧ z.cells.size = P.cellsOf e ∧ NewK w0 H (.row (zerosOf z c.toNat) e) fun b H' => K (.slice (some ⟨b, 0, none⟩) l.toNat c.toNat) H'
    | none => False
  | _, _, _ => False
/-- An operation by what it does in every world that this heap tells of. -/
def OpK (P : Program) (w0 : World) (x : Sem Value) (H : Heap) (K : Value → Heap → Prop) : Prop :=
  ∀ w, Sat w0 H w → ∃ r w' H', x.run P w = .ok r w' ∧ Sat w0 H' w' ∧ K r H'
/-- A function of the program, with a body that is entered. -/
def Callable (P : Program) (f : FuncId) : Prop := ∀ (args : Array Value) (w : World), (callFunc f args).run P w = .ok (.enter f args) w
def FunK (P : Program) (w0 : World) (f : Value) (args : List Value) (H : Heap) (K : Value → Heap → Prop) : Prop :=
  match f with
  | .func (.func g) first captured => Callable P g ∧ F P w0 g (first.toList ++ args ++ captured.toList) H K
  | _ => False
def CallK (P : Program) (w0 : World) (ty : TypeId) (c : Call) (s : Slots) (H : Heap) (K : Value → Heap → Prop) : Prop :=
  match c.callee with
  | .value f => FunK P w0 (ev s f) (c.args.toList.map (ev s)) H K
  | .builtin .len => PureK P (Builtin.len_ c.argTypes ty (c.args.map (ev s))) (fun v => K v H)
  | .builtin .cap => PureK P (Builtin.cap_ c.argTypes ty (c.args.map (ev s))) (fun v => K v H)
  | .builtin .min => PureK P (Builtin.min_ c.argTypes ty (c.args.map (ev s))) (fun v => K v H)
  | .builtin .max => PureK P (Builtin.max_ c.argTypes ty (c.args.map (ev s))) (fun v => K v H)
  | .builtin .append => OpK P w0 (Builtin.append_ c.argTypes ty (c.args.map (ev s))) H K
  | .builtin .copy => OpK P w0 (Builtin.copy_ c.argTypes ty (c.args.map (ev s))) H K
  | .builtin .clear => OpK P w0 (Builtin.clear_ c.argTypes ty (c.args.map (ev s))) H K
  | _ => False
def PickK (t a b : Value) (K : Value → Prop) : Prop :=
  match t with
  | .bool t => K (if t then a else b)
  | _ => False
def NilK (x : Value) (K : Value → Prop) : Prop :=
  match x with
  | .pointer (some a) => K (.pointer (some a))
  | .func (.func f) a b => K (.func (.func f) a b)
  | _ => False
/-- A conversion to a number, or from string to string, is reckoned; the others make or read memory. -/
def ConvK (P : Program) (w0 : World) (src dst : TypeId) (x : Value) (H : Heap) (K : Value → Heap → Prop) : Prop :=
  match P.underlying dst, x with
  | some (.int _), _ => PureK P (convert src dst x) fun v => K v H
  | some .string, .string _ => PureK P (convert src dst x) fun v => K v H
  | _, _ => OpK P w0 (convert src dst x) H K
/-- What one operation asks, and what it hands on. -/
def opV (P : Program) (w0 : World) (op : Op) (ty : TypeId) (s : Slots) (H : Heap) (K : Value → Heap → Prop) : Prop :=
  match op with
  | .move x => K (ev s x) H
  | .assign x => K (ev s x) H
  | .pick c a b => PickK (ev s c) (ev s a) (ev s b) fun v => K v H
  | .alloc e => AllocK P w0 H e K
  | .box e x => BoxK w0 H e (ev s x) K
  | .build t parts => PureK P (Instr.build t (parts.map fun (i, x) => (i, ev s x))) fun v => K v H
  | .buildSlice t len parts => BuildSliceK P w0 H t len (parts.toList.map fun p => (p.1, ev s p.2)) K
  | .load t a => LoadK P w0 H t (ev s a) fun v => K v H
  | .store t a x => StoreK P w0 H t (ev s a) (ev s x) fun H' => K undef H'
  | .nilCheck x => NilK (ev s x) fun v => K v H
  | .binOp op t x y _ => BinK P op t x y (ev s x) (ev s y) fun v => K v H
  | .unOp op _ x => PureK P (Op.unary op (ev s x)) fun v => K v H
  | .convert src dst x => ConvK P w0 src dst (ev s x) H K
  | .makeInterface t x => PureK P (Instr.makeInterface t (ev s x)) fun v => K v H
  | .makeFunc fn first captured => K (.func fn (first.map (ev s)) (captured.map (ev s))) H
  | .makeMap t r => OpK P w0 (Instr.makeMap t (r.map (ev s))) H K
  | .makeSlice t l c => MakeK P w0 H t (ev s l) (ev s c) K
  | .slice t x lo hi mx => PureK P (Instr.sliceAt t (ev s x) (lo.map (ev s)) (hi.map (ev s)) (mx.map (ev s))) fun v => K v H
  | .fieldAddr t x f => PureK P (Instr.fieldAt t (ev s x) f) fun v => K v H
  | .field t x f => PureK P (Instr.field t (ev s x) f) fun v => K v H
  | .indexAddr t x ix => PureK P (Instr.indexAt t (ev s x) (ev s ix)) fun v => K v H
  | .index t x ix => PureK P (Instr.index t (ev s x) (ev s ix)) fun v => K v H
  | .lookup t x ix ok => OpK P w0 (Instr.lookup t (ev s x) (ev s ix) ok) H K
  | .mapUpdate t m k x => OpK P w0 (do Instr.mapUpdate t (ev s m) (ev s k) (ev s x); pure undef) H K
  | .insert t m k x => OpK P w0 (do Instr.mapUpdate t (ev s m) (ev s k) (ev s x); pure undef) H K
  | .range t x => OpK P w0 (Instr.range t (ev s x)) H K
  | .next it isString => OpK P w0 (Instr.next (ev s it) isString ty) H K
  | .typeAssert x t u ok => PureK P (Instr.typeAssert (ev s x) t u ok) fun v => K v H
  | .extract x i => PureK P (Instr.extract (ev s x) i) fun v => K v H
  | .call c => CallK P w0 ty c s H K
  | _ => False
/-- Is the operation done at all? -/
def want (ops : Array Oper) (s : Slots) (o : Oper) : Bool :=
  match o.guard with
  | none => true
  | some (j, b) => match (ops[j]?).bind (·.dst) with
    | some t => (match s t with
      | .bool c => c == b
      | _ => false)
    | none => false
def SopsL (P : Program) (w0 : World) (N : Nat) (ops : Array Oper) : List Oper → Slots → Heap → (Slots → Heap → Prop) → Prop
  | [], s, H, K => K s H
  | o :: r, s, H, K => dstOk N o.dst ∧ if want ops s o = true then opV P w0 o.op o.type s H (fun v H' => SopsL P w0 N ops r (putO s o.dst v) H' K) else SopsL P w0 N ops r (putO s o.dst undef) H K

/-! ### That the machine does this -/
section
variable {P : Program} {w0 : World} {N : Nat} {H : Heap} {w : World}
/-- What 'Oper.wp' asks, shown by one run. -/
theorem wp_value {o : Oper} {a : Act} {next : Act → World → Prop} {Q : Exit → Act → World → Prop} {v : Value} {w' : World} (h : (execOp a.eval o).run P w = .ok (.value v) w') (hn : next (a.put o.dst v) w') : o.wp P a w next Q := by
  unfold Oper.wp
  rw [h]
  exact hn
theorem wp_skipped {o : Oper} {a : Act} {next : Act → World → Prop} {Q : Exit → Act → World → Prop} {w' : World} (h : (execOp a.eval o).run P w = .ok .skip w') (hn : next (a.put o.dst undef) w') : o.wp P a w next Q := by
  unfold Oper.wp
  rw [h]
  exact hn
theorem run_cells_row (hw : Sat w0 H w) (cs : List Value) (t : TypeId) : Sat w0 (H.set w.heap.size (.row cs t)) { w with heap := w.heap.push (.cells cs.toArray t) } :=
  hw.push _ _ ⟨(0, 0), by simp, fun i hi => by omega⟩
theorem storeCells_row (P : Program) {b : Nat} {arr : Array Value} {ty : TypeId} {fr : Nat × Nat} : ∀ (vs : List Value) (o i : Nat) (w : World) (arr : Array Value), w.heap[b]? = some (.cells arr ty fr) → Clear fr arr.size →
    o + i + vs.length ≤ arr.size → vs.all Value.oneCell' = true →
    ∃ w', (storeCells ⟨b, o, none⟩ vs i).run P w = .ok () w' ∧ w'.heap[b]? = some (.cells (setRange arr.toList (o + i) vs).toArray ty fr) ∧ w'.os = w.os ∧ w'.tape = w.tape ∧ w'.output = w.output ∧ w'.heap.size = w.heap.size ∧ ∀ k, k ≠ b → w'.heap[k]? = w.heap[k]? := by
  intro vs
  induction vs with
  | nil => intro o i w arr h _ _ _; exact ⟨w, by simp [storeCells], by simpa [setRange] using h, rfl, rfl, rfl, rfl, fun _ _ => rfl⟩
  | cons v vs ih =>
    intro o i w arr h hc hl ho
    simp only [List.length_cons] at hl
    simp only [List.all_cons, Bool.and_eq_true] at ho
    have ha : (⟨b, o, none⟩ : Addr).add i = ⟨b, o + i, none⟩ := by unfold Addr.add; split <;> simp_all
    have hcell : w.cell? ⟨b, o + i, none⟩ = some (arr[o + i]'(by omega)) := by simp [World.cell?, h]
    have hfr : w.frozen? ⟨b, o + i, none⟩ = false := by
      have := hc (o + i) (by omega)
      simp only [World.frozen?, h]
      simp only [Bool.and_eq_false_iff, decide_eq_false_iff_not]
      omega
    have hst : (store ⟨b, o + i, none⟩ v).run P w = .ok () (w.setCell ⟨b, o + i, none⟩ v) := by
      rw [run_store P w _ v _ ho.1, hcell]; simp [hfr]
    have hh : (w.setCell ⟨b, o + i, none⟩ v).heap[b]? = some (.cells (arr.setIfInBounds (o + i) v) ty fr) := by
      simp [World.setCell, Array.getElem?_modify, h]
    obtain ⟨w', hr, hw', h1, h2, h3, h4, h5⟩ := ih o (i + 1) _ _ hh (by simpa using hc) (by simp; omega) ho.2
    refine ⟨w', ?_, ?_, h1, h2, h3, by rw [h4]; simp [World.setCell], fun k hk => by rw [h5 k hk]; exact Below.heap_setCell w ⟨b, o + i, none⟩ v k hk⟩
    · simp only [storeCells, Sem.run_bind, ha, hst, Result.andThen_ok]; exact hr
    · rw [hw']; simp [setRange, Nat.add_assoc]
theorem storeCells_sat (hw : Sat w0 H w) {b o : Nat} {vs : List Value} {it it' : Item} (hb : H b = some it) (hs : it.setCells o vs = some it') (h1 : vs.all Value.oneCell' = true) :
    ∃ w', (storeCells ⟨b, o, none⟩ vs).run P w = .ok () w' ∧ Sat w0 (H.set b it') w' := by
  obtain ⟨hlow, hh⟩ := hw.items b it hb
  cases it with
  | row cs ty =>
    simp only [Item.setCells] at hs
    split at hs
    · rename_i hl
      cases hs
      obtain ⟨fr, hh, hc⟩ := hh
      obtain ⟨w', hr, hw', e1, e2, e3, e4, e5⟩ := storeCells_row P (arr := #[]) vs o 0 w cs.toArray hh (by simpa using hc) (by simpa using hl) h1
      exact ⟨w', hr, hw.write hlow _ ⟨fr, by simpa using hw', by rw [setRange_length]; exact hc⟩ e1 e2 e3 e4 e5⟩
    · cases hs
  | flex cs cap ty =>
    simp only [Item.setCells] at hs
    split at hs
    · rename_i hl
      cases hs
      obtain ⟨rest, fr, hh, hc, hcap⟩ := hh
      obtain ⟨w', hr, hw', e1, e2, e3, e4, e5⟩ := storeCells_row P (arr := #[]) vs o 0 w (cs ++ rest).toArray hh (by simpa using hc) (by simp; omega) h1
      refine ⟨w', hr, hw.write hlow _ ⟨rest, fr, ?_, ?_, ?_⟩ e1 e2 e3 e4 e5⟩
      · rw [hw']; simp only [Nat.add_zero, List.toList_toArray]; rw [setRange_append _ _ _ _ hl]
      · simp only [List.length_append, setRange_length] at hc ⊢; exact hc
      · simp only [List.length_append, setRange_length] at hcap ⊢; exact hcap
    · cases hs
  | obj o => cases hs

theorem info_of_under {t : TypeId} {d : TypeDesc} (hu : P.underlying t = some d) : ∃ i, P.info? t = some i := by
  unfold Program.underlying at hu
  cases hi : P.info? t with
  | none => simp [hi] at hu
  | some i => exact ⟨i, rfl⟩
theorem run_zero {t : TypeId} {z : Value} (h : zeroOf P t = some z) (w : World) : (zeroValue t).run P w = .ok z w := by
  simp only [zeroOf, Option.bind_eq_some_iff] at h
  obtain ⟨i, hi, hz⟩ := h
  simp [zeroValue, typeInfo, hi, hz]
theorem run_size_zero {t : TypeId} {z : Value} (h : zeroOf P t = some z) (w : World) : (sizeOf t).run P w = .ok (P.cellsOf t) w := by
  simp only [zeroOf, Option.bind_eq_some_iff] at h
  obtain ⟨i, hi, hz⟩ := h
  exact run_sizeOf w hi
theorem under_elem {t e : TypeId} (h : elemOf' P t = some e) : P.underlying t = some (.slice e) := by
  unfold elemOf' at h
  split at h
  · rename_i hu; cases h; exact hu
  · cases h
theorem zeros_at (l : List Value) : ∀ (n i : Nat), i < n * l.length → (List.replicate n l).flatten[i]? = l[i % l.length]? := by
  intro n
  induction n with
  | zero => intro i h; omega
  | succ n ih =>
    intro i h
    rw [List.replicate_succ, List.flatten_cons, List.getElem?_append]
    split
    · rename_i hi; rw [Nat.mod_eq_of_lt hi]
    · rename_i hi
      have : (n + 1) * l.length = n * l.length + l.length := Nat.succ_mul _ _
      rw [ih (i - l.length) (by omega)]
      rw [Nat.mod_eq_sub_mod (by omega : i ≥ l.length)]
theorem zeros_eq (z : Value) (n : Nat) : ((Array.range (n * z.cells.size)).map (z.cells[· % z.cells.size]!)) = (zerosOf z n).toArray := by
  apply Array.ext
  · simp [zerosOf]
  · intro i h1 h2
    simp only [Array.size_map, Array.size_range] at h1
    have := zeros_at z.cells.toList n i (by simpa using h1)
    simp only [Array.getElem_map, Array.getElem_range, List.getElem_toArray]
    have h3 : 0 < z.cells.size := by
      rcases Nat.eq_zero_or_pos z.cells.size with h | h
      · rw [h] at h1; omega
      · exact h
    have h4 : i % z.cells.size < z.cells.size := Nat.mod_lt _ h3
    have h5 : (zerosOf z n)[i]? = some z.cells[i % z.cells.size] := by
      unfold zerosOf
      rw [this]
      simp [h4]
    rw [getElem!_pos z.cells _ h4]
    exact (Option.some.inj ((List.getElem?_eq_getElem _).symm.trans h5)).symm
theorem zeros_length (z : Value) (n : Nat) : (zerosOf z n).length = n * z.cells.size := by simp [zerosOf]
theorem setRange_fold (off : Nat) : ∀ (vs : List Value) (j : Nat) (cells : List Value), (vs.zipIdx j).foldl (fun (cs : Array Value) (x : Value × Nat) => cs.setIfInBounds (off + x.2) x.1) cells.toArray = (setRange cells (off + j) vs).toArray := by
  intro vs
  induction vs with
  | nil => intro j cells; rfl
  | cons v vs ih =>
    intro j cells
    rw [List.zipIdx_cons, List.foldl_cons]
    have : (cells.toArray.setIfInBounds (off + j) v) = (cells.set (off + j) v).toArray := by simp
    simp only [this]
    rw [ih]
    simp [setRange, Nat.add_assoc]
theorem fill_eq (place : Nat → Option (Nat × Nat)) : ∀ (parts : List (Nat × Value)) (cells cs : List Value), fillV place cells parts = some cs → Instr.fill place cells.toArray parts = some cs.toArray := by
  intro parts
  induction parts with
  | nil => intro cells cs h; simp only [fillV, Option.some.injEq] at h; subst h; rfl
  | cons p parts ih =>
    intro cells cs h
    obtain ⟨i, v⟩ := p
    simp only [fillV] at h
    simp only [Instr.fill]
    split at h
    · cases h
    · rename_i off size hp
      rw [hp]
      split at h
      · rename_i hc
        have hn : ¬ ((decide (v.cells.size ≠ size) || decide (off + v.cells.size > cells.toArray.size)) = true) := by
          simp only [List.size_toArray, Bool.or_eq_true, decide_eq_true_eq, not_or]
          omega
        simp only [if_neg hn]
        have := setRange_fold off v.cells.toList 0 cells
        rw [← Array.foldl_toList, Array.toList_zipIdx]
        simp only [Nat.add_zero] at this
        rw [this]
        exact ih _ _ h
      · cases h

/-- What 'opV' says is what the machine does. -/
theorem opV_sound {o : Oper} {s : Slots} {a : Act} {K : Value → Heap → Prop} {Q : Exit → Act → World → Prop} (hw : Sat w0 H w) (ha : Rs N s a) (h : opV P w0 o.op o.type s H K) :
    o.wp P a w (fun a' w' => ∃ v H', a' = a.put o.dst v ∧ Sat w0 H' w' ∧ K v H') Q := by
  have he := ha.eval
  have pure1 : ∀ (x : Sem Value) (K' : Value → Prop), (execOp a.eval o = do pure (.value (← x))) → PureK P x K' → (∀ v, K' v → K v H) →
      o.wp P a w (fun a' w' => ∃ v H', a' = a.put o.dst v ∧ Sat w0 H' w' ∧ K v H') Q := fun x K' hx ⟨r, hr, hk⟩ hK =>
    wp_value (by rw [hx]; simp [hr]) ⟨r, H, rfl, hw, hK r hk⟩
  have op1 : ∀ (x : Sem Value), (execOp a.eval o = do pure (.value (← x))) → OpK P w0 x H K →
      o.wp P a w (fun a' w' => ∃ v H', a' = a.put o.dst v ∧ Sat w0 H' w' ∧ K v H') Q := fun x hx hk => by
    obtain ⟨r, w', H', hr, hs, hq⟩ := hk w hw
    exact wp_value (by rw [hx]; simp [hr]) ⟨r, H', rfl, hs, hq⟩
  have value1 : ∀ v, execOp a.eval o = pure (.value v) → K v H →
      o.wp P a w (fun a' w' => ∃ v H', a' = a.put o.dst v ∧ Sat w0 H' w' ∧ K v H') Q := fun v hx hk =>
    wp_value (by rw [hx]; simp) ⟨v, H, rfl, hw, hk⟩
  obtain ⟨dst, op, ty, pos, after, guard⟩ := o
  cases op <;> simp only [opV] at h
  case move x => exact value1 _ (by simp [execOp, he]) h
  case assign x => exact value1 _ (by simp [execOp, he]) h
  case pick c x y =>
    unfold PickK at h
    split at h
    · rename_i t ht
      refine value1 _ ?_ h
      simp only [execOp, he, ht, asBool]
      cases t <;> rfl
    · exact h.elim
  case alloc e =>
    unfold AllocK at h
    split at h
    · rename_i z hz
      refine wp_value (v := .pointer (some ⟨w.heap.size, 0, none⟩)) (w' := { w with heap := w.heap.push (.cells z.cells e) }) ?_ ?_
      · simp [execOp, Instr.alloc, run_zero hz, newVar, newRow]
      · exact ⟨_, _, rfl, by simpa using run_cells_row hw z.cells.toList e, h _ hw.fresh hw.base⟩
    · exact h.elim
  case box e x =>
    refine wp_value (v := .pointer (some ⟨w.heap.size, 0, none⟩)) (w' := { w with heap := w.heap.push (.cells (ev s x).cells e) }) ?_ ?_
    · simp [execOp, Instr.box, newVar, newRow, he]
    · exact ⟨_, _, rfl, by simpa using run_cells_row hw (ev s x).cells.toList e, h _ hw.fresh hw.base⟩
  case build t parts => exact pure1 _ _ (by simp [execOp, he]) h (fun _ hk => hk)
  case buildSlice t len parts =>
    unfold BuildSliceK at h
    split at h
    · rename_i e hel
      split at h
      · rename_i z hz
        obtain ⟨hlim, hzs, h⟩ := h
        split at h
        · rename_i cs hcs
          refine wp_value (v := .slice (some ⟨w.heap.size, 0, none⟩) len len) (w' := { w with heap := w.heap.push (.cells cs.toArray e) }) ?_ ⟨_, _, rfl, run_cells_row hw cs e, h _ hw.fresh hw.base⟩
          have hf := fill_eq _ _ _ _ hcs
          rw [← zeros_eq] at hf
          have hlim' : ¬ len * P.cellsOf e > 2 ^ 24 := by omega
          have hparts : (parts.map fun (x : Nat × Operand) => (x.1, ev s x.2)).toList = parts.toList.map fun p => (p.1, ev s p.2) := by simp
          simp only [execOp, he, Instr.buildSlice, Sem.run_bind, run_underlying (under_elem hel), Result.andThen_ok, run_size_zero hz, if_neg hlim', Sem.run_pure]
          rw [hzs] at hf
          by_cases h0 : len * P.cellsOf e = 0
          · rw [h0] at hf
            simp only [h0, if_true, Sem.run_bind, Sem.run_pure, Result.andThen_ok, hparts]
            have e0 : ∀ (f g : Nat → Value), (Array.range 0).map f = (Array.range 0).map g := fun f g => by simp
            rw [e0 _ (z.cells[· % P.cellsOf e]!), hf]
            simp [newRow]
          · simp only [if_neg h0, Sem.run_bind, run_zero hz, Sem.run_pure, Result.andThen_ok, hparts, hzs]
            rw [hf]
            simp [newRow]
        · exact h.elim
      · exact h.elim
    · exact h.elim
  case load t x =>
    unfold LoadK at h
    split at h
    · rename_i b o hx
      split at h
      · rename_i v hv
        refine wp_value (v := v) (w' := w) ?_ ⟨_, _, rfl, hw, h⟩
        simp [execOp, he, Instr.loadAt, hx, Instr.sureAddr, run_loadVar_sat hw hv]
      · exact h.elim
    · exact h.elim
  case store t x v =>
    unfold StoreK at h
    split at h
    · rename_i b o hx
      split at h
      · rename_i it hit
        obtain ⟨hsz, h1, h⟩ := h
        obtain ⟨it0, hb, hset⟩ := Option.bind_eq_some_iff.1 hit
        obtain ⟨w', hr, hs⟩ := storeCells_sat (P := P) hw hb hset h1
        refine wp_skipped (w' := w') ?_ ⟨_, _, rfl, hs, h⟩
        simp only [szOf, Option.map_eq_some_iff] at hsz
        obtain ⟨i, hi, hsz⟩ := hsz
        have hz : (sizeOf t).run P w = .ok (ev s v).cells.size w := by simp [sizeOf, typeInfo, hi, hsz]
        simp only [execOp, he, Instr.storeAt, hx, Instr.sureAddr, Sem.run_bind, Sem.run_pure, Result.andThen_ok, storeVar, hz, ne_eq, not_true_eq_false, if_false, hr]
      · exact h.elim
    · exact h.elim
  case nilCheck x =>
    unfold NilK at h
    split at h
    · rename_i ad hx; exact value1 _ (by simp [execOp, he, hx]) h
    · rename_i f a1 a2 hx; exact value1 _ (by simp [execOp, he, hx]) h
    · exact h.elim
  case binOp op t x y yt => exact pure1 _ _ (by simp [execOp, he]) h (fun _ hk => hk)
  case unOp op t x => exact pure1 _ _ (by simp [execOp, he]) h (fun _ hk => hk)
  case convert src dst x =>
    unfold ConvK at h
    split at h
    · exact pure1 _ _ (by simp [execOp, he]) h (fun _ hk => hk)
    · rename_i hx; exact pure1 _ _ (by simp [execOp, he, hx]) h (fun _ hk => hk)
    · exact op1 _ (by simp [execOp, he]) h
  case makeInterface t x => exact pure1 _ _ (by simp [execOp, he]) h (fun _ hk => hk)
  case makeFunc fn first captured => exact value1 _ (by simp [execOp, he, Instr.makeFunc]) h
  case makeMap t r => exact op1 _ (by simp [execOp, he]) h
  case makeSlice t l c =>
    unfold MakeK at h
    split at h
    · rename_i e k l' k' c' hel hl hc
      split at h
      · rename_i z hz
        obtain ⟨h0, h1, h2, h3, hzs, h⟩ := h
        refine wp_value (v := .slice (some ⟨w.heap.size, 0, none⟩) l'.toNat c'.toNat) (w' := { w with heap := w.heap.push (.cells (zerosOf z c'.toNat).toArray e) }) ?_ ⟨_, _, rfl, run_cells_row hw _ e, h _ hw.fresh hw.base⟩
        obtain ⟨i, hi, hz'⟩ := Option.bind_eq_some_iff.1 hz
        have hb : P.bytesOf e = i.bytes := by simp [Program.bytesOf, hi]
        have wl : IntKind.i64.wrap l' = l' := by rw [IntKind.wrap_i64]; omega
        have wc : IntKind.i64.wrap c' = c' := by rw [IntKind.wrap_i64]; omega
        have ht : ∀ w, (typeInfo e).run P w = .ok i w := fun w => by simp [typeInfo, hi]
        rw [hb] at h3
        have tl : ¬ ((decide (c' < 0) || decide ((i.bytes : Int) * c' > 2 ^ 48)) || decide (l' < 0) || decide (l' > c')) = true := by
          simp only [Bool.or_eq_true, decide_eq_true_eq]; omega
        simp only [execOp, he, hl, hc, Instr.makeSlice, asInt, asIntOf, Sem.run_bind, run_underlying (under_elem hel), Result.andThen_ok, Sem.run_pure, ht, wl, wc, if_neg tl, run_askRoom, run_size_zero hz]
        by_cases hn : c'.toNat * P.cellsOf e = 0
        · simp only [hn, if_true, Sem.run_pure, Result.andThen_ok, newRow, Sem.run_bind, run_newObj]
          have := zeros_eq z c'.toNat
          rw [hzs, hn] at this
          have e0 : ∀ (f g : Nat → Value), (Array.range 0).map f = (Array.range 0).map g := fun f g => by simp
          rw [e0 _ (z.cells[· % P.cellsOf e]!), this]
        · simp only [if_neg hn, Sem.run_bind, run_zero hz, Sem.run_pure, Result.andThen_ok, newRow, run_newObj, hzs]
          have := zeros_eq z c'.toNat
          rw [hzs] at this
          rw [this]
      · exact h.elim
    · exact h.elim
  case slice t x lo hi mx => exact pure1 _ _ (by simp [execOp, he]) h (fun _ hk => hk)
  case fieldAddr t x f => exact pure1 _ _ (by simp [execOp, he]) h (fun _ hk => hk)
  case field t x f => exact pure1 _ _ (by simp [execOp, he]) h (fun _ hk => hk)
  case indexAddr t x ix => exact pure1 _ _ (by simp [execOp, he]) h (fun _ hk => hk)
  case index t x ix => exact pure1 _ _ (by simp [execOp, he]) h (fun _ hk => hk)
  case lookup t x ix ok => exact op1 _ (by simp [execOp, he]) h
  case mapUpdate t m k x =>
    obtain ⟨r, w', H', hr, hs, hq⟩ := h w hw
    have hm : (Instr.mapUpdate t (ev s m) (ev s k) (ev s x)).run P w = .ok () w' ∧ r = undef := by
      simp only [Sem.run_bind] at hr
      cases hres : (Instr.mapUpdate t (ev s m) (ev s k) (ev s x)).run P w with
      | ok u w1 => rw [hres] at hr; simp only [Result.andThen_ok, Sem.run_pure, Result.ok.injEq] at hr; exact ⟨by rw [hr.2], hr.1.symm⟩
      | halt u w1 => rw [hres] at hr; cases hr
    obtain ⟨hm, rfl⟩ := hm
    exact wp_skipped (w' := w') (by simp [execOp, he, hm]) ⟨_, _, rfl, hs, hq⟩
  case insert t m k x =>
    obtain ⟨r, w', H', hr, hs, hq⟩ := h w hw
    have hm : (Instr.mapUpdate t (ev s m) (ev s k) (ev s x)).run P w = .ok () w' ∧ r = undef := by
      simp only [Sem.run_bind] at hr
      cases hres : (Instr.mapUpdate t (ev s m) (ev s k) (ev s x)).run P w with
      | ok u w1 => rw [hres] at hr; simp only [Result.andThen_ok, Sem.run_pure, Result.ok.injEq] at hr; exact ⟨by rw [hr.2], hr.1.symm⟩
      | halt u w1 => rw [hres] at hr; cases hr
    obtain ⟨hm, rfl⟩ := hm
    exact wp_skipped (w' := w') (by simp [execOp, he, hm]) ⟨_, _, rfl, hs, hq⟩
  case range t x => exact op1 _ (by simp [execOp, he]) h
  case next it isString => exact op1 _ (by simp [execOp, he]) h
  case typeAssert x t u ok => exact pure1 _ _ (by simp [execOp, he]) h (fun _ hk => hk)
  case extract x i => exact pure1 _ _ (by simp [execOp, he]) h (fun _ hk => hk)
  case call c =>
    obtain ⟨callee, args, argTypes⟩ := c
    unfold CallK at h
    simp only at h
    split at h
    · rename_i f
      unfold FunK at h
      split at h
      · rename_i g first captured hf
        obtain ⟨hc, hF⟩ := h
        have hrun : (execOp a.eval ⟨dst, .call ⟨.value f, args, argTypes⟩, ty, pos, after, guard⟩).run P w = .ok (.enter g (first.toList ++ args.toList.map (ev s) ++ captured.toList).toArray) w := by
          simp only [execOp, he, resolve, hf, Deferred.ofValue, Sem.run_bind, Sem.run_pure, Result.andThen_ok, invoke]
          have e : first ++ args.map (ev s) ++ captured = (first.toList ++ args.toList.map (ev s) ++ captured.toList).toArray := by apply Array.ext'; simp
          rw [← e]
          exact hc _ _
        unfold Oper.wp
        rw [hrun]
        simp only [Oper.upon_enter]
        refine (hF w hw).mono ?_
        rintro e w' ⟨v, H', rfl, hs, hk⟩
        exact ⟨v, H', rfl, hs, hk⟩
      · exact h.elim
    · exact pure1 _ _ (by simp [execOp, he, resolve, invoke, builtin]) h (fun _ hk => hk)
    · exact pure1 _ _ (by simp [execOp, he, resolve, invoke, builtin]) h (fun _ hk => hk)
    · exact pure1 _ _ (by simp [execOp, he, resolve, invoke, builtin]) h (fun _ hk => hk)
    · exact pure1 _ _ (by simp [execOp, he, resolve, invoke, builtin]) h (fun _ hk => hk)
    · exact op1 _ (by simp [execOp, he, resolve, invoke, builtin]) h
    · exact op1 _ (by simp [execOp, he, resolve, invoke, builtin]) h
    · exact op1 _ (by simp [execOp, he, resolve, invoke, builtin]) h
    · exact h.elim
  all_goals exact h.elim
end
end Go.Proofs.Ytgnepkppmjabnaa.Eng
