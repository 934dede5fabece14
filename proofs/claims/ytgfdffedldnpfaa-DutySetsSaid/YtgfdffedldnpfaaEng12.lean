/- The engine's twelfth part: rules for rewriting from the outside in, so that what follows an operation is entered once. Conditions: none. -/
import Derived.Test.YtgfdffedldnpfaaEng11
namespace Go.Proofs.Ytgfdffedldnpfaa.Eng
open Go.RowKit
set_option linter.unusedVariables false
set_option linter.unusedSimpArgs false

/-- A value, and what follows. -/
def ValK (v : Value) (K : Value → Prop) : Prop := K v
theorem ValK_eq {v : Value} {K : Value → Prop} : ValK v K = K v := rfl
theorem ValK_cg {v v' : Value} {K : Value → Prop} (h : v = v') : ValK v K = ValK v' K := by rw [h]
def OptK {α : Type} (o : Option α) (K : α → Prop) : Prop :=
  match o with
  | some v => K v
  | none => False
theorem OptK_some {α : Type} {v : α} {K : α → Prop} : OptK (some v) K = K v := rfl
theorem OptK_cg {α : Type} {o o' : Option α} {K : α → Prop} (h : o = o') : OptK o K = OptK o' K := by rw [h]
def OrK {α : Type} (o : Option α) (K : α → Prop) (X : Prop) : Prop :=
  match o with
  | some v => K v
  | none => X
theorem OrK_some {α : Type} {v : α} {K : α → Prop} {X : Prop} : OrK (some v) K X = K v := rfl
theorem OrK_cg {α : Type} {o o' : Option α} {K : α → Prop} {X : Prop} (h : o = o') : OrK o K X = OrK o' K X := by rw [h]
theorem CondK_t {A B : Prop} : CondK (.bool true) A B = A := by simp [CondK]
theorem CondK_f {A B : Prop} : CondK (.bool false) A B = B := by simp [CondK]
theorem PickK_t {a b : Value} {K : Value → Prop} : PickK (.bool true) a b K = K a := rfl
theorem PickK_f {a b : Value} {K : Value → Prop} : PickK (.bool false) a b K = K b := rfl
theorem CondK_dec {p A B : Prop} [Decidable p] : CondK (.bool (decide p)) A B = ((p → A) ∧ (¬ p → B)) := by simp [CondK]
theorem CondK_not {t : Bool} {A B : Prop} : CondK (.bool (!t)) A B = CondK (.bool t) B A := by cases t <;> simp [CondK]
/-- Holds a condition that rewriting does not enter. -/
inductive Tok (c : Code) (Q : Post) : Type where
  | mk
def SQ (P : Program) (w0 : World) (N : Nat) (c : Code) (s : Slots) (H : Heap) (Q : Post) (_ : Tok c Q) : Prop := S P w0 N c s H Q
section
variable {P : Program} {w0 : World} {N : Nat} {s : Slots} {H : Heap} {KV : Value → Prop} {K : Value → Heap → Prop} {KS : Slots → Heap → Prop} {Q : Post} {l : List Oper}
theorem ev_tmp {t} : ev s (.tmp t) = s t := rfl
theorem ev_const {v} : ev s (.const v) = v := rfl
theorem ev_global {g} : ev s (.global g) = .pointer (some ⟨g, 0, none⟩) := rfl
theorem ev_func {f} : ev s (.func f) = .func (.func f) #[] #[] := rfl
theorem lookN_eq {b o n} : lookN w0 H b o n = (lookL w0 H b o n).map fun l => .agg l.toArray := rfl
theorem W_skip : W P w0 N .skip s H Q = Q .normal s H := rfl
theorem W_ret : W P w0 N .ret s H Q = Q .ret s H := rfl
theorem W_exit {i} : W P w0 N (.exit i) s H Q = Q (.exit i) s H := rfl
theorem W_seq {x y} : W P w0 N (.seq x y) s H Q = W P w0 N x s H (thenQ (fun s H => W P w0 N y s H Q) Q) := rfl
theorem W_block {i c} : W P w0 N (.block i c) s H Q = W P w0 N c s H (blockQ i Q) := rfl
theorem W_cond {c x y} : W P w0 N (.cond c x y) s H Q = CondK (ev s c) (W P w0 N x s H Q) (W P w0 N y s H Q) := rfl
theorem W_region {i} : W P w0 N (.region i l.toArray false) s H Q = SopsL P w0 N l.toArray l s H (fun s H => Q .normal s H) := rfl
theorem W_drawn {i ops} : W P w0 N (.region i ops true) s H Q = SQ P w0 N (.region i ops true) s H Q .mk := rfl
theorem W_loop {c} : W P w0 N (.loop c) s H Q = SQ P w0 N (.loop c) s H Q .mk := rfl
theorem SopsL_some {ops : Array Oper} {d op ty p a g} : SopsL P w0 N ops (⟨some d, op, ty, p, a, g⟩ :: l) s H KS = GuardK (decide (d < N)) (want ops s ⟨some d, op, ty, p, a, g⟩) (opV P w0 op ty s H fun v H => SopsL P w0 N ops l (put s d v) H KS) (SopsL P w0 N ops l (put s d undef) H KS) := SopsL_cons
theorem SopsL_none {ops : Array Oper} {op ty p a g} : SopsL P w0 N ops (⟨none, op, ty, p, a, g⟩ :: l) s H KS = GuardK (id true) (want ops s ⟨none, op, ty, p, a, g⟩) (opV P w0 op ty s H fun _ H => SopsL P w0 N ops l s H KS) (SopsL P w0 N ops l s H KS) := SopsL_cons
theorem QO_s {d op ty p a g} {K : Value → Slots → Prop} : QO P w0 N l (some ⟨some d, op, ty, p, a, g⟩) s H K = GuardK (decide (d < N)) (want l.toArray s ⟨some d, op, ty, p, a, g⟩) (qV P w0 op ty s H fun v => K v (put s d v)) (K undef (put s d undef)) := QO_g
theorem QO_n {op ty p a g} {K : Value → Slots → Prop} : QO P w0 N l (some ⟨none, op, ty, p, a, g⟩) s H K = GuardK (id true) (want l.toArray s ⟨none, op, ty, p, a, g⟩) (qV P w0 op ty s H fun v => K v s) (K undef s) := QO_g
theorem WO_s {d op ty p a g} : WO P w0 N l (some ⟨some d, op, ty, p, a, g⟩) s H KS = GuardK (decide (d < N)) (want l.toArray s ⟨some d, op, ty, p, a, g⟩) (opV P w0 op ty s H fun v H => KS (put s d v) H) (KS (put s d undef) H) := WO_g
theorem WO_n {op ty p a g} : WO P w0 N l (some ⟨none, op, ty, p, a, g⟩) s H KS = GuardK (id true) (want l.toArray s ⟨none, op, ty, p, a, g⟩) (opV P w0 op ty s H fun _ H => KS s H) (KS s H) := WO_g
theorem SX_fin {p} : SX P w0 N l KS .fin p s H = KS s H := rfl
theorem SX_qt {p i t} : SX P w0 N l KS (.q i true t) p s H = QO P w0 N l (opAt l i) s H fun v s' => SX P w0 N l KS t ((i, v) :: p) s' H := rfl
theorem SX_qf {p i t} : SX P w0 N l KS (.q i false t) p s H = QO P w0 N l (opAt l i) s H fun v s' => SX P w0 N l KS t p s' H := rfl
theorem SX_one {p j ks t} : SX P w0 N l KS (.one j ks t) p s H = WO P w0 N l (opAt l j) s H fun s' H' => reO P w0 N l s' H' (pick1 ks p) ∧ SX P w0 N l KS t (pick1 ks p) s' H' := rfl
theorem SX_two {p j ks t j2 ks2 t2} : SX P w0 N l KS (.two j ks t j2 ks2 t2) p s H = (SX P w0 N l KS (.one j ks t) p s H ∧ SX P w0 N l KS (.one j2 ks2 t2) p s H) := rfl
theorem SX_three {p j ks t j2 ks2 t2 j3 ks3 t3} : SX P w0 N l KS (.three j ks t j2 ks2 t2 j3 ks3 t3) p s H = (SX P w0 N l KS (.one j ks t) p s H ∧ SX P w0 N l KS (.one j2 ks2 t2) p s H ∧ SX P w0 N l KS (.one j3 ks3 t3) p s H) := rfl
theorem reO_nil : reO P w0 N l s H [] = True := rfl
theorem reO_cons {x r} : reO P w0 N l s H (x :: r) = (QO P w0 N l (opAt l x.1) s H (fun v _ => v = x.2) ∧ reO P w0 N l s H r) := rfl
theorem reO_cg {p p' : Pend} (h : p = p') : reO P w0 N l s H p = reO P w0 N l s H p' := by rw [h]
theorem opV_move {ty} {x} : opV P w0 (.move x) ty s H K = ValK (ev s x) fun v => K v H := rfl
theorem opV_assign {ty} {x} : opV P w0 (.assign x) ty s H K = ValK (ev s x) fun v => K v H := rfl
theorem opV_pick {ty} {c a b} : opV P w0 (.pick c a b) ty s H K = PickK (ev s c) (ev s a) (ev s b) fun v => K v H := rfl
theorem opV_alloc {ty} {e} : opV P w0 (.alloc e) ty s H K = AllocK P w0 H e K := rfl
theorem opV_box {ty} {e x} : opV P w0 (.box e x) ty s H K = BoxK w0 H e (ev s x) K := rfl
theorem opV_build {ty} {t ps} : opV P w0 (.build t ps) ty s H K = PureK P (Instr.build t (ps.map fun (i, x) => (i, ev s x))) fun v => K v H := rfl
theorem opV_buildSlice {ty} {t n ps} : opV P w0 (.buildSlice t n ps) ty s H K = BuildSliceK P w0 H t n (ps.toList.map fun p => (p.1, ev s p.2)) K := rfl
theorem opV_load {ty} {t x} : opV P w0 (.load t x) ty s H K = LoadK P w0 H t (ev s x) fun v => K v H := rfl
theorem opV_store {ty} {t x y} : opV P w0 (.store t x y) ty s H K = StoreK P w0 H t (ev s x) (ev s y) fun H => K undef H := rfl
theorem opV_nilCheck {ty} {x} : opV P w0 (.nilCheck x) ty s H K = NilK (ev s x) fun v => K v H := rfl
theorem opV_binOp {ty} {op t x y u} : opV P w0 (.binOp op t x y u) ty s H K = BinK P op t x y (ev s x) (ev s y) fun v => K v H := rfl
theorem opV_unOp {ty} {op t x} : opV P w0 (.unOp op t x) ty s H K = PureK P (Op.unary op (ev s x)) fun v => K v H := rfl
theorem opV_makeInterface {ty} {t x} : opV P w0 (.makeInterface t x) ty s H K = PureK P (Instr.makeInterface t (ev s x)) fun v => K v H := rfl
theorem opV_makeFunc {ty} {fn fi ca} : opV P w0 (.makeFunc fn fi ca) ty s H K = ValK (Value.func fn (fi.map (ev s)) (ca.map (ev s))) fun v => K v H := rfl
theorem opV_makeMap {ty} {t r} : opV P w0 (.makeMap t r) ty s H K = OpK P w0 (Instr.makeMap t (r.map (ev s))) H K := rfl
theorem opV_makeSlice {ty} {t l c} : opV P w0 (.makeSlice t l c) ty s H K = MakeK P w0 H t (ev s l) (ev s c) K := rfl
theorem opV_slice {ty} {t x lo hi mx} : opV P w0 (.slice t x lo hi mx) ty s H K = PureK P (Instr.sliceAt t (ev s x) (lo.map (ev s)) (hi.map (ev s)) (mx.map (ev s))) fun v => K v H := rfl
theorem opV_fieldAddr {ty} {t x f} : opV P w0 (.fieldAddr t x f) ty s H K = PureK P (Instr.fieldAt t (ev s x) f) fun v => K v H := rfl
theorem opV_field {ty} {t x f} : opV P w0 (.field t x f) ty s H K = PureK P (Instr.field t (ev s x) f) fun v => K v H := rfl
theorem opV_indexAddr {ty} {t x ix} : opV P w0 (.indexAddr t x ix) ty s H K = PureK P (Instr.indexAt t (ev s x) (ev s ix)) fun v => K v H := rfl
theorem opV_index {ty} {t x ix} : opV P w0 (.index t x ix) ty s H K = PureK P (Instr.index t (ev s x) (ev s ix)) fun v => K v H := rfl
theorem opV_lookup {ty} {t x ix ok} : opV P w0 (.lookup t x ix ok) ty s H K = OpK P w0 (Instr.lookup t (ev s x) (ev s ix) ok) H K := rfl
theorem opV_mapUpdate {ty} {t m k x} : opV P w0 (.mapUpdate t m k x) ty s H K = OpK P w0 (do Instr.mapUpdate t (ev s m) (ev s k) (ev s x); pure undef) H K := rfl
theorem opV_insert {ty} {t m k x} : opV P w0 (.insert t m k x) ty s H K = OpK P w0 (do Instr.mapUpdate t (ev s m) (ev s k) (ev s x); pure undef) H K := rfl
theorem opV_range {ty} {t x} : opV P w0 (.range t x) ty s H K = OpK P w0 (Instr.range t (ev s x)) H K := rfl
theorem opV_next {ty} {it b} : opV P w0 (.next it b) ty s H K = OpK P w0 (Instr.next (ev s it) b ty) H K := rfl
theorem opV_typeAssert {ty} {x t u ok} : opV P w0 (.typeAssert x t u ok) ty s H K = PureK P (Instr.typeAssert (ev s x) t u ok) fun v => K v H := rfl
theorem opV_extract {ty} {x i} : opV P w0 (.extract x i) ty s H K = PureK P (Instr.extract (ev s x) i) fun v => K v H := rfl
theorem opV_convert {ty} {t u x} : opV P w0 (.convert t u x) ty s H K = ConvK P w0 t u (ev s x) H K := rfl
theorem opV_callv {ty} {f args ts} : opV P w0 (.call ⟨.value f, args, ts⟩) ty s H K = FunK P w0 (ev s f) (args.toList.map (ev s)) H K := rfl
theorem opV_len {ty} {args ts} : opV P w0 (.call ⟨.builtin .len, args, ts⟩) ty s H K = PureK P (Builtin.len_ ts ty (args.map (ev s))) fun v => K v H := rfl
theorem opV_cap {ty} {args ts} : opV P w0 (.call ⟨.builtin .cap, args, ts⟩) ty s H K = PureK P (Builtin.cap_ ts ty (args.map (ev s))) fun v => K v H := rfl
theorem opV_min {ty} {args ts} : opV P w0 (.call ⟨.builtin .min, args, ts⟩) ty s H K = PureK P (Builtin.min_ ts ty (args.map (ev s))) fun v => K v H := rfl
theorem opV_max {ty} {args ts} : opV P w0 (.call ⟨.builtin .max, args, ts⟩) ty s H K = PureK P (Builtin.max_ ts ty (args.map (ev s))) fun v => K v H := rfl
theorem opV_append {ty} {args ts} : opV P w0 (.call ⟨.builtin .append, args, ts⟩) ty s H K = OpK P w0 (Builtin.append_ ts ty (args.map (ev s))) H K := rfl
theorem opV_copy {ty} {args ts} : opV P w0 (.call ⟨.builtin .copy, args, ts⟩) ty s H K = OpK P w0 (Builtin.copy_ ts ty (args.map (ev s))) H K := rfl
theorem opV_clear {ty} {args ts} : opV P w0 (.call ⟨.builtin .clear, args, ts⟩) ty s H K = OpK P w0 (Builtin.clear_ ts ty (args.map (ev s))) H K := rfl
theorem qV_move {ty} {x} : qV P w0 (.move x) ty s H KV = ValK (ev s x) KV := rfl
theorem qV_pick {ty} {c a b} : qV P w0 (.pick c a b) ty s H KV = PickK (ev s c) (ev s a) (ev s b) KV := rfl
theorem qV_build {ty} {t ps} : qV P w0 (.build t ps) ty s H KV = PureK P (Instr.build t (ps.map fun (i, x) => (i, ev s x))) KV := rfl
theorem qV_load {ty} {t x} : qV P w0 (.load t x) ty s H KV = LoadK P w0 H t (ev s x) KV := rfl
theorem qV_nilCheck {ty} {x} : qV P w0 (.nilCheck x) ty s H KV = NilK (ev s x) KV := rfl
theorem qV_binOp {ty} {op t x y u} : qV P w0 (.binOp op t x y u) ty s H KV = BinK P op t x y (ev s x) (ev s y) KV := rfl
theorem qV_unOp {ty} {op t x} : qV P w0 (.unOp op t x) ty s H KV = PureK P (Op.unary op (ev s x)) KV := rfl
theorem qV_makeInterface {ty} {t x} : qV P w0 (.makeInterface t x) ty s H KV = PureK P (Instr.makeInterface t (ev s x)) KV := rfl
theorem qV_makeFunc {ty} {fn fi ca} : qV P w0 (.makeFunc fn fi ca) ty s H KV = ValK (Value.func fn (fi.map (ev s)) (ca.map (ev s))) KV := rfl
theorem qV_slice {ty} {t x lo hi mx} : qV P w0 (.slice t x lo hi mx) ty s H KV = PureK P (Instr.sliceAt t (ev s x) (lo.map (ev s)) (hi.map (ev s)) (mx.map (ev s))) KV := rfl
theorem qV_fieldAddr {ty} {t x f} : qV P w0 (.fieldAddr t x f) ty s H KV = PureK P (Instr.fieldAt t (ev s x) f) KV := rfl
theorem qV_field {ty} {t x f} : qV P w0 (.field t x f) ty s H KV = PureK P (Instr.field t (ev s x) f) KV := rfl
theorem qV_indexAddr {ty} {t x ix} : qV P w0 (.indexAddr t x ix) ty s H KV = PureK P (Instr.indexAt t (ev s x) (ev s ix)) KV := rfl
theorem qV_index {ty} {t x ix} : qV P w0 (.index t x ix) ty s H KV = PureK P (Instr.index t (ev s x) (ev s ix)) KV := rfl
theorem qV_typeAssert {ty} {x t u ok} : qV P w0 (.typeAssert x t u ok) ty s H KV = PureK P (Instr.typeAssert (ev s x) t u ok) KV := rfl
theorem qV_extract {ty} {x i} : qV P w0 (.extract x i) ty s H KV = PureK P (Instr.extract (ev s x) i) KV := rfl
theorem qV_convert {ty} {t u x} : qV P w0 (.convert t u x) ty s H KV = PureK P (convert t u (ev s x)) KV := rfl
theorem qV_len {ty} {args ts} : qV P w0 (.call ⟨.builtin .len, args, ts⟩) ty s H KV = PureK P (Builtin.len_ ts ty (args.map (ev s))) KV := rfl
theorem qV_cap {ty} {args ts} : qV P w0 (.call ⟨.builtin .cap, args, ts⟩) ty s H KV = PureK P (Builtin.cap_ ts ty (args.map (ev s))) KV := rfl
theorem qV_min {ty} {args ts} : qV P w0 (.call ⟨.builtin .min, args, ts⟩) ty s H KV = PureK P (Builtin.min_ ts ty (args.map (ev s))) KV := rfl
theorem qV_max {ty} {args ts} : qV P w0 (.call ⟨.builtin .max, args, ts⟩) ty s H KV = PureK P (Builtin.max_ ts ty (args.map (ev s))) KV := rfl
theorem LoadK_opt {t : TypeId} {b o : Nat} : LoadK P w0 H t (.pointer (some ⟨b, o, none⟩)) KV = OptK (loadOf P w0 H t b o) KV := by
  rw [LoadK_ptr]
  cases loadOf P w0 H t b o <;> rfl
theorem StoreK_opt {t : TypeId} {b o : Nat} {v : Value} {KK : Heap → Prop} : StoreK P w0 H t (.pointer (some ⟨b, o, none⟩)) v KK = OptK ((H b).bind (Item.setCells o v.cells.toList)) fun it => szOf P t = some v.cells.size ∧ v.cells.toList.all Value.oneCell' = true ∧ KK (H.set b it) := by
  rw [StoreK_ptr]
  cases (H b).bind (Item.setCells o v.cells.toList) <;> rfl
theorem BuildK_or {t : TypeId} {z : Value} {ps : Array (Nat × Value)} : BuildK P t z ps KV = OrK (fillV (placeOf P t) z.cells.toList ps.toList) (fun cs => KV (.agg cs.toArray)) (PureK P (Instr.build t ps) KV) := by
  unfold BuildK
  cases fillV (placeOf P t) z.cells.toList ps.toList <;> rfl
theorem AllocK_opt {t : TypeId} : AllocK P w0 H t K = OptK (zeroOf P t) fun z => NewK w0 H (.row z.cells.toList t) fun b H' => K (.pointer (some ⟨b, 0, none⟩)) H' := by
  unfold AllocK
  cases zeroOf P t <;> rfl
theorem NewK_eq {it : Item} {KN : Nat → Heap → Prop} : NewK w0 H it KN = ∀ b, H b = none → w0.heap.size ≤ b → KN b (H.set b it) := rfl
theorem BoxK_new {t : TypeId} {v : Value} : BoxK w0 H t v K = NewK w0 H (.row v.cells.toList t) fun b H' => K (.pointer (some ⟨b, 0, none⟩)) H' := rfl
theorem BuildSliceK_opt {t e : TypeId} {z : Value} {n sz : Nat} {ps : List (Nat × Value)} (he : elemOf' P t = some e) (hz : zeroOf P e = some z) (hs : P.cellsOf e = sz) (hzs : z.cells.size = sz) (hn : n * sz ≤ 16777216) :
    BuildSliceK P w0 H t n ps K = OptK (fillV (fun i => some (i * sz, sz)) (zerosOf z n) ps) fun cs => NewK w0 H (.row cs e) fun b H' => K (.slice (some ⟨b, 0, none⟩) n n) H' := by
  unfold BuildSliceK
  rw [he]
  simp only [hz, hs, hzs, hn, true_and]
  cases fillV (fun i => some (i * sz, sz)) (zerosOf z n) ps <;> rfl
theorem MakeK_opt {t e : TypeId} {z : Value} {l c : Int} {sz by_ : Nat} {k k' : IntKind} (he : elemOf' P t = some e) (hz : zeroOf P e = some z) (hs : P.cellsOf e = sz) (hb : P.bytesOf e = by_) (hzs : z.cells.size = sz) (h0 : 0 ≤ l) (h1 : l ≤ c) (h2 : c ≤ 9223372036854775807) (h3 : by_ * c ≤ 281474976710656) :
    MakeK P w0 H t (.int k l) (.int k' c) K = NewK w0 H (.row (zerosOf z c.toNat) e) fun b H' => K (.slice (some ⟨b, 0, none⟩) l.toNat c.toNat) H' := by
  unfold MakeK
  rw [he]
  simp only [hz, hs, hb, hzs, h0, h1, h2, h3, true_and]
end

theorem ex2_0 {P : Program} {K : Value → Prop} {a b : Value} : PureK P (Instr.extract (.tuple #[a, b]) 0) K = K a := propext (PureK_extract rfl)
theorem ex2_1 {P : Program} {K : Value → Prop} {a b : Value} : PureK P (Instr.extract (.tuple #[a, b]) 1) K = K b := propext (PureK_extract rfl)
theorem ex3_0 {P : Program} {K : Value → Prop} {a b c : Value} : PureK P (Instr.extract (.tuple #[a, b, c]) 0) K = K a := propext (PureK_extract rfl)
theorem ex3_1 {P : Program} {K : Value → Prop} {a b c : Value} : PureK P (Instr.extract (.tuple #[a, b, c]) 1) K = K b := propext (PureK_extract rfl)
theorem ex3_2 {P : Program} {K : Value → Prop} {a b c : Value} : PureK P (Instr.extract (.tuple #[a, b, c]) 2) K = K c := propext (PureK_extract rfl)
theorem ex4_0 {P : Program} {K : Value → Prop} {a b c d : Value} : PureK P (Instr.extract (.tuple #[a, b, c, d]) 0) K = K a := propext (PureK_extract rfl)
theorem ex4_1 {P : Program} {K : Value → Prop} {a b c d : Value} : PureK P (Instr.extract (.tuple #[a, b, c, d]) 1) K = K b := propext (PureK_extract rfl)
theorem ex4_2 {P : Program} {K : Value → Prop} {a b c d : Value} : PureK P (Instr.extract (.tuple #[a, b, c, d]) 2) K = K c := propext (PureK_extract rfl)
theorem ex4_3 {P : Program} {K : Value → Prop} {a b c d : Value} : PureK P (Instr.extract (.tuple #[a, b, c, d]) 3) K = K d := propext (PureK_extract rfl)
theorem ex5_0 {P : Program} {K : Value → Prop} {a b c d e : Value} : PureK P (Instr.extract (.tuple #[a, b, c, d, e]) 0) K = K a := propext (PureK_extract rfl)
theorem ex5_1 {P : Program} {K : Value → Prop} {a b c d e : Value} : PureK P (Instr.extract (.tuple #[a, b, c, d, e]) 1) K = K b := propext (PureK_extract rfl)
theorem ex5_2 {P : Program} {K : Value → Prop} {a b c d e : Value} : PureK P (Instr.extract (.tuple #[a, b, c, d, e]) 2) K = K c := propext (PureK_extract rfl)
theorem ex5_3 {P : Program} {K : Value → Prop} {a b c d e : Value} : PureK P (Instr.extract (.tuple #[a, b, c, d, e]) 3) K = K d := propext (PureK_extract rfl)
theorem ex5_4 {P : Program} {K : Value → Prop} {a b c d e : Value} : PureK P (Instr.extract (.tuple #[a, b, c, d, e]) 4) K = K e := propext (PureK_extract rfl)
/-! ### Unfolded step by step -/
def pickB (b : Bool) (x : Nat × Value) (l : Pend) : Pend := if b = true then x :: l else l
theorem pickB_t {x : Nat × Value} {l : Pend} : pickB true x l = x :: l := rfl
theorem pickB_f {x : Nat × Value} {l : Pend} : pickB false x l = l := rfl
theorem pick1_nil' {ks : List Nat} : pick1 ks [] = [] := rfl
theorem pick1_cons' {ks : List Nat} {i : Nat} {v : Value} {r : Pend} : pick1 ks ((i, v) :: r) = pickB (ks.contains i) (i, v) (pick1 ks r) := rfl
theorem opAt_zero' {o : Oper} {l : List Oper} : opAt (o :: l) 0 = some o := rfl
theorem opAt_succ' {o : Oper} {l : List Oper} {n : Nat} : opAt (o :: l) (n + 1) = opAt l n := rfl
theorem setRange_nil' {cs : List Value} {o : Nat} : setRange cs o [] = cs := rfl
theorem setRange_cons' {cs vs : List Value} {o : Nat} {v : Value} : setRange cs o (v :: vs) = setRange (cs.set o v) (o + 1) vs := rfl
def fillO (o : Option (Nat × Nat)) (n : Nat) (vs cells : List Value) (K : List Value → Option (List Value)) : Option (List Value) :=
  match o with
  | some p => if n = p.2 ∧ p.1 + p.2 ≤ cells.length then K (setRange cells p.1 vs) else none
  | none => none
theorem fillO_some {off size n : Nat} {vs cells : List Value} {K : List Value → Option (List Value)} : fillO (some (off, size)) n vs cells K = if n = size ∧ off + size ≤ cells.length then K (setRange cells off vs) else none := rfl
theorem fillV_nil' {place : Nat → Option (Nat × Nat)} {cells : List Value} : fillV place cells [] = some cells := rfl
theorem fillV_cons' {place : Nat → Option (Nat × Nat)} {cells : List Value} {i : Nat} {v : Value} {rest : List (Nat × Value)} : fillV place cells ((i, v) :: rest) = fillO (place i) v.cells.size v.cells.toList cells fun cs => fillV place cs rest := by
  rw [fillV]
  cases place i with
  | none => rfl
  | some p => rfl
theorem lookL_zero' {w0 : World} {H : Heap} {b o : Nat} : lookL w0 H b o 0 = some [] := rfl
theorem lookL_succ' {w0 : World} {H : Heap} {b o n : Nat} : lookL w0 H b o (n + 1) = (lk w0 H b o).bind fun v => (lookL w0 H b (o + 1) n).map (v :: ·) := rfl

/-! ### What simp may enter: values; not what follows -/
def Mark : Nat := 0
theorem Mark_eq : Mark = 0 := rfl
section
variable {P : Program} {w0 : World} {N : Nat} {s : Slots} {H : Heap} {KV : Value → Prop} {K : Value → Heap → Prop} {KS : Slots → Heap → Prop} {Q : Post} {l : List Oper}
theorem PureK_cf {x : Sem Value} {x' : Unit → Sem Value} {mk : Unit → Nat} (hm : ∀ u : Unit, Mark = mk u) (h0 : ∀ u : Unit, x = x' u) : PureK P x KV = PureK P (x' ()) KV := by rw [← h0 ()]
theorem BinK_cf {op : BinOp} {t : TypeId} {o1 o2 : Operand} {a b : Value} {a' : Unit → Value} {b' : Unit → Value} {mk : Unit → Nat} (hm : ∀ u : Unit, Mark = mk u) (h0 : ∀ u : Unit, a = a' u) (h1 : ∀ u : Unit, b = b' u) : BinK P op t o1 o2 a b KV = BinK P op t o1 o2 (a' ()) (b' ()) KV := by rw [← h0 (), ← h1 ()]
theorem LoadK_cf {t : TypeId} {x : Value} {x' : Unit → Value} {mk : Unit → Nat} (hm : ∀ u : Unit, Mark = mk u) (h0 : ∀ u : Unit, x = x' u) : LoadK P w0 H t x KV = LoadK P w0 H t (x' ()) KV := by rw [← h0 ()]
theorem StoreK_cf {t : TypeId} {x y : Value} {KK : Heap → Prop} {x' : Unit → Value} {y' : Unit → Value} {mk : Unit → Nat} (hm : ∀ u : Unit, Mark = mk u) (h0 : ∀ u : Unit, x = x' u) (h1 : ∀ u : Unit, y = y' u) : StoreK P w0 H t x y KK = StoreK P w0 H t (x' ()) (y' ()) KK := by rw [← h0 (), ← h1 ()]
theorem FunK_cf {f : Value} {a : List Value} {f' : Unit → Value} {a' : Unit → List Value} {mk : Unit → Nat} (hm : ∀ u : Unit, Mark = mk u) (h0 : ∀ u : Unit, f = f' u) (h1 : ∀ u : Unit, a = a' u) : FunK P w0 f a H K = FunK P w0 (f' ()) (a' ()) H K := by rw [← h0 (), ← h1 ()]
theorem OpK_cf {x : Sem Value} {x' : Unit → Sem Value} {mk : Unit → Nat} (hm : ∀ u : Unit, Mark = mk u) (h0 : ∀ u : Unit, x = x' u) : OpK P w0 x H K = OpK P w0 (x' ()) H K := by rw [← h0 ()]
theorem F_cf {f : FuncId} {a : List Value} {a' : Unit → List Value} {mk : Unit → Nat} (hm : ∀ u : Unit, Mark = mk u) (h0 : ∀ u : Unit, a = a' u) : F P w0 f a H K = F P w0 f (a' ()) H K := by rw [← h0 ()]
theorem S_cf {c : Code}  {mk : Unit → Nat} (hm : ∀ u : Unit, Mark = mk u)  : S P w0 N c s H Q = S P w0 N c s H Q := rfl
theorem CondK_cf {t : Value} {A B : Prop} {t' : Unit → Value} {mk : Unit → Nat} (hm : ∀ u : Unit, Mark = mk u) (h0 : ∀ u : Unit, t = t' u) : CondK t A B = CondK (t' ()) A B := by rw [← h0 ()]
theorem QO_cf {o : Option Oper} {K : Value → Slots → Prop} {o' : Unit → Option Oper} {mk : Unit → Nat} (hm : ∀ u : Unit, Mark = mk u) (h0 : ∀ u : Unit, o = o' u) : QO P w0 N l o s H K = QO P w0 N l (o' ()) s H K := by rw [← h0 ()]
theorem WO_cf {o : Option Oper} {o' : Unit → Option Oper} {mk : Unit → Nat} (hm : ∀ u : Unit, Mark = mk u) (h0 : ∀ u : Unit, o = o' u) : WO P w0 N l o s H KS = WO P w0 N l (o' ()) s H KS := by rw [← h0 ()]
theorem reO_cf {p : Pend} {p' : Unit → Pend} {mk : Unit → Nat} (hm : ∀ u : Unit, Mark = mk u) (h0 : ∀ u : Unit, p = p' u) : reO P w0 N l s H p = reO P w0 N l s H (p' ()) := by rw [← h0 ()]
theorem PickK_cf {a b c : Value} {a' : Unit → Value} {b' : Unit → Value} {c' : Unit → Value} {mk : Unit → Nat} (hm : ∀ u : Unit, Mark = mk u) (h0 : ∀ u : Unit, a = a' u) (h1 : ∀ u : Unit, b = b' u) (h2 : ∀ u : Unit, c = c' u) : PickK a b c KV = PickK (a' ()) (b' ()) (c' ()) KV := by rw [← h0 (), ← h1 (), ← h2 ()]
theorem NilK_cf {a : Value} {a' : Unit → Value} {mk : Unit → Nat} (hm : ∀ u : Unit, Mark = mk u) (h0 : ∀ u : Unit, a = a' u) : NilK a KV = NilK (a' ()) KV := by rw [← h0 ()]
theorem ConvK_cf {t t2 : TypeId} {a : Value} {a' : Unit → Value} {mk : Unit → Nat} (hm : ∀ u : Unit, Mark = mk u) (h0 : ∀ u : Unit, a = a' u) : ConvK P w0 t t2 a H K = ConvK P w0 t t2 (a' ()) H K := by rw [← h0 ()]
theorem BuildSliceK_cf {t : TypeId} {n : Nat} {p : List (Nat × Value)} {p' : Unit → List (Nat × Value)} {mk : Unit → Nat} (hm : ∀ u : Unit, Mark = mk u) (h0 : ∀ u : Unit, p = p' u) : BuildSliceK P w0 H t n p K = BuildSliceK P w0 H t n (p' ()) K := by rw [← h0 ()]
theorem MakeK_cf {t : TypeId} {a b : Value} {a' : Unit → Value} {b' : Unit → Value} {mk : Unit → Nat} (hm : ∀ u : Unit, Mark = mk u) (h0 : ∀ u : Unit, a = a' u) (h1 : ∀ u : Unit, b = b' u) : MakeK P w0 H t a b K = MakeK P w0 H t (a' ()) (b' ()) K := by rw [← h0 (), ← h1 ()]
theorem BuildK_cf {t : TypeId} {z : Value} {p : Array (Nat × Value)} {p' : Unit → Array (Nat × Value)} {mk : Unit → Nat} (hm : ∀ u : Unit, Mark = mk u) (h0 : ∀ u : Unit, p = p' u) : BuildK P t z p KV = BuildK P t z (p' ()) KV := by rw [← h0 ()]
theorem GuardK_cf {d w : Bool} {A B : Prop} {d' : Unit → Bool} {w' : Unit → Bool} {mk : Unit → Nat} (hm : ∀ u : Unit, Mark = mk u) (h0 : ∀ u : Unit, d = d' u) (h1 : ∀ u : Unit, w = w' u) : GuardK d w A B = GuardK (d' ()) (w' ()) A B := by rw [← h0 (), ← h1 ()]
theorem ValK_cf {v : Value} {v' : Unit → Value} {mk : Unit → Nat} (hm : ∀ u : Unit, Mark = mk u) (h0 : ∀ u : Unit, v = v' u) : ValK v KV = ValK (v' ()) KV := by rw [← h0 ()]
theorem OptK_cf {α : Type} {o : Option α} {KA : α → Prop} {o' : Unit → Option α} {mk : Unit → Nat} (hm : ∀ u : Unit, Mark = mk u) (h0 : ∀ u : Unit, o = o' u) : OptK o KA = OptK (o' ()) KA := by rw [← h0 ()]
theorem OrK_cf {α : Type} {o : Option α} {KA : α → Prop} {X : Prop} {o' : Unit → Option α} {mk : Unit → Nat} (hm : ∀ u : Unit, Mark = mk u) (h0 : ∀ u : Unit, o = o' u) : OrK o KA X = OrK (o' ()) KA X := by rw [← h0 ()]
theorem NewK_cf {it : Item} {KN : Nat → Heap → Prop} {it' : Unit → Item} {mk : Unit → Nat} (hm : ∀ u : Unit, Mark = mk u) (h0 : ∀ u : Unit, it = it' u) : NewK w0 H it KN = NewK w0 H (it' ()) KN := by rw [← h0 ()]
theorem W_cf {c : Code}  {mk : Unit → Nat} (hm : ∀ u : Unit, Mark = mk u)  : W P w0 N c s H Q = W P w0 N c s H Q := rfl
theorem SQ_cf {c : Code} {tk : Tok c Q} {s' : Unit → Slots} {mk : Unit → Nat} (hm : ∀ u : Unit, Mark = mk u) (h0 : ∀ u : Unit, s = s' u) : SQ P w0 N c s H Q tk = SQ P w0 N c (s' ()) H Q tk := by rw [← h0 ()]
end
end Go.Proofs.Ytgfdffedldnpfaa.Eng
