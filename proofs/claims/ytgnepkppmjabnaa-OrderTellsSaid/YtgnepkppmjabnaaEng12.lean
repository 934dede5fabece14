/- The engine's twelfth part: rules for rewriting from the outside in; what follows an operation is held by a token's type, so that rewriting does not enter it. Conditions: none. -/
import Derived.Test.YtgnepkppmjabnaaEng11
namespace Go.Proofs.Ytgnepkppmjabnaa.Eng
open Go.RowKit
set_option linter.unusedVariables false
set_option linter.unusedSimpArgs false

inductive TkV (K : Value → Prop) : Type where
  | mk
inductive TkH (K : Value → Heap → Prop) : Type where
  | mk
inductive TkW (K : Heap → Prop) : Type where
  | mk
inductive TkN (K : Nat → Heap → Prop) : Type where
  | mk
inductive TkP (A B : Prop) : Type where
  | mk
inductive TkA {α : Type} (K : α → Prop) : Type where
  | mk
inductive TkX {α : Type} (K : α → Prop) (X : Prop) : Type where
  | mk
inductive TkC (c : Code) (Q : Post) : Type where
  | mk
def ValT (v : Value) (K : Value → Prop) (_ : TkV K) : Prop := K v
def OptT {α : Type} (o : Option α) (K : α → Prop) (_ : TkA K) : Prop :=
  match o with
  | some v => K v
  | none => False
def OrT {α : Type} (o : Option α) (K : α → Prop) (X : Prop) (_ : TkX K X) : Prop :=
  match o with
  | some v => K v
  | none => X
def GuardT (d w : Bool) (A B : Prop) (_ : TkP A B) : Prop := d = true ∧ if w = true then A else B
def CondT (t : Value) (A B : Prop) (_ : TkP A B) : Prop := CondK t A B
def PickT (a b c : Value) (K : Value → Prop) (_ : TkV K) : Prop := PickK a b c K
def NilT (v : Value) (K : Value → Prop) (_ : TkV K) : Prop := NilK v K
def PureT (P : Program) (x : Sem Value) (K : Value → Prop) (_ : TkV K) : Prop := PureK P x K
def BinT (P : Program) (op : BinOp) (t : TypeId) (x y : Operand) (a b : Value) (K : Value → Prop) (_ : TkV K) : Prop := BinK P op t x y a b K
def LoadT (P : Program) (w0 : World) (H : Heap) (t : TypeId) (v : Value) (K : Value → Prop) (_ : TkV K) : Prop := LoadK P w0 H t v K
def StoreT (P : Program) (w0 : World) (H : Heap) (t : TypeId) (x v : Value) (K : Heap → Prop) (_ : TkW K) : Prop := StoreK P w0 H t x v K
def NewT (w0 : World) (H : Heap) (it : Item) (K : Nat → Heap → Prop) (_ : TkN K) : Prop := NewK w0 H it K
def OpT (P : Program) (w0 : World) (x : Sem Value) (H : Heap) (K : Value → Heap → Prop) (_ : TkH K) : Prop := OpK P w0 x H K
def FunT (P : Program) (w0 : World) (f : Value) (args : List Value) (H : Heap) (K : Value → Heap → Prop) (_ : TkH K) : Prop := FunK P w0 f args H K
def FT (P : Program) (w0 : World) (f : FuncId) (args : List Value) (H : Heap) (K : Value → Heap → Prop) (_ : TkH K) : Prop := F P w0 f args H K
def ConvT (P : Program) (w0 : World) (t u : TypeId) (v : Value) (H : Heap) (K : Value → Heap → Prop) (_ : TkH K) : Prop := ConvK P w0 t u v H K
def BuildSliceT (P : Program) (w0 : World) (H : Heap) (t : TypeId) (n : Nat) (ps : List (Nat × Value)) (K : Value → Heap → Prop) (_ : TkH K) : Prop := BuildSliceK P w0 H t n ps K
def MakeT (P : Program) (w0 : World) (H : Heap) (t : TypeId) (l c : Value) (K : Value → Heap → Prop) (_ : TkH K) : Prop := MakeK P w0 H t l c K
def BuildT (P : Program) (t : TypeId) (z : Value) (ps : Array (Nat × Value)) (K : Value → Prop) (_ : TkV K) : Prop := BuildK P t z ps K
def ST (P : Program) (w0 : World) (N : Nat) (c : Code) (s : Slots) (H : Heap) (Q : Post) (_ : TkC c Q) : Prop := S P w0 N c s H Q
theorem ValT_eq {v : Value} {K : Value → Prop} {tk : TkV K} : ValT v K tk = K v := rfl
theorem OptT_some {α : Type} {v : α} {K : α → Prop} {tk : TkA K} : OptT (some v) K tk = K v := rfl
theorem OrT_some {α : Type} {v : α} {K : α → Prop} {X : Prop} {tk : TkX K X} : OrT (some v) K X tk = K v := rfl
theorem GuardT_t {A B : Prop} {tk : TkP A B} : GuardT true true A B tk = A := by simp [GuardT]
theorem GuardT_f {A B : Prop} {tk : TkP A B} : GuardT true false A B tk = B := by simp [GuardT]
theorem CondT_t {A B : Prop} {tk : TkP A B} : CondT (.bool true) A B tk = A := by simp [CondT, CondK]
theorem CondT_f {A B : Prop} {tk : TkP A B} : CondT (.bool false) A B tk = B := by simp [CondT, CondK]
theorem CondT_dec {p A B : Prop} [Decidable p] {tk : TkP A B} : CondT (.bool (decide p)) A B tk = ((p → A) ∧ (¬ p → B)) := by simp [CondT, CondK]
theorem CondT_not {t : Bool} {A B : Prop} {tk : TkP A B} : CondT (.bool (!t)) A B tk = CondT (.bool t) B A .mk := by cases t <;> simp [CondT, CondK]
theorem PickT_t {a b : Value} {K : Value → Prop} {tk : TkV K} : PickT (.bool true) a b K tk = K a := rfl
theorem PickT_f {a b : Value} {K : Value → Prop} {tk : TkV K} : PickT (.bool false) a b K tk = K b := rfl
section
variable {P : Program} {w0 : World} {N : Nat} {s : Slots} {H : Heap} {KV : Value → Prop} {K : Value → Heap → Prop} {KS : Slots → Heap → Prop} {Q : Post} {l : List Oper}
theorem ev_tmp {t} : ev s (.tmp t) = s t := rfl
theorem ev_const {v} : ev s (.const v) = v := rfl
theorem ev_global {g} : ev s (.global g) = .pointer (some ⟨g, 0, none⟩) := rfl
theorem ev_func {f} : ev s (.func f) = .func (.func f) #[] #[] := rfl
theorem lookN_eq {b o n} : lookN w0 H b o n = (lookL w0 H b o n).map fun l => .agg l.toArray := rfl
theorem W_skip : W P w0 N .skip s H Q = Q .normal s H := rfl
theorem W_ret : W P w0 N .ret s H Q = Q .ret s H := rfl
theorem W_exit {i} : W P w0 N (.exit i) s H Q = Q (.exit i) s H := rfl
theorem W_seq {x y} : W P w0 N (.seq x y) s H Q = W P w0 N x s H (thenQ (fun s H => W P w0 N y s H Q) Q) := rfl
theorem W_block {i c} : W P w0 N (.block i c) s H Q = W P w0 N c s H (blockQ i Q) := rfl
theorem W_cond {c x y} : W P w0 N (.cond c x y) s H Q = CondT (ev s c) (W P w0 N x s H Q) (W P w0 N y s H Q) .mk := rfl
theorem W_region {i} : W P w0 N (.region i l.toArray false) s H Q = SopsL P w0 N l.toArray l s H (fun s H => Q .normal s H) := rfl
theorem W_drawn {i ops} : W P w0 N (.region i ops true) s H Q = ST P w0 N (.region i ops true) s H Q .mk := rfl
theorem W_loop {c} : W P w0 N (.loop c) s H Q = ST P w0 N (.loop c) s H Q .mk := rfl
theorem SopsL_some {ops : Array Oper} {d op ty p a g} : SopsL P w0 N ops (⟨some d, op, ty, p, a, g⟩ :: l) s H KS = GuardT (decide (d < N)) (want ops s ⟨some d, op, ty, p, a, g⟩) (opV P w0 op ty s H fun v H => SopsL P w0 N ops l (put s d v) H KS) (SopsL P w0 N ops l (put s d undef) H KS) .mk := SopsL_cons
theorem SopsL_none {ops : Array Oper} {op ty p a g} : SopsL P w0 N ops (⟨none, op, ty, p, a, g⟩ :: l) s H KS = GuardT true (want ops s ⟨none, op, ty, p, a, g⟩) (opV P w0 op ty s H fun _ H => SopsL P w0 N ops l s H KS) (SopsL P w0 N ops l s H KS) .mk := SopsL_cons
theorem QO_s {d op ty p a g} {K : Value → Slots → Prop} : QO P w0 N l (some ⟨some d, op, ty, p, a, g⟩) s H K = GuardT (decide (d < N)) (want l.toArray s ⟨some d, op, ty, p, a, g⟩) (qV P w0 op ty s H fun v => K v (put s d v)) (K undef (put s d undef)) .mk := QO_g
theorem QO_n {op ty p a g} {K : Value → Slots → Prop} : QO P w0 N l (some ⟨none, op, ty, p, a, g⟩) s H K = GuardT true (want l.toArray s ⟨none, op, ty, p, a, g⟩) (qV P w0 op ty s H fun v => K v s) (K undef s) .mk := QO_g
theorem WO_s {d op ty p a g} : WO P w0 N l (some ⟨some d, op, ty, p, a, g⟩) s H KS = GuardT (decide (d < N)) (want l.toArray s ⟨some d, op, ty, p, a, g⟩) (opV P w0 op ty s H fun v H => KS (put s d v) H) (KS (put s d undef) H) .mk := WO_g
theorem WO_n {op ty p a g} : WO P w0 N l (some ⟨none, op, ty, p, a, g⟩) s H KS = GuardT true (want l.toArray s ⟨none, op, ty, p, a, g⟩) (opV P w0 op ty s H fun _ H => KS s H) (KS s H) .mk := WO_g
theorem QO_opt {o : Option Oper} {K : Value → Slots → Prop} : QO P w0 N l o s H K = OptT o (fun o => QO P w0 N l (some o) s H K) .mk := by cases o <;> rfl
theorem WO_opt {o : Option Oper} : WO P w0 N l o s H KS = OptT o (fun o => WO P w0 N l (some o) s H KS) .mk := by cases o <;> rfl
theorem SX_fin {p} : SX P w0 N l KS .fin p s H = KS s H := rfl
theorem SX_qt {p i t} : SX P w0 N l KS (.q i true t) p s H = OptT (opAt l i) (fun o => QO P w0 N l (some o) s H fun v s' => SX P w0 N l KS t ((i, v) :: p) s' H) .mk := QO_opt
theorem SX_qf {p i t} : SX P w0 N l KS (.q i false t) p s H = OptT (opAt l i) (fun o => QO P w0 N l (some o) s H fun v s' => SX P w0 N l KS t p s' H) .mk := QO_opt
theorem SX_one {p j ks t} : SX P w0 N l KS (.one j ks t) p s H = OptT (opAt l j) (fun o => WO P w0 N l (some o) s H fun s' H' => reO P w0 N l s' H' (pick1 ks p) ∧ SX P w0 N l KS t (pick1 ks p) s' H') .mk := WO_opt
theorem SX_two {p j ks t j2 ks2 t2} : SX P w0 N l KS (.two j ks t j2 ks2 t2) p s H = (SX P w0 N l KS (.one j ks t) p s H ∧ SX P w0 N l KS (.one j2 ks2 t2) p s H) := rfl
theorem SX_three {p j ks t j2 ks2 t2 j3 ks3 t3} : SX P w0 N l KS (.three j ks t j2 ks2 t2 j3 ks3 t3) p s H = (SX P w0 N l KS (.one j ks t) p s H ∧ SX P w0 N l KS (.one j2 ks2 t2) p s H ∧ SX P w0 N l KS (.one j3 ks3 t3) p s H) := rfl
theorem reO_nil : reO P w0 N l s H [] = True := rfl
theorem reO_cons {i v r} : reO P w0 N l s H ((i, v) :: r) = (OptT (opAt l i) (fun o => QO P w0 N l (some o) s H fun u _ => u = v) .mk ∧ reO P w0 N l s H r) := by
  show (QO P w0 N l (opAt l i) s H (fun u _ => u = v) ∧ reO P w0 N l s H r) = _
  rw [QO_opt]
theorem opV_move {ty} {x} : opV P w0 (.move x) ty s H K = ValT (ev s x) (fun v => K v H) .mk := rfl
theorem opV_assign {ty} {x} : opV P w0 (.assign x) ty s H K = ValT (ev s x) (fun v => K v H) .mk := rfl
theorem opV_pick {ty} {c a b} : opV P w0 (.pick c a b) ty s H K = PickT (ev s c) (ev s a) (ev s b) (fun v => K v H) .mk := rfl
theorem opV_alloc {ty} {e} : opV P w0 (.alloc e) ty s H K = OptT (zeroOf P e) (fun z => NewT w0 H (.row z.cells.toList e) (fun b H' => K (.pointer (some ⟨b, 0, none⟩)) H') .mk) .mk := by
  show AllocK P w0 H e K = _
  unfold AllocK
  cases zeroOf P e <;> rfl
theorem opV_box {ty} {e x} : opV P w0 (.box e x) ty s H K = NewT w0 H (.row (ev s x).cells.toList e) (fun b H' => K (.pointer (some ⟨b, 0, none⟩)) H') .mk := rfl
theorem opV_build {ty} {t ps} : opV P w0 (.build t ps) ty s H K = PureT P (Instr.build t (ps.map fun (i, x) => (i, ev s x))) (fun v => K v H) .mk := rfl
theorem opV_buildSlice {ty} {t n ps} : opV P w0 (.buildSlice t n ps) ty s H K = BuildSliceT P w0 H t n (ps.toList.map fun p => (p.1, ev s p.2)) K .mk := rfl
theorem opV_load {ty} {t x} : opV P w0 (.load t x) ty s H K = LoadT P w0 H t (ev s x) (fun v => K v H) .mk := rfl
theorem opV_store {ty} {t x y} : opV P w0 (.store t x y) ty s H K = StoreT P w0 H t (ev s x) (ev s y) (fun H => K undef H) .mk := rfl
theorem opV_nilCheck {ty} {x} : opV P w0 (.nilCheck x) ty s H K = NilT (ev s x) (fun v => K v H) .mk := rfl
theorem opV_binOp {ty} {op t x y u} : opV P w0 (.binOp op t x y u) ty s H K = BinT P op t x y (ev s x) (ev s y) (fun v => K v H) .mk := rfl
theorem opV_unOp {ty} {op t x} : opV P w0 (.unOp op t x) ty s H K = PureT P (Op.unary op (ev s x)) (fun v => K v H) .mk := rfl
theorem opV_makeInterface {ty} {t x} : opV P w0 (.makeInterface t x) ty s H K = PureT P (Instr.makeInterface t (ev s x)) (fun v => K v H) .mk := rfl
theorem opV_makeFunc {ty} {fn fi ca} : opV P w0 (.makeFunc fn fi ca) ty s H K = ValT (Value.func fn (fi.map (ev s)) (ca.map (ev s))) (fun v => K v H) .mk := rfl
theorem opV_makeMap {ty} {t r} : opV P w0 (.makeMap t r) ty s H K = OpT P w0 (Instr.makeMap t (r.map (ev s))) H K .mk := rfl
theorem opV_makeSlice {ty} {t l c} : opV P w0 (.makeSlice t l c) ty s H K = MakeT P w0 H t (ev s l) (ev s c) K .mk := rfl
theorem opV_slice {ty} {t x lo hi mx} : opV P w0 (.slice t x lo hi mx) ty s H K = PureT P (Instr.sliceAt t (ev s x) (lo.map (ev s)) (hi.map (ev s)) (mx.map (ev s))) (fun v => K v H) .mk := rfl
theorem opV_fieldAddr {ty} {t x f} : opV P w0 (.fieldAddr t x f) ty s H K = PureT P (Instr.fieldAt t (ev s x) f) (fun v => K v H) .mk := rfl
theorem opV_field {ty} {t x f} : opV P w0 (.field t x f) ty s H K = PureT P (Instr.field t (ev s x) f) (fun v => K v H) .mk := rfl
theorem opV_indexAddr {ty} {t x ix} : opV P w0 (.indexAddr t x ix) ty s H K = PureT P (Instr.indexAt t (ev s x) (ev s ix)) (fun v => K v H) .mk := rfl
theorem opV_index {ty} {t x ix} : opV P w0 (.index t x ix) ty s H K = PureT P (Instr.index t (ev s x) (ev s ix)) (fun v => K v H) .mk := rfl
theorem opV_lookup {ty} {t x ix ok} : opV P w0 (.lookup t x ix ok) ty s H K = OpT P w0 (Instr.lookup t (ev s x) (ev s ix) ok) H K .mk := rfl
theorem opV_mapUpdate {ty} {t m k x} : opV P w0 (.mapUpdate t m k x) ty s H K = OpT P w0 (do Instr.mapUpdate t (ev s m) (ev s k) (ev s x); pure undef) H K .mk := rfl
theorem opV_insert {ty} {t m k x} : opV P w0 (.insert t m k x) ty s H K = OpT P w0 (do Instr.mapUpdate t (ev s m) (ev s k) (ev s x); pure undef) H K .mk := rfl
theorem opV_range {ty} {t x} : opV P w0 (.range t x) ty s H K = OpT P w0 (Instr.range t (ev s x)) H K .mk := rfl
theorem opV_next {ty} {it b} : opV P w0 (.next it b) ty s H K = OpT P w0 (Instr.next (ev s it) b ty) H K .mk := rfl
theorem opV_typeAssert {ty} {x t u ok} : opV P w0 (.typeAssert x t u ok) ty s H K = PureT P (Instr.typeAssert (ev s x) t u ok) (fun v => K v H) .mk := rfl
theorem opV_extract {ty} {x i} : opV P w0 (.extract x i) ty s H K = PureT P (Instr.extract (ev s x) i) (fun v => K v H) .mk := rfl
theorem opV_convert {ty} {t u x} : opV P w0 (.convert t u x) ty s H K = ConvT P w0 t u (ev s x) H K .mk := rfl
theorem opV_callv {ty} {f args ts} : opV P w0 (.call ⟨.value f, args, ts⟩) ty s H K = FunT P w0 (ev s f) (args.toList.map (ev s)) H K .mk := rfl
theorem opV_len {ty} {args ts} : opV P w0 (.call ⟨.builtin .len, args, ts⟩) ty s H K = PureT P (Builtin.len_ ts ty (args.map (ev s))) (fun v => K v H) .mk := rfl
theorem opV_cap {ty} {args ts} : opV P w0 (.call ⟨.builtin .cap, args, ts⟩) ty s H K = PureT P (Builtin.cap_ ts ty (args.map (ev s))) (fun v => K v H) .mk := rfl
theorem opV_min {ty} {args ts} : opV P w0 (.call ⟨.builtin .min, args, ts⟩) ty s H K = PureT P (Builtin.min_ ts ty (args.map (ev s))) (fun v => K v H) .mk := rfl
theorem opV_max {ty} {args ts} : opV P w0 (.call ⟨.builtin .max, args, ts⟩) ty s H K = PureT P (Builtin.max_ ts ty (args.map (ev s))) (fun v => K v H) .mk := rfl
theorem opV_append {ty} {args ts} : opV P w0 (.call ⟨.builtin .append, args, ts⟩) ty s H K = OpT P w0 (Builtin.append_ ts ty (args.map (ev s))) H K .mk := rfl
theorem opV_copy {ty} {args ts} : opV P w0 (.call ⟨.builtin .copy, args, ts⟩) ty s H K = OpT P w0 (Builtin.copy_ ts ty (args.map (ev s))) H K .mk := rfl
theorem opV_clear {ty} {args ts} : opV P w0 (.call ⟨.builtin .clear, args, ts⟩) ty s H K = OpT P w0 (Builtin.clear_ ts ty (args.map (ev s))) H K .mk := rfl
theorem qV_move {ty} {x} : qV P w0 (.move x) ty s H KV = ValT (ev s x) KV .mk := rfl
theorem qV_pick {ty} {c a b} : qV P w0 (.pick c a b) ty s H KV = PickT (ev s c) (ev s a) (ev s b) KV .mk := rfl
theorem qV_build {ty} {t ps} : qV P w0 (.build t ps) ty s H KV = PureT P (Instr.build t (ps.map fun (i, x) => (i, ev s x))) KV .mk := rfl
theorem qV_load {ty} {t x} : qV P w0 (.load t x) ty s H KV = LoadT P w0 H t (ev s x) KV .mk := rfl
theorem qV_nilCheck {ty} {x} : qV P w0 (.nilCheck x) ty s H KV = NilT (ev s x) KV .mk := rfl
theorem qV_binOp {ty} {op t x y u} : qV P w0 (.binOp op t x y u) ty s H KV = BinT P op t x y (ev s x) (ev s y) KV .mk := rfl
theorem qV_unOp {ty} {op t x} : qV P w0 (.unOp op t x) ty s H KV = PureT P (Op.unary op (ev s x)) KV .mk := rfl
theorem qV_makeInterface {ty} {t x} : qV P w0 (.makeInterface t x) ty s H KV = PureT P (Instr.makeInterface t (ev s x)) KV .mk := rfl
theorem qV_makeFunc {ty} {fn fi ca} : qV P w0 (.makeFunc fn fi ca) ty s H KV = ValT (Value.func fn (fi.map (ev s)) (ca.map (ev s))) KV .mk := rfl
theorem qV_slice {ty} {t x lo hi mx} : qV P w0 (.slice t x lo hi mx) ty s H KV = PureT P (Instr.sliceAt t (ev s x) (lo.map (ev s)) (hi.map (ev s)) (mx.map (ev s))) KV .mk := rfl
theorem qV_fieldAddr {ty} {t x f} : qV P w0 (.fieldAddr t x f) ty s H KV = PureT P (Instr.fieldAt t (ev s x) f) KV .mk := rfl
theorem qV_field {ty} {t x f} : qV P w0 (.field t x f) ty s H KV = PureT P (Instr.field t (ev s x) f) KV .mk := rfl
theorem qV_indexAddr {ty} {t x ix} : qV P w0 (.indexAddr t x ix) ty s H KV = PureT P (Instr.indexAt t (ev s x) (ev s ix)) KV .mk := rfl
theorem qV_index {ty} {t x ix} : qV P w0 (.index t x ix) ty s H KV = PureT P (Instr.index t (ev s x) (ev s ix)) KV .mk := rfl
theorem qV_typeAssert {ty} {x t u ok} : qV P w0 (.typeAssert x t u ok) ty s H KV = PureT P (Instr.typeAssert (ev s x) t u ok) KV .mk := rfl
theorem qV_extract {ty} {x i} : qV P w0 (.extract x i) ty s H KV = PureT P (Instr.extract (ev s x) i) KV .mk := rfl
theorem qV_convert {ty} {t u x} : qV P w0 (.convert t u x) ty s H KV = PureT P (convert t u (ev s x)) KV .mk := rfl
theorem qV_len {ty} {args ts} : qV P w0 (.call ⟨.builtin .len, args, ts⟩) ty s H KV = PureT P (Builtin.len_ ts ty (args.map (ev s))) KV .mk := rfl
theorem qV_cap {ty} {args ts} : qV P w0 (.call ⟨.builtin .cap, args, ts⟩) ty s H KV = PureT P (Builtin.cap_ ts ty (args.map (ev s))) KV .mk := rfl
theorem qV_min {ty} {args ts} : qV P w0 (.call ⟨.builtin .min, args, ts⟩) ty s H KV = PureT P (Builtin.min_ ts ty (args.map (ev s))) KV .mk := rfl
theorem qV_max {ty} {args ts} : qV P w0 (.call ⟨.builtin .max, args, ts⟩) ty s H KV = PureT P (Builtin.max_ ts ty (args.map (ev s))) KV .mk := rfl
theorem LoadT_opt {t : TypeId} {b o : Nat} {tk : TkV KV} : LoadT P w0 H t (.pointer (some ⟨b, o, none⟩)) KV tk = OptT (loadOf P w0 H t b o) KV .mk := by
  show LoadK P w0 H t (.pointer (some ⟨b, o, none⟩)) KV = _
  rw [LoadK_ptr]
  cases loadOf P w0 H t b o <;> rfl
theorem StoreT_opt {t : TypeId} {b o : Nat} {v : Value} {KK : Heap → Prop} {tk : TkW KK} : StoreT P w0 H t (.pointer (some ⟨b, o, none⟩)) v KK tk = OptT ((H b).bind (Item.setCells o v.cells.toList)) (fun it => szOf P t = some v.cells.size ∧ v.cells.toList.all Value.oneCell' = true ∧ KK (H.set b it)) .mk := by
  show StoreK P w0 H t (.pointer (some ⟨b, o, none⟩)) v KK = _
  rw [StoreK_ptr]
  cases (H b).bind (Item.setCells o v.cells.toList) <;> rfl
theorem BuildT_or {t : TypeId} {z : Value} {ps : Array (Nat × Value)} {tk : TkV KV} : BuildT P t z ps KV tk = OrT (fillV (placeOf P t) z.cells.toList ps.toList) (fun cs => KV (.agg cs.toArray)) (PureK P (Instr.build t ps) KV) .mk := by
  show BuildK P t z ps KV = _
  unfold BuildK
  cases fillV (placeOf P t) z.cells.toList ps.toList <;> rfl
theorem NewT_eq {it : Item} {KN : Nat → Heap → Prop} {tk : TkN KN} : NewT w0 H it KN tk = ∀ b, H b = none → w0.heap.size ≤ b → KN b (H.set b it) := rfl
theorem BuildSliceT_opt {t e : TypeId} {z : Value} {n sz : Nat} {ps : List (Nat × Value)} {tk : TkH K} (he : elemOf' P t = some e) (hz : zeroOf P e = some z) (hs : P.cellsOf e = sz) (hzs : z.cells.size = sz) (hn : n * sz ≤ 16777216) :
    BuildSliceT P w0 H t n ps K tk = OptT (fillV (fun i => some (i * sz, sz)) (zerosOf z n) ps) (fun cs => NewT w0 H (.row cs e) (fun b H' => K (.slice (some ⟨b, 0, none⟩) n n) H') .mk) .mk := by
  show BuildSliceK P w0 H t n ps K = _
  unfold BuildSliceK
  rw [he]
  simp only [hz, hs, hzs, hn, true_and]
  cases fillV (fun i => some (i * sz, sz)) (zerosOf z n) ps <;> rfl
theorem MakeT_opt {t e : TypeId} {z : Value} {l c : Int} {sz by_ : Nat} {k k' : IntKind} {tk : TkH K} (he : elemOf' P t = some e) (hz : zeroOf P e = some z) (hs : P.cellsOf e = sz) (hb : P.bytesOf e = by_) (hzs : z.cells.size = sz) (h0 : 0 ≤ l) (h1 : l ≤ c) (h2 : c ≤ 9223372036854775807) (h3 : by_ * c ≤ 281474976710656) :
    MakeT P w0 H t (.int k l) (.int k' c) K tk = NewT w0 H (.row (zerosOf z c.toNat) e) (fun b H' => K (.slice (some ⟨b, 0, none⟩) l.toNat c.toNat) H') .mk := by
  show MakeK P w0 H t (.int k l) (.int k' c) K = _
  unfold MakeK
  rw [he]
  simp only [hz, hs, hb, hzs, h0, h1, h2, h3, true_and]
  rfl
theorem FunT_func {g : FuncId} {a b : Array Value} {l : List Value} {tk : TkH K} : FunT P w0 (.func (.func g) a b) l H K tk = (Callable P g ∧ FT P w0 g (a.toList ++ l ++ b.toList) H K .mk) := rfl
theorem NilT_ptr {a : Addr} {tk : TkV KV} : NilT (.pointer (some a)) KV tk = KV (.pointer (some a)) := rfl
theorem NilT_func {f : FuncId} {a b : Array Value} {tk : TkV KV} : NilT (.func (.func f) a b) KV tk = KV (.func (.func f) a b) := rfl
end
section
variable {P : Program} {t : TypeId} {x y : Operand} {K : Value → Prop} {k : IntKind} {a b : Int}
theorem BinT_add {tk : TkV K} : BinT P .add t x y (.int k a) (.int k b) K tk ↔ K (.int k (k.wrap (a + b))) := BinK_add
theorem BinT_sub {tk : TkV K} : BinT P .sub t x y (.int k a) (.int k b) K tk ↔ K (.int k (k.wrap (a - b))) := BinK_sub
theorem BinT_mul {tk : TkV K} : BinT P .mul t x y (.int k a) (.int k b) K tk ↔ K (.int k (k.wrap (a * b))) := BinK_mul
theorem BinT_quo (hb : b ≠ 0) {tk : TkV K} : BinT P .quo t x y (.int k a) (.int k b) K tk ↔ K (.int k (k.wrap (a.tdiv b))) := BinK_quo hb
theorem BinT_rem (hb : b ≠ 0) {tk : TkV K} : BinT P .rem t x y (.int k a) (.int k b) K tk ↔ K (.int k (a.tmod b)) := BinK_rem hb
theorem BinT_and {tk : TkV K} : BinT P .and t x y (.int k a) (.int k b) K tk ↔ K (.int k (k.wrap (BitVec.ofInt k.bits a &&& BitVec.ofInt k.bits b).toNat)) := BinK_and
theorem BinT_or {tk : TkV K} : BinT P .or t x y (.int k a) (.int k b) K tk ↔ K (.int k (k.wrap (BitVec.ofInt k.bits a ||| BitVec.ofInt k.bits b).toNat)) := BinK_or
theorem BinT_xor {tk : TkV K} : BinT P .xor t x y (.int k a) (.int k b) K tk ↔ K (.int k (k.wrap (BitVec.ofInt k.bits a ^^^ BitVec.ofInt k.bits b).toNat)) := BinK_xor
theorem BinT_andNot {tk : TkV K} : BinT P .andNot t x y (.int k a) (.int k b) K tk ↔ K (.int k (k.wrap (BitVec.ofInt k.bits a &&& ~~~BitVec.ofInt k.bits b).toNat)) := BinK_andNot
theorem BinT_eql {tk : TkV K} : BinT P .eql t x y (.int k a) (.int k b) K tk ↔ K (.bool (a == b)) := BinK_eql
theorem BinT_neq {tk : TkV K} : BinT P .neq t x y (.int k a) (.int k b) K tk ↔ K (.bool (a != b)) := BinK_neq
theorem BinT_lss {tk : TkV K} : BinT P .lss t x y (.int k a) (.int k b) K tk ↔ K (.bool (decide (a < b))) := BinK_lss
theorem BinT_leq {tk : TkV K} : BinT P .leq t x y (.int k a) (.int k b) K tk ↔ K (.bool (decide (a ≤ b))) := BinK_leq
theorem BinT_gtr {tk : TkV K} : BinT P .gtr t x y (.int k a) (.int k b) K tk ↔ K (.bool (decide (b < a))) := BinK_gtr
theorem BinT_geq {tk : TkV K} : BinT P .geq t x y (.int k a) (.int k b) K tk ↔ K (.bool (decide (b ≤ a))) := BinK_geq
theorem BinT_shl {k' : IntKind} (hb : ¬ b < 0) {tk : TkV K} : BinT P .shl t x y (.int k a) (.int k' b) K tk ↔ K (.int k (k.wrap (a * 2 ^ min b.toNat k.bits))) := BinK_shl hb
theorem BinT_shr {k' : IntKind} (hb : ¬ b < 0) {tk : TkV K} : BinT P .shr t x y (.int k a) (.int k' b) K tk ↔ K (.int k (a.fdiv (2 ^ min b.toNat k.bits))) := BinK_shr hb
end
section
variable {P : Program} {t : TypeId} {x y : Operand} {K : Value → Prop} {a b : ByteArray}
theorem BinT_sadd (h : a.size + b.size ≤ 9223372036854775807) {tk : TkV K} : BinT P .add t x y (.string a) (.string b) K tk ↔ K (.string (a ++ b)) := BinK_sadd h
theorem BinT_seql {tk : TkV K} : BinT P .eql t x y (.string a) (.string b) K tk ↔ K (.bool (a.toList == b.toList)) := BinK_seql
theorem BinT_sneq {tk : TkV K} : BinT P .neq t x y (.string a) (.string b) K tk ↔ K (.bool (!(a.toList == b.toList))) := BinK_sneq
theorem BinT_slss {tk : TkV K} : BinT P .lss t x y (.string a) (.string b) K tk ↔ K (.bool (Op.bytesLess a.toList b.toList)) := BinK_slss
theorem BinT_sgtr {tk : TkV K} : BinT P .gtr t x y (.string a) (.string b) K tk ↔ K (.bool (!(Op.bytesLess a.toList b.toList || a.toList == b.toList))) := BinK_sgtr
end
section
variable {P : Program} {t u : TypeId} {K : Value → Prop} {k k' : IntKind} {n : Int}
theorem PureT_neg {tk : TkV K} : PureT P (Op.unary .neg (.int k n)) K tk ↔ K (.int k (k.wrap (0 - n))) := PureK_neg
theorem PureT_com {tk : TkV K} : PureT P (Op.unary .xor (.int k n)) K tk ↔ K (.int k (k.wrap (BitVec.ofInt k.bits (if k.signed then -1 else k.max) ^^^ BitVec.ofInt k.bits n).toNat)) := PureK_com
theorem PureT_not {b : Bool} {tk : TkV K} : PureT P (Op.unary .not (.bool b)) K tk ↔ K (.bool (!b)) := PureK_not
theorem PureT_min {ts : Array TypeId} {ty : TypeId} {a b : Int} {tk : TkV K} : PureT P (Builtin.min_ ts ty #[.int k a, .int k b]) K tk ↔ K (.int k (min a b)) := PureK_min
theorem PureT_max {ts : Array TypeId} {ty : TypeId} {a b : Int} {tk : TkV K} : PureT P (Builtin.max_ ts ty #[.int k a, .int k b]) K tk ↔ K (.int k (max a b)) := PureK_max
theorem ex2_0 {a b : Value} {tk : TkV K} : PureT P (Instr.extract (.tuple #[a, b]) 0) K tk = K a := propext (PureK_extract rfl)
theorem ex2_1 {a b : Value} {tk : TkV K} : PureT P (Instr.extract (.tuple #[a, b]) 1) K tk = K b := propext (PureK_extract rfl)
theorem ex3_0 {a b c : Value} {tk : TkV K} : PureT P (Instr.extract (.tuple #[a, b, c]) 0) K tk = K a := propext (PureK_extract rfl)
theorem ex3_1 {a b c : Value} {tk : TkV K} : PureT P (Instr.extract (.tuple #[a, b, c]) 1) K tk = K b := propext (PureK_extract rfl)
theorem ex3_2 {a b c : Value} {tk : TkV K} : PureT P (Instr.extract (.tuple #[a, b, c]) 2) K tk = K c := propext (PureK_extract rfl)
theorem ex4_0 {a b c d : Value} {tk : TkV K} : PureT P (Instr.extract (.tuple #[a, b, c, d]) 0) K tk = K a := propext (PureK_extract rfl)
theorem ex4_1 {a b c d : Value} {tk : TkV K} : PureT P (Instr.extract (.tuple #[a, b, c, d]) 1) K tk = K b := propext (PureK_extract rfl)
theorem ex4_2 {a b c d : Value} {tk : TkV K} : PureT P (Instr.extract (.tuple #[a, b, c, d]) 2) K tk = K c := propext (PureK_extract rfl)
theorem ex4_3 {a b c d : Value} {tk : TkV K} : PureT P (Instr.extract (.tuple #[a, b, c, d]) 3) K tk = K d := propext (PureK_extract rfl)
theorem ex5_0 {a b c d e : Value} {tk : TkV K} : PureT P (Instr.extract (.tuple #[a, b, c, d, e]) 0) K tk = K a := propext (PureK_extract rfl)
theorem ex5_1 {a b c d e : Value} {tk : TkV K} : PureT P (Instr.extract (.tuple #[a, b, c, d, e]) 1) K tk = K b := propext (PureK_extract rfl)
theorem ex5_2 {a b c d e : Value} {tk : TkV K} : PureT P (Instr.extract (.tuple #[a, b, c, d, e]) 2) K tk = K c := propext (PureK_extract rfl)
theorem ex5_3 {a b c d e : Value} {tk : TkV K} : PureT P (Instr.extract (.tuple #[a, b, c, d, e]) 3) K tk = K d := propext (PureK_extract rfl)
theorem ex5_4 {a b c d e : Value} {tk : TkV K} : PureT P (Instr.extract (.tuple #[a, b, c, d, e]) 4) K tk = K e := propext (PureK_extract rfl)
end
/-! ### Unfolded step by step -/
def pickB (b : Bool) (x : Nat × Value) (l : Pend) : Pend := if b = true then x :: l else l
theorem pickB_t {x : Nat × Value} {l : Pend} : pickB true x l = x :: l := rfl
theorem pickB_f {x : Nat × Value} {l : Pend} : pickB false x l = l := rfl
theorem pick1_nil' {ks : List Nat} : pick1 ks [] = [] := rfl
theorem pick1_cons' {ks : List Nat} {i : Nat} {v : Value} {r : Pend} : pick1 ks ((i, v) :: r) = pickB (ks.contains i) (i, v) (pick1 ks r) := rfl
theorem opAt_zero' {o : Oper} {l : List Oper} : opAt (o :: l) 0 = some o := rfl
theorem opAt_succ' {o : Oper} {l : List Oper} {n : Nat} : opAt (o :: l) (n + 1) = opAt l n := rfl
theorem setRange_nil' {cs : List Value} {o : Nat} : setRange cs o [] = cs := rfl
theorem setRange_cons' {cs vs : List Value} {o : Nat} {v : Value} : setRange cs o (v :: vs) = setRange (cs.set o v) (o + 1) vs := rfl
def fillO (o : Option (Nat × Nat)) (n : Nat) (vs cells : List Value) (K : List Value → Option (List Value)) : Option (List Value) :=
  match o with
  | some p => if n = p.2 ∧ p.1 + p.2 ≤ cells.length then K (setRange cells p.1 vs) else none
  | none => none
theorem fillO_some {off size n : Nat} {vs cells : List Value} {K : List Value → Option (List Value)} : fillO (some (off, size)) n vs cells K = if n = size ∧ off + size ≤ cells.length then K (setRange cells off vs) else none := rfl
theorem fillV_nil' {place : Nat → Option (Nat × Nat)} {cells : List Value} : fillV place cells [] = some cells := rfl
theorem fillV_cons' {place : Nat → Option (Nat × Nat)} {cells : List Value} {i : Nat} {v : Value} {rest : List (Nat × Value)} : fillV place cells ((i, v) :: rest) = fillO (place i) v.cells.size v.cells.toList cells fun cs => fillV place cs rest := by
  rw [fillV]
  cases place i with
  | none => rfl
  | some p => rfl
theorem zeros_succ {z : Value} {n : Nat} : zerosOf z (n + 1) = z.cells.toList ++ zerosOf z n := by simp [zerosOf, List.replicate_succ]
theorem lookL_zero' {w0 : World} {H : Heap} {b o : Nat} : lookL w0 H b o 0 = some [] := rfl
theorem lookL_succ' {w0 : World} {H : Heap} {b o n : Nat} : lookL w0 H b o (n + 1) = (lk w0 H b o).bind fun v => (lookL w0 H b (o + 1) n).map (v :: ·) := rfl
end Go.Proofs.Ytgnepkppmjabnaa.Eng
