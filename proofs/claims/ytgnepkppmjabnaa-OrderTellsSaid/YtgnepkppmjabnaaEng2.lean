/- The engine's second part: what a single operation asks and gives (opV), and that it does so (opV_sound). Conditions: none. -/
import Derived.Test.YtgnepkppmjabnaaEng1
namespace Go.Proofs.Ytgnepkppmjabnaa.Eng
open Go.RowKit
set_option linter.unusedVariables false
set_option linter.unusedSimpArgs false

/-! ### What is reckoned out of values alone -/
/-- The operation gives one value in every world and leaves each as it is; K holds of it. -/
def PureK (P : Program) (x : Sem Value) (K : Value → Prop) : Prop := ∃ r, (∀ w, x.run P w = .ok r w) ∧ K r
theorem PureK_run {P : Program} {x : Sem Value} {K : Value → Prop} {r : Value} (h : ∀ w, x.run P w = .ok r w) : PureK P x K ↔ K r :=
  ⟨fun ⟨r', h', k⟩ => by
    have := (h default).symm.trans (h' default)
    cases this
    exact k, fun k => ⟨r, h, k⟩⟩
theorem PureK_congr {P : Program} {x y : Sem Value} {K : Value → Prop} (h : x = y) : PureK P x K = PureK P y K := by rw [h]
theorem PureK_mono {P : Program} {x : Sem Value} {K K' : Value → Prop} (h : PureK P x K) (hk : ∀ v, K v → K' v) : PureK P x K' := let ⟨r, hr, k⟩ := h; ⟨r, hr, hk r k⟩

def BinK (P : Program) (op : BinOp) (t : TypeId) (x y : Operand) (a b : Value) (K : Value → Prop) : Prop :=
  PureK P (do eqGuard op t x y a b; binOp op t a b) K
theorem BinK_congr {P : Program} {op : BinOp} {t : TypeId} {x y : Operand} {a b a' b' : Value} {K : Value → Prop} (h : a = a') (h2 : b = b') : BinK P op t x y a b K = BinK P op t x y a' b' K := by rw [h, h2]

section
variable {P : Program} {t : TypeId} {x y : Operand} {K : Value → Prop} {k : IntKind} {a b : Int}
theorem guard_int (op : BinOp) (w : World) : (eqGuard op t x y (.int k a) (.int k b)).run P w = .ok () w := by cases op <;> simp [eqGuard]
theorem guard_str (op : BinOp) (a b : ByteArray) (w : World) : (eqGuard op t x y (.string a) (.string b)).run P w = .ok () w := by cases op <;> simp [eqGuard]
theorem BinK_add : BinK P .add t x y (.int k a) (.int k b) K ↔ K (.int k (k.wrap (a + b))) := PureK_run fun w => by simp [guard_int, binOp, Op.intArith]
theorem BinK_sub : BinK P .sub t x y (.int k a) (.int k b) K ↔ K (.int k (k.wrap (a - b))) := PureK_run fun w => by simp [guard_int, binOp, Op.intArith]
theorem BinK_mul : BinK P .mul t x y (.int k a) (.int k b) K ↔ K (.int k (k.wrap (a * b))) := PureK_run fun w => by simp [guard_int, binOp, Op.intArith]
theorem BinK_quo (hb : b ≠ 0) : BinK P .quo t x y (.int k a) (.int k b) K ↔ K (.int k (k.wrap (a.tdiv b))) := PureK_run fun w => by simp [guard_int, binOp, Op.intDiv, hb]
theorem BinK_rem (hb : b ≠ 0) : BinK P .rem t x y (.int k a) (.int k b) K ↔ K (.int k (a.tmod b)) := PureK_run fun w => by simp [guard_int, binOp, Op.intDiv, hb]
theorem BinK_and : BinK P .and t x y (.int k a) (.int k b) K ↔ K (.int k (k.wrap (BitVec.ofInt k.bits a &&& BitVec.ofInt k.bits b).toNat)) := PureK_run fun w => by simp [guard_int, binOp, Op.intBits]
theorem BinK_or : BinK P .or t x y (.int k a) (.int k b) K ↔ K (.int k (k.wrap (BitVec.ofInt k.bits a ||| BitVec.ofInt k.bits b).toNat)) := PureK_run fun w => by simp [guard_int, binOp, Op.intBits]
theorem BinK_xor : BinK P .xor t x y (.int k a) (.int k b) K ↔ K (.int k (k.wrap (BitVec.ofInt k.bits a ^^^ BitVec.ofInt k.bits b).toNat)) := PureK_run fun w => by simp [guard_int, binOp, Op.intBits]
theorem BinK_andNot : BinK P .andNot t x y (.int k a) (.int k b) K ↔ K (.int k (k.wrap (BitVec.ofInt k.bits a &&& ~~~BitVec.ofInt k.bits b).toNat)) := PureK_run fun w => by simp [guard_int, binOp, Op.intBits]
theorem BinK_eql : BinK P .eql t x y (.int k a) (.int k b) K ↔ K (.bool (a == b)) := PureK_run fun w => by simp [guard_int, binOp, Op.intCmp]
theorem BinK_neq : BinK P .neq t x y (.int k a) (.int k b) K ↔ K (.bool (a != b)) := PureK_run fun w => by simp [guard_int, binOp, Op.intCmp]
theorem BinK_lss : BinK P .lss t x y (.int k a) (.int k b) K ↔ K (.bool (decide (a < b))) := PureK_run fun w => by simp [guard_int, binOp, Op.intCmp]
theorem BinK_leq : BinK P .leq t x y (.int k a) (.int k b) K ↔ K (.bool (decide (a ≤ b))) := PureK_run fun w => by simp [guard_int, binOp, Op.intCmp]
theorem BinK_gtr : BinK P .gtr t x y (.int k a) (.int k b) K ↔ K (.bool (decide (b < a))) := PureK_run fun w => by simp [guard_int, binOp, Op.intCmp]
theorem BinK_geq : BinK P .geq t x y (.int k a) (.int k b) K ↔ K (.bool (decide (b ≤ a))) := PureK_run fun w => by simp [guard_int, binOp, Op.intCmp]
theorem guard_shl {k' : IntKind} (w : World) : (eqGuard .shl t x y (.int k a) (.int k' b)).run P w = .ok () w := by simp [eqGuard]
theorem guard_shr {k' : IntKind} (w : World) : (eqGuard .shr t x y (.int k a) (.int k' b)).run P w = .ok () w := by simp [eqGuard]
theorem BinK_shl {k' : IntKind} (hb : ¬ b < 0) : BinK P .shl t x y (.int k a) (.int k' b) K ↔ K (.int k (k.wrap (a * 2 ^ min b.toNat k.bits))) := PureK_run fun w => by simp [guard_shl, binOp, Op.shift, hb]
theorem BinK_shr {k' : IntKind} (hb : ¬ b < 0) : BinK P .shr t x y (.int k a) (.int k' b) K ↔ K (.int k (a.fdiv (2 ^ min b.toNat k.bits))) := PureK_run fun w => by simp [guard_shr, binOp, Op.shift, hb]
end
section
variable {P : Program} {t : TypeId} {x y : Operand} {K : Value → Prop} {a b : ByteArray}
theorem BinK_sadd (h : a.size + b.size ≤ 9223372036854775807) : BinK P .add t x y (.string a) (.string b) K ↔ K (.string (a ++ b)) := PureK_run fun w => by
  have hm : IntKind.i64.max = 9223372036854775807 := rfl
  have : ¬ (((a.size + b.size : Nat) : Int) > IntKind.i64.max) := by rw [hm]; omega
  simp only [Sem.run_bind, guard_str, Result.andThen_ok, binOp, Op.stringOp, if_neg this, Sem.run_pure]
theorem BinK_seql : BinK P .eql t x y (.string a) (.string b) K ↔ K (.bool (a.toList == b.toList)) := PureK_run fun w => by simp [guard_str, binOp, Op.stringOp]
theorem BinK_sneq : BinK P .neq t x y (.string a) (.string b) K ↔ K (.bool (!(a.toList == b.toList))) := PureK_run fun w => by simp [guard_str, binOp, Op.stringOp]
theorem BinK_slss : BinK P .lss t x y (.string a) (.string b) K ↔ K (.bool (Op.bytesLess a.toList b.toList)) := PureK_run fun w => by simp [guard_str, binOp, Op.stringOp]
theorem BinK_sgtr : BinK P .gtr t x y (.string a) (.string b) K ↔ K (.bool (!(Op.bytesLess a.toList b.toList || a.toList == b.toList))) := PureK_run fun w => by simp [guard_str, binOp, Op.stringOp]
end
/-- '==' of values that are neither numbers nor strings, by what the type's '==' gives. -/
def EqR (P : Program) (t : TypeId) (a b : Value) (r : Bool) : Prop := ∀ d w, (Op.equalIn (d + 2) t a b).run P w = .ok r w
section
variable {P : Program} {t : TypeId} {x y : Operand} {K : Value → Prop}
theorem EqR.equal {a b : Value} {r : Bool} (h : EqR P t a b r) (w : World) : (Op.equal t a b).run P w = .ok r w := h 9998 w
theorem eqr_bool (hu : P.underlying t = some .bool) (a b : Bool) : EqR P t (.bool a) (.bool b) (a == b) := fun d w => by simp [Op.equalIn, run_underlying hu]
theorem eqr_ptr_nil {e : TypeId} (hu : P.underlying t = some (.pointer e)) (a : Option Addr) : EqR P t (.pointer none) (.pointer a) a.isNone := fun d w => by simp [Op.equalIn, run_underlying hu]
theorem eqr_nil_ptr {e : TypeId} (hu : P.underlying t = some (.pointer e)) (a : Option Addr) : EqR P t (.pointer a) (.pointer none) a.isNone := fun d w => by cases a <;> simp [Op.equalIn, run_underlying hu]
theorem eqr_if_nil {m : Array (String × TypeId)} (hu : P.underlying t = some (.interface m)) (u : TypeId) (v : Value) : EqR P t (.iface u v) .nilIface false := fun d w => by simp [Op.equalIn, run_underlying hu]
theorem eqr_nil_if {m : Array (String × TypeId)} (hu : P.underlying t = some (.interface m)) (u : TypeId) (v : Value) : EqR P t .nilIface (.iface u v) false := fun d w => by simp [Op.equalIn, run_underlying hu]
theorem eqr_nil_nil {m : Array (String × TypeId)} (hu : P.underlying t = some (.interface m)) : EqR P t .nilIface .nilIface true := fun d w => by simp [Op.equalIn, run_underlying hu]
theorem eqr_if_int {m : Array (String × TypeId)} (hu : P.underlying t = some (.interface m)) {u : TypeId} {i : TypeInfo} {k k0 : IntKind} (hi : P.info? u = some i) (hc : i.comparable = true) (hk : P.underlying u = some (.int k0)) (a b : Int) :
    EqR P t (.iface u (.int k a)) (.iface u (.int k b)) (a == b) := fun d w => by
  have ht : (typeInfo u).run P w = .ok i w := by simp [typeInfo, hi]
  simp [Op.equalIn, run_underlying hu, run_underlying hk, ht, hc]
theorem eqr_slice_nil {e : TypeId} (hu : P.underlying t = some (.slice e)) (a : Option Addr) (n c : Nat) : EqR P t (.slice a n c) (.slice none 0 0) a.isNone := fun d w => by cases a <;> simp [Op.equalIn, run_underlying hu]
theorem eqr_func_nil {p r : Array TypeId} {v : Bool} (hu : P.underlying t = some (.func p r v)) (f : Fn) (a b : Array Value) : EqR P t (.func f a b) .nilFunc false := fun d w => by simp [Op.equalIn, run_underlying hu]
/-- No test is laid ahead of '==' but where both are nil interface values, or aggregates. -/
def NoGuard (P : Program) (t : TypeId) (x y : Operand) (a b : Value) : Prop := ∀ op w, (eqGuard op t x y a b).run P w = .ok () w
theorem BinK_eq_of {a b : Value} {r : Bool} (h : EqR P t a b r) (hg : NoGuard P t x y a b) (hb : ∀ w, (binOp .eql t a b).run P w = ((Op.equal t a b).run P w).andThen fun r w => .ok (.bool r) w) : BinK P .eql t x y a b K ↔ K (.bool r) :=
  PureK_run fun w => by simp [hg _ w, hb, h.equal]
theorem BinK_ne_of {a b : Value} {r : Bool} (h : EqR P t a b r) (hg : NoGuard P t x y a b) (hb : ∀ w, (binOp .neq t a b).run P w = ((Op.equal t a b).run P w).andThen fun r w => .ok (.bool (!r)) w) : BinK P .neq t x y a b K ↔ K (.bool (!r)) :=
  PureK_run fun w => by simp [hg _ w, hb, h.equal]
theorem BinK_eq_bool (hu : P.underlying t = some .bool) (a b : Bool) : BinK P .eql t x y (.bool a) (.bool b) K ↔ K (.bool (a == b)) := BinK_eq_of (eqr_bool hu a b) (fun op w => by cases op <;> rfl) fun w => by simp [binOp]
theorem BinK_ne_bool (hu : P.underlying t = some .bool) (a b : Bool) : BinK P .neq t x y (.bool a) (.bool b) K ↔ K (.bool (!(a == b))) := BinK_ne_of (eqr_bool hu a b) (fun op w => by cases op <;> rfl) fun w => by simp [binOp]
theorem BinK_eq_ptr {e : TypeId} (hu : P.underlying t = some (.pointer e)) (a : Option Addr) : BinK P .eql t x y (.pointer a) (.pointer none) K ↔ K (.bool a.isNone) := BinK_eq_of (eqr_nil_ptr hu a) (fun op w => by cases op <;> rfl) fun w => by simp [binOp]
theorem BinK_ne_ptr {e : TypeId} (hu : P.underlying t = some (.pointer e)) (a : Option Addr) : BinK P .neq t x y (.pointer a) (.pointer none) K ↔ K (.bool (!a.isNone)) := BinK_ne_of (eqr_nil_ptr hu a) (fun op w => by cases op <;> rfl) fun w => by simp [binOp]
theorem BinK_eq_if {m : Array (String × TypeId)} (hu : P.underlying t = some (.interface m)) (u : TypeId) (v : Value) : BinK P .eql t x y (.iface u v) .nilIface K ↔ K (.bool false) := BinK_eq_of (eqr_if_nil hu u v) (fun op w => by cases op <;> rfl) fun w => by cases v <;> simp [binOp]
theorem BinK_ne_if {m : Array (String × TypeId)} (hu : P.underlying t = some (.interface m)) (u : TypeId) (v : Value) : BinK P .neq t x y (.iface u v) .nilIface K ↔ K (.bool true) := BinK_ne_of (eqr_if_nil hu u v) (fun op w => by cases op <;> rfl) fun w => by cases v <;> simp [binOp]
theorem BinK_eq_nil {m : Array (String × TypeId)} (hu : P.underlying t = some (.interface m)) (c : Value) : BinK P .eql t x (.const c) .nilIface .nilIface K ↔ K (.bool true) := BinK_eq_of (eqr_nil_nil hu) (fun op w => by cases op <;> simp [eqGuard]) fun w => by simp [binOp]
theorem BinK_ne_nil {m : Array (String × TypeId)} (hu : P.underlying t = some (.interface m)) (c : Value) : BinK P .neq t x (.const c) .nilIface .nilIface K ↔ K (.bool false) := BinK_ne_of (eqr_nil_nil hu) (fun op w => by cases op <;> simp [eqGuard]) fun w => by simp [binOp]
theorem BinK_eq_slice {e : TypeId} (hu : P.underlying t = some (.slice e)) (a : Option Addr) (n c : Nat) : BinK P .eql t x y (.slice a n c) (.slice none 0 0) K ↔ K (.bool a.isNone) := BinK_eq_of (eqr_slice_nil hu a n c) (fun op w => by cases op <;> rfl) fun w => by simp [binOp]
theorem BinK_ne_slice {e : TypeId} (hu : P.underlying t = some (.slice e)) (a : Option Addr) (n c : Nat) : BinK P .neq t x y (.slice a n c) (.slice none 0 0) K ↔ K (.bool (!a.isNone)) := BinK_ne_of (eqr_slice_nil hu a n c) (fun op w => by cases op <;> rfl) fun w => by simp [binOp]
theorem BinK_eq_errno {m : Array (String × TypeId)} (hu : P.underlying t = some (.interface m)) {u : TypeId} {i : TypeInfo} {k k0 : IntKind} (hi : P.info? u = some i) (hc : i.comparable = true) (hk : P.underlying u = some (.int k0)) (a b : Int) :
    BinK P .eql t x y (.iface u (.int k a)) (.iface u (.int k b)) K ↔ K (.bool (a == b)) := BinK_eq_of (eqr_if_int hu hi hc hk a b) (fun op w => by cases op <;> rfl) fun w => by simp [binOp]
end

/-! ### Unary operations, conversions between numbers, parts of values -/
section
variable {P : Program} {t u : TypeId} {K : Value → Prop} {k k' : IntKind} {n : Int}
theorem PureK_neg : PureK P (Op.unary .neg (.int k n)) K ↔ K (.int k (k.wrap (0 - n))) := PureK_run fun w => by simp [Op.unary, Op.intArith]
theorem PureK_com : PureK P (Op.unary .xor (.int k n)) K ↔ K (.int k (k.wrap (BitVec.ofInt k.bits (if k.signed then -1 else k.max) ^^^ BitVec.ofInt k.bits n).toNat)) := PureK_run fun w => by simp [Op.unary, Op.intBits]
theorem PureK_not {b : Bool} : PureK P (Op.unary .not (.bool b)) K ↔ K (.bool (!b)) := PureK_run fun w => by simp [Op.unary]
theorem PureK_conv_int {d : TypeDesc} (hd : P.underlying t = some d) (hu : P.underlying u = some (.int k)) : PureK P (convert t u (.int k' n)) K ↔ K (.int k (k.wrap n)) := PureK_run fun w => by simp [convert, run_underlying hd, run_underlying hu, Conv.intToInt]
theorem PureK_conv_str {d : TypeDesc} {b : ByteArray} (hd : P.underlying t = some d) (hu : P.underlying u = some .string) : PureK P (convert t u (.string b)) K ↔ K (.string b) := PureK_run fun w => by simp [convert, run_underlying hd, run_underlying hu]
theorem PureK_mkif {d : TypeDesc} {v : Value} (hd : P.underlying t = some d) (hi : (d matches .interface _) = false) : PureK P (Instr.makeInterface t v) K ↔ K (.iface t v) := PureK_run fun w => by
  cases d <;> first | (simp at hi; done) | simp [Instr.makeInterface, run_underlying hd]
theorem PureK_extract {vs : Array Value} {i : Nat} {v : Value} (h : vs[i]? = some v) : PureK P (Instr.extract (.tuple vs) i) K ↔ K v := PureK_run fun w => by simp [Instr.extract, h]
end
end Go.Proofs.Ytgnepkppmjabnaa.Eng
