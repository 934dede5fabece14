/- errors.Is at numbers of errors, and imprimaturkeep.Is: by Go's own text. Conditions: the errors are nil or numbers. -/
import Derived.Test.YtgnepkppmjabnaaChecked
import Derived.Test.YtgnepkppmjabnaaTy
import Derived.Test.YtgnepkppmjabnaaLib
import Derived.WalkKit
import Derived.LaidEql
import Derived.Stop.Asserts
import Derived.RowKitTokens
namespace Go.Proofs.Ytgnepkppmjabnaa
open Go.RowKit Go.Extern.Stop Go.Stop Go.Extern Eng
set_option linter.unusedVariables false
set_option linter.unusedSimpArgs false

theorem isTypeOf (v : Value) (w : World) : (Extern.ReflectliteType.typeOf #[.iface 46 v]).run Try.prog w = .ok (.iface 72 (.agg #[.pointer (some ⟨0, 46, none⟩)])) w := by kernel_rfl
theorem isComparable (w : World) : ((Extern.ReflectliteType.method fun t => do Go.Extern.Rtype.noPackHeld "Comparable" t; (fun a => Value.bool a.comparable) <$> typeInfo t) #[.agg #[.pointer (some ⟨0, 46, none⟩)]]).run Try.prog w = .ok (.bool true) w := by kernel_rfl
theorem isMethodComparable (v : Value) (w : World) : (Go.method 215 72 v "Comparable").run Try.prog w = .ok (54, v) w := by kernel_rfl
theorem isComp : (Try.prog.info? 46).map (·.comparable) = some true := by kernel_rfl
theorem noIsE (v : Value) (xT : TypeId) (w : World) : (Instr.typeAssert (.iface 46 v) xT 74 true).run Try.prog w = .ok (.tuple #[.nilIface, .bool false]) w := run_typeAssert_lacksB Try.underlying74 (by kernel_rfl) (by kernel_rfl) v xT w
theorem noUnwrapE (v : Value) (xT : TypeId) (w : World) : (Instr.typeAssert (.iface 46 v) xT 77 true).run Try.prog w = .ok (.tuple #[.nilIface, .bool false]) w := run_typeAssert_lacksB Try.underlying77 (by kernel_rfl) (by kernel_rfl) v xT w
theorem noUnwrapsE (v : Value) (xT : TypeId) (w : World) : (Instr.typeAssert (.iface 46 v) xT 79 true).run Try.prog w = .ok (.tuple #[.nilIface, .bool false]) w := run_typeAssert_lacksB Try.underlying79 (by kernel_rfl) (by kernel_rfl) v xT w
theorem eql_errno (a b : Int) (w : World) : (binOp .eql 31 (.iface 46 (.int .i64 a)) (.iface 46 (.int .i64 b))).run Try.prog w = .ok (.bool (a == b)) w := by
  obtain ⟨i, hi, hcmp⟩ := Option.map_eq_some_iff.1 isComp
  have h := (eqr_if_int (P := Try.prog) (t := 31) Try.underlying31 (k := .i64) hi hcmp Try.underlying46 a b).equal w
  simp only [binOp]
  simp [h]

set_option maxRecDepth 20000 in
set_option maxHeartbeats 1000000 in
theorem errIs_same (a : Int) (w : World) : Calls Try.prog 31 #[.iface 46 (.int .i64 a), .iface 46 (.int .i64 a)] w fun e w' => e = .returned (.bool true) ∧ w' = w := by
  have h8 := @run_callFunc_extern Try.prog 33 _ Extern.ReflectliteType.typeOf Try.func33 (by kernel_rfl) (by kernel_rfl) (by kernel_rfl) (by kernel_rfl)
  have h32 := @run_callFunc_extern Try.prog 54 _ (Extern.ReflectliteType.method fun t => do Go.Extern.Rtype.noPackHeld "Comparable" t; pure (.bool (← typeInfo t).comparable)) Try.func54 (by kernel_rfl) (by kernel_rfl) (by kernel_rfl) (by kernel_rfl)
  have tT := isTypeOf
  have cT := isComparable
  have mR := isMethodComparable
  have heq := eql_errno a a w
  rw [beq_self_eq_true] at heq
  go_enter Try.func31, Try.ntmps31
  go_wp2
  refine wp_loop_rounds 1 ?_
  rw [rounds_succ]
  go_wp2
  go_ret
  exact ⟨rfl, rfl⟩
set_option maxRecDepth 20000 in
set_option maxHeartbeats 1000000 in
theorem errIs_other (a b : Int) (hab : a ≠ b) (w : World) : Calls Try.prog 31 #[.iface 46 (.int .i64 a), .iface 46 (.int .i64 b)] w fun e w' => e = .returned (.bool false) ∧ w' = w := by
  have h8 := @run_callFunc_extern Try.prog 33 _ Extern.ReflectliteType.typeOf Try.func33 (by kernel_rfl) (by kernel_rfl) (by kernel_rfl) (by kernel_rfl)
  have h32 := @run_callFunc_extern Try.prog 54 _ (Extern.ReflectliteType.method fun t => do Go.Extern.Rtype.noPackHeld "Comparable" t; pure (.bool (← typeInfo t).comparable)) Try.func54 (by kernel_rfl) (by kernel_rfl) (by kernel_rfl) (by kernel_rfl)
  have tT := isTypeOf
  have cT := isComparable
  have mR := isMethodComparable
  have nE := noIsE
  have uE := noUnwrapE
  have vE := noUnwrapsE
  have heq := eql_errno a b w
  rw [show (a == b) = false by simp [hab]] at heq
  go_enter Try.func31, Try.ntmps31
  go_wp2
  refine wp_loop_rounds 1 ?_
  rw [rounds_succ]
  go_wp2
  go_ret
  exact ⟨rfl, rfl⟩
set_option maxRecDepth 20000 in
set_option maxHeartbeats 1000000 in
theorem errIs_nil (b : Int) (w : World) : Calls Try.prog 31 #[.nilIface, .iface 46 (.int .i64 b)] w fun e w' => e = .returned (.bool false) ∧ w' = w := by
  have hn := run_eql_iface_nil_left (P := Try.prog) w 46 (.int .i64 b) Try.underlying31
  go_enter Try.func31, Try.ntmps31
  go_wp2
  go_ret
  exact ⟨rfl, rfl⟩
set_option maxRecDepth 20000 in
set_option maxHeartbeats 1000000 in
theorem errIs_F {w0 : World} {H : Heap} {K : Value → Heap → Prop} (a b : Int) (hK : K (.bool (a == b)) H) :
    F Try.prog w0 31 [.iface 46 (.int .i64 a), .iface 46 (.int .i64 b)] H K := fun w hw => by
  by_cases hab : a = b
  · subst hab
    rw [beq_self_eq_true] at hK
    exact (errIs_same a w).mono fun e w' h => ⟨_, H, h.1, h.2 ▸ hw, hK⟩
  · rw [show (a == b) = false by simp [hab]] at hK
    exact (errIs_other a b hab w).mono fun e w' h => ⟨_, H, h.1, h.2 ▸ hw, hK⟩

/-- An error that is a number (0: none), as a value. -/
def errV (e : Nat) : Value := if e = 0 then .nilIface else .iface 46 (.int .i64 (e : Int))
theorem errV_zero : errV 0 = .nilIface := rfl
theorem errV_pos {e : Nat} (h : e ≠ 0) : errV e = .iface 46 (.int .i64 (e : Int)) := by simp [errV, h]
end Go.Proofs.Ytgnepkppmjabnaa
