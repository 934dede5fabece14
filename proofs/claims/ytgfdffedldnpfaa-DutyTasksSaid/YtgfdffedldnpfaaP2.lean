/- Chapter 5, DutyTasks: whether a task may be done by who did any others is told by both texts alike. Conditions: none. -/
import Derived.Test.YtgfdffedldnpfaaRows
import Derived.Test.YtgfdffedldnpfaaRow
import Derived.Test.YtgfdffedldnpfaaD7
import Derived.Lib.RowBridge
namespace Go.Proofs.Ytgfdffedldnpfaa
open Go.ChangeShapes Go.WideShapes Go.ChangeAt Go.RowKit Eng
set_option linter.unusedVariables false
set_option linter.unusedSimpArgs false

theorem ownKnobs : ownKnob Try.prog.godebug = none := by kernel_rfl
theorem laidOut : laidOutB Try.prog = true := by kernel_rfl

set_option maxHeartbeats 800000 in
set_option maxRecDepth 100000 in
theorem dutyTasks_lifted (os : Os) (started : os.Started) (H : Type) (enc : TypeId × Value → H) :
    ReturnsInHanded {} Try.checked os 5 .any (Rows.dutyTasksSpec.pre6 enc Try.prog Try.f5 Rows.dutyTasksRow.domain false) (Rows.dutyTasksSpec.post enc Try.prog Try.f5 false true false false) := by
  refine returnsInHanded_of_change_sized (C := Try.checked) ownKnobs started (by kernel_rfl) Try.func5
    (ChangeSpec.witness6 (enc := enc) (C := Try.checked) false ⟨#[], #[.slice none 0 0, .int .i64 0, .slice none 0 0], []⟩ 8 (by kernel_rfl) (by kernel_rfl) (by kernel_rfl) (by kernel_rfl)) ?_
  intro W base args ds gs before hval0 hW _ _ _
  refine contract_of (tb := 4) laidOut (of_decide_eq_true (by kernel_rfl)) rfl Try.underlying4 rfl (fun ds h => ?_) hW ?_
  · rcases ds with _ | ⟨d1, _ | ⟨d2, _ | ⟨d3, _ | ⟨d4, ds⟩⟩⟩⟩ <;> first | rfl | (simp [Try.params5] at h)
  have hval : ∀ (j : Nat) t v, Try.f5.params[j]? = some t → args[j]? = some v → Value.okWide Try.prog W .any base t v := hval0
  obtain ⟨p, q, hA0, _, _, _, _⟩ := hW
  have hA : DataW.TrodAll enc Try.prog W 0 (fun _ => true) true Try.f5.params.toList args.toList ds p := hA0
  rw [Try.params5] at hA hval
  obtain ⟨v0, v1, v2, d0, d1, d2, p0, p1, p2, rfl, rfl, rfl, h0, h1, h2⟩ := trodAll_three hA
  obtain ⟨done, hd, _, _⟩ := open_rd Try.underlying23 Try.underlying3 (by kernel_rfl) (okWide_slice Try.underlying23 (hval 0 _ v0 rfl rfl)) h0
  obtain ⟨x, rfl, rfl, rfl, wx⟩ := open_int Try.underlying3 (hval 1 _ v1 rfl rfl) h1
  obtain ⟨l, hl⟩ := open_ll Try.underlying38 Try.underlying23 Try.underlying3 (by kernel_rfl) (by kernel_rfl) (okWide_slice Try.underlying38 (hval 2 _ v2 rfl rfl)) h2
  exact dutyTasksLaw_F done x l v0 v2 hd hl

theorem dutyTasks_holds : Rows.DutyTasksSaid :=
  OpenClaim.holds_of_wide 5 Try.f5 rfl rfl rfl rfl rfl rfl rfl ⟨rfl, rfl, rfl, rfl, rfl⟩ rfl rfl rfl rfl rfl (by kernel_rfl) Try.func5 (by kernel_rfl)
    (of_decide_eq_true (by kernel_rfl)) (by unfold Func.isWrapper; first | (rw [if_pos (by decide +kernel)]; kernel_rfl) | (rw [if_neg (by decide +kernel)]; exact ⟨rfl, rfl⟩))
    (fun os started H enc _ => dutyTasks_lifted os started H enc)

#print axioms dutyTasks_holds
end Go.Proofs.Ytgfdffedldnpfaa
