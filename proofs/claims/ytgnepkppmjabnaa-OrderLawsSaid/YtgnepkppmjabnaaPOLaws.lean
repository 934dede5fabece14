/- Chapter 4, OrderLaws: each name is above itself; what is above something that is above a third is above that; no two are above each other; pairs are. Conditions: none. -/
import Derived.Test.YtgnepkppmjabnaaRows
import Derived.Test.YtgnepkppmjabnaaRow
import Derived.Test.YtgnepkppmjabnaaO7
import Derived.Lib.RowBridge
namespace Go.Proofs.Ytgnepkppmjabnaa
open Go.ChangeShapes Go.WideShapes Go.ChangeAt Go.RowKit Eng
set_option linter.unusedVariables false
set_option linter.unusedSimpArgs false

theorem ownKnobs : ownKnob Try.prog.godebug = none := by kernel_rfl
theorem laidOut : laidOutB Try.prog = true := by kernel_rfl

set_option maxHeartbeats 800000 in
set_option maxRecDepth 100000 in
theorem orderLaws_lifted (os : Os) (started : os.Started) (H : Type) (enc : TypeId × Value → H) :
    ReturnsInHanded {} Try.checked os 4 .any (Rows.orderLawsSpec.pre6 enc Try.prog Try.f4 Rows.orderLawsRow.domain false) (Rows.orderLawsSpec.post enc Try.prog Try.f4 false true false false) := by
  refine returnsInHanded_of_change_sized (C := Try.checked) ownKnobs started (by kernel_rfl) Try.func4
    (ChangeSpec.witness6 (enc := enc) (C := Try.checked) false ⟨#[], #[.slice none 0 0, .int .i64 0], []⟩ 8 (by kernel_rfl) (by kernel_rfl) (by kernel_rfl) (by kernel_rfl)) ?_
  intro W base args ds gs before hval0 hW _ _ _
  refine contract_of (tb := 4) laidOut (of_decide_eq_true (by kernel_rfl)) rfl Try.underlying4 rfl (fun ds h => ?_) hW ?_
  · rcases ds with _ | ⟨d1, _ | ⟨d2, _ | ⟨d3, ds⟩⟩⟩ <;> first | rfl | (simp [Try.params4] at h)
  have hval : ∀ (j : Nat) t v, Try.f4.params[j]? = some t → args[j]? = some v → Value.okWide Try.prog W .any base t v := hval0
  obtain ⟨p, q, hA0, _, _, _, _⟩ := hW
  have hA : DataW.TrodAll enc Try.prog W 0 (fun _ => true) true Try.f4.params.toList args.toList ds p := hA0
  rw [Try.params4] at hA hval
  obtain ⟨v0, v1, d0, d1, p0, p1, rfl, rfl, rfl, h0, h1⟩ := trodAll_two hA
  obtain ⟨l, rl, ll, wl⟩ := open_rd Try.underlying22 Try.underlying3 (by kernel_rfl) (okWide_slice Try.underlying22 (hval 0 _ v0 rfl rfl)) h0
  obtain ⟨n, rfl, rfl, rfl, wn⟩ := open_int Try.underlying3 (hval 1 _ v1 rfl rfl) h1
  exact orderLaws_F l n v0 rl ll

theorem orderLaws_holds : Rows.OrderLawsSaid :=
  OpenClaim.holds_of_wide 4 Try.f4 rfl rfl rfl rfl rfl rfl rfl ⟨rfl, rfl, rfl, rfl, rfl⟩ rfl rfl rfl rfl rfl (by kernel_rfl) Try.func4 (by kernel_rfl)
    (of_decide_eq_true (by kernel_rfl)) (by unfold Func.isWrapper; first | (rw [if_pos (by decide +kernel)]; kernel_rfl) | (rw [if_neg (by decide +kernel)]; exact ⟨rfl, rfl⟩))
    (fun os started H enc _ => orderLaws_lifted os started H enc)

#print axioms orderLaws_holds
end Go.Proofs.Ytgnepkppmjabnaa
