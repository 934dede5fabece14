/- Chapter 5, DutySets: how many there are of a set, and the first of any sets that is broken, are by both texts alike. Conditions: none. -/
import Derived.Test.YtgfdffedldnpfaaRows
import Derived.Test.YtgfdffedldnpfaaRow
import Derived.Test.YtgfdffedldnpfaaD6
import Derived.Lib.RowBridge
namespace Go.Proofs.Ytgfdffedldnpfaa
open Go.ChangeShapes Go.WideShapes Go.ChangeAt Go.RowKit Eng
set_option linter.unusedVariables false
set_option linter.unusedSimpArgs false

theorem ownKnobs : ownKnob Try.prog.godebug = none := by kernel_rfl
theorem laidOut : laidOutB Try.prog = true := by kernel_rfl

set_option maxHeartbeats 800000 in
set_option maxRecDepth 100000 in
theorem dutySets_lifted (os : Os) (started : os.Started) (H : Type) (enc : TypeId × Value → H) :
    ReturnsInHanded {} Try.checked os 3 .any (Rows.dutySetsSpec.pre6 enc Try.prog Try.f3 Rows.dutySetsRow.domain false) (Rows.dutySetsSpec.post enc Try.prog Try.f3 false true false false) := by
  refine returnsInHanded_of_change_sized (C := Try.checked) ownKnobs started (by kernel_rfl) Try.func3
    (ChangeSpec.witness6 (enc := enc) (C := Try.checked) false ⟨#[], #[.int .u32 0, .slice none 0 0, .slice none 0 0], []⟩ 8 (by kernel_rfl) (by kernel_rfl) (by kernel_rfl) (by kernel_rfl)) ?_
  intro W base args ds gs before hval0 hW _ _ _
  refine contract_of (tb := 4) laidOut (of_decide_eq_true (by kernel_rfl)) rfl Try.underlying4 rfl (fun ds h => ?_) hW ?_
  · rcases ds with _ | ⟨d1, _ | ⟨d2, _ | ⟨d3, _ | ⟨d4, ds⟩⟩⟩⟩ <;> first | rfl | (simp [Try.params3] at h)
  have hval : ∀ (j : Nat) t v, Try.f3.params[j]? = some t → args[j]? = some v → Value.okWide Try.prog W .any base t v := hval0
  obtain ⟨p, q, hA0, _, _, _, _⟩ := hW
  have hA : DataW.TrodAll enc Try.prog W 0 (fun _ => true) true Try.f3.params.toList args.toList ds p := hA0
  rw [Try.params3] at hA hval
  obtain ⟨v0, v1, v2, d0, d1, d2, p0, p1, p2, rfl, rfl, rfl, h0, h1, h2⟩ := trodAll_three hA
  obtain ⟨x, rfl, rfl, rfl, wx⟩ := open_int Try.underlying22 (hval 0 _ v0 rfl rfl) h0
  obtain ⟨ns, hn, _, _⟩ := open_rd Try.underlying23 Try.underlying3 (by kernel_rfl) (okWide_slice Try.underlying23 (hval 1 _ v1 rfl rfl)) h1
  obtain ⟨zs, hz, _, hw⟩ := open_rd Try.underlying24 Try.underlying22 (by kernel_rfl) (okWide_slice Try.underlying24 (hval 2 _ v2 rfl rfl)) h2
  have hx := wf_u32 wx
  obtain ⟨m, rfl⟩ := Int.eq_ofNat_of_zero_le hx.1
  have hzw : ∀ n ∈ zs, 0 ≤ n := fun n hn => (wf_u32 (hw n hn)).1
  rw [toNats hzw] at hz
  refine dutySets_F m ns (zs.map Int.toNat) v1 v2 (by omega) hn (by rw [List.length_map]; exact hz) fun r hr => ?_
  obtain ⟨z, hz', rfl⟩ := List.mem_map.1 hr
  have := wf_u32 (hw z hz')
  omega

theorem dutySets_holds : Rows.DutySetsSaid :=
  OpenClaim.holds_of_wide 3 Try.f3 rfl rfl rfl rfl rfl rfl rfl ⟨rfl, rfl, rfl, rfl, rfl⟩ rfl rfl rfl rfl rfl (by kernel_rfl) Try.func3 (by kernel_rfl)
    (of_decide_eq_true (by kernel_rfl)) (by unfold Func.isWrapper; first | (rw [if_pos (by decide +kernel)]; kernel_rfl) | (rw [if_neg (by decide +kernel)]; exact ⟨rfl, rfl⟩))
    (fun os started H enc _ => dutySets_lifted os started H enc)

#print axioms dutySets_holds
end Go.Proofs.Ytgfdffedldnpfaa
