/- Chapter 5, DutyLess: who has less breaks no more; what is broken by a set is so by a greater one; without sets nothing is. Conditions: none. -/
import Derived.Test.YtgfdffedldnpfaaRows
import Derived.Test.YtgfdffedldnpfaaRow
import Derived.Test.YtgfdffedldnpfaaD8
import Derived.Lib.RowBridge
namespace Go.Proofs.Ytgfdffedldnpfaa
open Go.ChangeShapes Go.WideShapes Go.ChangeAt Go.RowKit Eng
set_option linter.unusedVariables false
set_option linter.unusedSimpArgs false

theorem ownKnobs : ownKnob Try.prog.godebug = none := by kernel_rfl
theorem laidOut : laidOutB Try.prog = true := by kernel_rfl

set_option maxHeartbeats 800000 in
set_option maxRecDepth 100000 in
theorem dutyLess_lifted (os : Os) (started : os.Started) (H : Type) (enc : TypeId × Value → H) :
    ReturnsInHanded {} Try.checked os 4 .any (Rows.dutyLessSpec.pre6 enc Try.prog Try.f4 Rows.dutyLessRow.domain false) (Rows.dutyLessSpec.post enc Try.prog Try.f4 false true false false) := by
  refine returnsInHanded_of_change_sized (C := Try.checked) ownKnobs started (by kernel_rfl) Try.func4
    (ChangeSpec.witness6 (enc := enc) (C := Try.checked) false ⟨#[], #[.int .u32 0, .int .u32 0, .slice none 0 0, .slice none 0 0], []⟩ 8 (by kernel_rfl) (by kernel_rfl) (by kernel_rfl) (by kernel_rfl)) ?_
  intro W base args ds gs before hval0 hW _ _ _
  refine contract_of (tb := 4) laidOut (of_decide_eq_true (by kernel_rfl)) rfl Try.underlying4 rfl (fun ds h => ?_) hW ?_
  · rcases ds with _ | ⟨d1, _ | ⟨d2, _ | ⟨d3, _ | ⟨d4, _ | ⟨d5, ds⟩⟩⟩⟩⟩ <;> first | rfl | (simp [Try.params4] at h)
  have hval : ∀ (j : Nat) t v, Try.f4.params[j]? = some t → args[j]? = some v → Value.okWide Try.prog W .any base t v := hval0
  obtain ⟨p, q, hA0, _, _, _, _⟩ := hW
  have hA : DataW.TrodAll enc Try.prog W 0 (fun _ => true) true Try.f4.params.toList args.toList ds p := hA0
  rw [Try.params4] at hA hval
  obtain ⟨v0, v1, v2, v3, d0, d1, d2, d3, p0, p1, p2, p3, rfl, rfl, rfl, h0, h1, h2, h3⟩ := trodAll_four hA
  obtain ⟨x, rfl, rfl, rfl, wx⟩ := open_int Try.underlying22 (hval 0 _ v0 rfl rfl) h0
  obtain ⟨y, rfl, rfl, rfl, wy⟩ := open_int Try.underlying22 (hval 1 _ v1 rfl rfl) h1
  obtain ⟨ns, hn, _, _⟩ := open_rd Try.underlying23 Try.underlying3 (by kernel_rfl) (okWide_slice Try.underlying23 (hval 2 _ v2 rfl rfl)) h2
  obtain ⟨zs, hz, _, hw⟩ := open_rd Try.underlying24 Try.underlying22 (by kernel_rfl) (okWide_slice Try.underlying24 (hval 3 _ v3 rfl rfl)) h3
  have hx := wf_u32 wx
  have hy := wf_u32 wy
  obtain ⟨m, rfl⟩ := Int.eq_ofNat_of_zero_le hx.1
  obtain ⟨n, rfl⟩ := Int.eq_ofNat_of_zero_le hy.1
  have hzw : ∀ n ∈ zs, 0 ≤ n := fun n hn => (wf_u32 (hw n hn)).1
  rw [toNats hzw] at hz
  refine dutyLess_F m n ns (zs.map Int.toNat) v2 v3 (by omega) (by omega) hn (by rw [List.length_map]; exact hz) fun r hr => ?_
  obtain ⟨z, hz', rfl⟩ := List.mem_map.1 hr
  have := wf_u32 (hw z hz')
  omega

theorem dutyLess_holds : Rows.DutyLessSaid :=
  OpenClaim.holds_of_wide 4 Try.f4 rfl rfl rfl rfl rfl rfl rfl ⟨rfl, rfl, rfl, rfl, rfl⟩ rfl rfl rfl rfl rfl (by kernel_rfl) Try.func4 (by kernel_rfl)
    (of_decide_eq_true (by kernel_rfl)) (by unfold Func.isWrapper; first | (rw [if_pos (by decide +kernel)]; kernel_rfl) | (rw [if_neg (by decide +kernel)]; exact ⟨rfl, rfl⟩))
    (fun os started H enc _ => dutyLess_lifted os started H enc)

#print axioms dutyLess_holds
end Go.Proofs.Ytgfdffedldnpfaa
