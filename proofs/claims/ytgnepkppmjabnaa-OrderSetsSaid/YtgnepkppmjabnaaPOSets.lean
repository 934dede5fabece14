/- Chapter 4, OrderSets: Down and Up hold a set, do not grow when done again, are parts of one another's ways, and follow Above, name by name. Conditions: none. -/
import Derived.Test.YtgnepkppmjabnaaRows
import Derived.Test.YtgnepkppmjabnaaRow
import Derived.Test.YtgnepkppmjabnaaO8
import Derived.Lib.RowBridge
namespace Go.Proofs.Ytgnepkppmjabnaa
open Go.ChangeShapes Go.WideShapes Go.ChangeAt Go.RowKit Eng
set_option linter.unusedVariables false
set_option linter.unusedSimpArgs false

theorem ownKnobs : ownKnob Try.prog.godebug = none := by kernel_rfl
theorem laidOut : laidOutB Try.prog = true := by kernel_rfl

set_option maxHeartbeats 800000 in
set_option maxRecDepth 100000 in
theorem orderSets_lifted (os : Os) (started : os.Started) (H : Type) (enc : TypeId × Value → H) :
    ReturnsInHanded {} Try.checked os 5 .any (Rows.orderSetsSpec.pre6 enc Try.prog Try.f5 Rows.orderSetsRow.domain false) (Rows.orderSetsSpec.post enc Try.prog Try.f5 false true false false) := by
  refine returnsInHanded_of_change_sized (C := Try.checked) ownKnobs started (by kernel_rfl) Try.func5
    (ChangeSpec.witness6 (enc := enc) (C := Try.checked) false ⟨#[], #[.slice none 0 0, .int .i64 0, .int .u32 0, .int .u32 0], []⟩ 8 (by kernel_rfl) (by kernel_rfl) (by kernel_rfl) (by kernel_rfl)) ?_
  intro W base args ds gs before hval0 hW _ _ _
  refine contract_of (tb := 4) laidOut (of_decide_eq_true (by kernel_rfl)) rfl Try.underlying4 rfl (fun ds h => ?_) hW ?_
  · rcases ds with _ | ⟨d1, _ | ⟨d2, _ | ⟨d3, _ | ⟨d4, _ | ⟨d5, ds⟩⟩⟩⟩⟩ <;> first | rfl | (simp [Try.params5] at h)
  have hval : ∀ (j : Nat) t v, Try.f5.params[j]? = some t → args[j]? = some v → Value.okWide Try.prog W .any base t v := hval0
  obtain ⟨p, q, hA0, _, _, _, _⟩ := hW
  have hA : DataW.TrodAll enc Try.prog W 0 (fun _ => true) true Try.f5.params.toList args.toList ds p := hA0
  rw [Try.params5] at hA hval
  obtain ⟨v0, v1, v2, v3, d0, d1, d2, d3, p0, p1, p2, p3, rfl, rfl, rfl, h0, h1, h2, h3⟩ := trodAll_four hA
  obtain ⟨l, rl, ll, wl⟩ := open_rd Try.underlying22 Try.underlying3 (by kernel_rfl) (okWide_slice Try.underlying22 (hval 0 _ v0 rfl rfl)) h0
  obtain ⟨n, rfl, rfl, rfl, wn⟩ := open_int Try.underlying3 (hval 1 _ v1 rfl rfl) h1
  obtain ⟨s, rfl, rfl, rfl, ws⟩ := open_int Try.underlying41 (hval 2 _ v2 rfl rfl) h2
  obtain ⟨t, rfl, rfl, rfl, wt⟩ := open_int Try.underlying41 (hval 3 _ v3 rfl rfl) h3
  obtain ⟨s, rfl⟩ := Int.eq_ofNat_of_zero_le (wf_u32 ws).1
  obtain ⟨t, rfl⟩ := Int.eq_ofNat_of_zero_le (wf_u32 wt).1
  have hs := wf_u32 ws
  have ht := wf_u32 wt
  exact orderSets_F l n s t v0 rl ll (by omega) (by omega)

theorem orderSets_holds : Rows.OrderSetsSaid :=
  OpenClaim.holds_of_wide 5 Try.f5 rfl rfl rfl rfl rfl rfl rfl ⟨rfl, rfl, rfl, rfl, rfl⟩ rfl rfl rfl rfl rfl (by kernel_rfl) Try.func5 (by kernel_rfl)
    (of_decide_eq_true (by kernel_rfl)) (by unfold Func.isWrapper; first | (rw [if_pos (by decide +kernel)]; kernel_rfl) | (rw [if_neg (by decide +kernel)]; exact ⟨rfl, rfl⟩))
    (fun os started H enc _ => orderSets_lifted os started H enc)

#print axioms orderSets_holds
end Go.Proofs.Ytgnepkppmjabnaa
