/- Chapter 17, DeedsJunk: bytes that are a deed are the bytes of that deed alone. Conditions: none. -/
import Derived.Test.YtohgeigmdgpegaaRows
import Derived.Test.YtohgeigmdgpegaaRow
import Derived.Test.YtohgeigmdgpegaaK9
import Derived.Lib.RowBridge
import Derived.ChangeMaps5
namespace Go.Proofs.Ytohgeigmdgpegaa
open Go.ChangeShapes Go.WideShapes Go.ChangeAt Go.RowKit Eng
set_option linter.unusedVariables false
set_option linter.unusedSimpArgs false

theorem ownKnobs : ownKnob Try.prog.godebug = none := by kernel_rfl
theorem laidOut : laidOutB Try.prog = true := by kernel_rfl

set_option maxHeartbeats 800000 in
set_option maxRecDepth 100000 in
theorem deedsJunk_lifted (os : Os) (started : os.Started) (H : Type) (enc : TypeId × Value → H) :
    ReturnsInHanded {} Try.checked os 4 .any (Rows.deedsJunkSpec.pre6 enc Try.prog Try.f4 Rows.deedsJunkRow.domain false) (Rows.deedsJunkSpec.post enc Try.prog Try.f4 false true false false) := by
  refine returnsInHanded_of_change_sized (C := Try.checked) ownKnobs started (by kernel_rfl) Try.func4
    (ChangeSpec.witness6 (enc := enc) (C := Try.checked) false ⟨#[], #[.slice none 0 0, .int .u8 0, .slice none 0 0], []⟩ 8 (by kernel_rfl) (by kernel_rfl) (by kernel_rfl) (by kernel_rfl)) ?_
  intro W base args ds gs before hval0 hW _ _ _
  refine contract_of (tb := 4) laidOut (of_decide_eq_true (by kernel_rfl)) rfl Try.underlying4 rfl (fun ds h => ?_) hW ?_
  · rcases ds with _ | ⟨d1, _ | ⟨d2, _ | ⟨d3, _ | ⟨d4, ds⟩⟩⟩⟩ <;> first | rfl | (simp [Try.params4] at h)
  have hval : ∀ (j : Nat) t v, Try.f4.params[j]? = some t → args[j]? = some v → Value.okWide Try.prog W .any base t v := hval0
  obtain ⟨p, q, hA0, _, _, _, _⟩ := hW
  have hA : DataW.TrodAll enc Try.prog W 0 (fun _ => true) true Try.f4.params.toList args.toList ds p := hA0
  rw [Try.params4] at hA hval
  obtain ⟨v0, v1, v2, d0, d1, d2, p0, p1, p2, rfl, rfl, rfl, h0, h1, h2⟩ := trodAll_three hA
  obtain ⟨b, rb, lb, wb⟩ := open_rd Try.underlying26 Try.underlying5 (by kernel_rfl) (okWide_slice Try.underlying26 (hval 0 _ v0 rfl rfl)) h0
  obtain ⟨k, rfl, rfl, rfl, wk⟩ := open_int Try.underlying5 (hval 1 _ v1 rfl rfl) h1
  obtain ⟨s, rs, ls, ws⟩ := open_rd Try.underlying34 Try.underlying3 (by kernel_rfl) (okWide_slice Try.underlying34 (hval 2 _ v2 rfl rfl)) h2
  have hk := wf_u8 wk
  have hzw : ∀ n ∈ b, 0 ≤ n := fun n hn => (wf_u8 (wb n hn)).1
  rw [toNats hzw] at rb
  refine deedsJunk_F (b.map Int.toNat) k s v0 v2 (Ls.ofRd (by rw [List.length_map]; exact rb)) (by rw [List.length_map]; unfold maxLen at lb; omega) (fun c hc => ?_) hk.1 hk.2 rs (by unfold maxLen at ls; omega)
  obtain ⟨z, hz', rfl⟩ := List.mem_map.1 hc
  have := wf_u8 (wb z hz')
  omega

theorem deedsJunk_holds : Rows.DeedsJunkSaid :=
  OpenClaim.holds_of_wide 4 Try.f4 rfl rfl rfl rfl rfl rfl rfl ⟨rfl, rfl, rfl, rfl, rfl⟩ rfl rfl rfl rfl rfl (by kernel_rfl) Try.func4 (by kernel_rfl)
    (of_decide_eq_true (by kernel_rfl)) (by unfold Func.isWrapper; first | (rw [if_pos (by decide +kernel)]; kernel_rfl) | (rw [if_neg (by decide +kernel)]; exact ⟨rfl, rfl⟩))
    (fun os started H enc _ => deedsJunk_lifted os started H enc)

#print axioms deedsJunk_holds
end Go.Proofs.Ytohgeigmdgpegaa
