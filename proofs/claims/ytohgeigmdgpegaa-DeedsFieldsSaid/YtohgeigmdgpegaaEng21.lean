/- The engine's twenty-first part: a range over a string. Conditions: none. -/
import Derived.Test.YtohgeigmdgpegaaEng20
import Derived.ChangeKeysEq
namespace Go.Proofs.Ytohgeigmdgpegaa.Eng
open Go.RowKit
set_option linter.unusedVariables false
set_option linter.unusedSimpArgs false
section
variable {P : Program} {w0 : World} {N : Nat} {H : Heap}
theorem range_str {t : TypeId} (hu : P.underlying t = some .string) (s : ByteArray) {K : Value → Heap → Prop}
    (hK : ∀ b, H b = none → w0.heap.size ≤ b → K (.pointer (some ⟨b, 0, none⟩)) (H.set b (.obj (.stringIter s 0)))) : OpK P w0 (Instr.range t (.string s)) H K := fun w hw => by
  refine ⟨_, _, _, ?_, hw.push (.stringIter s 0) (.obj (.stringIter s 0)) ⟨by simp, trivial⟩, hK w.heap.size hw.fresh hw.base⟩
  simp [Instr.range, run_underlying hu, newObj, Sem.run]
theorem next_str {b : Nat} {s : ByteArray} {pos ty : Nat} (hb : H b = some (.obj (.stringIter s pos))) {K : Value → Heap → Prop}
    (hK : pos < s.size → K (.tuple #[.bool true, goInt pos, .int .i32 (Utf8.decode s pos).1]) (H.set b (.obj (.stringIter s (pos + (Utf8.decode s pos).2)))))
    (hE : s.size ≤ pos → K (.tuple #[.bool false]) H) : OpK P w0 (Instr.next (.pointer (some ⟨b, 0, none⟩)) true ty) H K := fun w hw => by
  have hi := (hw.items b _ hb)
  have hlt := hw.lt hb
  have hg : w.heap[b]? = some (.stringIter s pos) := hi.2.1
  by_cases h : pos < s.size
  · refine ⟨_, { w with heap := w.heap.setIfInBounds b (.stringIter s (pos + (Utf8.decode s pos).2)) }, _, ?_, ?_, hK h⟩
    · simp [Instr.next, getObj, setObj, Sem.run, hg, h]
    · refine hw.write hi.1 _ ⟨?_, trivial⟩ rfl rfl rfl (by simp) fun k hk => ?_
      · simp [hlt]
      · exact Array.getElem?_setIfInBounds_ne (Ne.symm hk)
  · refine ⟨_, w, _, ?_, hw, hE (by omega)⟩
    simp [Instr.next, getObj, Sem.run, hg, h]
theorem PureK_index_arr {t e n : Nat} {k : IntKind} {i : Int} {cs : Array Value} {v : Value} {K : Value → Prop} (hu : P.underlying t = some (.array n e)) (hs : szOf P e = some 1) (hp : P.plainKey e = true) (h0 : 0 ≤ i) (h1 : i < (n : Int)) (hv : cs[i.toNat]? = some v) :
    PureK P (Instr.index t (.agg cs) (.int k i)) K ↔ K v := PureK_run fun w => by
  obtain ⟨inf, hi, hsz⟩ : ∃ inf, P.info? e = some inf ∧ inf.size = 1 := by
    unfold szOf at hs
    obtain ⟨x, hx, hy⟩ := Option.map_eq_some_iff.1 hs
    exact ⟨x, hx, hy⟩
  have hz : (sizeOf e).run P w = .ok 1 w := by simp [sizeOf, typeInfo, hi, hsz]
  have hpart := run_part_plain (P := P) w hp (off := i.toNat * 1) (by rw [Nat.mul_one]; exact hv)
  simp only [Instr.index, asIntOf, Sem.run_bind, Sem.run_pure, Result.andThen_ok, run_underlying hu, if_pos (And.intro h0 h1), hz, hpart]
end
end Go.Proofs.Ytohgeigmdgpegaa.Eng
