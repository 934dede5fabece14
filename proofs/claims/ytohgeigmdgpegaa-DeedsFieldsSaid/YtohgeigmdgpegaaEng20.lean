/- The engine's twentieth part: append of made bytes. Conditions: none. -/
import Derived.Test.YtohgeigmdgpegaaEng19
namespace Go.Proofs.Ytohgeigmdgpegaa.Eng
open Go.RowKit
set_option linter.unusedVariables false
set_option linter.unusedSimpArgs false
section
variable {P : Program} {w0 : World} {N : Nat} {H : Heap}
/-- m bytes of zero. -/
def zerosB (m : Nat) : ByteArray := ⟨Array.replicate m 0⟩
theorem zerosB_size (m : Nat) : (zerosB m).size = m := by simp [zerosB, ByteArray.size]
theorem strCells_zeros (m : Nat) : strCells (zerosB m) = List.replicate m (.int .u8 0) := by
  simp only [strCells, zerosB, Array.toList_replicate, List.map_replicate]
  rfl
theorem zeroCells_byte (m : Nat) : Builtin.zeroCells (Value.int .u8 0).cells m = (strCells (zerosB m)).toArray := by
  rw [strCells_zeros]
  apply Array.ext
  · simp [Builtin.zeroCells, Value.cells]
  · intro i h1 h2
    simp only [Builtin.zeroCells, Value.cells, List.size_toArray, List.length_cons, List.length_nil, Nat.zero_add, Nat.mod_one, List.getElem_toArray, List.getElem_replicate, Array.getElem_map]
    rfl
theorem run_first_zeros (m : Nat) (w : World) : (Builtin.firstCells 1 m (.string (zerosB m))).run P w = .ok (strCells (zerosB m)).toArray w := by
  simp only [Builtin.firstCells, Sem.run_pure]
  congr 1
  apply Array.ext'
  simp only [strCells, Array.toList_map, ByteArray.data_extract, Array.toList_extract]
  simp [zerosB]
theorem run_appendZ {T U S e ty : TypeId} {k : IntKind} (E : Elt P T e 1 1 (.int .u8 0)) (hU : P.underlying U = some (.int k)) (hS : P.underlying S = some .string) {A : Option Addr} {n c m : Nat} {w : World} (h : n + m ≤ 140737488355328) (hnc : n ≤ c) :
    (Builtin.append_ #[T, U] ty #[.slice A n c, .int k (m : Int)]).run P w = (Builtin.append_ #[T, S] ty #[.slice A n c, .string (zerosB m)]).run P w := by
  obtain ⟨i, hib, hi⟩ := E.run_info
  have hw : IntKind.wrap .i64 (m : Int) = (m : Int) := by rw [IntKind.wrap_i64]; omega
  have hw0 : IntKind.wrap .i64 0 = 0 := by decide
  have ha0 : ∀ w, (asInt (.int k 0)).run P w = .ok (0 : Int) w := fun w => by simp [asInt, asIntOf]
  have hm0 : ¬ ((m : Int) < 0) := by omega
  have hm1 : ¬ (281474976710656 < (m : Int)) := by omega
  have hl : ∀ w, (Builtin.lenOf (.string (zerosB m))).run P w = .ok m w := fun w => by simp [Builtin.lenOf, zerosB_size]
  have ha : ∀ w, (asInt (.int k (m : Int))).run P w = .ok (m : Int) w := fun w => by simp [asInt, asIntOf]
  have hz : ∀ w, (zeroValue e).run P w = .ok (.int .u8 0) w := E.run_zero
  by_cases hn : n + m ≤ c
  · cases A with
    | none =>
      by_cases hm : m = 0
      · subst hm
        simp [Builtin.append_, run_underlying E.und, run_underlying hU, run_underlying hS, E.run_size, hl, ha, hn, hw, hm0, hm1, hi, hib, run_first_zeros, hz, hw0, ha0, strCells_zeros, hnc]
      · simp [Builtin.append_, run_underlying E.und, run_underlying hU, run_underlying hS, E.run_size, hl, ha, hn, hw, hm0, hm1, hi, hib, hm, run_first_zeros, hz]
    | some a =>
      by_cases hm : m = 0
      · subst hm
        simp [Builtin.append_, run_underlying E.und, run_underlying hU, run_underlying hS, E.run_size, hl, ha, hn, hw, hm0, hm1, hi, hib, run_first_zeros, hz, strCells_zeros, hw0, ha0, hnc]
      · simp [Builtin.append_, run_underlying E.und, run_underlying hU, run_underlying hS, E.run_size, hl, ha, hn, hw, hm0, hm1, hi, hib, hm, run_first_zeros, hz, zeroCells_byte]
  · have h2 : ¬ ((9223372036854775807 : Int) < (n : Int) + (m : Int)) := by omega
    have h3 : ¬ 281474976710656 < Builtin.nextslicecap (n + m) c := by have := growslice_fits (need := n + m) (old := c) (bytes := 1) (by omega) (by omega); omega
    have hm : m ≠ 0 := by omega
    simp [Builtin.append_, run_underlying E.und, run_underlying hU, run_underlying hS, E.run_size, hl, ha, hn, hw, hm0, hm1, hi, hib, hm, run_first_zeros, hz, zeroCells_byte, h2, h3]
/-- append(v, make([]byte, m)...). -/
theorem own_appendZ {T U S e ty : TypeId} {k : IntKind} (E : Elt P T e 1 1 (.int .u8 0)) (hU : P.underlying U = some (.int k)) (hS : P.underlying S = some .string) {n m : Nat} {v : Value} {cs : List Value} (hv : Own w0 H e 1 v n cs) (h1 : cs.all Value.oneCell' = true)
    (hlim : n + m ≤ 140737488355328) {K : Value → Heap → Prop}
    (hK : ∀ v' H', Own w0 H' e 1 v' (n + m) (cs ++ List.replicate m (.int .u8 0)) → Rest H v H' v' → K v' H') :
    OpK P w0 (Builtin.append_ #[T, U] ty #[v, .int k (m : Int)]) H K := by
  have hv' := hv
  have hx : Srcs P w0 H 1 (.string (zerosB m)) m (strCells (zerosB m)) := by have := srcs_str (P := P) (w0 := w0) (H := H) (zerosB m); rwa [zerosB_size] at this
  have key : OpK P w0 (Builtin.append_ #[T, S] ty #[v, .string (zerosB m)]) H K :=
    own_append (ty := ty) E (.inr hS) hv h1 hx (by omega) (by omega) (fun v' H' ho hr => hK v' H' (by rw [← strCells_zeros]; exact ho) hr)
  have hsl : ∃ A c, v = .slice A n c ∧ n ≤ c := by
    rcases hv' with ⟨rfl, rfl, rfl⟩ | ⟨b, c, rfl, hc, _⟩
    · exact ⟨none, 0, rfl, Nat.le_refl _⟩
    · exact ⟨_, c, rfl, hc⟩
  obtain ⟨A, c, rfl, hc⟩ := hsl
  intro w hw
  rw [run_appendZ E hU hS hlim hc]
  exact key w hw
theorem own_appendZB {T U S e ty : TypeId} {k : IntKind} (E : Elt P T e 1 1 (.int .u8 0)) (hU : P.underlying U = some (.int k)) (hS : P.underlying S = some .string) {HB : Heap} {n m : Nat} {v : Value} {cs : List Value} (hv : OwnB w0 HB H e 1 v n cs) (h1 : cs.all Value.oneCell' = true)
    (hlim : n + m ≤ 140737488355328) {K : Value → Heap → Prop}
    (hK : ∀ v' H', OwnB w0 HB H' e 1 v' (n + m) (cs ++ List.replicate m (.int .u8 0)) → K v' H') : OpK P w0 (Builtin.append_ #[T, U] ty #[v, .int k (m : Int)]) H K :=
  own_appendZ E hU hS hv.own h1 hlim fun v' H' ho hr => hK v' H' (hv.app ho hr)
end
end Go.Proofs.Ytohgeigmdgpegaa.Eng
