/- The engine's fifteenth part: loops that count up. Conditions: none. -/
import Derived.Test.YtgnepkppmjabnaaEng14
namespace Go.Proofs.Ytgnepkppmjabnaa.Eng
open Go.RowKit
set_option linter.unusedVariables false
set_option linter.unusedSimpArgs false
section
variable {P : Program} {w0 : World} {N : Nat} {H : Heap}
/-- A loop whose rounds are counted: from 0 on, at most n of them. -/
theorem S_upto {c : Code} {s : Slots} {Q : Post} (n : Nat) (I : Nat → Slots → Heap → Prop) (h0 : I 0 s H)
    (round : ∀ k s H, k ≤ n → I k s H → S P w0 N c s H (thenQ (fun s' H' => k < n ∧ ∃ H'', H''.le H' ∧ I (k + 1) s' H'') Q)) : S P w0 N (.loop c) s H Q :=
  S_loopL (fun m s H => ∃ k, k ≤ n ∧ m = n - k ∧ I k s H) n ⟨0, Nat.zero_le _, rfl, h0⟩ fun m s H ⟨k, hk, hm, hI⟩ => (round k s H hk hI).mono fun e s' H' q => by
    cases e <;> first
      | (obtain ⟨h, H'', hl, hI'⟩ := q; exact ⟨n - (k + 1), by omega, H'', hl, k + 1, h, rfl, hI'⟩)
      | exact q
end
end Go.Proofs.Ytgnepkppmjabnaa.Eng
