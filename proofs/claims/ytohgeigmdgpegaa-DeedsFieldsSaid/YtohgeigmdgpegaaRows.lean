/-
  No cell of these rows narrows 'for every input' (looked for: loops, veiled, ifaces, maps, wideKeys, modest, calm, conditions, laid).
  DERIVED. THE GIVEN ROWS OF THIS SEAT. 6 by the template 'for every input the law returns true; each argument reads behind the call as it read before'; 0 by the template 'total and deterministic' (their statements: YtohgeigmdgpegaaTotals.lean).
  GIVEN WITH THE SEED: the statements are not yours to turn. If you find one false, say at which input.
  Laid BY PROGRAM, IN A SANDBOX (cutbox-rows.mjs): the forced cells as the released guide's own fill.sh prints them over the translation 6ad1f2d879bb5651… (all of the seat's roots in one cut). By AI agents, Wed Nov 11 2026. No macro, syntax, notation, axiom, sorry.
-/
import Derived.Test.YtohgeigmdgpegaaChecked
import GoSem.Claim
import GoSem.ClaimJoined
import GoSem.ClaimMapViews
import Derived.JoinedTies
import Derived.KernelRfl
namespace Go.Proofs.Ytohgeigmdgpegaa
/- THE CELL 'sum', in the pinned program and in every row, IS THE sha256 OF THE DUMP (.gsa) THAT YtohgeigmdgpegaaProg.lean LOADS. Nothing in Lean hashes anything: it is a label: what it is worth is what the hold of that sum in a sandbox is worth. -/
noncomputable def Try.pinned : Pinned := { name := "ytohgeigmdgpegaa", sum := "6ad1f2d879bb5651d254c21ef687218cc6d96554229bf39b0733a22ddf6fc25f", checked := Try.checked }
namespace Rows
def none {H : Type} : Left H := { results := [], args := [] }

/-- 'imprimaturlaw17.DeedsSizes': WHATEVER THE INPUT: true; the input reads as it did. -/
def deedsSizesSpec : ChangeSpec := { name := "deedsSizes", fn := fun _ => fun
  | [d1, d2, d3, d4, d5] => { results := [.lit (.bool true)], args := [d1, d2, d3, d4, d5] }
  | _ => none }
def deedsSizesRow : OpenClaim := { program := "ytohgeigmdgpegaa", sum := "6ad1f2d879bb5651d254c21ef687218cc6d96554229bf39b0733a22ddf6fc25f", func := "imprimatur/imprimaturlaw17.DeedsSizes", spec := "deedsSizes", inPlace := ["internal/reflectlite.TypeOf"], unfollowed := true, recurses := true, apart := false }
def DeedsSizesSaid : Prop := deedsSizesRow.holds Try.pinned (OpenSpec.ofChange deedsSizesSpec)

/-- ITS FALSE NEIGHBOUR: 'it returns false'. Refute it at one input. -/
def deedsSizesWrong : ChangeSpec := { name := "deedsSizes", fn := fun _ => fun
  | [d1, d2, d3, d4, d5] => { results := [.lit (.bool false)], args := [d1, d2, d3, d4, d5] }
  | _ => none }
def DeedsSizesWrongFalsely : Prop := deedsSizesRow.holds Try.pinned (OpenSpec.ofChange deedsSizesWrong)

/-- 'imprimaturlaw17.DeedsJunk': WHATEVER THE INPUT: true; the input reads as it did. -/
def deedsJunkSpec : ChangeSpec := { name := "deedsJunk", fn := fun _ => fun
  | [d1, d2, d3] => { results := [.lit (.bool true)], args := [d1, d2, d3] }
  | _ => none }
def deedsJunkRow : OpenClaim := { program := "ytohgeigmdgpegaa", sum := "6ad1f2d879bb5651d254c21ef687218cc6d96554229bf39b0733a22ddf6fc25f", func := "imprimatur/imprimaturlaw17.DeedsJunk", spec := "deedsJunk", inPlace := ["internal/reflectlite.TypeOf"], unfollowed := true, recurses := true, apart := false }
def DeedsJunkSaid : Prop := deedsJunkRow.holds Try.pinned (OpenSpec.ofChange deedsJunkSpec)

/-- ITS FALSE NEIGHBOUR: 'it returns false'. Refute it at one input. -/
def deedsJunkWrong : ChangeSpec := { name := "deedsJunk", fn := fun _ => fun
  | [d1, d2, d3] => { results := [.lit (.bool false)], args := [d1, d2, d3] }
  | _ => none }
def DeedsJunkWrongFalsely : Prop := deedsJunkRow.holds Try.pinned (OpenSpec.ofChange deedsJunkWrong)

/-- 'imprimaturlaw17.DeedsPack': WHATEVER THE INPUT: true; the input reads as it did. -/
def deedsPackSpec : ChangeSpec := { name := "deedsPack", fn := fun _ => fun
  | [d1, d2, d3, d4] => { results := [.lit (.bool true)], args := [d1, d2, d3, d4] }
  | _ => none }
def deedsPackRow : OpenClaim := { program := "ytohgeigmdgpegaa", sum := "6ad1f2d879bb5651d254c21ef687218cc6d96554229bf39b0733a22ddf6fc25f", func := "imprimatur/imprimaturlaw17.DeedsPack", spec := "deedsPack", inPlace := ["internal/reflectlite.TypeOf"], unfollowed := true, recurses := true, apart := false }
def DeedsPackSaid : Prop := deedsPackRow.holds Try.pinned (OpenSpec.ofChange deedsPackSpec)

/-- ITS FALSE NEIGHBOUR: 'it returns false'. Refute it at one input. -/
def deedsPackWrong : ChangeSpec := { name := "deedsPack", fn := fun _ => fun
  | [d1, d2, d3, d4] => { results := [.lit (.bool false)], args := [d1, d2, d3, d4] }
  | _ => none }
def DeedsPackWrongFalsely : Prop := deedsPackRow.holds Try.pinned (OpenSpec.ofChange deedsPackWrong)

/-- 'imprimaturlaw17.DeedsUnpack': WHATEVER THE INPUT: true; the input reads as it did. -/
def deedsUnpackSpec : ChangeSpec := { name := "deedsUnpack", fn := fun _ => fun
  | [d1, d2, d3, d4, d5, d6] => { results := [.lit (.bool true)], args := [d1, d2, d3, d4, d5, d6] }
  | _ => none }
def deedsUnpackRow : OpenClaim := { program := "ytohgeigmdgpegaa", sum := "6ad1f2d879bb5651d254c21ef687218cc6d96554229bf39b0733a22ddf6fc25f", func := "imprimatur/imprimaturlaw17.DeedsUnpack", spec := "deedsUnpack", inPlace := ["internal/reflectlite.TypeOf"], unfollowed := true, recurses := true, apart := false }
def DeedsUnpackSaid : Prop := deedsUnpackRow.holds Try.pinned (OpenSpec.ofChange deedsUnpackSpec)

/-- ITS FALSE NEIGHBOUR: 'it returns false'. Refute it at one input. -/
def deedsUnpackWrong : ChangeSpec := { name := "deedsUnpack", fn := fun _ => fun
  | [d1, d2, d3, d4, d5, d6] => { results := [.lit (.bool false)], args := [d1, d2, d3, d4, d5, d6] }
  | _ => none }
def DeedsUnpackWrongFalsely : Prop := deedsUnpackRow.holds Try.pinned (OpenSpec.ofChange deedsUnpackWrong)

/-- 'imprimaturlaw17.DeedsBack': WHATEVER THE INPUT: true; the input reads as it did. -/
def deedsBackSpec : ChangeSpec := { name := "deedsBack", fn := fun _ => fun
  | [d1, d2, d3, d4] => { results := [.lit (.bool true)], args := [d1, d2, d3, d4] }
  | _ => none }
def deedsBackRow : OpenClaim := { program := "ytohgeigmdgpegaa", sum := "6ad1f2d879bb5651d254c21ef687218cc6d96554229bf39b0733a22ddf6fc25f", func := "imprimatur/imprimaturlaw17.DeedsBack", spec := "deedsBack", inPlace := ["internal/reflectlite.TypeOf"], unfollowed := true, recurses := true, apart := false }
def DeedsBackSaid : Prop := deedsBackRow.holds Try.pinned (OpenSpec.ofChange deedsBackSpec)

/-- ITS FALSE NEIGHBOUR: 'it returns false'. Refute it at one input. -/
def deedsBackWrong : ChangeSpec := { name := "deedsBack", fn := fun _ => fun
  | [d1, d2, d3, d4] => { results := [.lit (.bool false)], args := [d1, d2, d3, d4] }
  | _ => none }
def DeedsBackWrongFalsely : Prop := deedsBackRow.holds Try.pinned (OpenSpec.ofChange deedsBackWrong)

/-- 'imprimaturlaw17.DeedsFields': WHATEVER THE INPUT: true; the input reads as it did. -/
def deedsFieldsSpec : ChangeSpec := { name := "deedsFields", fn := fun _ => fun
  | [d1, d2, d3] => { results := [.lit (.bool true)], args := [d1, d2, d3] }
  | _ => none }
def deedsFieldsRow : OpenClaim := { program := "ytohgeigmdgpegaa", sum := "6ad1f2d879bb5651d254c21ef687218cc6d96554229bf39b0733a22ddf6fc25f", func := "imprimatur/imprimaturlaw17.DeedsFields", spec := "deedsFields", inPlace := ["internal/reflectlite.TypeOf"], unfollowed := true, recurses := true, apart := false }
def DeedsFieldsSaid : Prop := deedsFieldsRow.holds Try.pinned (OpenSpec.ofChange deedsFieldsSpec)

/-- ITS FALSE NEIGHBOUR: 'it returns false'. Refute it at one input. -/
def deedsFieldsWrong : ChangeSpec := { name := "deedsFields", fn := fun _ => fun
  | [d1, d2, d3] => { results := [.lit (.bool false)], args := [d1, d2, d3] }
  | _ => none }
def DeedsFieldsWrongFalsely : Prop := deedsFieldsRow.holds Try.pinned (OpenSpec.ofChange deedsFieldsWrong)

/- THE SECOND FORM. 'bulk': how many values and letters a reading holds, each counted each time it is reached (what is shared counts as often as it is met; a slice's spare places count too). A statement '..UptoSaid' is the law's where the arguments, and the package variables that the reading takes, are together of bulk at most 1048576: NARROWER than '..Said'. Prove '..Said' where nothing that the law and all that it calls make is longer than what came in: it says more and counts as full. Else prove '..UptoSaid'. A law counts once. -/
mutual
def uptoBulk {H : Type} : DataW H → Nat
  | .lit (.string bytes) => bytes.length + 1
  | .lit _ => 1
  | .nil => 1
  | .ptr d => uptoBulk d + 1
  | .slice elems spare => uptoBulkAll elems + uptoBulkAll spare + 1
  | .agg parts => uptoBulkAll parts + 1
  | .iface _ d => uptoBulk d + 1
  | .map entries => uptoBulkEntries entries + 1
  | .held _ => 1
def uptoBulkAll {H : Type} : List (DataW H) → Nat
  | [] => 0
  | d :: r => uptoBulk d + uptoBulkAll r
def uptoBulkEntries {H : Type} : List (Lit × DataW H) → Nat
  | [] => 0
  | x :: r => uptoBulkEntry x + uptoBulkEntries r
def uptoBulkEntry {H : Type} : Lit × DataW H → Nat
  | (.string bytes, d) => bytes.length + uptoBulk d + 1
  | (_, d) => uptoBulk d + 1
 end
def uptoSmall : (H : Type) → List (DataW H) → Bool := fun _ ds => decide (uptoBulkAll ds ≤ 1048576)
def OpenSpec.upto (s : _root_.Go.ChangeSpec) : _root_.Go.OpenSpec := { _root_.Go.OpenSpec.ofChange s with cond := some uptoSmall }

/-- 'imprimaturlaw17.DeedsSizes', WHERE WHAT IT READS IS OF BULK AT MOST 1048576: true; the input reads as it did. -/
def deedsSizesUptoRow : OpenClaim := { program := "ytohgeigmdgpegaa", sum := "6ad1f2d879bb5651d254c21ef687218cc6d96554229bf39b0733a22ddf6fc25f", func := "imprimatur/imprimaturlaw17.DeedsSizes", spec := "deedsSizes", inPlace := ["internal/reflectlite.TypeOf"], unfollowed := true, recurses := true, apart := false, narrowed := true }
def DeedsSizesUptoSaid : Prop := deedsSizesUptoRow.holds Try.pinned (OpenSpec.upto deedsSizesSpec)

/-- 'imprimaturlaw17.DeedsJunk', WHERE WHAT IT READS IS OF BULK AT MOST 1048576: true; the input reads as it did. -/
def deedsJunkUptoRow : OpenClaim := { program := "ytohgeigmdgpegaa", sum := "6ad1f2d879bb5651d254c21ef687218cc6d96554229bf39b0733a22ddf6fc25f", func := "imprimatur/imprimaturlaw17.DeedsJunk", spec := "deedsJunk", inPlace := ["internal/reflectlite.TypeOf"], unfollowed := true, recurses := true, apart := false, narrowed := true }
def DeedsJunkUptoSaid : Prop := deedsJunkUptoRow.holds Try.pinned (OpenSpec.upto deedsJunkSpec)

/-- 'imprimaturlaw17.DeedsPack', WHERE WHAT IT READS IS OF BULK AT MOST 1048576: true; the input reads as it did. -/
def deedsPackUptoRow : OpenClaim := { program := "ytohgeigmdgpegaa", sum := "6ad1f2d879bb5651d254c21ef687218cc6d96554229bf39b0733a22ddf6fc25f", func := "imprimatur/imprimaturlaw17.DeedsPack", spec := "deedsPack", inPlace := ["internal/reflectlite.TypeOf"], unfollowed := true, recurses := true, apart := false, narrowed := true }
def DeedsPackUptoSaid : Prop := deedsPackUptoRow.holds Try.pinned (OpenSpec.upto deedsPackSpec)

/-- 'imprimaturlaw17.DeedsUnpack', WHERE WHAT IT READS IS OF BULK AT MOST 1048576: true; the input reads as it did. -/
def deedsUnpackUptoRow : OpenClaim := { program := "ytohgeigmdgpegaa", sum := "6ad1f2d879bb5651d254c21ef687218cc6d96554229bf39b0733a22ddf6fc25f", func := "imprimatur/imprimaturlaw17.DeedsUnpack", spec := "deedsUnpack", inPlace := ["internal/reflectlite.TypeOf"], unfollowed := true, recurses := true, apart := false, narrowed := true }
def DeedsUnpackUptoSaid : Prop := deedsUnpackUptoRow.holds Try.pinned (OpenSpec.upto deedsUnpackSpec)

/-- 'imprimaturlaw17.DeedsBack', WHERE WHAT IT READS IS OF BULK AT MOST 1048576: true; the input reads as it did. -/
def deedsBackUptoRow : OpenClaim := { program := "ytohgeigmdgpegaa", sum := "6ad1f2d879bb5651d254c21ef687218cc6d96554229bf39b0733a22ddf6fc25f", func := "imprimatur/imprimaturlaw17.DeedsBack", spec := "deedsBack", inPlace := ["internal/reflectlite.TypeOf"], unfollowed := true, recurses := true, apart := false, narrowed := true }
def DeedsBackUptoSaid : Prop := deedsBackUptoRow.holds Try.pinned (OpenSpec.upto deedsBackSpec)

/-- 'imprimaturlaw17.DeedsFields', WHERE WHAT IT READS IS OF BULK AT MOST 1048576: true; the input reads as it did. -/
def deedsFieldsUptoRow : OpenClaim := { program := "ytohgeigmdgpegaa", sum := "6ad1f2d879bb5651d254c21ef687218cc6d96554229bf39b0733a22ddf6fc25f", func := "imprimatur/imprimaturlaw17.DeedsFields", spec := "deedsFields", inPlace := ["internal/reflectlite.TypeOf"], unfollowed := true, recurses := true, apart := false, narrowed := true }
def DeedsFieldsUptoSaid : Prop := deedsFieldsUptoRow.holds Try.pinned (OpenSpec.upto deedsFieldsSpec)

end Rows
end Go.Proofs.Ytohgeigmdgpegaa
