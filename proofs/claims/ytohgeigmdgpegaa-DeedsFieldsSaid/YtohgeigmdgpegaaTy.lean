/- Facts on the types and the functions that this program names, each by the kernel. Conditions: none. -/
import Derived.Test.YtohgeigmdgpegaaEng18
import Derived.Test.YtohgeigmdgpegaaProg
import Derived.KernelRfl
namespace Go.Proofs.Ytohgeigmdgpegaa
open Go.RowKit Eng
set_option linter.unusedVariables false
set_option linter.unusedSimpArgs false
set_option maxRecDepth 10000
theorem mixed : Try.prog.follows .mixedOrders = true := by kernel_rfl
theorem by25 : Try.prog.bytesOf 25 = 112 := by kernel_rfl
theorem by3 : Try.prog.bytesOf 3 = 8 := by kernel_rfl
theorem by5 : Try.prog.bytesOf 5 = 1 := by kernel_rfl
theorem by9 : Try.prog.bytesOf 9 = 16 := by kernel_rfl
theorem ce25 : Try.prog.cellsOf 25 = 9 := by kernel_rfl
theorem ce3 : Try.prog.cellsOf 3 = 1 := by kernel_rfl
theorem ce5 : Try.prog.cellsOf 5 = 1 := by kernel_rfl
theorem ce9 : Try.prog.cellsOf 9 = 1 := by kernel_rfl
theorem el26 : elemOf' Try.prog 26 = some 5 := by kernel_rfl
theorem el34 : elemOf' Try.prog 34 = some 3 := by kernel_rfl
theorem el57 : elemOf' Try.prog 57 = some 25 := by kernel_rfl
theorem el60 : elemOf' Try.prog 60 = some 9 := by kernel_rfl
theorem sz25 : szOf Try.prog 25 = some 9 := by kernel_rfl
theorem sz26 : szOf Try.prog 26 = some 1 := by kernel_rfl
theorem sz28 : szOf Try.prog 28 = some 1 := by kernel_rfl
theorem sz3 : szOf Try.prog 3 = some 1 := by kernel_rfl
theorem sz31 : szOf Try.prog 31 = some 3 := by kernel_rfl
theorem sz4 : szOf Try.prog 4 = some 1 := by kernel_rfl
theorem sz5 : szOf Try.prog 5 = some 1 := by kernel_rfl
theorem sz81 : szOf Try.prog 81 = some 8 := by kernel_rfl
theorem sz9 : szOf Try.prog 9 = some 1 := by kernel_rfl
theorem zo25 : zeroOf Try.prog 25 = some (.agg #[.int .i64 0, .int .i64 0, .int .i64 0, .int .i64 0, .string ⟨#[]⟩, .string ⟨#[]⟩, .string ⟨#[]⟩, .string ⟨#[]⟩, .string ⟨#[]⟩]) := by kernel_rfl
theorem zo3 : zeroOf Try.prog 3 = some (.int .i64 0) := by kernel_rfl
theorem zo31 : zeroOf Try.prog 31 = some (.agg #[.int .i64 0, .int .i64 0, .int .i64 0]) := by kernel_rfl
theorem zo45 : zeroOf Try.prog 45 = some (.agg #[.slice none 0 0]) := by kernel_rfl
theorem zo5 : zeroOf Try.prog 5 = some (.int .u8 0) := by kernel_rfl
theorem zo56 : zeroOf Try.prog 56 = some (.agg #[.string ⟨#[]⟩, .string ⟨#[]⟩, .string ⟨#[]⟩, .string ⟨#[]⟩, .string ⟨#[]⟩, .string ⟨#[]⟩, .string ⟨#[]⟩, .string ⟨#[]⟩, .string ⟨#[]⟩, .string ⟨#[]⟩, .string ⟨#[]⟩]) := by kernel_rfl
theorem zo63 : zeroOf Try.prog 63 = some (.agg #[.slice none 0 0, .bool false]) := by kernel_rfl
theorem zo72 : zeroOf Try.prog 72 = some (.agg #[.slice none 0 0, .int .i64 0]) := by kernel_rfl
theorem zo75 : zeroOf Try.prog 75 = some (.agg #[.string ⟨#[]⟩, .string ⟨#[]⟩, .string ⟨#[]⟩, .string ⟨#[]⟩]) := by kernel_rfl
theorem zo81 : zeroOf Try.prog 81 = some (.agg #[.bool false, .bool false, .bool false, .bool false, .bool false, .bool false, .bool false, .bool false]) := by kernel_rfl
theorem zo9 : zeroOf Try.prog 9 = some (.string ⟨#[]⟩) := by kernel_rfl
theorem er25 {a0 b0 : Int} {a1 b1 : Int} {a2 b2 : Int} {a3 b3 : Int} {a4 b4 : ByteArray} {a5 b5 : ByteArray} {a6 b6 : ByteArray} {a7 b7 : ByteArray} {a8 b8 : ByteArray} : EqR Try.prog 25 (.agg #[.int .i64 a0, .int .i64 a1, .int .i64 a2, .int .i64 a3, .string a4, .string a5, .string a6, .string a7, .string a8]) (.agg #[.int .i64 b0, .int .i64 b1, .int .i64 b2, .int .i64 b3, .string b4, .string b5, .string b6, .string b7, .string b8]) ([a0 == b0, a1 == b1, a2 == b2, a3 == b3, a4.toList == b4.toList, a5.toList == b5.toList, a6.toList == b6.toList, a7.toList == b7.toList, a8.toList == b8.toList].all id) := eqr_struct Try.underlying25 (by kernel_rfl) (by have e : (Try.prog.fieldsOf 25).toList = (Try.prog.fieldsOf 25).toList := rfl; unfold Program.fieldsOf; rw [Try.underlying25]; exact ⟨by decide, ⟨_, _, rfl, rfl, by kernel_rfl, fieldInt Try.underlying3⟩, by decide, ⟨_, _, rfl, rfl, by kernel_rfl, fieldInt Try.underlying3⟩, by decide, ⟨_, _, rfl, rfl, by kernel_rfl, fieldInt Try.underlying3⟩, by decide, ⟨_, _, rfl, rfl, by kernel_rfl, fieldInt Try.underlying3⟩, by decide, ⟨_, _, rfl, rfl, by kernel_rfl, fieldStr Try.underlying9⟩, by decide, ⟨_, _, rfl, rfl, by kernel_rfl, fieldStr Try.underlying9⟩, by decide, ⟨_, _, rfl, rfl, by kernel_rfl, fieldStr Try.underlying9⟩, by decide, ⟨_, _, rfl, rfl, by kernel_rfl, fieldStr Try.underlying9⟩, by decide, ⟨_, _, rfl, rfl, by kernel_rfl, fieldStr Try.underlying9⟩, trivial⟩)
theorem er31 {xs ys : List Int} (hx : xs.length = 3) (hy : ys.length = 3) : EqR Try.prog 31 (.agg (xs.map (Value.int .i64)).toArray) (.agg (ys.map (Value.int .i64)).toArray) (xs == ys) := eqr_ints Try.underlying31 Try.underlying3 (by kernel_rfl) (by kernel_rfl) hx hy
theorem E26 : Elt Try.prog 26 5 1 1 (.int .u8 0) := ⟨Try.underlying26, by kernel_rfl, rfl⟩
theorem E34 : Elt Try.prog 34 3 1 8 (.int .i64 0) := ⟨Try.underlying34, by kernel_rfl, rfl⟩
theorem E57 : Elt Try.prog 57 25 9 112 (.agg #[.int .i64 0, .int .i64 0, .int .i64 0, .int .i64 0, .string ⟨#[]⟩, .string ⟨#[]⟩, .string ⟨#[]⟩, .string ⟨#[]⟩, .string ⟨#[]⟩]) := ⟨Try.underlying57, by kernel_rfl, rfl⟩
theorem E60 : Elt Try.prog 60 9 1 16 (.string ⟨#[]⟩) := ⟨Try.underlying60, by kernel_rfl, rfl⟩
theorem bl25 {K : Value → Prop} {tk : TkV K} {ps : Array (Nat × Value)} : PureT Try.prog (Instr.build 25 ps) K tk ↔ BuildT Try.prog 25 (.agg #[.int .i64 0, .int .i64 0, .int .i64 0, .int .i64 0, .string ⟨#[]⟩, .string ⟨#[]⟩, .string ⟨#[]⟩, .string ⟨#[]⟩, .string ⟨#[]⟩]) ps K .mk := PureK_build zo25 Try.underlying25 (by kernel_rfl)
theorem bl31 {K : Value → Prop} {tk : TkV K} {ps : Array (Nat × Value)} : PureT Try.prog (Instr.build 31 ps) K tk ↔ BuildT Try.prog 31 (.agg #[.int .i64 0, .int .i64 0, .int .i64 0]) ps K .mk := PureK_buildA zo31 Try.underlying31 (by kernel_rfl)
theorem bl45 {K : Value → Prop} {tk : TkV K} {ps : Array (Nat × Value)} : PureT Try.prog (Instr.build 45 ps) K tk ↔ BuildT Try.prog 45 (.agg #[.slice none 0 0]) ps K .mk := PureK_build zo45 Try.underlying45 (by kernel_rfl)
theorem bl56 {K : Value → Prop} {tk : TkV K} {ps : Array (Nat × Value)} : PureT Try.prog (Instr.build 56 ps) K tk ↔ BuildT Try.prog 56 (.agg #[.string ⟨#[]⟩, .string ⟨#[]⟩, .string ⟨#[]⟩, .string ⟨#[]⟩, .string ⟨#[]⟩, .string ⟨#[]⟩, .string ⟨#[]⟩, .string ⟨#[]⟩, .string ⟨#[]⟩, .string ⟨#[]⟩, .string ⟨#[]⟩]) ps K .mk := PureK_buildA zo56 Try.underlying56 (by kernel_rfl)
theorem bl63 {K : Value → Prop} {tk : TkV K} {ps : Array (Nat × Value)} : PureT Try.prog (Instr.build 63 ps) K tk ↔ BuildT Try.prog 63 (.agg #[.slice none 0 0, .bool false]) ps K .mk := PureK_build zo63 Try.underlying63 (by kernel_rfl)
theorem bl72 {K : Value → Prop} {tk : TkV K} {ps : Array (Nat × Value)} : PureT Try.prog (Instr.build 72 ps) K tk ↔ BuildT Try.prog 72 (.agg #[.slice none 0 0, .int .i64 0]) ps K .mk := PureK_build zo72 Try.underlying72 (by kernel_rfl)
theorem bs26 {w0 : World} {H : Heap} {K : Value → Heap → Prop} {tk : TkH K} {n : Nat} {ps : List (Nat × Value)} (hn : n * 1 ≤ 16777216) : BuildSliceT Try.prog w0 H 26 n ps K tk = OptT (fillV (fun i => some (i * 1, 1)) (zerosOf (.int .u8 0) n) ps) (fun cs => NewT w0 H (.row cs 5) (fun b H2 => K (.slice (some ⟨b, 0, none⟩) n n) H2) .mk) .mk := BuildSliceT_opt el26 zo5 ce5 rfl hn
theorem bs34 {w0 : World} {H : Heap} {K : Value → Heap → Prop} {tk : TkH K} {n : Nat} {ps : List (Nat × Value)} (hn : n * 1 ≤ 16777216) : BuildSliceT Try.prog w0 H 34 n ps K tk = OptT (fillV (fun i => some (i * 1, 1)) (zerosOf (.int .i64 0) n) ps) (fun cs => NewT w0 H (.row cs 3) (fun b H2 => K (.slice (some ⟨b, 0, none⟩) n n) H2) .mk) .mk := BuildSliceT_opt el34 zo3 ce3 rfl hn
theorem bs57 {w0 : World} {H : Heap} {K : Value → Heap → Prop} {tk : TkH K} {n : Nat} {ps : List (Nat × Value)} (hn : n * 9 ≤ 16777216) : BuildSliceT Try.prog w0 H 57 n ps K tk = OptT (fillV (fun i => some (i * 9, 9)) (zerosOf (.agg #[.int .i64 0, .int .i64 0, .int .i64 0, .int .i64 0, .string ⟨#[]⟩, .string ⟨#[]⟩, .string ⟨#[]⟩, .string ⟨#[]⟩, .string ⟨#[]⟩]) n) ps) (fun cs => NewT w0 H (.row cs 25) (fun b H2 => K (.slice (some ⟨b, 0, none⟩) n n) H2) .mk) .mk := BuildSliceT_opt el57 zo25 ce25 rfl hn
theorem bs60 {w0 : World} {H : Heap} {K : Value → Heap → Prop} {tk : TkH K} {n : Nat} {ps : List (Nat × Value)} (hn : n * 1 ≤ 16777216) : BuildSliceT Try.prog w0 H 60 n ps K tk = OptT (fillV (fun i => some (i * 1, 1)) (zerosOf (.string ⟨#[]⟩) n) ps) (fun cs => NewT w0 H (.row cs 9) (fun b H2 => K (.slice (some ⟨b, 0, none⟩) n n) H2) .mk) .mk := BuildSliceT_opt el60 zo9 ce9 rfl hn
theorem ca10 : Callable Try.prog 10 := fun args w => Try.call10 args w
theorem ca11 : Callable Try.prog 11 := fun args w => Try.call11 args w
theorem ca12 : Callable Try.prog 12 := fun args w => Try.call12 args w
theorem ca13 : Callable Try.prog 13 := fun args w => Try.call13 args w
theorem ca14 : Callable Try.prog 14 := fun args w => Try.call14 args w
theorem ca15 : Callable Try.prog 15 := fun args w => Try.call15 args w
theorem ca16 : Callable Try.prog 16 := fun args w => Try.call16 args w
theorem ca17 : Callable Try.prog 17 := fun args w => Try.call17 args w
theorem ca18 : Callable Try.prog 18 := fun args w => Try.call18 args w
theorem ca19 : Callable Try.prog 19 := fun args w => Try.call19 args w
theorem ca20 : Callable Try.prog 20 := fun args w => Try.call20 args w
theorem ca21 : Callable Try.prog 21 := fun args w => Try.call21 args w
theorem ca22 : Callable Try.prog 22 := fun args w => Try.call22 args w
theorem ca23 : Callable Try.prog 23 := fun args w => Try.call23 args w
theorem ca24 : Callable Try.prog 24 := fun args w => Try.call24 args w
theorem ca25 : Callable Try.prog 25 := fun args w => Try.call25 args w
theorem ca26 : Callable Try.prog 26 := fun args w => Try.call26 args w
theorem ca27 : Callable Try.prog 27 := fun args w => Try.call27 args w
theorem ca28 : Callable Try.prog 28 := fun args w => Try.call28 args w
theorem ca29 : Callable Try.prog 29 := fun args w => Try.call29 args w
theorem ca30 : Callable Try.prog 30 := fun args w => Try.call30 args w
theorem ca31 : Callable Try.prog 31 := fun args w => Try.call31 args w
theorem ca32 : Callable Try.prog 32 := fun args w => Try.call32 args w
theorem ca33 : Callable Try.prog 33 := fun args w => Try.call33 args w
theorem ca34 : Callable Try.prog 34 := fun args w => Try.call34 args w
theorem ca36 : Callable Try.prog 36 := fun args w => Try.call36 args w
theorem ca37 : Callable Try.prog 37 := fun args w => Try.call37 args w
theorem ca38 : Callable Try.prog 38 := fun args w => Try.call38 args w
theorem ca39 : Callable Try.prog 39 := fun args w => Try.call39 args w
theorem ca40 : Callable Try.prog 40 := fun args w => Try.call40 args w
theorem ca9 : Callable Try.prog 9 := fun args w => Try.call9 args w
theorem cb26_9 {w0 : World} {H : Heap} {K : Value → Heap → Prop} {v : Value} {n : Nat} {xs : List Int} (hr : Rd w0 H 1 v n (xs.map (Value.int .u8))) (hK : K (.string (strOfNums xs)) H) : ConvK Try.prog w0 26 9 v H K := conv_bytes_str Try.underlying26 Try.underlying5 Try.underlying9 hr hK
theorem ch26 {K : Value → Prop} {tk : TkV K} {A : Option Addr} {n c : Nat} {k : IntKind} {i : Int} (h0 : 0 ≤ i) (h1 : i ≤ (c : Int)) : PureT Try.prog (Instr.sliceAt 26 (.slice A n c) none (some (.int k i)) none) K tk ↔ K (.slice A i.toNat c) := PureK_cut_hi Try.underlying26 1 sz5 h0 h1
theorem ch9 {K : Value → Prop} {tk : TkV K} {s : ByteArray} {k : IntKind} {i : Int} (h0 : 0 ≤ i) (h1 : i ≤ (s.size : Int)) : PureT Try.prog (Instr.sliceAt 9 (.string s) none (some (.int k i)) none) K tk ↔ K (.string (s.extract 0 i.toNat)) := PureK_cutS_hi Try.underlying9 h0 h1
theorem cl26 {K : Value → Prop} {tk : TkV K} {A : Option Addr} {n c : Nat} {k : IntKind} {i : Int} (h0 : 0 ≤ i) (h1 : i ≤ (n : Int)) : PureT Try.prog (Instr.sliceAt 26 (.slice A n c) (some (.int k i)) none none) K tk ↔ K (.slice (cutAddr A c i.toNat 1) (n - i.toNat) (c - i.toNat)) := PureK_cut_lo Try.underlying26 1 sz5 h0 h1
theorem cl9 {K : Value → Prop} {tk : TkV K} {s : ByteArray} {k : IntKind} {i : Int} (h0 : 0 ≤ i) (h1 : i ≤ (s.size : Int)) : PureT Try.prog (Instr.sliceAt 9 (.string s) (some (.int k i)) none none) K tk ↔ K (.string (s.extract i.toNat s.size)) := PureK_cutS_lo Try.underlying9 h0 h1
theorem cn3_26 {K : Value → Prop} {tk : TkV K} {A : Option Addr} {n c : Nat} {k2 k3 : IntKind} {j m : Int} (h1 : 0 ≤ j) (h2 : j ≤ m) (h3 : m ≤ (c : Int)) : PureT Try.prog (Instr.sliceAt 26 (.slice A n c) none (some (.int k2 j)) (some (.int k3 m))) K tk ↔ K (.slice A j.toNat m.toNat) := PureK_cut3n Try.underlying26 1 sz5 h1 h2 h3
theorem cp26 {K : Value → Prop} {tk : TkV K} {ty : TypeId} {A : Option Addr} {n c : Nat} : PureT Try.prog (Builtin.cap_ #[26] ty #[.slice A n c]) K tk ↔ K (.int .i64 c) := PureK_cap_slice Try.underlying26
theorem cu26 {K : Value → Prop} {tk : TkV K} {A : Option Addr} {n c : Nat} {k k2 : IntKind} {i j : Int} (h0 : 0 ≤ i) (h1 : i ≤ j) (h2 : j ≤ (c : Int)) : PureT Try.prog (Instr.sliceAt 26 (.slice A n c) (some (.int k i)) (some (.int k2 j)) none) K tk ↔ K (.slice (cutAddr A c i.toNat 1) (j.toNat - i.toNat) (c - i.toNat)) := PureK_cut Try.underlying26 1 sz5 h0 h1 h2
theorem cu9 {K : Value → Prop} {tk : TkV K} {s : ByteArray} {k k2 : IntKind} {i j : Int} (h0 : 0 ≤ i) (h1 : i ≤ j) (h2 : j ≤ (s.size : Int)) : PureT Try.prog (Instr.sliceAt 9 (.string s) (some (.int k i)) (some (.int k2 j)) none) K tk ↔ K (.string (s.extract i.toNat j.toNat)) := PureK_cutS Try.underlying9 h0 h1 h2
theorem cv3_26 {K : Value → Prop} {tk : TkV K} {A : Option Addr} {n c : Nat} {k k2 k3 : IntKind} {i j m : Int} (h0 : 0 ≤ i) (h1 : i ≤ j) (h2 : j ≤ m) (h3 : m ≤ (c : Int)) : PureT Try.prog (Instr.sliceAt 26 (.slice A n c) (some (.int k i)) (some (.int k2 j)) (some (.int k3 m))) K tk ↔ K (.slice (cutAddr A m.toNat i.toNat 1) (j.toNat - i.toNat) (m.toNat - i.toNat)) := PureK_cut3 Try.underlying26 1 sz5 h0 h1 h2 h3
theorem cv3_5 {K : Value → Prop} {tk : TkV K} {k : IntKind} {n : Int} : PureT Try.prog (convert 3 5 (.int k n)) K tk ↔ K (.int .u8 (IntKind.wrap .u8 n)) := PureK_conv_int Try.underlying3 Try.underlying5
theorem cv3_51 {K : Value → Prop} {tk : TkV K} {k : IntKind} {n : Int} : PureT Try.prog (convert 3 51 (.int k n)) K tk ↔ K (.int .u64 (IntKind.wrap .u64 n)) := PureK_conv_int Try.underlying3 Try.underlying51
theorem cv5_3 {K : Value → Prop} {tk : TkV K} {k : IntKind} {n : Int} : PureT Try.prog (convert 5 3 (.int k n)) K tk ↔ K (.int .i64 (IntKind.wrap .i64 n)) := PureK_conv_int Try.underlying5 Try.underlying3
theorem cw3_5 {w0 : World} {H : Heap} {K : Value → Heap → Prop} {tk : TkH K} {x : Value} : ConvT Try.prog w0 3 5 x H K tk = PureT Try.prog (convert 3 5 x) (fun v => K v H) .mk := ConvK_int Try.underlying5
theorem cw3_51 {w0 : World} {H : Heap} {K : Value → Heap → Prop} {tk : TkH K} {x : Value} : ConvT Try.prog w0 3 51 x H K tk = PureT Try.prog (convert 3 51 x) (fun v => K v H) .mk := ConvK_int Try.underlying51
theorem cw5_3 {w0 : World} {H : Heap} {K : Value → Heap → Prop} {tk : TkH K} {x : Value} : ConvT Try.prog w0 5 3 x H K tk = PureT Try.prog (convert 5 3 x) (fun v => K v H) .mk := ConvK_int Try.underlying3
theorem ea31 {K : Value → Prop} {tk : TkV K} {x y : Operand} {xs ys : List Int} (hx : xs.length = 3) (hy : ys.length = 3) : BinT Try.prog .eql 31 x y (.agg (xs.map (Value.int .i64)).toArray) (.agg (ys.map (Value.int .i64)).toArray) K tk ↔ K (.bool (xs == ys)) := BinK_eq_agg (by kernel_rfl) (er31 hx hy)
theorem en28 {K : Value → Prop} {tk : TkV K} {x : Operand} {c : Value} : BinT Try.prog .eql 28 x (.const c) .nilIface .nilIface K tk ↔ K (.bool true) := BinK_eq_nil Try.underlying28 c
theorem eq25 {K : Value → Prop} {tk : TkV K} {x y : Operand} {a0 b0 : Int} {a1 b1 : Int} {a2 b2 : Int} {a3 b3 : Int} {a4 b4 : ByteArray} {a5 b5 : ByteArray} {a6 b6 : ByteArray} {a7 b7 : ByteArray} {a8 b8 : ByteArray} : BinT Try.prog .eql 25 x y (.agg #[.int .i64 a0, .int .i64 a1, .int .i64 a2, .int .i64 a3, .string a4, .string a5, .string a6, .string a7, .string a8]) (.agg #[.int .i64 b0, .int .i64 b1, .int .i64 b2, .int .i64 b3, .string b4, .string b5, .string b6, .string b7, .string b8]) K tk ↔ K (.bool ([a0 == b0, a1 == b1, a2 == b2, a3 == b3, a4.toList == b4.toList, a5.toList == b5.toList, a6.toList == b6.toList, a7.toList == b7.toList, a8.toList == b8.toList].all id)) := BinK_eq_agg (by kernel_rfl) er25
theorem eq28 {K : Value → Prop} {tk : TkV K} {x y : Operand} {u : TypeId} {v : Value} : BinT Try.prog .eql 28 x y (.iface u v) .nilIface K tk ↔ K (.bool false) := BinK_eq_if Try.underlying28 u v
theorem eq31 {K : Value → Prop} {tk : TkV K} {x y : Operand} {a0 a1 a2 b0 b1 b2 : Int} : BinT Try.prog .eql 31 x y (.agg #[.int .i64 a0, .int .i64 a1, .int .i64 a2]) (.agg #[.int .i64 b0, .int .i64 b1, .int .i64 b2]) K tk ↔ K (.bool ([a0, a1, a2] == [b0, b1, b2])) := BinK_eq_agg (by kernel_rfl) (er31 (xs := [a0, a1, a2]) (ys := [b0, b1, b2]) rfl rfl)
theorem eq4 {K : Value → Prop} {tk : TkV K} {x y : Operand} {a b : Bool} : BinT Try.prog .eql 4 x y (.bool a) (.bool b) K tk ↔ K (.bool (a == b)) := BinK_eq_bool Try.underlying4 a b
theorem fa25_0 {K : Value → Prop} {tk : TkV K} {b o : Nat} : PureT Try.prog (Instr.fieldAt 25 (.pointer (some ⟨b, o, none⟩)) 0) K tk ↔ K (.pointer (some ⟨b, o, none⟩)) := by
  show PureK Try.prog (Instr.fieldAt 25 (.pointer (some ⟨b, o, none⟩)) 0) K ↔ _
  have h : fieldOf Try.prog 25 0 = some (0, 0 + 1) := by kernel_rfl
  simpa only [add_plain, Nat.add_zero] using PureK_fieldAt (K := K) h (a := ⟨b, o, none⟩)
theorem fa25_1 {K : Value → Prop} {tk : TkV K} {b o : Nat} : PureT Try.prog (Instr.fieldAt 25 (.pointer (some ⟨b, o, none⟩)) 1) K tk ↔ K (.pointer (some ⟨b, o + 1, none⟩)) := by
  show PureK Try.prog (Instr.fieldAt 25 (.pointer (some ⟨b, o, none⟩)) 1) K ↔ _
  have h : fieldOf Try.prog 25 1 = some (1, 0 + 1) := by kernel_rfl
  simpa only [add_plain, Nat.add_zero] using PureK_fieldAt (K := K) h (a := ⟨b, o, none⟩)
theorem fa25_2 {K : Value → Prop} {tk : TkV K} {b o : Nat} : PureT Try.prog (Instr.fieldAt 25 (.pointer (some ⟨b, o, none⟩)) 2) K tk ↔ K (.pointer (some ⟨b, o + 2, none⟩)) := by
  show PureK Try.prog (Instr.fieldAt 25 (.pointer (some ⟨b, o, none⟩)) 2) K ↔ _
  have h : fieldOf Try.prog 25 2 = some (2, 0 + 1) := by kernel_rfl
  simpa only [add_plain, Nat.add_zero] using PureK_fieldAt (K := K) h (a := ⟨b, o, none⟩)
theorem fa25_3 {K : Value → Prop} {tk : TkV K} {b o : Nat} : PureT Try.prog (Instr.fieldAt 25 (.pointer (some ⟨b, o, none⟩)) 3) K tk ↔ K (.pointer (some ⟨b, o + 3, none⟩)) := by
  show PureK Try.prog (Instr.fieldAt 25 (.pointer (some ⟨b, o, none⟩)) 3) K ↔ _
  have h : fieldOf Try.prog 25 3 = some (3, 0 + 1) := by kernel_rfl
  simpa only [add_plain, Nat.add_zero] using PureK_fieldAt (K := K) h (a := ⟨b, o, none⟩)
theorem fa25_4 {K : Value → Prop} {tk : TkV K} {b o : Nat} : PureT Try.prog (Instr.fieldAt 25 (.pointer (some ⟨b, o, none⟩)) 4) K tk ↔ K (.pointer (some ⟨b, o + 4, none⟩)) := by
  show PureK Try.prog (Instr.fieldAt 25 (.pointer (some ⟨b, o, none⟩)) 4) K ↔ _
  have h : fieldOf Try.prog 25 4 = some (4, 0 + 1) := by kernel_rfl
  simpa only [add_plain, Nat.add_zero] using PureK_fieldAt (K := K) h (a := ⟨b, o, none⟩)
theorem fa25_5 {K : Value → Prop} {tk : TkV K} {b o : Nat} : PureT Try.prog (Instr.fieldAt 25 (.pointer (some ⟨b, o, none⟩)) 5) K tk ↔ K (.pointer (some ⟨b, o + 5, none⟩)) := by
  show PureK Try.prog (Instr.fieldAt 25 (.pointer (some ⟨b, o, none⟩)) 5) K ↔ _
  have h : fieldOf Try.prog 25 5 = some (5, 0 + 1) := by kernel_rfl
  simpa only [add_plain, Nat.add_zero] using PureK_fieldAt (K := K) h (a := ⟨b, o, none⟩)
theorem fa25_6 {K : Value → Prop} {tk : TkV K} {b o : Nat} : PureT Try.prog (Instr.fieldAt 25 (.pointer (some ⟨b, o, none⟩)) 6) K tk ↔ K (.pointer (some ⟨b, o + 6, none⟩)) := by
  show PureK Try.prog (Instr.fieldAt 25 (.pointer (some ⟨b, o, none⟩)) 6) K ↔ _
  have h : fieldOf Try.prog 25 6 = some (6, 0 + 1) := by kernel_rfl
  simpa only [add_plain, Nat.add_zero] using PureK_fieldAt (K := K) h (a := ⟨b, o, none⟩)
theorem fa25_7 {K : Value → Prop} {tk : TkV K} {b o : Nat} : PureT Try.prog (Instr.fieldAt 25 (.pointer (some ⟨b, o, none⟩)) 7) K tk ↔ K (.pointer (some ⟨b, o + 7, none⟩)) := by
  show PureK Try.prog (Instr.fieldAt 25 (.pointer (some ⟨b, o, none⟩)) 7) K ↔ _
  have h : fieldOf Try.prog 25 7 = some (7, 0 + 1) := by kernel_rfl
  simpa only [add_plain, Nat.add_zero] using PureK_fieldAt (K := K) h (a := ⟨b, o, none⟩)
theorem fa25_8 {K : Value → Prop} {tk : TkV K} {b o : Nat} : PureT Try.prog (Instr.fieldAt 25 (.pointer (some ⟨b, o, none⟩)) 8) K tk ↔ K (.pointer (some ⟨b, o + 8, none⟩)) := by
  show PureK Try.prog (Instr.fieldAt 25 (.pointer (some ⟨b, o, none⟩)) 8) K ↔ _
  have h : fieldOf Try.prog 25 8 = some (8, 0 + 1) := by kernel_rfl
  simpa only [add_plain, Nat.add_zero] using PureK_fieldAt (K := K) h (a := ⟨b, o, none⟩)
theorem fa43_0 {K : Value → Prop} {tk : TkV K} {b o : Nat} : PureT Try.prog (Instr.fieldAt 43 (.pointer (some ⟨b, o, none⟩)) 0) K tk ↔ K (.pointer (some ⟨b, o, none⟩)) := by
  show PureK Try.prog (Instr.fieldAt 43 (.pointer (some ⟨b, o, none⟩)) 0) K ↔ _
  have h : fieldOf Try.prog 43 0 = some (0, 0 + 1) := by kernel_rfl
  simpa only [add_plain, Nat.add_zero] using PureK_fieldAt (K := K) h (a := ⟨b, o, none⟩)
theorem fa43_1 {K : Value → Prop} {tk : TkV K} {b o : Nat} : PureT Try.prog (Instr.fieldAt 43 (.pointer (some ⟨b, o, none⟩)) 1) K tk ↔ K (.pointer (some ⟨b, o + 1, none⟩)) := by
  show PureK Try.prog (Instr.fieldAt 43 (.pointer (some ⟨b, o, none⟩)) 1) K ↔ _
  have h : fieldOf Try.prog 43 1 = some (1, 0 + 1) := by kernel_rfl
  simpa only [add_plain, Nat.add_zero] using PureK_fieldAt (K := K) h (a := ⟨b, o, none⟩)
theorem fa43_2 {K : Value → Prop} {tk : TkV K} {b o : Nat} : PureT Try.prog (Instr.fieldAt 43 (.pointer (some ⟨b, o, none⟩)) 2) K tk ↔ K (.pointer (some ⟨b, o + 2, none⟩)) := by
  show PureK Try.prog (Instr.fieldAt 43 (.pointer (some ⟨b, o, none⟩)) 2) K ↔ _
  have h : fieldOf Try.prog 43 2 = some (2, 0 + 1) := by kernel_rfl
  simpa only [add_plain, Nat.add_zero] using PureK_fieldAt (K := K) h (a := ⟨b, o, none⟩)
theorem fa43_3 {K : Value → Prop} {tk : TkV K} {b o : Nat} : PureT Try.prog (Instr.fieldAt 43 (.pointer (some ⟨b, o, none⟩)) 3) K tk ↔ K (.pointer (some ⟨b, o + 3, none⟩)) := by
  show PureK Try.prog (Instr.fieldAt 43 (.pointer (some ⟨b, o, none⟩)) 3) K ↔ _
  have h : fieldOf Try.prog 43 3 = some (3, 0 + 1) := by kernel_rfl
  simpa only [add_plain, Nat.add_zero] using PureK_fieldAt (K := K) h (a := ⟨b, o, none⟩)
theorem fa43_4 {K : Value → Prop} {tk : TkV K} {b o : Nat} : PureT Try.prog (Instr.fieldAt 43 (.pointer (some ⟨b, o, none⟩)) 4) K tk ↔ K (.pointer (some ⟨b, o + 4, none⟩)) := by
  show PureK Try.prog (Instr.fieldAt 43 (.pointer (some ⟨b, o, none⟩)) 4) K ↔ _
  have h : fieldOf Try.prog 43 4 = some (4, 0 + 1) := by kernel_rfl
  simpa only [add_plain, Nat.add_zero] using PureK_fieldAt (K := K) h (a := ⟨b, o, none⟩)
theorem fa43_5 {K : Value → Prop} {tk : TkV K} {b o : Nat} : PureT Try.prog (Instr.fieldAt 43 (.pointer (some ⟨b, o, none⟩)) 5) K tk ↔ K (.pointer (some ⟨b, o + 5, none⟩)) := by
  show PureK Try.prog (Instr.fieldAt 43 (.pointer (some ⟨b, o, none⟩)) 5) K ↔ _
  have h : fieldOf Try.prog 43 5 = some (5, 0 + 1) := by kernel_rfl
  simpa only [add_plain, Nat.add_zero] using PureK_fieldAt (K := K) h (a := ⟨b, o, none⟩)
theorem fa43_6 {K : Value → Prop} {tk : TkV K} {b o : Nat} : PureT Try.prog (Instr.fieldAt 43 (.pointer (some ⟨b, o, none⟩)) 6) K tk ↔ K (.pointer (some ⟨b, o + 6, none⟩)) := by
  show PureK Try.prog (Instr.fieldAt 43 (.pointer (some ⟨b, o, none⟩)) 6) K ↔ _
  have h : fieldOf Try.prog 43 6 = some (6, 0 + 1) := by kernel_rfl
  simpa only [add_plain, Nat.add_zero] using PureK_fieldAt (K := K) h (a := ⟨b, o, none⟩)
theorem fa43_7 {K : Value → Prop} {tk : TkV K} {b o : Nat} : PureT Try.prog (Instr.fieldAt 43 (.pointer (some ⟨b, o, none⟩)) 7) K tk ↔ K (.pointer (some ⟨b, o + 7, none⟩)) := by
  show PureK Try.prog (Instr.fieldAt 43 (.pointer (some ⟨b, o, none⟩)) 7) K ↔ _
  have h : fieldOf Try.prog 43 7 = some (7, 0 + 1) := by kernel_rfl
  simpa only [add_plain, Nat.add_zero] using PureK_fieldAt (K := K) h (a := ⟨b, o, none⟩)
theorem fa43_8 {K : Value → Prop} {tk : TkV K} {b o : Nat} : PureT Try.prog (Instr.fieldAt 43 (.pointer (some ⟨b, o, none⟩)) 8) K tk ↔ K (.pointer (some ⟨b, o + 8, none⟩)) := by
  show PureK Try.prog (Instr.fieldAt 43 (.pointer (some ⟨b, o, none⟩)) 8) K ↔ _
  have h : fieldOf Try.prog 43 8 = some (8, 0 + 1) := by kernel_rfl
  simpa only [add_plain, Nat.add_zero] using PureK_fieldAt (K := K) h (a := ⟨b, o, none⟩)
theorem fa45_0 {K : Value → Prop} {tk : TkV K} {b o : Nat} : PureT Try.prog (Instr.fieldAt 45 (.pointer (some ⟨b, o, none⟩)) 0) K tk ↔ K (.pointer (some ⟨b, o, none⟩)) := by
  show PureK Try.prog (Instr.fieldAt 45 (.pointer (some ⟨b, o, none⟩)) 0) K ↔ _
  have h : fieldOf Try.prog 45 0 = some (0, 0 + 1) := by kernel_rfl
  simpa only [add_plain, Nat.add_zero] using PureK_fieldAt (K := K) h (a := ⟨b, o, none⟩)
theorem fa63_0 {K : Value → Prop} {tk : TkV K} {b o : Nat} : PureT Try.prog (Instr.fieldAt 63 (.pointer (some ⟨b, o, none⟩)) 0) K tk ↔ K (.pointer (some ⟨b, o, none⟩)) := by
  show PureK Try.prog (Instr.fieldAt 63 (.pointer (some ⟨b, o, none⟩)) 0) K ↔ _
  have h : fieldOf Try.prog 63 0 = some (0, 0 + 1) := by kernel_rfl
  simpa only [add_plain, Nat.add_zero] using PureK_fieldAt (K := K) h (a := ⟨b, o, none⟩)
theorem fa63_1 {K : Value → Prop} {tk : TkV K} {b o : Nat} : PureT Try.prog (Instr.fieldAt 63 (.pointer (some ⟨b, o, none⟩)) 1) K tk ↔ K (.pointer (some ⟨b, o + 1, none⟩)) := by
  show PureK Try.prog (Instr.fieldAt 63 (.pointer (some ⟨b, o, none⟩)) 1) K ↔ _
  have h : fieldOf Try.prog 63 1 = some (1, 0 + 1) := by kernel_rfl
  simpa only [add_plain, Nat.add_zero] using PureK_fieldAt (K := K) h (a := ⟨b, o, none⟩)
theorem fa72_0 {K : Value → Prop} {tk : TkV K} {b o : Nat} : PureT Try.prog (Instr.fieldAt 72 (.pointer (some ⟨b, o, none⟩)) 0) K tk ↔ K (.pointer (some ⟨b, o, none⟩)) := by
  show PureK Try.prog (Instr.fieldAt 72 (.pointer (some ⟨b, o, none⟩)) 0) K ↔ _
  have h : fieldOf Try.prog 72 0 = some (0, 0 + 1) := by kernel_rfl
  simpa only [add_plain, Nat.add_zero] using PureK_fieldAt (K := K) h (a := ⟨b, o, none⟩)
theorem fa72_1 {K : Value → Prop} {tk : TkV K} {b o : Nat} : PureT Try.prog (Instr.fieldAt 72 (.pointer (some ⟨b, o, none⟩)) 1) K tk ↔ K (.pointer (some ⟨b, o + 1, none⟩)) := by
  show PureK Try.prog (Instr.fieldAt 72 (.pointer (some ⟨b, o, none⟩)) 1) K ↔ _
  have h : fieldOf Try.prog 72 1 = some (1, 0 + 1) := by kernel_rfl
  simpa only [add_plain, Nat.add_zero] using PureK_fieldAt (K := K) h (a := ⟨b, o, none⟩)
theorem ix26 {K : Value → Prop} {tk : TkV K} {b o n c : Nat} {k : IntKind} {i : Int} (h0 : 0 ≤ i) (h1 : i < (n : Int)) : PureT Try.prog (Instr.indexAt 26 (.slice (some ⟨b, o, none⟩) n c) (.int k i)) K tk ↔ K (.pointer (some ⟨b, o + i.toNat, none⟩)) := by
  show PureK Try.prog (Instr.indexAt 26 (.slice (some ⟨b, o, none⟩) n c) (.int k i)) K ↔ _
  simpa only [add_plain, Nat.mul_one] using PureK_indexAt_slice (K := K) (k := k) (c := c) Try.underlying26 1 sz5 (a := ⟨b, o, none⟩) h0 h1
theorem ix31 {K : Value → Prop} {tk : TkV K} {b o : Nat} {k : IntKind} {i : Int} (h0 : 0 ≤ i) (h1 : i < 3) : PureT Try.prog (Instr.indexAt 31 (.pointer (some ⟨b, o, none⟩)) (.int k i)) K tk ↔ K (.pointer (some ⟨b, o + i.toNat, none⟩)) := by
  show PureK Try.prog (Instr.indexAt 31 (.pointer (some ⟨b, o, none⟩)) (.int k i)) K ↔ _
  simpa only [add_plain, Nat.mul_one] using PureK_indexAt_array (K := K) (k := k) Try.underlying31 1 sz3 (a := ⟨b, o, none⟩) h0 h1
theorem ix34 {K : Value → Prop} {tk : TkV K} {b o n c : Nat} {k : IntKind} {i : Int} (h0 : 0 ≤ i) (h1 : i < (n : Int)) : PureT Try.prog (Instr.indexAt 34 (.slice (some ⟨b, o, none⟩) n c) (.int k i)) K tk ↔ K (.pointer (some ⟨b, o + i.toNat, none⟩)) := by
  show PureK Try.prog (Instr.indexAt 34 (.slice (some ⟨b, o, none⟩) n c) (.int k i)) K ↔ _
  simpa only [add_plain, Nat.mul_one] using PureK_indexAt_slice (K := K) (k := k) (c := c) Try.underlying34 1 sz3 (a := ⟨b, o, none⟩) h0 h1
theorem ix57 {K : Value → Prop} {tk : TkV K} {b o n c : Nat} {k : IntKind} {i : Int} (h0 : 0 ≤ i) (h1 : i < (n : Int)) : PureT Try.prog (Instr.indexAt 57 (.slice (some ⟨b, o, none⟩) n c) (.int k i)) K tk ↔ K (.pointer (some ⟨b, o + i.toNat * 9, none⟩)) := by
  show PureK Try.prog (Instr.indexAt 57 (.slice (some ⟨b, o, none⟩) n c) (.int k i)) K ↔ _
  simpa only [add_plain, Nat.mul_one] using PureK_indexAt_slice (K := K) (k := k) (c := c) Try.underlying57 9 sz25 (a := ⟨b, o, none⟩) h0 h1
theorem ix60 {K : Value → Prop} {tk : TkV K} {b o n c : Nat} {k : IntKind} {i : Int} (h0 : 0 ≤ i) (h1 : i < (n : Int)) : PureT Try.prog (Instr.indexAt 60 (.slice (some ⟨b, o, none⟩) n c) (.int k i)) K tk ↔ K (.pointer (some ⟨b, o + i.toNat, none⟩)) := by
  show PureK Try.prog (Instr.indexAt 60 (.slice (some ⟨b, o, none⟩) n c) (.int k i)) K ↔ _
  simpa only [add_plain, Nat.mul_one] using PureK_indexAt_slice (K := K) (k := k) (c := c) Try.underlying60 1 sz9 (a := ⟨b, o, none⟩) h0 h1
theorem ix75 {K : Value → Prop} {tk : TkV K} {b o : Nat} {k : IntKind} {i : Int} (h0 : 0 ≤ i) (h1 : i < 4) : PureT Try.prog (Instr.indexAt 75 (.pointer (some ⟨b, o, none⟩)) (.int k i)) K tk ↔ K (.pointer (some ⟨b, o + i.toNat, none⟩)) := by
  show PureK Try.prog (Instr.indexAt 75 (.pointer (some ⟨b, o, none⟩)) (.int k i)) K ↔ _
  simpa only [add_plain, Nat.mul_one] using PureK_indexAt_array (K := K) (k := k) Try.underlying75 1 sz9 (a := ⟨b, o, none⟩) h0 h1
theorem ix81 {K : Value → Prop} {tk : TkV K} {b o : Nat} {k : IntKind} {i : Int} (h0 : 0 ≤ i) (h1 : i < 8) : PureT Try.prog (Instr.indexAt 81 (.pointer (some ⟨b, o, none⟩)) (.int k i)) K tk ↔ K (.pointer (some ⟨b, o + i.toNat, none⟩)) := by
  show PureK Try.prog (Instr.indexAt 81 (.pointer (some ⟨b, o, none⟩)) (.int k i)) K ↔ _
  simpa only [add_plain, Nat.mul_one] using PureK_indexAt_array (K := K) (k := k) Try.underlying81 1 sz4 (a := ⟨b, o, none⟩) h0 h1
theorem ix9 {K : Value → Prop} {tk : TkV K} {s : ByteArray} {k : IntKind} {i : Int} (h0 : 0 ≤ i) (h1 : i < (s.size : Int)) : PureT Try.prog (Instr.index 9 (.string s) (.int k i)) K tk ↔ K (.int .u8 (byteAt s i.toNat)) := PureK_index_strB Try.underlying9 h0 h1
theorem ix92 {K : Value → Prop} {tk : TkV K} {b o n c : Nat} {k : IntKind} {i : Int} (h0 : 0 ≤ i) (h1 : i < (n : Int)) : PureT Try.prog (Instr.indexAt 92 (.slice (some ⟨b, o, none⟩) n c) (.int k i)) K tk ↔ K (.pointer (some ⟨b, o + i.toNat, none⟩)) := by
  show PureK Try.prog (Instr.indexAt 92 (.slice (some ⟨b, o, none⟩) n c) (.int k i)) K ↔ _
  simpa only [add_plain, Nat.mul_one] using PureK_indexAt_slice (K := K) (k := k) (c := c) Try.underlying92 1 sz28 (a := ⟨b, o, none⟩) h0 h1
theorem le26 {K : Value → Prop} {tk : TkV K} {ty : TypeId} {A : Option Addr} {n c : Nat} : PureT Try.prog (Builtin.len_ #[26] ty #[.slice A n c]) K tk ↔ K (.int .i64 n) := PureK_len_slice Try.underlying26
theorem le34 {K : Value → Prop} {tk : TkV K} {ty : TypeId} {A : Option Addr} {n c : Nat} : PureT Try.prog (Builtin.len_ #[34] ty #[.slice A n c]) K tk ↔ K (.int .i64 n) := PureK_len_slice Try.underlying34
theorem le57 {K : Value → Prop} {tk : TkV K} {ty : TypeId} {A : Option Addr} {n c : Nat} : PureT Try.prog (Builtin.len_ #[57] ty #[.slice A n c]) K tk ↔ K (.int .i64 n) := PureK_len_slice Try.underlying57
theorem le60 {K : Value → Prop} {tk : TkV K} {ty : TypeId} {A : Option Addr} {n c : Nat} : PureT Try.prog (Builtin.len_ #[60] ty #[.slice A n c]) K tk ↔ K (.int .i64 n) := PureK_len_slice Try.underlying60
theorem le9 {K : Value → Prop} {tk : TkV K} {ty : TypeId} {s : ByteArray} : PureT Try.prog (Builtin.len_ #[9] ty #[.string s]) K tk ↔ K (.int .i64 s.size) := PureK_len_str Try.underlying9
theorem le92 {K : Value → Prop} {tk : TkV K} {ty : TypeId} {A : Option Addr} {n c : Nat} : PureT Try.prog (Builtin.len_ #[92] ty #[.slice A n c]) K tk ↔ K (.int .i64 n) := PureK_len_slice Try.underlying92
theorem lo25 {w0 : World} {H : Heap} {b o : Nat} : loadOf Try.prog w0 H 25 b o = lookN w0 H b o 9 := loadOf_s Try.underlying25 (by kernel_rfl)
theorem lo26 {w0 : World} {H : Heap} {b o : Nat} : loadOf Try.prog w0 H 26 b o = lk w0 H b o := by unfold loadOf; rw [Try.underlying26]
theorem lo28 {w0 : World} {H : Heap} {b o : Nat} : loadOf Try.prog w0 H 28 b o = lk w0 H b o := by unfold loadOf; rw [Try.underlying28]
theorem lo3 {w0 : World} {H : Heap} {b o : Nat} : loadOf Try.prog w0 H 3 b o = lk w0 H b o := by unfold loadOf; rw [Try.underlying3]
theorem lo31 {w0 : World} {H : Heap} {b o : Nat} : loadOf Try.prog w0 H 31 b o = lookN w0 H b o 3 := loadOf_a Try.underlying31 (by kernel_rfl)
theorem lo34 {w0 : World} {H : Heap} {b o : Nat} : loadOf Try.prog w0 H 34 b o = lk w0 H b o := by unfold loadOf; rw [Try.underlying34]
theorem lo4 {w0 : World} {H : Heap} {b o : Nat} : loadOf Try.prog w0 H 4 b o = lk w0 H b o := by unfold loadOf; rw [Try.underlying4]
theorem lo43 {w0 : World} {H : Heap} {b o : Nat} : loadOf Try.prog w0 H 43 b o = lookN w0 H b o 9 := loadOf_s Try.underlying43 (by kernel_rfl)
theorem lo45 {w0 : World} {H : Heap} {b o : Nat} : loadOf Try.prog w0 H 45 b o = lookN w0 H b o 1 := loadOf_s Try.underlying45 (by kernel_rfl)
theorem lo5 {w0 : World} {H : Heap} {b o : Nat} : loadOf Try.prog w0 H 5 b o = lk w0 H b o := by unfold loadOf; rw [Try.underlying5]
theorem lo81 {w0 : World} {H : Heap} {b o : Nat} : loadOf Try.prog w0 H 81 b o = lookN w0 H b o 8 := loadOf_a Try.underlying81 (by kernel_rfl)
theorem lo9 {w0 : World} {H : Heap} {b o : Nat} : loadOf Try.prog w0 H 9 b o = lk w0 H b o := by unfold loadOf; rw [Try.underlying9]
theorem mi38 {K : Value → Prop} {tk : TkV K} {v : Value} : PureT Try.prog (Instr.makeInterface 38 v) K tk ↔ K (.iface 38 v) := PureK_mkif Try.underlying38 rfl
theorem mk26 {w0 : World} {H : Heap} {K : Value → Heap → Prop} {tk : TkH K} {l c : Int} {k k2 : IntKind} (h0 : 0 ≤ l) (h1 : l ≤ c) (h2 : c ≤ 9223372036854775807) (h3 : 1 * c ≤ 281474976710656) : MakeT Try.prog w0 H 26 (.int k l) (.int k2 c) K tk = NewT w0 H (.row (zerosOf (.int .u8 0) c.toNat) 5) (fun b H2 => K (.slice (some ⟨b, 0, none⟩) l.toNat c.toNat) H2) .mk := MakeT_opt el26 zo5 ce5 by5 rfl h0 h1 h2 h3
theorem mk34 {w0 : World} {H : Heap} {K : Value → Heap → Prop} {tk : TkH K} {l c : Int} {k k2 : IntKind} (h0 : 0 ≤ l) (h1 : l ≤ c) (h2 : c ≤ 9223372036854775807) (h3 : 8 * c ≤ 281474976710656) : MakeT Try.prog w0 H 34 (.int k l) (.int k2 c) K tk = NewT w0 H (.row (zerosOf (.int .i64 0) c.toNat) 3) (fun b H2 => K (.slice (some ⟨b, 0, none⟩) l.toNat c.toNat) H2) .mk := MakeT_opt el34 zo3 ce3 by3 rfl h0 h1 h2 h3
theorem mn26 : Many Try.prog 26 := .inl ⟨_, Try.underlying26⟩
theorem mn34 : Many Try.prog 34 := .inl ⟨_, Try.underlying34⟩
theorem mn57 : Many Try.prog 57 := .inl ⟨_, Try.underlying57⟩
theorem mn60 : Many Try.prog 60 := .inl ⟨_, Try.underlying60⟩
theorem mn9 : Many Try.prog 9 := .inr Try.underlying9
theorem na31 {K : Value → Prop} {tk : TkV K} {x y : Operand} {xs ys : List Int} (hx : xs.length = 3) (hy : ys.length = 3) : BinT Try.prog .neq 31 x y (.agg (xs.map (Value.int .i64)).toArray) (.agg (ys.map (Value.int .i64)).toArray) K tk ↔ K (.bool (!(xs == ys))) := BinK_ne_agg (by kernel_rfl) (er31 hx hy)
theorem nn28 {K : Value → Prop} {tk : TkV K} {x : Operand} {c : Value} : BinT Try.prog .neq 28 x (.const c) .nilIface .nilIface K tk ↔ K (.bool false) := BinK_ne_nil Try.underlying28 c
theorem nq25 {K : Value → Prop} {tk : TkV K} {x y : Operand} {a0 b0 : Int} {a1 b1 : Int} {a2 b2 : Int} {a3 b3 : Int} {a4 b4 : ByteArray} {a5 b5 : ByteArray} {a6 b6 : ByteArray} {a7 b7 : ByteArray} {a8 b8 : ByteArray} : BinT Try.prog .neq 25 x y (.agg #[.int .i64 a0, .int .i64 a1, .int .i64 a2, .int .i64 a3, .string a4, .string a5, .string a6, .string a7, .string a8]) (.agg #[.int .i64 b0, .int .i64 b1, .int .i64 b2, .int .i64 b3, .string b4, .string b5, .string b6, .string b7, .string b8]) K tk ↔ K (.bool (!([a0 == b0, a1 == b1, a2 == b2, a3 == b3, a4.toList == b4.toList, a5.toList == b5.toList, a6.toList == b6.toList, a7.toList == b7.toList, a8.toList == b8.toList].all id))) := BinK_ne_agg (by kernel_rfl) er25
theorem nq28 {K : Value → Prop} {tk : TkV K} {x y : Operand} {u : TypeId} {v : Value} : BinT Try.prog .neq 28 x y (.iface u v) .nilIface K tk ↔ K (.bool true) := BinK_ne_if Try.underlying28 u v
theorem nq4 {K : Value → Prop} {tk : TkV K} {x y : Operand} {a b : Bool} : BinT Try.prog .neq 4 x y (.bool a) (.bool b) K tk ↔ K (.bool (!(a == b))) := BinK_ne_bool Try.underlying4 a b
theorem pl25_0 : placeOf Try.prog 25 0 = some (0, 1) := by kernel_rfl
theorem pl25_1 : placeOf Try.prog 25 1 = some (1, 1) := by kernel_rfl
theorem pl25_2 : placeOf Try.prog 25 2 = some (2, 1) := by kernel_rfl
theorem pl25_3 : placeOf Try.prog 25 3 = some (3, 1) := by kernel_rfl
theorem pl25_4 : placeOf Try.prog 25 4 = some (4, 1) := by kernel_rfl
theorem pl25_5 : placeOf Try.prog 25 5 = some (5, 1) := by kernel_rfl
theorem pl25_6 : placeOf Try.prog 25 6 = some (6, 1) := by kernel_rfl
theorem pl25_7 : placeOf Try.prog 25 7 = some (7, 1) := by kernel_rfl
theorem pl25_8 : placeOf Try.prog 25 8 = some (8, 1) := by kernel_rfl
theorem pl31_a {i : Nat} : placeOf Try.prog 31 i = some (i * 1, 1) := by unfold placeOf; rw [Try.underlying31]; simp only [ce3]
theorem pl45_0 : placeOf Try.prog 45 0 = some (0, 1) := by kernel_rfl
theorem pl56_a {i : Nat} : placeOf Try.prog 56 i = some (i * 1, 1) := by unfold placeOf; rw [Try.underlying56]; simp only [ce9]
theorem pl63_0 : placeOf Try.prog 63 0 = some (0, 1) := by kernel_rfl
theorem pl63_1 : placeOf Try.prog 63 1 = some (1, 1) := by kernel_rfl
theorem pl72_0 : placeOf Try.prog 72 0 = some (0, 1) := by kernel_rfl
theorem pl72_1 : placeOf Try.prog 72 1 = some (1, 1) := by kernel_rfl
end Go.Proofs.Ytohgeigmdgpegaa
