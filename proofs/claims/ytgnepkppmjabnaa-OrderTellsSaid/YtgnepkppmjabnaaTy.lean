/- Facts on the types and the functions that this program names, each by the kernel. Conditions: none. -/
import Derived.Test.YtgnepkppmjabnaaEng16
import Derived.Test.YtgnepkppmjabnaaProg
import Derived.KernelRfl
namespace Go.Proofs.Ytgnepkppmjabnaa
open Go.RowKit Eng
set_option linter.unusedVariables false
set_option linter.unusedSimpArgs false
theorem mixed : Try.prog.follows .mixedOrders = true := by kernel_rfl
theorem by36 : Try.prog.bytesOf 36 = 32 := by kernel_rfl
theorem by41 : Try.prog.bytesOf 41 = 4 := by kernel_rfl
theorem by5 : Try.prog.bytesOf 5 = 1 := by kernel_rfl
theorem by52 : Try.prog.bytesOf 52 = 32 := by kernel_rfl
theorem by9 : Try.prog.bytesOf 9 = 16 := by kernel_rfl
theorem ce36 : Try.prog.cellsOf 36 = 2 := by kernel_rfl
theorem ce41 : Try.prog.cellsOf 41 = 1 := by kernel_rfl
theorem ce5 : Try.prog.cellsOf 5 = 1 := by kernel_rfl
theorem ce52 : Try.prog.cellsOf 52 = 2 := by kernel_rfl
theorem ce9 : Try.prog.cellsOf 9 = 1 := by kernel_rfl
theorem el24 : elemOf' Try.prog 24 = some 9 := by kernel_rfl
theorem el25 : elemOf' Try.prog 25 = some 36 := by kernel_rfl
theorem el26 : elemOf' Try.prog 26 = some 52 := by kernel_rfl
theorem el58 : elemOf' Try.prog 58 = some 5 := by kernel_rfl
theorem el60 : elemOf' Try.prog 60 = some 41 := by kernel_rfl
theorem sz3 : szOf Try.prog 3 = some 1 := by kernel_rfl
theorem sz31 : szOf Try.prog 31 = some 1 := by kernel_rfl
theorem sz36 : szOf Try.prog 36 = some 2 := by kernel_rfl
theorem sz41 : szOf Try.prog 41 = some 1 := by kernel_rfl
theorem sz5 : szOf Try.prog 5 = some 1 := by kernel_rfl
theorem sz52 : szOf Try.prog 52 = some 2 := by kernel_rfl
theorem sz60 : szOf Try.prog 60 = some 1 := by kernel_rfl
theorem sz9 : szOf Try.prog 9 = some 1 := by kernel_rfl
theorem zo36 : zeroOf Try.prog 36 = some (.agg #[.string ⟨#[]⟩, .string ⟨#[]⟩]) := by kernel_rfl
theorem zo41 : zeroOf Try.prog 41 = some (.int .u32 0) := by kernel_rfl
theorem zo5 : zeroOf Try.prog 5 = some (.int .u8 0) := by kernel_rfl
theorem zo52 : zeroOf Try.prog 52 = some (.agg #[.string ⟨#[]⟩, .string ⟨#[]⟩]) := by kernel_rfl
theorem zo63 : zeroOf Try.prog 63 = some (.agg #[.slice none 0 0, .slice none 0 0]) := by kernel_rfl
theorem zo66 : zeroOf Try.prog 66 = some (.agg #[.slice none 0 0, .slice none 0 0]) := by kernel_rfl
theorem zo9 : zeroOf Try.prog 9 = some (.string ⟨#[]⟩) := by kernel_rfl
theorem E24 : Elt Try.prog 24 9 1 16 (.string ⟨#[]⟩) := ⟨Try.underlying24, by kernel_rfl, rfl⟩
theorem E25 : Elt Try.prog 25 36 2 32 (.agg #[.string ⟨#[]⟩, .string ⟨#[]⟩]) := ⟨Try.underlying25, by kernel_rfl, rfl⟩
theorem E26 : Elt Try.prog 26 52 2 32 (.agg #[.string ⟨#[]⟩, .string ⟨#[]⟩]) := ⟨Try.underlying26, by kernel_rfl, rfl⟩
theorem E58 : Elt Try.prog 58 5 1 1 (.int .u8 0) := ⟨Try.underlying58, by kernel_rfl, rfl⟩
theorem E60 : Elt Try.prog 60 41 1 4 (.int .u32 0) := ⟨Try.underlying60, by kernel_rfl, rfl⟩
theorem bl36 {K : Value → Prop} {tk : TkV K} {ps : Array (Nat × Value)} : PureT Try.prog (Instr.build 36 ps) K tk ↔ BuildT Try.prog 36 (.agg #[.string ⟨#[]⟩, .string ⟨#[]⟩]) ps K .mk := PureK_build zo36 Try.underlying36 (by kernel_rfl)
theorem bl52 {K : Value → Prop} {tk : TkV K} {ps : Array (Nat × Value)} : PureT Try.prog (Instr.build 52 ps) K tk ↔ BuildT Try.prog 52 (.agg #[.string ⟨#[]⟩, .string ⟨#[]⟩]) ps K .mk := PureK_buildA zo52 Try.underlying52 (by kernel_rfl)
theorem bl63 {K : Value → Prop} {tk : TkV K} {ps : Array (Nat × Value)} : PureT Try.prog (Instr.build 63 ps) K tk ↔ BuildT Try.prog 63 (.agg #[.slice none 0 0, .slice none 0 0]) ps K .mk := PureK_build zo63 Try.underlying63 (by kernel_rfl)
theorem bl66 {K : Value → Prop} {tk : TkV K} {ps : Array (Nat × Value)} : PureT Try.prog (Instr.build 66 ps) K tk ↔ BuildT Try.prog 66 (.agg #[.slice none 0 0, .slice none 0 0]) ps K .mk := PureK_build zo66 Try.underlying66 (by kernel_rfl)
theorem bs24 {w0 : World} {H : Heap} {K : Value → Heap → Prop} {tk : TkH K} {n : Nat} {ps : List (Nat × Value)} (hn : n * 1 ≤ 16777216) : BuildSliceT Try.prog w0 H 24 n ps K tk = OptT (fillV (fun i => some (i * 1, 1)) (zerosOf (.string ⟨#[]⟩) n) ps) (fun cs => NewT w0 H (.row cs 9) (fun b H2 => K (.slice (some ⟨b, 0, none⟩) n n) H2) .mk) .mk := BuildSliceT_opt el24 zo9 ce9 rfl hn
theorem bs25 {w0 : World} {H : Heap} {K : Value → Heap → Prop} {tk : TkH K} {n : Nat} {ps : List (Nat × Value)} (hn : n * 2 ≤ 16777216) : BuildSliceT Try.prog w0 H 25 n ps K tk = OptT (fillV (fun i => some (i * 2, 2)) (zerosOf (.agg #[.string ⟨#[]⟩, .string ⟨#[]⟩]) n) ps) (fun cs => NewT w0 H (.row cs 36) (fun b H2 => K (.slice (some ⟨b, 0, none⟩) n n) H2) .mk) .mk := BuildSliceT_opt el25 zo36 ce36 rfl hn
theorem bs26 {w0 : World} {H : Heap} {K : Value → Heap → Prop} {tk : TkH K} {n : Nat} {ps : List (Nat × Value)} (hn : n * 2 ≤ 16777216) : BuildSliceT Try.prog w0 H 26 n ps K tk = OptT (fillV (fun i => some (i * 2, 2)) (zerosOf (.agg #[.string ⟨#[]⟩, .string ⟨#[]⟩]) n) ps) (fun cs => NewT w0 H (.row cs 52) (fun b H2 => K (.slice (some ⟨b, 0, none⟩) n n) H2) .mk) .mk := BuildSliceT_opt el26 zo52 ce52 rfl hn
theorem bs58 {w0 : World} {H : Heap} {K : Value → Heap → Prop} {tk : TkH K} {n : Nat} {ps : List (Nat × Value)} (hn : n * 1 ≤ 16777216) : BuildSliceT Try.prog w0 H 58 n ps K tk = OptT (fillV (fun i => some (i * 1, 1)) (zerosOf (.int .u8 0) n) ps) (fun cs => NewT w0 H (.row cs 5) (fun b H2 => K (.slice (some ⟨b, 0, none⟩) n n) H2) .mk) .mk := BuildSliceT_opt el58 zo5 ce5 rfl hn
theorem bs60 {w0 : World} {H : Heap} {K : Value → Heap → Prop} {tk : TkH K} {n : Nat} {ps : List (Nat × Value)} (hn : n * 1 ≤ 16777216) : BuildSliceT Try.prog w0 H 60 n ps K tk = OptT (fillV (fun i => some (i * 1, 1)) (zerosOf (.int .u32 0) n) ps) (fun cs => NewT w0 H (.row cs 41) (fun b H2 => K (.slice (some ⟨b, 0, none⟩) n n) H2) .mk) .mk := BuildSliceT_opt el60 zo41 ce41 rfl hn
theorem ca10 : Callable Try.prog 10 := fun args w => Try.call10 args w
theorem ca11 : Callable Try.prog 11 := fun args w => Try.call11 args w
theorem ca12 : Callable Try.prog 12 := fun args w => Try.call12 args w
theorem ca13 : Callable Try.prog 13 := fun args w => Try.call13 args w
theorem ca14 : Callable Try.prog 14 := fun args w => Try.call14 args w
theorem ca15 : Callable Try.prog 15 := fun args w => Try.call15 args w
theorem ca16 : Callable Try.prog 16 := fun args w => Try.call16 args w
theorem ca17 : Callable Try.prog 17 := fun args w => Try.call17 args w
theorem ca18 : Callable Try.prog 18 := fun args w => Try.call18 args w
theorem ca19 : Callable Try.prog 19 := fun args w => Try.call19 args w
theorem ca20 : Callable Try.prog 20 := fun args w => Try.call20 args w
theorem ca21 : Callable Try.prog 21 := fun args w => Try.call21 args w
theorem ca22 : Callable Try.prog 22 := fun args w => Try.call22 args w
theorem ca23 : Callable Try.prog 23 := fun args w => Try.call23 args w
theorem ca24 : Callable Try.prog 24 := fun args w => Try.call24 args w
theorem ca25 : Callable Try.prog 25 := fun args w => Try.call25 args w
theorem ca26 : Callable Try.prog 26 := fun args w => Try.call26 args w
theorem ca27 : Callable Try.prog 27 := fun args w => Try.call27 args w
theorem ca28 : Callable Try.prog 28 := fun args w => Try.call28 args w
theorem ca29 : Callable Try.prog 29 := fun args w => Try.call29 args w
theorem ca30 : Callable Try.prog 30 := fun args w => Try.call30 args w
theorem ca31 : Callable Try.prog 31 := fun args w => Try.call31 args w
theorem ca32 : Callable Try.prog 32 := fun args w => Try.call32 args w
theorem ca34 : Callable Try.prog 34 := fun args w => Try.call34 args w
theorem ca9 : Callable Try.prog 9 := fun args w => Try.call9 args w
theorem cb58_9 {w0 : World} {H : Heap} {K : Value → Heap → Prop} {v : Value} {n : Nat} {xs : List Int} (hr : Rd w0 H 1 v n (xs.map (Value.int .u8))) (hK : K (.string (strOfNums xs)) H) : ConvK Try.prog w0 58 9 v H K := conv_bytes_str Try.underlying58 Try.underlying5 Try.underlying9 hr hK
theorem ch24 {K : Value → Prop} {tk : TkV K} {A : Option Addr} {n c : Nat} {k : IntKind} {i : Int} (h0 : 0 ≤ i) (h1 : i ≤ (c : Int)) : PureT Try.prog (Instr.sliceAt 24 (.slice A n c) none (some (.int k i)) none) K tk ↔ K (.slice A i.toNat c) := PureK_cut_hi Try.underlying24 1 sz9 h0 h1
theorem ch25 {K : Value → Prop} {tk : TkV K} {A : Option Addr} {n c : Nat} {k : IntKind} {i : Int} (h0 : 0 ≤ i) (h1 : i ≤ (c : Int)) : PureT Try.prog (Instr.sliceAt 25 (.slice A n c) none (some (.int k i)) none) K tk ↔ K (.slice A i.toNat c) := PureK_cut_hi Try.underlying25 2 sz36 h0 h1
theorem cl24 {K : Value → Prop} {tk : TkV K} {A : Option Addr} {n c : Nat} {k : IntKind} {i : Int} (h0 : 0 ≤ i) (h1 : i ≤ (n : Int)) : PureT Try.prog (Instr.sliceAt 24 (.slice A n c) (some (.int k i)) none none) K tk ↔ K (.slice (cutAddr A c i.toNat 1) (n - i.toNat) (c - i.toNat)) := PureK_cut_lo Try.underlying24 1 sz9 h0 h1
theorem cl25 {K : Value → Prop} {tk : TkV K} {A : Option Addr} {n c : Nat} {k : IntKind} {i : Int} (h0 : 0 ≤ i) (h1 : i ≤ (n : Int)) : PureT Try.prog (Instr.sliceAt 25 (.slice A n c) (some (.int k i)) none none) K tk ↔ K (.slice (cutAddr A c i.toNat 2) (n - i.toNat) (c - i.toNat)) := PureK_cut_lo Try.underlying25 2 sz36 h0 h1
theorem cn3_24 {K : Value → Prop} {tk : TkV K} {A : Option Addr} {n c : Nat} {k2 k3 : IntKind} {j m : Int} (h1 : 0 ≤ j) (h2 : j ≤ m) (h3 : m ≤ (c : Int)) : PureT Try.prog (Instr.sliceAt 24 (.slice A n c) none (some (.int k2 j)) (some (.int k3 m))) K tk ↔ K (.slice A j.toNat m.toNat) := PureK_cut3n Try.underlying24 1 sz9 h1 h2 h3
theorem cn3_25 {K : Value → Prop} {tk : TkV K} {A : Option Addr} {n c : Nat} {k2 k3 : IntKind} {j m : Int} (h1 : 0 ≤ j) (h2 : j ≤ m) (h3 : m ≤ (c : Int)) : PureT Try.prog (Instr.sliceAt 25 (.slice A n c) none (some (.int k2 j)) (some (.int k3 m))) K tk ↔ K (.slice A j.toNat m.toNat) := PureK_cut3n Try.underlying25 2 sz36 h1 h2 h3
theorem cu24 {K : Value → Prop} {tk : TkV K} {A : Option Addr} {n c : Nat} {k k2 : IntKind} {i j : Int} (h0 : 0 ≤ i) (h1 : i ≤ j) (h2 : j ≤ (c : Int)) : PureT Try.prog (Instr.sliceAt 24 (.slice A n c) (some (.int k i)) (some (.int k2 j)) none) K tk ↔ K (.slice (cutAddr A c i.toNat 1) (j.toNat - i.toNat) (c - i.toNat)) := PureK_cut Try.underlying24 1 sz9 h0 h1 h2
theorem cu25 {K : Value → Prop} {tk : TkV K} {A : Option Addr} {n c : Nat} {k k2 : IntKind} {i j : Int} (h0 : 0 ≤ i) (h1 : i ≤ j) (h2 : j ≤ (c : Int)) : PureT Try.prog (Instr.sliceAt 25 (.slice A n c) (some (.int k i)) (some (.int k2 j)) none) K tk ↔ K (.slice (cutAddr A c i.toNat 2) (j.toNat - i.toNat) (c - i.toNat)) := PureK_cut Try.underlying25 2 sz36 h0 h1 h2
theorem cv3_24 {K : Value → Prop} {tk : TkV K} {A : Option Addr} {n c : Nat} {k k2 k3 : IntKind} {i j m : Int} (h0 : 0 ≤ i) (h1 : i ≤ j) (h2 : j ≤ m) (h3 : m ≤ (c : Int)) : PureT Try.prog (Instr.sliceAt 24 (.slice A n c) (some (.int k i)) (some (.int k2 j)) (some (.int k3 m))) K tk ↔ K (.slice (cutAddr A m.toNat i.toNat 1) (j.toNat - i.toNat) (m.toNat - i.toNat)) := PureK_cut3 Try.underlying24 1 sz9 h0 h1 h2 h3
theorem cv3_25 {K : Value → Prop} {tk : TkV K} {A : Option Addr} {n c : Nat} {k k2 k3 : IntKind} {i j m : Int} (h0 : 0 ≤ i) (h1 : i ≤ j) (h2 : j ≤ m) (h3 : m ≤ (c : Int)) : PureT Try.prog (Instr.sliceAt 25 (.slice A n c) (some (.int k i)) (some (.int k2 j)) (some (.int k3 m))) K tk ↔ K (.slice (cutAddr A m.toNat i.toNat 2) (j.toNat - i.toNat) (m.toNat - i.toNat)) := PureK_cut3 Try.underlying25 2 sz36 h0 h1 h2 h3
theorem cv3_42 {K : Value → Prop} {tk : TkV K} {k : IntKind} {n : Int} : PureT Try.prog (convert 3 42 (.int k n)) K tk ↔ K (.int .u64 (IntKind.wrap .u64 n)) := PureK_conv_int Try.underlying3 Try.underlying42
theorem cv3_5 {K : Value → Prop} {tk : TkV K} {k : IntKind} {n : Int} : PureT Try.prog (convert 3 5 (.int k n)) K tk ↔ K (.int .u8 (IntKind.wrap .u8 n)) := PureK_conv_int Try.underlying3 Try.underlying5
theorem cw3_42 {w0 : World} {H : Heap} {K : Value → Heap → Prop} {tk : TkH K} {x : Value} : ConvT Try.prog w0 3 42 x H K tk = PureT Try.prog (convert 3 42 x) (fun v => K v H) .mk := ConvK_int Try.underlying42
theorem cw3_5 {w0 : World} {H : Heap} {K : Value → Heap → Prop} {tk : TkH K} {x : Value} : ConvT Try.prog w0 3 5 x H K tk = PureT Try.prog (convert 3 5 x) (fun v => K v H) .mk := ConvK_int Try.underlying5
theorem en31 {K : Value → Prop} {tk : TkV K} {x : Operand} {c : Value} : BinT Try.prog .eql 31 x (.const c) .nilIface .nilIface K tk ↔ K (.bool true) := BinK_eq_nil Try.underlying31 c
theorem eq24 {K : Value → Prop} {tk : TkV K} {x y : Operand} {a : Option Addr} {n c : Nat} : BinT Try.prog .eql 24 x y (.slice a n c) (.slice none 0 0) K tk ↔ K (.bool a.isNone) := BinK_eq_slice Try.underlying24 a n c
theorem eq29 {K : Value → Prop} {tk : TkV K} {x y : Operand} {a : Option Addr} : BinT Try.prog .eql 29 x y (.pointer a) (.pointer none) K tk ↔ K (.bool a.isNone) := BinK_eq_ptr Try.underlying29 a
theorem eq31 {K : Value → Prop} {tk : TkV K} {x y : Operand} {u : TypeId} {v : Value} : BinT Try.prog .eql 31 x y (.iface u v) .nilIface K tk ↔ K (.bool false) := BinK_eq_if Try.underlying31 u v
theorem eq4 {K : Value → Prop} {tk : TkV K} {x y : Operand} {a b : Bool} : BinT Try.prog .eql 4 x y (.bool a) (.bool b) K tk ↔ K (.bool (a == b)) := BinK_eq_bool Try.underlying4 a b
theorem fa36_0 {K : Value → Prop} {tk : TkV K} {b o : Nat} : PureT Try.prog (Instr.fieldAt 36 (.pointer (some ⟨b, o, none⟩)) 0) K tk ↔ K (.pointer (some ⟨b, o, none⟩)) := by
  show PureK Try.prog (Instr.fieldAt 36 (.pointer (some ⟨b, o, none⟩)) 0) K ↔ _
  have h : fieldOf Try.prog 36 0 = some (0, 0 + 1) := by kernel_rfl
  simpa only [add_plain, Nat.add_zero] using PureK_fieldAt (K := K) h (a := ⟨b, o, none⟩)
theorem fa36_1 {K : Value → Prop} {tk : TkV K} {b o : Nat} : PureT Try.prog (Instr.fieldAt 36 (.pointer (some ⟨b, o, none⟩)) 1) K tk ↔ K (.pointer (some ⟨b, o + 1, none⟩)) := by
  show PureK Try.prog (Instr.fieldAt 36 (.pointer (some ⟨b, o, none⟩)) 1) K ↔ _
  have h : fieldOf Try.prog 36 1 = some (1, 0 + 1) := by kernel_rfl
  simpa only [add_plain, Nat.add_zero] using PureK_fieldAt (K := K) h (a := ⟨b, o, none⟩)
theorem fa63_0 {K : Value → Prop} {tk : TkV K} {b o : Nat} : PureT Try.prog (Instr.fieldAt 63 (.pointer (some ⟨b, o, none⟩)) 0) K tk ↔ K (.pointer (some ⟨b, o, none⟩)) := by
  show PureK Try.prog (Instr.fieldAt 63 (.pointer (some ⟨b, o, none⟩)) 0) K ↔ _
  have h : fieldOf Try.prog 63 0 = some (0, 0 + 1) := by kernel_rfl
  simpa only [add_plain, Nat.add_zero] using PureK_fieldAt (K := K) h (a := ⟨b, o, none⟩)
theorem fa63_1 {K : Value → Prop} {tk : TkV K} {b o : Nat} : PureT Try.prog (Instr.fieldAt 63 (.pointer (some ⟨b, o, none⟩)) 1) K tk ↔ K (.pointer (some ⟨b, o + 1, none⟩)) := by
  show PureK Try.prog (Instr.fieldAt 63 (.pointer (some ⟨b, o, none⟩)) 1) K ↔ _
  have h : fieldOf Try.prog 63 1 = some (1, 0 + 1) := by kernel_rfl
  simpa only [add_plain, Nat.add_zero] using PureK_fieldAt (K := K) h (a := ⟨b, o, none⟩)
theorem fa66_0 {K : Value → Prop} {tk : TkV K} {b o : Nat} : PureT Try.prog (Instr.fieldAt 66 (.pointer (some ⟨b, o, none⟩)) 0) K tk ↔ K (.pointer (some ⟨b, o, none⟩)) := by
  show PureK Try.prog (Instr.fieldAt 66 (.pointer (some ⟨b, o, none⟩)) 0) K ↔ _
  have h : fieldOf Try.prog 66 0 = some (0, 0 + 1) := by kernel_rfl
  simpa only [add_plain, Nat.add_zero] using PureK_fieldAt (K := K) h (a := ⟨b, o, none⟩)
theorem fa66_1 {K : Value → Prop} {tk : TkV K} {b o : Nat} : PureT Try.prog (Instr.fieldAt 66 (.pointer (some ⟨b, o, none⟩)) 1) K tk ↔ K (.pointer (some ⟨b, o + 1, none⟩)) := by
  show PureK Try.prog (Instr.fieldAt 66 (.pointer (some ⟨b, o, none⟩)) 1) K ↔ _
  have h : fieldOf Try.prog 66 1 = some (1, 0 + 1) := by kernel_rfl
  simpa only [add_plain, Nat.add_zero] using PureK_fieldAt (K := K) h (a := ⟨b, o, none⟩)
theorem ix22 {K : Value → Prop} {tk : TkV K} {b o n c : Nat} {k : IntKind} {i : Int} (h0 : 0 ≤ i) (h1 : i < (n : Int)) : PureT Try.prog (Instr.indexAt 22 (.slice (some ⟨b, o, none⟩) n c) (.int k i)) K tk ↔ K (.pointer (some ⟨b, o + i.toNat, none⟩)) := by
  show PureK Try.prog (Instr.indexAt 22 (.slice (some ⟨b, o, none⟩) n c) (.int k i)) K ↔ _
  simpa only [add_plain, Nat.mul_one] using PureK_indexAt_slice (K := K) (k := k) (c := c) Try.underlying22 1 sz3 (a := ⟨b, o, none⟩) h0 h1
theorem ix24 {K : Value → Prop} {tk : TkV K} {b o n c : Nat} {k : IntKind} {i : Int} (h0 : 0 ≤ i) (h1 : i < (n : Int)) : PureT Try.prog (Instr.indexAt 24 (.slice (some ⟨b, o, none⟩) n c) (.int k i)) K tk ↔ K (.pointer (some ⟨b, o + i.toNat, none⟩)) := by
  show PureK Try.prog (Instr.indexAt 24 (.slice (some ⟨b, o, none⟩) n c) (.int k i)) K ↔ _
  simpa only [add_plain, Nat.mul_one] using PureK_indexAt_slice (K := K) (k := k) (c := c) Try.underlying24 1 sz9 (a := ⟨b, o, none⟩) h0 h1
theorem ix25 {K : Value → Prop} {tk : TkV K} {b o n c : Nat} {k : IntKind} {i : Int} (h0 : 0 ≤ i) (h1 : i < (n : Int)) : PureT Try.prog (Instr.indexAt 25 (.slice (some ⟨b, o, none⟩) n c) (.int k i)) K tk ↔ K (.pointer (some ⟨b, o + i.toNat * 2, none⟩)) := by
  show PureK Try.prog (Instr.indexAt 25 (.slice (some ⟨b, o, none⟩) n c) (.int k i)) K ↔ _
  simpa only [add_plain, Nat.mul_one] using PureK_indexAt_slice (K := K) (k := k) (c := c) Try.underlying25 2 sz36 (a := ⟨b, o, none⟩) h0 h1
theorem ix26 {K : Value → Prop} {tk : TkV K} {b o n c : Nat} {k : IntKind} {i : Int} (h0 : 0 ≤ i) (h1 : i < (n : Int)) : PureT Try.prog (Instr.indexAt 26 (.slice (some ⟨b, o, none⟩) n c) (.int k i)) K tk ↔ K (.pointer (some ⟨b, o + i.toNat * 2, none⟩)) := by
  show PureK Try.prog (Instr.indexAt 26 (.slice (some ⟨b, o, none⟩) n c) (.int k i)) K ↔ _
  simpa only [add_plain, Nat.mul_one] using PureK_indexAt_slice (K := K) (k := k) (c := c) Try.underlying26 2 sz52 (a := ⟨b, o, none⟩) h0 h1
theorem ix52 {K : Value → Prop} {tk : TkV K} {b o : Nat} {k : IntKind} {i : Int} (h0 : 0 ≤ i) (h1 : i < 2) : PureT Try.prog (Instr.indexAt 52 (.pointer (some ⟨b, o, none⟩)) (.int k i)) K tk ↔ K (.pointer (some ⟨b, o + i.toNat, none⟩)) := by
  show PureK Try.prog (Instr.indexAt 52 (.pointer (some ⟨b, o, none⟩)) (.int k i)) K ↔ _
  simpa only [add_plain, Nat.mul_one] using PureK_indexAt_array (K := K) (k := k) Try.underlying52 1 sz9 (a := ⟨b, o, none⟩) h0 h1
theorem ix60 {K : Value → Prop} {tk : TkV K} {b o n c : Nat} {k : IntKind} {i : Int} (h0 : 0 ≤ i) (h1 : i < (n : Int)) : PureT Try.prog (Instr.indexAt 60 (.slice (some ⟨b, o, none⟩) n c) (.int k i)) K tk ↔ K (.pointer (some ⟨b, o + i.toNat, none⟩)) := by
  show PureK Try.prog (Instr.indexAt 60 (.slice (some ⟨b, o, none⟩) n c) (.int k i)) K ↔ _
  simpa only [add_plain, Nat.mul_one] using PureK_indexAt_slice (K := K) (k := k) (c := c) Try.underlying60 1 sz41 (a := ⟨b, o, none⟩) h0 h1
theorem ix80 {K : Value → Prop} {tk : TkV K} {b o n c : Nat} {k : IntKind} {i : Int} (h0 : 0 ≤ i) (h1 : i < (n : Int)) : PureT Try.prog (Instr.indexAt 80 (.slice (some ⟨b, o, none⟩) n c) (.int k i)) K tk ↔ K (.pointer (some ⟨b, o + i.toNat, none⟩)) := by
  show PureK Try.prog (Instr.indexAt 80 (.slice (some ⟨b, o, none⟩) n c) (.int k i)) K ↔ _
  simpa only [add_plain, Nat.mul_one] using PureK_indexAt_slice (K := K) (k := k) (c := c) Try.underlying80 1 sz31 (a := ⟨b, o, none⟩) h0 h1
theorem le22 {K : Value → Prop} {tk : TkV K} {ty : TypeId} {A : Option Addr} {n c : Nat} : PureT Try.prog (Builtin.len_ #[22] ty #[.slice A n c]) K tk ↔ K (.int .i64 n) := PureK_len_slice Try.underlying22
theorem le24 {K : Value → Prop} {tk : TkV K} {ty : TypeId} {A : Option Addr} {n c : Nat} : PureT Try.prog (Builtin.len_ #[24] ty #[.slice A n c]) K tk ↔ K (.int .i64 n) := PureK_len_slice Try.underlying24
theorem le25 {K : Value → Prop} {tk : TkV K} {ty : TypeId} {A : Option Addr} {n c : Nat} : PureT Try.prog (Builtin.len_ #[25] ty #[.slice A n c]) K tk ↔ K (.int .i64 n) := PureK_len_slice Try.underlying25
theorem le26 {K : Value → Prop} {tk : TkV K} {ty : TypeId} {A : Option Addr} {n c : Nat} : PureT Try.prog (Builtin.len_ #[26] ty #[.slice A n c]) K tk ↔ K (.int .i64 n) := PureK_len_slice Try.underlying26
theorem le60 {K : Value → Prop} {tk : TkV K} {ty : TypeId} {A : Option Addr} {n c : Nat} : PureT Try.prog (Builtin.len_ #[60] ty #[.slice A n c]) K tk ↔ K (.int .i64 n) := PureK_len_slice Try.underlying60
theorem le80 {K : Value → Prop} {tk : TkV K} {ty : TypeId} {A : Option Addr} {n c : Nat} : PureT Try.prog (Builtin.len_ #[80] ty #[.slice A n c]) K tk ↔ K (.int .i64 n) := PureK_len_slice Try.underlying80
theorem lo24 {w0 : World} {H : Heap} {b o : Nat} : loadOf Try.prog w0 H 24 b o = lk w0 H b o := by unfold loadOf; rw [Try.underlying24]
theorem lo3 {w0 : World} {H : Heap} {b o : Nat} : loadOf Try.prog w0 H 3 b o = lk w0 H b o := by unfold loadOf; rw [Try.underlying3]
theorem lo31 {w0 : World} {H : Heap} {b o : Nat} : loadOf Try.prog w0 H 31 b o = lk w0 H b o := by unfold loadOf; rw [Try.underlying31]
theorem lo36 {w0 : World} {H : Heap} {b o : Nat} : loadOf Try.prog w0 H 36 b o = lookN w0 H b o 2 := loadOf_s Try.underlying36 (by kernel_rfl)
theorem lo41 {w0 : World} {H : Heap} {b o : Nat} : loadOf Try.prog w0 H 41 b o = lk w0 H b o := by unfold loadOf; rw [Try.underlying41]
theorem lo52 {w0 : World} {H : Heap} {b o : Nat} : loadOf Try.prog w0 H 52 b o = lookN w0 H b o 2 := loadOf_a Try.underlying52 (by kernel_rfl)
theorem lo60 {w0 : World} {H : Heap} {b o : Nat} : loadOf Try.prog w0 H 60 b o = lk w0 H b o := by unfold loadOf; rw [Try.underlying60]
theorem lo9 {w0 : World} {H : Heap} {b o : Nat} : loadOf Try.prog w0 H 9 b o = lk w0 H b o := by unfold loadOf; rw [Try.underlying9]
theorem mi46 {K : Value → Prop} {tk : TkV K} {v : Value} : PureT Try.prog (Instr.makeInterface 46 v) K tk ↔ K (.iface 46 v) := PureK_mkif Try.underlying46 rfl
theorem mk60 {w0 : World} {H : Heap} {K : Value → Heap → Prop} {tk : TkH K} {l c : Int} {k k2 : IntKind} (h0 : 0 ≤ l) (h1 : l ≤ c) (h2 : c ≤ 9223372036854775807) (h3 : 4 * c ≤ 281474976710656) : MakeT Try.prog w0 H 60 (.int k l) (.int k2 c) K tk = NewT w0 H (.row (zerosOf (.int .u32 0) c.toNat) 41) (fun b H2 => K (.slice (some ⟨b, 0, none⟩) l.toNat c.toNat) H2) .mk := MakeT_opt el60 zo41 ce41 by41 rfl h0 h1 h2 h3
theorem mn24 : Many Try.prog 24 := .inl ⟨_, Try.underlying24⟩
theorem mn25 : Many Try.prog 25 := .inl ⟨_, Try.underlying25⟩
theorem mn26 : Many Try.prog 26 := .inl ⟨_, Try.underlying26⟩
theorem mn58 : Many Try.prog 58 := .inl ⟨_, Try.underlying58⟩
theorem mn60 : Many Try.prog 60 := .inl ⟨_, Try.underlying60⟩
theorem nn31 {K : Value → Prop} {tk : TkV K} {x : Operand} {c : Value} : BinT Try.prog .neq 31 x (.const c) .nilIface .nilIface K tk ↔ K (.bool false) := BinK_ne_nil Try.underlying31 c
theorem nq24 {K : Value → Prop} {tk : TkV K} {x y : Operand} {a : Option Addr} {n c : Nat} : BinT Try.prog .neq 24 x y (.slice a n c) (.slice none 0 0) K tk ↔ K (.bool (!a.isNone)) := BinK_ne_slice Try.underlying24 a n c
theorem nq29 {K : Value → Prop} {tk : TkV K} {x y : Operand} {a : Option Addr} : BinT Try.prog .neq 29 x y (.pointer a) (.pointer none) K tk ↔ K (.bool (!a.isNone)) := BinK_ne_ptr Try.underlying29 a
theorem nq31 {K : Value → Prop} {tk : TkV K} {x y : Operand} {u : TypeId} {v : Value} : BinT Try.prog .neq 31 x y (.iface u v) .nilIface K tk ↔ K (.bool true) := BinK_ne_if Try.underlying31 u v
theorem nq4 {K : Value → Prop} {tk : TkV K} {x y : Operand} {a b : Bool} : BinT Try.prog .neq 4 x y (.bool a) (.bool b) K tk ↔ K (.bool (!(a == b))) := BinK_ne_bool Try.underlying4 a b
theorem pl36_0 : placeOf Try.prog 36 0 = some (0, 1) := by kernel_rfl
theorem pl36_1 : placeOf Try.prog 36 1 = some (1, 1) := by kernel_rfl
theorem pl52_a {i : Nat} : placeOf Try.prog 52 i = some (i * 1, 1) := by unfold placeOf; rw [Try.underlying52]; simp only [ce9]
theorem pl63_0 : placeOf Try.prog 63 0 = some (0, 1) := by kernel_rfl
theorem pl63_1 : placeOf Try.prog 63 1 = some (1, 1) := by kernel_rfl
theorem pl66_0 : placeOf Try.prog 66 0 = some (0, 1) := by kernel_rfl
theorem pl66_1 : placeOf Try.prog 66 1 = some (1, 1) := by kernel_rfl
end Go.Proofs.Ytgnepkppmjabnaa
