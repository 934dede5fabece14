/- Facts on the types and the functions that this program names, each by the kernel. Conditions: none. -/
import Derived.Test.YtgfdffedldnpfaaEng14
import Derived.Test.YtgfdffedldnpfaaProg
import Derived.KernelRfl
namespace Go.Proofs.Ytgfdffedldnpfaa
open Go.RowKit Eng
set_option linter.unusedVariables false
set_option linter.unusedSimpArgs false
theorem mixed : Try.prog.follows .mixedOrders = true := by kernel_rfl
theorem by36 : Try.prog.bytesOf 36 = 16 := by kernel_rfl
theorem by40 : Try.prog.bytesOf 40 = 24 := by kernel_rfl
theorem by48 : Try.prog.bytesOf 48 = 16 := by kernel_rfl
theorem by5 : Try.prog.bytesOf 5 = 1 := by kernel_rfl
theorem by9 : Try.prog.bytesOf 9 = 16 := by kernel_rfl
theorem ce36 : Try.prog.cellsOf 36 = 2 := by kernel_rfl
theorem ce40 : Try.prog.cellsOf 40 = 1 := by kernel_rfl
theorem ce48 : Try.prog.cellsOf 48 = 2 := by kernel_rfl
theorem ce5 : Try.prog.cellsOf 5 = 1 := by kernel_rfl
theorem ce9 : Try.prog.cellsOf 9 = 1 := by kernel_rfl
theorem el25 : elemOf' Try.prog 25 = some 36 := by kernel_rfl
theorem el26 : elemOf' Try.prog 26 = some 48 := by kernel_rfl
theorem el39 : elemOf' Try.prog 39 = some 40 := by kernel_rfl
theorem el40 : elemOf' Try.prog 40 = some 9 := by kernel_rfl
theorem el52 : elemOf' Try.prog 52 = some 5 := by kernel_rfl
theorem sz22 : szOf Try.prog 22 = some 1 := by kernel_rfl
theorem sz23 : szOf Try.prog 23 = some 1 := by kernel_rfl
theorem sz3 : szOf Try.prog 3 = some 1 := by kernel_rfl
theorem sz36 : szOf Try.prog 36 = some 2 := by kernel_rfl
theorem sz40 : szOf Try.prog 40 = some 1 := by kernel_rfl
theorem sz48 : szOf Try.prog 48 = some 2 := by kernel_rfl
theorem sz5 : szOf Try.prog 5 = some 1 := by kernel_rfl
theorem sz9 : szOf Try.prog 9 = some 1 := by kernel_rfl
theorem zo36 : zeroOf Try.prog 36 = some (.agg #[.int .i64 0, .int .u32 0]) := by kernel_rfl
theorem zo40 : zeroOf Try.prog 40 = some (.slice none 0 0) := by kernel_rfl
theorem zo48 : zeroOf Try.prog 48 = some (.agg #[.int .i64 0, .int .u32 0]) := by kernel_rfl
theorem zo5 : zeroOf Try.prog 5 = some (.int .u8 0) := by kernel_rfl
theorem zo9 : zeroOf Try.prog 9 = some (.string ⟨#[]⟩) := by kernel_rfl
theorem E25 : Elt Try.prog 25 36 2 16 (.agg #[.int .i64 0, .int .u32 0]) := ⟨Try.underlying25, by kernel_rfl, rfl⟩
theorem E26 : Elt Try.prog 26 48 2 16 (.agg #[.int .i64 0, .int .u32 0]) := ⟨Try.underlying26, by kernel_rfl, rfl⟩
theorem E39 : Elt Try.prog 39 40 1 24 (.slice none 0 0) := ⟨Try.underlying39, by kernel_rfl, rfl⟩
theorem E40 : Elt Try.prog 40 9 1 16 (.string ⟨#[]⟩) := ⟨Try.underlying40, by kernel_rfl, rfl⟩
theorem E52 : Elt Try.prog 52 5 1 1 (.int .u8 0) := ⟨Try.underlying52, by kernel_rfl, rfl⟩
theorem bl36 {K : Value → Prop} {tk : TkV K} {ps : Array (Nat × Value)} : PureT Try.prog (Instr.build 36 ps) K tk ↔ BuildT Try.prog 36 (.agg #[.int .i64 0, .int .u32 0]) ps K .mk := PureK_build zo36 Try.underlying36 (by kernel_rfl)
theorem bl48 {K : Value → Prop} {tk : TkV K} {ps : Array (Nat × Value)} : PureT Try.prog (Instr.build 48 ps) K tk ↔ BuildT Try.prog 48 (.agg #[.int .i64 0, .int .u32 0]) ps K .mk := PureK_build zo48 Try.underlying48 (by kernel_rfl)
theorem bs25 {w0 : World} {H : Heap} {K : Value → Heap → Prop} {tk : TkH K} {n : Nat} {ps : List (Nat × Value)} (hn : n * 2 ≤ 16777216) : BuildSliceT Try.prog w0 H 25 n ps K tk = OptT (fillV (fun i => some (i * 2, 2)) (zerosOf (.agg #[.int .i64 0, .int .u32 0]) n) ps) (fun cs => NewT w0 H (.row cs 36) (fun b H2 => K (.slice (some ⟨b, 0, none⟩) n n) H2) .mk) .mk := BuildSliceT_opt el25 zo36 ce36 rfl hn
theorem bs26 {w0 : World} {H : Heap} {K : Value → Heap → Prop} {tk : TkH K} {n : Nat} {ps : List (Nat × Value)} (hn : n * 2 ≤ 16777216) : BuildSliceT Try.prog w0 H 26 n ps K tk = OptT (fillV (fun i => some (i * 2, 2)) (zerosOf (.agg #[.int .i64 0, .int .u32 0]) n) ps) (fun cs => NewT w0 H (.row cs 48) (fun b H2 => K (.slice (some ⟨b, 0, none⟩) n n) H2) .mk) .mk := BuildSliceT_opt el26 zo48 ce48 rfl hn
theorem bs39 {w0 : World} {H : Heap} {K : Value → Heap → Prop} {tk : TkH K} {n : Nat} {ps : List (Nat × Value)} (hn : n * 1 ≤ 16777216) : BuildSliceT Try.prog w0 H 39 n ps K tk = OptT (fillV (fun i => some (i * 1, 1)) (zerosOf (.slice none 0 0) n) ps) (fun cs => NewT w0 H (.row cs 40) (fun b H2 => K (.slice (some ⟨b, 0, none⟩) n n) H2) .mk) .mk := BuildSliceT_opt el39 zo40 ce40 rfl hn
theorem bs40 {w0 : World} {H : Heap} {K : Value → Heap → Prop} {tk : TkH K} {n : Nat} {ps : List (Nat × Value)} (hn : n * 1 ≤ 16777216) : BuildSliceT Try.prog w0 H 40 n ps K tk = OptT (fillV (fun i => some (i * 1, 1)) (zerosOf (.string ⟨#[]⟩) n) ps) (fun cs => NewT w0 H (.row cs 9) (fun b H2 => K (.slice (some ⟨b, 0, none⟩) n n) H2) .mk) .mk := BuildSliceT_opt el40 zo9 ce9 rfl hn
theorem bs52 {w0 : World} {H : Heap} {K : Value → Heap → Prop} {tk : TkH K} {n : Nat} {ps : List (Nat × Value)} (hn : n * 1 ≤ 16777216) : BuildSliceT Try.prog w0 H 52 n ps K tk = OptT (fillV (fun i => some (i * 1, 1)) (zerosOf (.int .u8 0) n) ps) (fun cs => NewT w0 H (.row cs 5) (fun b H2 => K (.slice (some ⟨b, 0, none⟩) n n) H2) .mk) .mk := BuildSliceT_opt el52 zo5 ce5 rfl hn
theorem ca10 : Callable Try.prog 10 := fun args w => Try.call10 args w
theorem ca11 : Callable Try.prog 11 := fun args w => Try.call11 args w
theorem ca12 : Callable Try.prog 12 := fun args w => Try.call12 args w
theorem ca13 : Callable Try.prog 13 := fun args w => Try.call13 args w
theorem ca14 : Callable Try.prog 14 := fun args w => Try.call14 args w
theorem ca15 : Callable Try.prog 15 := fun args w => Try.call15 args w
theorem ca16 : Callable Try.prog 16 := fun args w => Try.call16 args w
theorem ca17 : Callable Try.prog 17 := fun args w => Try.call17 args w
theorem ca18 : Callable Try.prog 18 := fun args w => Try.call18 args w
theorem ca19 : Callable Try.prog 19 := fun args w => Try.call19 args w
theorem ca20 : Callable Try.prog 20 := fun args w => Try.call20 args w
theorem ca21 : Callable Try.prog 21 := fun args w => Try.call21 args w
theorem ca22 : Callable Try.prog 22 := fun args w => Try.call22 args w
theorem ca23 : Callable Try.prog 23 := fun args w => Try.call23 args w
theorem ca24 : Callable Try.prog 24 := fun args w => Try.call24 args w
theorem ca25 : Callable Try.prog 25 := fun args w => Try.call25 args w
theorem ca26 : Callable Try.prog 26 := fun args w => Try.call26 args w
theorem ca27 : Callable Try.prog 27 := fun args w => Try.call27 args w
theorem ca28 : Callable Try.prog 28 := fun args w => Try.call28 args w
theorem ca29 : Callable Try.prog 29 := fun args w => Try.call29 args w
theorem ca30 : Callable Try.prog 30 := fun args w => Try.call30 args w
theorem ca7 : Callable Try.prog 7 := fun args w => Try.call7 args w
theorem ca8 : Callable Try.prog 8 := fun args w => Try.call8 args w
theorem ca9 : Callable Try.prog 9 := fun args w => Try.call9 args w
theorem cb52_9 {w0 : World} {H : Heap} {K : Value → Heap → Prop} {v : Value} {n : Nat} {xs : List Int} (hr : Rd w0 H 1 v n (xs.map (Value.int .u8))) (hK : K (.string (strOfNums xs)) H) : ConvK Try.prog w0 52 9 v H K := conv_bytes_str Try.underlying52 Try.underlying5 Try.underlying9 hr hK
theorem ch25 {K : Value → Prop} {tk : TkV K} {A : Option Addr} {n c : Nat} {k : IntKind} {i : Int} (h0 : 0 ≤ i) (h1 : i ≤ (c : Int)) : PureT Try.prog (Instr.sliceAt 25 (.slice A n c) none (some (.int k i)) none) K tk ↔ K (.slice A i.toNat c) := PureK_cut_hi Try.underlying25 2 sz36 h0 h1
theorem cl25 {K : Value → Prop} {tk : TkV K} {A : Option Addr} {n c : Nat} {k : IntKind} {i : Int} (h0 : 0 ≤ i) (h1 : i ≤ (n : Int)) : PureT Try.prog (Instr.sliceAt 25 (.slice A n c) (some (.int k i)) none none) K tk ↔ K (.slice (cutAddr A c i.toNat 2) (n - i.toNat) (c - i.toNat)) := PureK_cut_lo Try.underlying25 2 sz36 h0 h1
theorem cu25 {K : Value → Prop} {tk : TkV K} {A : Option Addr} {n c : Nat} {k k2 : IntKind} {i j : Int} (h0 : 0 ≤ i) (h1 : i ≤ j) (h2 : j ≤ (c : Int)) : PureT Try.prog (Instr.sliceAt 25 (.slice A n c) (some (.int k i)) (some (.int k2 j)) none) K tk ↔ K (.slice (cutAddr A c i.toNat 2) (j.toNat - i.toNat) (c - i.toNat)) := PureK_cut Try.underlying25 2 sz36 h0 h1 h2
theorem cv22_3 {K : Value → Prop} {tk : TkV K} {k : IntKind} {n : Int} : PureT Try.prog (convert 22 3 (.int k n)) K tk ↔ K (.int .i64 (IntKind.wrap .i64 n)) := PureK_conv_int Try.underlying22 Try.underlying3
theorem cv3_5 {K : Value → Prop} {tk : TkV K} {k : IntKind} {n : Int} : PureT Try.prog (convert 3 5 (.int k n)) K tk ↔ K (.int .u8 (IntKind.wrap .u8 n)) := PureK_conv_int Try.underlying3 Try.underlying5
theorem cv5_3 {K : Value → Prop} {tk : TkV K} {k : IntKind} {n : Int} : PureT Try.prog (convert 5 3 (.int k n)) K tk ↔ K (.int .i64 (IntKind.wrap .i64 n)) := PureK_conv_int Try.underlying5 Try.underlying3
theorem cw22_3 {w0 : World} {H : Heap} {K : Value → Heap → Prop} {tk : TkH K} {x : Value} : ConvT Try.prog w0 22 3 x H K tk = PureT Try.prog (convert 22 3 x) (fun v => K v H) .mk := ConvK_int Try.underlying3
theorem cw3_5 {w0 : World} {H : Heap} {K : Value → Heap → Prop} {tk : TkH K} {x : Value} : ConvT Try.prog w0 3 5 x H K tk = PureT Try.prog (convert 3 5 x) (fun v => K v H) .mk := ConvK_int Try.underlying5
theorem cw5_3 {w0 : World} {H : Heap} {K : Value → Heap → Prop} {tk : TkH K} {x : Value} : ConvT Try.prog w0 5 3 x H K tk = PureT Try.prog (convert 5 3 x) (fun v => K v H) .mk := ConvK_int Try.underlying3
theorem eq4 {K : Value → Prop} {tk : TkV K} {x y : Operand} {a b : Bool} : BinT Try.prog .eql 4 x y (.bool a) (.bool b) K tk ↔ K (.bool (a == b)) := BinK_eq_bool Try.underlying4 a b
theorem fa36_0 {K : Value → Prop} {tk : TkV K} {b o : Nat} : PureT Try.prog (Instr.fieldAt 36 (.pointer (some ⟨b, o, none⟩)) 0) K tk ↔ K (.pointer (some ⟨b, o, none⟩)) := by
  show PureK Try.prog (Instr.fieldAt 36 (.pointer (some ⟨b, o, none⟩)) 0) K ↔ _
  have h : fieldOf Try.prog 36 0 = some (0, 0 + 1) := by kernel_rfl
  simpa only [add_plain, Nat.add_zero] using PureK_fieldAt (K := K) h (a := ⟨b, o, none⟩)
theorem fa36_1 {K : Value → Prop} {tk : TkV K} {b o : Nat} : PureT Try.prog (Instr.fieldAt 36 (.pointer (some ⟨b, o, none⟩)) 1) K tk ↔ K (.pointer (some ⟨b, o + 1, none⟩)) := by
  show PureK Try.prog (Instr.fieldAt 36 (.pointer (some ⟨b, o, none⟩)) 1) K ↔ _
  have h : fieldOf Try.prog 36 1 = some (1, 0 + 1) := by kernel_rfl
  simpa only [add_plain, Nat.add_zero] using PureK_fieldAt (K := K) h (a := ⟨b, o, none⟩)
theorem fa48_0 {K : Value → Prop} {tk : TkV K} {b o : Nat} : PureT Try.prog (Instr.fieldAt 48 (.pointer (some ⟨b, o, none⟩)) 0) K tk ↔ K (.pointer (some ⟨b, o, none⟩)) := by
  show PureK Try.prog (Instr.fieldAt 48 (.pointer (some ⟨b, o, none⟩)) 0) K ↔ _
  have h : fieldOf Try.prog 48 0 = some (0, 0 + 1) := by kernel_rfl
  simpa only [add_plain, Nat.add_zero] using PureK_fieldAt (K := K) h (a := ⟨b, o, none⟩)
theorem fa48_1 {K : Value → Prop} {tk : TkV K} {b o : Nat} : PureT Try.prog (Instr.fieldAt 48 (.pointer (some ⟨b, o, none⟩)) 1) K tk ↔ K (.pointer (some ⟨b, o + 1, none⟩)) := by
  show PureK Try.prog (Instr.fieldAt 48 (.pointer (some ⟨b, o, none⟩)) 1) K ↔ _
  have h : fieldOf Try.prog 48 1 = some (1, 0 + 1) := by kernel_rfl
  simpa only [add_plain, Nat.add_zero] using PureK_fieldAt (K := K) h (a := ⟨b, o, none⟩)
theorem ix23 {K : Value → Prop} {tk : TkV K} {b o n c : Nat} {k : IntKind} {i : Int} (h0 : 0 ≤ i) (h1 : i < (n : Int)) : PureT Try.prog (Instr.indexAt 23 (.slice (some ⟨b, o, none⟩) n c) (.int k i)) K tk ↔ K (.pointer (some ⟨b, o + i.toNat, none⟩)) := by
  show PureK Try.prog (Instr.indexAt 23 (.slice (some ⟨b, o, none⟩) n c) (.int k i)) K ↔ _
  simpa only [add_plain, Nat.mul_one] using PureK_indexAt_slice (K := K) (k := k) (c := c) Try.underlying23 1 sz3 (a := ⟨b, o, none⟩) h0 h1
theorem ix24 {K : Value → Prop} {tk : TkV K} {b o n c : Nat} {k : IntKind} {i : Int} (h0 : 0 ≤ i) (h1 : i < (n : Int)) : PureT Try.prog (Instr.indexAt 24 (.slice (some ⟨b, o, none⟩) n c) (.int k i)) K tk ↔ K (.pointer (some ⟨b, o + i.toNat, none⟩)) := by
  show PureK Try.prog (Instr.indexAt 24 (.slice (some ⟨b, o, none⟩) n c) (.int k i)) K ↔ _
  simpa only [add_plain, Nat.mul_one] using PureK_indexAt_slice (K := K) (k := k) (c := c) Try.underlying24 1 sz22 (a := ⟨b, o, none⟩) h0 h1
theorem ix25 {K : Value → Prop} {tk : TkV K} {b o n c : Nat} {k : IntKind} {i : Int} (h0 : 0 ≤ i) (h1 : i < (n : Int)) : PureT Try.prog (Instr.indexAt 25 (.slice (some ⟨b, o, none⟩) n c) (.int k i)) K tk ↔ K (.pointer (some ⟨b, o + i.toNat * 2, none⟩)) := by
  show PureK Try.prog (Instr.indexAt 25 (.slice (some ⟨b, o, none⟩) n c) (.int k i)) K ↔ _
  simpa only [add_plain, Nat.mul_one] using PureK_indexAt_slice (K := K) (k := k) (c := c) Try.underlying25 2 sz36 (a := ⟨b, o, none⟩) h0 h1
theorem ix26 {K : Value → Prop} {tk : TkV K} {b o n c : Nat} {k : IntKind} {i : Int} (h0 : 0 ≤ i) (h1 : i < (n : Int)) : PureT Try.prog (Instr.indexAt 26 (.slice (some ⟨b, o, none⟩) n c) (.int k i)) K tk ↔ K (.pointer (some ⟨b, o + i.toNat * 2, none⟩)) := by
  show PureK Try.prog (Instr.indexAt 26 (.slice (some ⟨b, o, none⟩) n c) (.int k i)) K ↔ _
  simpa only [add_plain, Nat.mul_one] using PureK_indexAt_slice (K := K) (k := k) (c := c) Try.underlying26 2 sz48 (a := ⟨b, o, none⟩) h0 h1
theorem ix38 {K : Value → Prop} {tk : TkV K} {b o n c : Nat} {k : IntKind} {i : Int} (h0 : 0 ≤ i) (h1 : i < (n : Int)) : PureT Try.prog (Instr.indexAt 38 (.slice (some ⟨b, o, none⟩) n c) (.int k i)) K tk ↔ K (.pointer (some ⟨b, o + i.toNat, none⟩)) := by
  show PureK Try.prog (Instr.indexAt 38 (.slice (some ⟨b, o, none⟩) n c) (.int k i)) K ↔ _
  simpa only [add_plain, Nat.mul_one] using PureK_indexAt_slice (K := K) (k := k) (c := c) Try.underlying38 1 sz23 (a := ⟨b, o, none⟩) h0 h1
theorem ix39 {K : Value → Prop} {tk : TkV K} {b o n c : Nat} {k : IntKind} {i : Int} (h0 : 0 ≤ i) (h1 : i < (n : Int)) : PureT Try.prog (Instr.indexAt 39 (.slice (some ⟨b, o, none⟩) n c) (.int k i)) K tk ↔ K (.pointer (some ⟨b, o + i.toNat, none⟩)) := by
  show PureK Try.prog (Instr.indexAt 39 (.slice (some ⟨b, o, none⟩) n c) (.int k i)) K ↔ _
  simpa only [add_plain, Nat.mul_one] using PureK_indexAt_slice (K := K) (k := k) (c := c) Try.underlying39 1 sz40 (a := ⟨b, o, none⟩) h0 h1
theorem ix40 {K : Value → Prop} {tk : TkV K} {b o n c : Nat} {k : IntKind} {i : Int} (h0 : 0 ≤ i) (h1 : i < (n : Int)) : PureT Try.prog (Instr.indexAt 40 (.slice (some ⟨b, o, none⟩) n c) (.int k i)) K tk ↔ K (.pointer (some ⟨b, o + i.toNat, none⟩)) := by
  show PureK Try.prog (Instr.indexAt 40 (.slice (some ⟨b, o, none⟩) n c) (.int k i)) K ↔ _
  simpa only [add_plain, Nat.mul_one] using PureK_indexAt_slice (K := K) (k := k) (c := c) Try.underlying40 1 sz9 (a := ⟨b, o, none⟩) h0 h1
theorem ix9 {K : Value → Prop} {tk : TkV K} {s : ByteArray} {k : IntKind} {i : Int} (h0 : 0 ≤ i) (h1 : i < (s.size : Int)) : PureT Try.prog (Instr.index 9 (.string s) (.int k i)) K tk ↔ K (.int .u8 (byteAt s i.toNat)) := PureK_index_strB Try.underlying9 h0 h1
theorem le23 {K : Value → Prop} {tk : TkV K} {ty : TypeId} {A : Option Addr} {n c : Nat} : PureT Try.prog (Builtin.len_ #[23] ty #[.slice A n c]) K tk ↔ K (.int .i64 n) := PureK_len_slice Try.underlying23
theorem le24 {K : Value → Prop} {tk : TkV K} {ty : TypeId} {A : Option Addr} {n c : Nat} : PureT Try.prog (Builtin.len_ #[24] ty #[.slice A n c]) K tk ↔ K (.int .i64 n) := PureK_len_slice Try.underlying24
theorem le25 {K : Value → Prop} {tk : TkV K} {ty : TypeId} {A : Option Addr} {n c : Nat} : PureT Try.prog (Builtin.len_ #[25] ty #[.slice A n c]) K tk ↔ K (.int .i64 n) := PureK_len_slice Try.underlying25
theorem le26 {K : Value → Prop} {tk : TkV K} {ty : TypeId} {A : Option Addr} {n c : Nat} : PureT Try.prog (Builtin.len_ #[26] ty #[.slice A n c]) K tk ↔ K (.int .i64 n) := PureK_len_slice Try.underlying26
theorem le38 {K : Value → Prop} {tk : TkV K} {ty : TypeId} {A : Option Addr} {n c : Nat} : PureT Try.prog (Builtin.len_ #[38] ty #[.slice A n c]) K tk ↔ K (.int .i64 n) := PureK_len_slice Try.underlying38
theorem le39 {K : Value → Prop} {tk : TkV K} {ty : TypeId} {A : Option Addr} {n c : Nat} : PureT Try.prog (Builtin.len_ #[39] ty #[.slice A n c]) K tk ↔ K (.int .i64 n) := PureK_len_slice Try.underlying39
theorem le40 {K : Value → Prop} {tk : TkV K} {ty : TypeId} {A : Option Addr} {n c : Nat} : PureT Try.prog (Builtin.len_ #[40] ty #[.slice A n c]) K tk ↔ K (.int .i64 n) := PureK_len_slice Try.underlying40
theorem lo22 {w0 : World} {H : Heap} {b o : Nat} : loadOf Try.prog w0 H 22 b o = lk w0 H b o := by unfold loadOf; rw [Try.underlying22]
theorem lo23 {w0 : World} {H : Heap} {b o : Nat} : loadOf Try.prog w0 H 23 b o = lk w0 H b o := by unfold loadOf; rw [Try.underlying23]
theorem lo3 {w0 : World} {H : Heap} {b o : Nat} : loadOf Try.prog w0 H 3 b o = lk w0 H b o := by unfold loadOf; rw [Try.underlying3]
theorem lo36 {w0 : World} {H : Heap} {b o : Nat} : loadOf Try.prog w0 H 36 b o = lookN w0 H b o 2 := loadOf_s Try.underlying36 (by kernel_rfl)
theorem lo40 {w0 : World} {H : Heap} {b o : Nat} : loadOf Try.prog w0 H 40 b o = lk w0 H b o := by unfold loadOf; rw [Try.underlying40]
theorem lo9 {w0 : World} {H : Heap} {b o : Nat} : loadOf Try.prog w0 H 9 b o = lk w0 H b o := by unfold loadOf; rw [Try.underlying9]
theorem mn25 : Many Try.prog 25 := .inl ⟨_, Try.underlying25⟩
theorem mn26 : Many Try.prog 26 := .inl ⟨_, Try.underlying26⟩
theorem mn39 : Many Try.prog 39 := .inl ⟨_, Try.underlying39⟩
theorem mn40 : Many Try.prog 40 := .inl ⟨_, Try.underlying40⟩
theorem mn52 : Many Try.prog 52 := .inl ⟨_, Try.underlying52⟩
theorem nq4 {K : Value → Prop} {tk : TkV K} {x y : Operand} {a b : Bool} : BinT Try.prog .neq 4 x y (.bool a) (.bool b) K tk ↔ K (.bool (!(a == b))) := BinK_ne_bool Try.underlying4 a b
theorem pl36_0 : placeOf Try.prog 36 0 = some (0, 1) := by kernel_rfl
theorem pl36_1 : placeOf Try.prog 36 1 = some (1, 1) := by kernel_rfl
theorem pl48_0 : placeOf Try.prog 48 0 = some (0, 1) := by kernel_rfl
theorem pl48_1 : placeOf Try.prog 48 1 = some (1, 1) := by kernel_rfl
end Go.Proofs.Ytgfdffedldnpfaa
