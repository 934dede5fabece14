/- The engine's tenth part: small rules for rewriting. Conditions: none. -/
import Derived.Test.YtgnepkppmjabnaaEng9
namespace Go.Proofs.Ytgnepkppmjabnaa.Eng
open Go.RowKit
set_option linter.unusedVariables false
set_option linter.unusedSimpArgs false

def wantAt (s : Slots) (d : Option Tmp) (b : Bool) : Bool :=
  match d with
  | some t => (match s t with
    | .bool c => c == b
    | _ => false)
  | none => false
section
variable {P : Program} {w0 : World} {H : Heap} {K : Value → Prop} {KH : Value → Heap → Prop} {s : Slots}
theorem want_some {l : List Oper} {d : Option Tmp} {op : Op} {t : TypeId} {p : String} {a : Array Edge} {j : Nat} {b : Bool} : want l.toArray s ⟨d, op, t, p, a, some (j, b)⟩ = wantAt s ((opAt l j).bind (·.dst)) b := by
  rw [opAt_eq]
  rfl
theorem wantAt_some {t : Tmp} {b : Bool} : wantAt s (some t) b = (match s t with
    | .bool c => c == b
    | _ => false) := rfl
theorem resOf_nil : resOf P w0 [] s H = some (.tuple #[]) := rfl
theorem resOf_one {t : Tmp} : resOf P w0 [.tmp t] s H = some (s t) := rfl
theorem resOf_two {t u : Tmp} : resOf P w0 [.tmp t, .tmp u] s H = some (.tuple #[s t, s u]) := rfl
theorem resOf_three {t u v : Tmp} : resOf P w0 [.tmp t, .tmp u, .tmp v] s H = some (.tuple #[s t, s u, s v]) := rfl
theorem LoadK_ptr {t : TypeId} {b o : Nat} : LoadK P w0 H t (.pointer (some ⟨b, o, none⟩)) K = (match loadOf P w0 H t b o with
    | some v => K v
    | none => False) := rfl
theorem StoreK_ptr {t : TypeId} {b o : Nat} {v : Value} {KK : Heap → Prop} : StoreK P w0 H t (.pointer (some ⟨b, o, none⟩)) v KK = (match (H b).bind (Item.setCells o v.cells.toList) with
    | some it => szOf P t = some v.cells.size ∧ v.cells.toList.all Value.oneCell' = true ∧ KK (H.set b it)
    | none => False) := rfl
theorem NilK_ptr {a : Addr} : NilK (.pointer (some a)) K = K (.pointer (some a)) := rfl
theorem NilK_func {f : FuncId} {a b : Array Value} : NilK (.func (.func f) a b) K = K (.func (.func f) a b) := rfl
theorem cells_int {k : IntKind} {n : Int} : (Value.int k n).cells = #[.int k n] := rfl
theorem cells_bool {b : Bool} : (Value.bool b).cells = #[.bool b] := rfl
theorem cells_string {b : ByteArray} : (Value.string b).cells = #[.string b] := rfl
theorem cells_pointer {a : Option Addr} : (Value.pointer a).cells = #[.pointer a] := rfl
theorem cells_slice {a : Option Addr} {n c : Nat} : (Value.slice a n c).cells = #[.slice a n c] := rfl
theorem cells_map {a : Option Nat} : (Value.map a).cells = #[.map a] := rfl
theorem cells_func {f : Fn} {a b : Array Value} : (Value.func f a b).cells = #[.func f a b] := rfl
theorem cells_nilFunc : Value.nilFunc.cells = #[.nilFunc] := rfl
theorem cells_iface {t : TypeId} {v : Value} : (Value.iface t v).cells = #[.iface t v] := rfl
theorem cells_nilIface : Value.nilIface.cells = #[.nilIface] := rfl
theorem cells_agg {cs : Array Value} : (Value.agg cs).cells = cs := rfl
theorem zeros_one {z : Value} : zerosOf z 1 = z.cells.toList := by simp [zerosOf]
theorem zeros_agg {z : Value} : zerosOf z 0 = [] := by simp [zerosOf]
/-- A struct's or an array's cells, one behind the other. -/
def lookL (w0 : World) (H : Heap) (b : Nat) : Nat → Nat → Option (List Value)
  | _, 0 => some []
  | o, n + 1 => (lk w0 H b o).bind fun v => (lookL w0 H b (o + 1) n).map (v :: ·)
def lookN (w0 : World) (H : Heap) (b o n : Nat) : Option Value := (lookL w0 H b o n).map fun l => .agg l.toArray
theorem lookL_eq (b : Nat) : ∀ (n o i : Nat), ((List.range' i n).mapM fun j => lk w0 H b (o + j)) = lookL w0 H b (o + i) n := by
  intro n
  induction n with
  | zero => intro o i; rfl
  | succ n ih =>
    intro o i
    rw [List.range'_succ, List.mapM_cons, ih o (i + 1)]
    simp only [lookL, Option.pure_def, Option.bind_eq_bind]
    rw [Nat.add_assoc o i 1]
    cases lk w0 H b (o + i) with
    | none => rfl
    | some v => cases lookL w0 H b (o + (i + 1)) n <;> rfl
theorem loadOf_s {t : TypeId} {fs : Array Field} {b o n : Nat} (hu : P.underlying t = some (.struct fs)) (hc : P.cellsOf t = n) : loadOf P w0 H t b o = lookN w0 H b o n := by
  unfold loadOf lookN
  rw [hu, hc]
  simp only [List.range_eq_range', lookL_eq, Nat.add_zero]
theorem loadOf_a {t e : TypeId} {m b o n : Nat} (hu : P.underlying t = some (.array m e)) (hc : P.cellsOf t = n) : loadOf P w0 H t b o = lookN w0 H b o n := by
  unfold loadOf lookN
  rw [hu, hc]
  simp only [List.range_eq_range', lookL_eq, Nat.add_zero]
def BuildK (P : Program) (t : TypeId) (z : Value) (ps : Array (Nat × Value)) (K : Value → Prop) : Prop :=
  match fillV (placeOf P t) z.cells.toList ps.toList with
  | some cs => K (.agg cs.toArray)
  | none => PureK P (Instr.build t ps) K
theorem run_places (P : Program) (w : World) : ∀ (fs : List Field), (fs.all fun f => (P.info? f.type).isSome) = true → (fs.mapM fun f => (do pure (f.offset, ← sizeOf f.type) : Sem (Nat × Nat))).run P w = .ok (fs.map fun f => (f.offset, P.cellsOf f.type)) w := by
  intro fs
  induction fs with
  | nil => intro _; rfl
  | cons f fs ih =>
    intro h
    simp only [List.all_cons, Bool.and_eq_true] at h
    obtain ⟨i, hi⟩ := Option.isSome_iff_exists.1 h.1
    rw [List.mapM_cons]
    simp only [Sem.run_bind, run_sizeOf w hi, Result.andThen_ok, Sem.run_pure, ih h.2, List.map_cons]
theorem PureK_build {t : TypeId} {z : Value} (hz : zeroOf P t = some z) {fs : Array Field} (hu : P.underlying t = some (.struct fs)) (hall : (fs.toList.all fun f => (P.info? f.type).isSome) = true) {ps : Array (Nat × Value)} : PureK P (Instr.build t ps) K ↔ BuildK P t z ps K := by
  unfold BuildK
  split
  · rename_i cs hcs
    refine PureK_run fun w => ?_
    have hf := fill_eq _ _ _ _ hcs
    have hpl : (fun i => ((fs.toList.map fun f => (f.offset, P.cellsOf f.type)).toArray[i]?)) = placeOf P t := by
      funext i
      simp [placeOf, hu]
    have hm := run_places P w fs.toList hall
    have hm2 : (fs.mapM fun f => (do pure (f.offset, ← sizeOf f.type) : Sem (Nat × Nat))).run P w = .ok (fs.toList.map fun f => (f.offset, P.cellsOf f.type)).toArray w := by
      have e : fs = fs.toList.toArray := by simp
      rw [e]
      rw [List.mapM_toArray]
      simp only [Sem.run_map, hm, Result.andThen_ok]
    simp only [Instr.build, Sem.run_bind, run_zero hz, Result.andThen_ok, run_underlying hu, hm2, Sem.run_pure]
    have hz2 : z.cells.toList.toArray = z.cells := by simp
    rw [hz2, ← hpl] at hf
    rw [hf]
    rfl
  · exact Iff.rfl
/-- A string's byte. -/
def byteAt (s : ByteArray) (i : Nat) : Int := if h : i < s.size then ((s[i]'h).toNat : Int) else 0
theorem PureK_index_strB {t : TypeId} {k : IntKind} {i : Int} (hu : P.underlying t = some .string) {s : ByteArray} (h0 : 0 ≤ i) (h1 : i < (s.size : Int)) : PureK P (Instr.index t (.string s) (.int k i)) K ↔ K (.int .u8 (byteAt s i.toNat)) := by
  rw [PureK_index_str hu h0 h1]
  have h : i.toNat < s.size := by omega
  simp only [byteAt, dif_pos h]
theorem OpK_pure {x : Sem Value} (h : PureK P x fun v => KH v H) : OpK P w0 x H KH := let ⟨r, hr, k⟩ := h; fun w hw => ⟨r, w, H, hr w, hw, k⟩
theorem ConvK_int {src dst : TypeId} {k0 : IntKind} {x : Value} (hu : P.underlying dst = some (.int k0)) : ConvK P w0 src dst x H KH = PureK P (convert src dst x) (fun v => KH v H) := by unfold ConvK; rw [hu]
theorem ConvK_str {src dst : TypeId} {b : ByteArray} (hu : P.underlying dst = some .string) : ConvK P w0 src dst (.string b) H KH = PureK P (convert src dst (.string b)) (fun v => KH v H) := by unfold ConvK; rw [hu]
theorem OpK_conv {src dst e : TypeId} {x : Value} (hu : P.underlying dst = some (.slice e)) (h : OpK P w0 (convert src dst x) H KH) : ConvK P w0 src dst x H KH := by unfold ConvK; rw [hu]; exact h
theorem OpK_convs {src dst : TypeId} {A : Option Addr} {n c : Nat} (hu : P.underlying dst = some .string) (h : OpK P w0 (convert src dst (.slice A n c)) H KH) : ConvK P w0 src dst (.slice A n c) H KH := by unfold ConvK; rw [hu]; exact h
end
section
variable {P : Program} {w0 : World} {N : Nat} {H : Heap}
theorem F_less_post {f : FuncId} {args : List Value} {K : Value → Heap → Prop} (h : F P w0 f args H (fun v H' => ∃ H'', H''.le H' ∧ K v H'')) : F P w0 f args H K :=
  fun w hw => (h w hw).mono fun _ _ ⟨v, _, he, hs, H'', hl, hk⟩ => ⟨v, H'', he, hs.mono hl, hk⟩
theorem lk_le {H' : Heap} {b o : Nat} {v : Value} (hl : H.le H') (h : lk w0 H b o = some v) : lk w0 H' b o = some v := by
  unfold lk at h ⊢
  split at h
  · rename_i hb; rw [if_pos hb]; exact h
  · rename_i hb
    rw [if_neg hb]
    obtain ⟨it, hi, hc⟩ := Option.bind_eq_some_iff.1 h
    rw [hl b it hi]
    exact hc
theorem lk_own {b o : Nat} {it : Item} (hb : w0.heap.size ≤ b) (h : H b = some it) : lk w0 H b o = it.cellAt o := by
  unfold lk
  rw [if_neg (by omega), h]
  rfl
theorem lk_row {b o : Nat} {cs : List Value} {t : TypeId} (hb : w0.heap.size ≤ b) : lk w0 (H.set b (.row cs t)) b o = cs[o]? := lk_own hb (Heap.set_same _ _ _)
theorem Rd.le {H' : Heap} {sz n : Nat} {v : Value} {xs : List Value} (hl : H.le H') (h : Rd w0 H sz v n xs) : Rd w0 H' sz v n xs := by
  obtain ⟨A, c, hv, hc, hx, hr⟩ := h.out
  refine ⟨A, c, hv, hc, hx, fun hp => ?_⟩
  obtain ⟨b, o, hA, hk⟩ := hr hp
  exact ⟨b, o, hA, fun j x hj => lk_le hl (hk j x hj)⟩
/-- A loop; behind each round less may be known of memory. -/
theorem S_loopL {c : Code} {s : Slots} {Q : Post} (I : Nat → Slots → Heap → Prop) (n : Nat) (h0 : I n s H)
    (round : ∀ n s H, I n s H → S P w0 N c s H (thenQ (fun s' H' => ∃ m, m < n ∧ ∃ H'', H''.le H' ∧ I m s' H'') Q)) : S P w0 N (.loop c) s H Q :=
  S_loop (fun n s H => ∃ H'', H''.le H ∧ I n s H'') n ⟨H, Heap.le_refl H, h0⟩ fun n s H ⟨H'', hl, hI⟩ => (round n s H'' hI).less hl |>.mono fun e s' H' q => by
    cases e <;> first | (obtain ⟨m, hm, H3, hl3, hI3⟩ := q; exact ⟨m, hm, H3, hl3, hI3⟩) | exact q
/-- What follows may forget. -/
theorem S_forget {c : Code} {s : Slots} {H0 : Heap} {Q : Post} (hl : H0.le H) (h : S P w0 N c s H0 Q) : S P w0 N c s H Q := h.less hl
end
/-! ### Operations one by one, so that simp goes one way alone -/
def dstB (N : Nat) : Option Tmp → Bool
  | some d => decide (d < N)
  | none => true
theorem dstB_some {N d : Nat} : dstB N (some d) = decide (d < N) := rfl
theorem dstB_none {N : Nat} : dstB N none = true := rfl
theorem beq_ft : (false == true) = false := rfl
theorem beq_tf : (true == false) = false := rfl
theorem beq_tt : (true == true) = true := rfl
theorem beq_ff : (false == false) = true := rfl
def GuardK (d w : Bool) (A B : Prop) : Prop := d = true ∧ if w = true then A else B
theorem GuardK_t {A B : Prop} : GuardK true true A B = A := by simp [GuardK]
theorem GuardK_f {A B : Prop} : GuardK true false A B = B := by simp [GuardK]
theorem GuardK_cg {d d' w w' : Bool} {A B : Prop} (h1 : d = d') (h2 : w = w') : GuardK d w A B = GuardK d' w' A B := by rw [h1, h2]
section
variable {P : Program} {w0 : World} {N : Nat} {s : Slots} {H : Heap} {KS : Slots → Heap → Prop} {l : List Oper}
theorem dstB_eq {d : Option Tmp} : (dstB N d = true) = dstOk N d := by cases d <;> simp [dstB, dstOk]
theorem SopsL_nil {ops : Array Oper} : SopsL P w0 N ops [] s H KS = KS s H := rfl
theorem SopsL_cons {ops : Array Oper} {o : Oper} : SopsL P w0 N ops (o :: l) s H KS = GuardK (dstB N o.dst) (want ops s o) (opV P w0 o.op o.type s H fun v H => SopsL P w0 N ops l (putO s o.dst v) H KS) (SopsL P w0 N ops l (putO s o.dst undef) H KS) := by
  unfold GuardK
  rw [dstB_eq]
  rfl
theorem QO_g {o : Oper} {K : Value → Slots → Prop} : QO P w0 N l (some o) s H K = GuardK (dstB N o.dst) (want l.toArray s o) (qV P w0 o.op o.type s H fun v => K v (putO s o.dst v)) (K undef (putO s o.dst undef)) := by
  unfold GuardK
  rw [dstB_eq]
  rfl
theorem WO_g {o : Oper} : WO P w0 N l (some o) s H KS = GuardK (dstB N o.dst) (want l.toArray s o) (opV P w0 o.op o.type s H fun v H => KS (putO s o.dst v) H) (KS (putO s o.dst undef) H) := by
  unfold GuardK
  rw [dstB_eq]
  rfl
end

/-! ### What simp may enter: values, slots and heaps; not what follows -/
section
variable {P : Program} {w0 : World} {N : Nat} {s s' : Slots} {H H' : Heap} {KV : Value → Prop} {KH : Value → Heap → Prop} {KS : Slots → Heap → Prop} {Q Q2 : Post} {l : List Oper}
theorem W_cg {c : Code} (hs : s = s') (hH : H = H') : W P w0 N c s H Q = W P w0 N c s' H' Q := by rw [hs, hH]
theorem SopsL_cg {ops : Array Oper} (hs : s = s') (hH : H = H') : SopsL P w0 N ops l s H KS = SopsL P w0 N ops l s' H' KS := by rw [hs, hH]
theorem SX_cg {t : TX} {p p' : Pend} (hp : p = p') (hs : s = s') (hH : H = H') : SX P w0 N l KS t p s H = SX P w0 N l KS t p' s' H' := by rw [hp, hs, hH]
theorem QO_cg {o o' : Option Oper} {K : Value → Slots → Prop} (ho : o = o') : QO P w0 N l o s H K = QO P w0 N l o' s H K := by rw [ho]
theorem WO_cg {o o' : Option Oper} (ho : o = o') : WO P w0 N l o s H KS = WO P w0 N l o' s H KS := by rw [ho]
theorem opV_cg {op : Op} {ty : TypeId} : opV P w0 op ty s H KH = opV P w0 op ty s H KH := rfl
theorem qV_cg {op : Op} {ty : TypeId} : qV P w0 op ty s H KV = qV P w0 op ty s H KV := rfl
theorem CallK_cg {ty : TypeId} {c : Call} : CallK P w0 ty c s H KH = CallK P w0 ty c s H KH := rfl
theorem PickK_cg {a a' b b' c c' : Value} (h1 : a = a') (h2 : b = b') (h3 : c = c') : PickK a b c KV = PickK a' b' c' KV := by rw [h1, h2, h3]
theorem NilK_cg {a a' : Value} (h1 : a = a') : NilK a KV = NilK a' KV := by rw [h1]
theorem ConvK_cg {t u : TypeId} {a a' : Value} (h1 : a = a') : ConvK P w0 t u a H KH = ConvK P w0 t u a' H KH := by rw [h1]
theorem AllocK_cg {t : TypeId} : AllocK P w0 H t KH = AllocK P w0 H t KH := rfl
theorem BoxK_cg {t : TypeId} {a a' : Value} (h1 : a = a') : BoxK w0 H t a KH = BoxK w0 H t a' KH := by rw [h1]
theorem BuildSliceK_cg {t : TypeId} {n : Nat} {p p' : List (Nat × Value)} (h1 : p = p') : BuildSliceK P w0 H t n p KH = BuildSliceK P w0 H t n p' KH := by rw [h1]
theorem MakeK_cg {t : TypeId} {a a' b b' : Value} (h1 : a = a') (h2 : b = b') : MakeK P w0 H t a b KH = MakeK P w0 H t a' b' KH := by rw [h1, h2]
theorem BuildK_cg {t : TypeId} {z : Value} {p p' : Array (Nat × Value)} (h1 : p = p') : BuildK P t z p KV = BuildK P t z p' KV := by rw [h1]
theorem NewK_cg {it it' : Item} {K : Nat → Heap → Prop} (h : it = it') : NewK w0 H it K = NewK w0 H it' K := by rw [h]
theorem thenQ_cg {e : Exit} (hs : s = s') (hH : H = H') : thenQ KS Q e s H = thenQ KS Q e s' H' := by rw [hs, hH]
theorem blockQ_cg {i : Nat} {e : Exit} (hs : s = s') (hH : H = H') : blockQ i Q e s H = blockQ i Q e s' H' := by rw [hs, hH]
theorem retQ_cg {rs : List ResultVar} {e : Exit} (hs : s = s') (hH : H = H') : retQ P w0 rs KH e s H = retQ P w0 rs KH e s' H' := by rw [hs, hH]
end
theorem begin0_one (u v : Value) (l : List Value) : begin0 (u :: v :: l) 1 = v := rfl
theorem begin0_two (u v x : Value) (l : List Value) : begin0 (u :: v :: x :: l) 2 = x := rfl
theorem begin0_three (u v x y : Value) (l : List Value) : begin0 (u :: v :: x :: y :: l) 3 = y := rfl
theorem begin0_four (u v x y z : Value) (l : List Value) : begin0 (u :: v :: x :: y :: z :: l) 4 = z := rfl
theorem begin0_five (u v x y z a : Value) (l : List Value) : begin0 (u :: v :: x :: y :: z :: a :: l) 5 = a := rfl
end Go.Proofs.Ytgnepkppmjabnaa.Eng
