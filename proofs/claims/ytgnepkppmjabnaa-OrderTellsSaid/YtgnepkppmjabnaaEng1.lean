/- The engine's first part: a state of slots and of a heap of the call's own blocks, the judgements on code and on calls over it, and the rules for everything but single operations. Conditions: none. -/
import Derived.WalkKit
namespace Go.Proofs.Ytgnepkppmjabnaa.Eng
open Go.RowKit

/-- What is known of a block of the law's own. -/
inductive Item where
  | row (cs : List Value) (ty : TypeId)
  | flex (cs : List Value) (cap : Nat) (ty : TypeId)
  | obj (o : Obj)

abbrev Heap := Nat → Option Item
abbrev Slots := Nat → Value

def Obj.noCells : Obj → Prop
  | .cells .. => False
  | _ => True

/-- No cell below n is marked. -/
def Clear (fr : Nat × Nat) (n : Nat) : Prop := ∀ i, i < n → ¬ (fr.1 ≤ i ∧ i < fr.2)

def Item.holds (w : World) (b : Nat) : Item → Prop
  | .row cs ty => ∃ fr, w.heap[b]? = some (.cells cs.toArray ty fr) ∧ Clear fr cs.length
  | .flex cs cap ty => ∃ rest fr, w.heap[b]? = some (.cells (cs ++ rest).toArray ty fr) ∧ Clear fr (cs ++ rest).length ∧ (cs ++ rest).length = cap
  | .obj o => w.heap[b]? = some o ∧ Obj.noCells o

structure Sat (w0 : World) (H : Heap) (w : World) : Prop where
  below : Below w0.heap.size w0 w
  items : ∀ b it, H b = some it → w0.heap.size ≤ b ∧ it.holds w b

def Heap.set (H : Heap) (b : Nat) (it : Item) : Heap := fun k => if k = b then some it else H k
def Heap.del (H : Heap) (b : Nat) : Heap := fun k => if k = b then none else H k
theorem Heap.set_same (H : Heap) (b : Nat) (it : Item) : H.set b it b = some it := by simp [Heap.set]
theorem Heap.set_ne {H : Heap} {b k : Nat} {it : Item} (h : k ≠ b) : H.set b it k = H k := by simp [Heap.set, h]
theorem Heap.set_ne' {H : Heap} {b k : Nat} {it : Item} (h : b ≠ k) : H.set b it k = H k := by simp [Heap.set, h.symm]
theorem Heap.del_same (H : Heap) (b : Nat) : H.del b b = none := by simp [Heap.del]
theorem Heap.del_ne {H : Heap} {b k : Nat} (h : k ≠ b) : H.del b k = H k := by simp [Heap.del, h]

theorem Item.holds_lt {w : World} {b : Nat} {it : Item} (h : it.holds w b) : b < w.heap.size := by
  have key : ∀ o, w.heap[b]? = some o → b < w.heap.size := fun o h => (Array.getElem?_eq_some_iff.1 h).1
  cases it with
  | row cs ty => obtain ⟨fr, h, _⟩ := h; exact key _ h
  | flex cs cap ty => obtain ⟨rest, fr, h, _⟩ := h; exact key _ h
  | obj o => exact key _ h.1

theorem Item.holds_of_heap {w w' : World} {b : Nat} {it : Item} (h : it.holds w b) (he : w'.heap[b]? = w.heap[b]?) : it.holds w' b := by
  cases it <;> simp only [Item.holds, he] at h ⊢ <;> exact h

theorem Sat.lt {w0 w : World} {H : Heap} (h : Sat w0 H w) {b : Nat} {it : Item} (hb : H b = some it) : b < w.heap.size := Item.holds_lt (h.items b it hb).2
theorem Sat.fresh {w0 w : World} {H : Heap} (h : Sat w0 H w) : H w.heap.size = none := by
  cases hb : H w.heap.size with
  | none => rfl
  | some it => have := h.lt hb; omega
theorem Sat.base {w0 w : World} {H : Heap} (h : Sat w0 H w) : w0.heap.size ≤ w.heap.size := h.below.size

/-- Less is known. -/
def Heap.le (H H' : Heap) : Prop := ∀ b it, H b = some it → H' b = some it
theorem Sat.mono {w0 w : World} {H H' : Heap} (h : Sat w0 H' w) (hl : H.le H') : Sat w0 H w := ⟨h.below, fun b it hb => h.items b it (hl b it hb)⟩
theorem Heap.le_refl (H : Heap) : H.le H := fun _ _ h => h
theorem Heap.le_trans {A B C : Heap} (h : A.le B) (k : B.le C) : A.le C := fun b it hb => k b it (h b it hb)
theorem Heap.le_set {H : Heap} {b : Nat} {it : Item} (h : H b = none) : H.le (H.set b it) := fun k jt hk => by
  by_cases e : k = b
  · subst e; rw [h] at hk; cases hk
  · rw [Heap.set_ne e]; exact hk

/-- A world that differs in new blocks and draws alone. -/
theorem Sat.move {w0 w w' : World} {H : Heap} (h : Sat w0 H w) (hb : Below w.heap.size w w') : Sat w0 H w' :=
  ⟨h.below.trans (hb.mono h.below.size), fun b it hi => ⟨(h.items b it hi).1, Item.holds_of_heap (h.items b it hi).2 (hb.block b (h.lt hi))⟩⟩

theorem Sat.drew {w0 w : World} {H : Heap} (h : Sat w0 H w) : Sat w0 H { w with drawn := w.drawn + 1 } := ⟨h.below.drew, fun b it hi => h.items b it hi⟩

/-- A new block. -/
theorem Sat.push {w0 w : World} {H : Heap} (h : Sat w0 H w) (o : Obj) (it : Item) (hit : it.holds { w with heap := w.heap.push o } w.heap.size) :
    Sat w0 (H.set w.heap.size it) { w with heap := w.heap.push o } := by
  have hb : Below w.heap.size w { w with heap := w.heap.push o } := ⟨rfl, rfl, rfl, by simp, fun k hk => by simp [Array.getElem?_push, Nat.ne_of_lt hk]⟩
  refine ⟨(h.move hb).below, fun b jt hj => ?_⟩
  by_cases e : b = w.heap.size
  · subst e
    rw [Heap.set_same] at hj
    cases hj
    exact ⟨h.base, hit⟩
  · rw [Heap.set_ne e] at hj
    exact (h.move hb).items b jt hj

/-- A block that is written. -/
theorem Sat.write {w0 w w' : World} {H : Heap} (h : Sat w0 H w) {b : Nat} (hb : w0.heap.size ≤ b) (it : Item) (hit : it.holds w' b)
    (hos : w'.os = w.os) (htape : w'.tape = w.tape) (hout : w'.output = w.output) (hsize : w'.heap.size = w.heap.size) (hheap : ∀ k, k ≠ b → w'.heap[k]? = w.heap[k]?) :
    Sat w0 (H.set b it) w' := by
  refine ⟨h.below.trans ⟨hos, htape, hout, by omega, fun k hk => hheap k (by omega)⟩, fun k jt hj => ?_⟩
  by_cases e : k = b
  · subst e
    rw [Heap.set_same] at hj
    cases hj
    exact ⟨hb, hit⟩
  · rw [Heap.set_ne e] at hj
    exact ⟨(h.items k jt hj).1, Item.holds_of_heap (h.items k jt hj).2 (hheap k e)⟩

theorem Sat.del {w0 w : World} {H : Heap} (h : Sat w0 H w) (b : Nat) : Sat w0 (H.del b) w := h.mono fun k it hk => by
  by_cases e : k = b
  · subst e; rw [Heap.del_same] at hk; cases hk
  · rw [Heap.del_ne e] at hk; exact hk

/-! ### What a place reads as -/
def Item.cellAt : Item → Nat → Option Value
  | .row cs _, o => cs[o]?
  | .flex cs _ _, o => cs[o]?
  | .obj _, _ => none
def lk (w0 : World) (H : Heap) (b o : Nat) : Option Value :=
  if b < w0.heap.size then w0.cell? ⟨b, o, none⟩ else (H b).bind (·.cellAt o)

theorem Sat.lk {w0 w : World} {H : Heap} (h : Sat w0 H w) {b o : Nat} {v : Value} (hl : lk w0 H b o = some v) : w.cell? ⟨b, o, none⟩ = some v := by
  unfold Eng.lk at hl
  split at hl
  · rename_i hb; rw [h.below.cell (p := ⟨b, o, none⟩) hb]; exact hl
  · obtain ⟨it, hi, hc⟩ := Option.bind_eq_some_iff.1 hl
    obtain ⟨_, hh⟩ := h.items b it hi
    cases it with
    | row cs ty =>
      obtain ⟨fr, hh, _⟩ := hh
      simp only [World.cell?, hh, Option.isSome_none, Bool.false_eq_true, if_false]
      simpa [Item.cellAt] using hc
    | flex cs cap ty =>
      obtain ⟨rest, fr, hh, _⟩ := hh
      simp only [World.cell?, hh, Option.isSome_none, Bool.false_eq_true, if_false]
      simp only [Item.cellAt] at hc
      have := (List.getElem?_eq_some_iff.1 hc).1
      simp [List.getElem?_append_left this, hc]
    | obj o => simp [Item.cellAt] at hc

/-! ### Slots -/
def ev (s : Slots) : Operand → Value
  | .tmp t => s t
  | .const v => v
  | .global g => .pointer (some ⟨g, 0, none⟩)
  | .func f => .func (.func f) #[] #[]
structure Rs (N : Nat) (s : Slots) (a : Act) : Prop where
  defers : a.defers = []
  size : a.tmps.size = N
  at_ : ∀ i, a.tmps.getD i undef = s i
theorem Rs.eval {N : Nat} {s : Slots} {a : Act} (h : Rs N s a) : a.eval = ev s := by
  funext x
  cases x with
  | tmp t => exact h.at_ t
  | _ => rfl
def put (s : Slots) (d : Nat) (v : Value) : Slots := fun i => if i = d then v else s i
theorem put_same (s : Slots) (d : Nat) (v : Value) : put s d v d = v := by simp [put]
theorem put_ne {s : Slots} {d i : Nat} {v : Value} (h : i ≠ d) : put s d v i = s i := by simp [put, h]
def putO (s : Slots) : Option Tmp → Value → Slots
  | some d, v => put s d v
  | none, _ => s
def dstOk (N : Nat) : Option Tmp → Prop
  | some d => d < N
  | none => True
theorem Rs.put {N : Nat} {s : Slots} {a : Act} (h : Rs N s a) {dst : Option Tmp} (hd : dstOk N dst) (v : Value) : Rs N (putO s dst v) (a.put dst v) := by
  cases dst with
  | none => exact h
  | some d =>
    refine ⟨h.defers, by simp [Act.put, h.size], fun i => ?_⟩
    have := h.at_ i
    simp only [dstOk] at hd
    simp only [Act.put, putO, Eng.put, Array.getD_eq_getD_getElem?]
    by_cases e : i = d
    · subst e
      rw [Array.getElem?_setIfInBounds_self_of_lt (by rw [h.size]; exact hd)]
      simp
    · rw [Array.getElem?_setIfInBounds_ne (Ne.symm e), if_neg e, ← this, Array.getD_eq_getD_getElem?]

/-! ### The judgements -/
abbrev Post := Exit → Slots → Heap → Prop
def good (w0 : World) (N : Nat) (Q : Post) : Exit → Act → World → Prop := fun e a w => ∃ s H, Rs N s a ∧ Sat w0 H w ∧ Q e s H
/-- Code, begun at these slots and this heap, ends as Q says. -/
def S (P : Program) (w0 : World) (N : Nat) (c : Code) (s : Slots) (H : Heap) (Q : Post) : Prop :=
  ∀ w a, Sat w0 H w → Rs N s a → c.wp P (good w0 N Q) a w
/-- A call returns, and K says what. -/
def F (P : Program) (w0 : World) (f : FuncId) (args : List Value) (H : Heap) (K : Value → Heap → Prop) : Prop :=
  ∀ w, Sat w0 H w → Calls P f args.toArray w fun e w' => ∃ v H', e = .returned v ∧ Sat w0 H' w' ∧ K v H'

section
variable {P : Program} {w0 : World} {N : Nat}
theorem F.mono {f : FuncId} {args : List Value} {H : Heap} {K K' : Value → Heap → Prop} (h : F P w0 f args H K) (hk : ∀ v H', K v H' → K' v H') : F P w0 f args H K' :=
  fun w hw => (h w hw).mono fun _ _ ⟨v, H', he, hs, hq⟩ => ⟨v, H', he, hs, hk v H' hq⟩
theorem F.less {f : FuncId} {args : List Value} {H H0 : Heap} {K : Value → Heap → Prop} (h : F P w0 f args H0 K) (hl : H0.le H) : F P w0 f args H K :=
  fun w hw => h w (hw.mono hl)
theorem S.mono {c : Code} {s : Slots} {H : Heap} {Q Q' : Post} (h : S P w0 N c s H Q) (hq : ∀ e s H, Q e s H → Q' e s H) : S P w0 N c s H Q' :=
  fun w a hw ha => Code.wp_mono (fun _ _ _ ⟨s, H, hr, hs, q⟩ => ⟨s, H, hr, hs, hq _ _ _ q⟩) (h w a hw ha)
theorem S.less {c : Code} {s : Slots} {H H0 : Heap} {Q : Post} (h : S P w0 N c s H0 Q) (hl : H0.le H) : S P w0 N c s H Q :=
  fun w a hw ha => h w a (hw.mono hl) ha

def thenQ (next : Slots → Heap → Prop) (Q : Post) : Post
  | .normal, s, H => next s H
  | e, s, H => Q e s H
def blockQ (id : Nat) (Q : Post) : Post
  | .exit id', s, H => if id' = id then Q .normal s H else Q (.exit id') s H
  | e, s, H => Q e s H
@[simp] theorem thenQ_normal (next : Slots → Heap → Prop) (Q : Post) : thenQ next Q .normal = next := rfl
@[simp] theorem thenQ_ret (next : Slots → Heap → Prop) (Q : Post) : thenQ next Q .ret = Q .ret := rfl
@[simp] theorem thenQ_exit (next : Slots → Heap → Prop) (Q : Post) (i : Nat) : thenQ next Q (.exit i) = Q (.exit i) := rfl
@[simp] theorem blockQ_normal (i : Nat) (Q : Post) : blockQ i Q .normal = Q .normal := rfl
@[simp] theorem blockQ_ret (i : Nat) (Q : Post) : blockQ i Q .ret = Q .ret := rfl
@[simp] theorem blockQ_exit (i j : Nat) (Q : Post) (s : Slots) (H : Heap) : blockQ i Q (.exit j) s H = if j = i then Q .normal s H else Q (.exit j) s H := rfl

theorem S_skip {s : Slots} {H : Heap} {Q : Post} (h : Q .normal s H) : S P w0 N .skip s H Q := fun _ _ hw ha => wp_skip ⟨s, H, ha, hw, h⟩
theorem S_ret {s : Slots} {H : Heap} {Q : Post} (h : Q .ret s H) : S P w0 N .ret s H Q := fun _ _ hw ha => wp_ret ⟨s, H, ha, hw, h⟩
theorem S_exit {i : Nat} {s : Slots} {H : Heap} {Q : Post} (h : Q (.exit i) s H) : S P w0 N (.exit i) s H Q := fun _ _ hw ha => wp_exit ⟨s, H, ha, hw, h⟩
theorem S_seq {x y : Code} {s : Slots} {H : Heap} {Q : Post} (h : S P w0 N x s H (thenQ (fun s H => S P w0 N y s H Q) Q)) : S P w0 N (.seq x y) s H Q :=
  fun w a hw ha => wp_seq (Code.wp_mono (fun e a w ⟨s, H, hr, hs, q⟩ => by
    cases e with
    | normal => exact q w a hs hr
    | _ => exact ⟨s, H, hr, hs, q⟩) (h w a hw ha))
theorem S_block {i : Nat} {c : Code} {s : Slots} {H : Heap} {Q : Post} (h : S P w0 N c s H (blockQ i Q)) : S P w0 N (.block i c) s H Q :=
  fun w a hw ha => wp_block (Code.wp_mono (fun e a w ⟨s, H, hr, hs, q⟩ => by
    cases e with
    | exit j =>
      simp only [blockQ_exit] at q
      simp only [Exit.inBlock]
      split <;> rename_i hj
      · rw [if_pos hj] at q; exact ⟨s, H, hr, hs, q⟩
      · rw [if_neg hj] at q; exact ⟨s, H, hr, hs, q⟩
    | _ => exact ⟨s, H, hr, hs, q⟩) (h w a hw ha))
theorem S_cond {c : Operand} {x y : Code} {s : Slots} {H : Heap} {Q : Post} (t : Bool) (hc : ev s c = .bool t) (h1 : t = true → S P w0 N x s H Q) (h2 : t = false → S P w0 N y s H Q) :
    S P w0 N (.cond c x y) s H Q := fun w a hw ha =>
  wp_cond_split (t := t) (by rw [ha.eval]; exact hc) (fun ht => h1 ht w a hw ha) (fun ht => h2 ht w a hw ha)
theorem S_cond_true {c : Operand} {x y : Code} {s : Slots} {H : Heap} {Q : Post} (hc : ev s c = .bool true) (h : S P w0 N x s H Q) : S P w0 N (.cond c x y) s H Q :=
  S_cond true hc (fun _ => h) (fun h => by cases h)
theorem S_cond_false {c : Operand} {x y : Code} {s : Slots} {H : Heap} {Q : Post} (hc : ev s c = .bool false) (h : S P w0 N y s H Q) : S P w0 N (.cond c x y) s H Q :=
  S_cond false hc (fun h => by cases h) (fun _ => h)
/-- A loop, by what holds at its head and a number that goes down. -/
theorem S_loop {c : Code} {s : Slots} {H : Heap} {Q : Post} (I : Nat → Slots → Heap → Prop) (n : Nat) (h0 : I n s H)
    (round : ∀ n s H, I n s H → S P w0 N c s H (thenQ (fun s' H' => ∃ m, m < n ∧ I m s' H') Q)) : S P w0 N (.loop c) s H Q := by
  have key : ∀ n s H w a, I n s H → Sat w0 H w → Rs N s a → ∀ (b : Frame) (k : List Go.Item) (cs : List Frame),
      ∃ e a' w', good w0 N Q e a' w' ∧ Arrives P (lone (b.at a (.code c :: .inLoop c :: k)) cs w) b k cs e a' w' := by
    intro n
    induction n using Nat.strongRecOn with
    | _ n ih =>
      intro s H w a hI hw ha b k cs
      obtain ⟨e, a1, w1, ⟨s1, H1, hr1, hs1, hq⟩, harr⟩ := round n s H hI w a hw ha b (.inLoop c :: k) cs
      cases e with
      | normal =>
        obtain ⟨m, hm, hI1⟩ := hq
        obtain ⟨e2, a2, w2, hq2, harr2⟩ := ih m hm s1 H1 w1 a1 hI1 hs1 hr1 b k cs
        exact ⟨e2, a2, w2, hq2, .of_steps (Steps.trans harr (.one step_inLoop)) harr2⟩
      | exit id => exact ⟨_, a1, w1, ⟨s1, H1, hr1, hs1, hq⟩, .pass (x := .inLoop c) rfl (fun _ _ => .inl (by simp)) harr⟩
      | goto l => exact ⟨_, a1, w1, ⟨s1, H1, hr1, hs1, hq⟩, .pass (x := .inLoop c) rfl (fun _ _ => .inl (by simp)) harr⟩
      | ret => exact ⟨_, a1, w1, ⟨s1, H1, hr1, hs1, hq⟩, .pass (x := .inLoop c) rfl (fun _ _ => .inl (by simp)) harr⟩
      | panic ch => exact ⟨_, a1, w1, ⟨s1, H1, hr1, hs1, hq⟩, .pass (x := .inLoop c) rfl (fun _ _ => .inl (by simp)) harr⟩
      | outgrown => exact ⟨_, a1, w1, ⟨s1, H1, hr1, hs1, hq⟩, .pass (x := .inLoop c) rfl (fun _ _ => .inl (by simp)) harr⟩
  intro w a hw ha b k cs
  obtain ⟨e, a', w', hq, harr⟩ := key n s H w a h0 hw ha b k cs
  exact ⟨e, a', w', hq, .of_steps (.one step_loop) harr⟩

/-! ### A whole function -/
def loadOf (P : Program) (w0 : World) (H : Heap) (t : TypeId) (b o : Nat) : Option Value :=
  match P.underlying t with
  | none => none
  | some (.struct _) | some (.array _ _) => ((List.range (P.cellsOf t)).mapM fun j => lk w0 H b (o + j)).map fun l => .agg l.toArray
  | some _ => lk w0 H b o
def resOne (P : Program) (w0 : World) (s : Slots) (H : Heap) : ResultVar → Option Value
  | .tmp t => some (s t)
  | .cell a t => match s a with
    | .pointer (some ⟨b, o, none⟩) => loadOf P w0 H t b o
    | _ => none
def tup : List Value → Value
  | [v] => v
  | l => .tuple l.toArray
def resOf (P : Program) (w0 : World) (rs : List ResultVar) (s : Slots) (H : Heap) : Option Value := (rs.mapM (resOne P w0 s H)).map tup
def retQ (P : Program) (w0 : World) (rs : List ResultVar) (K : Value → Heap → Prop) : Post
  | .normal, s, H | .ret, s, H => ∃ v, resOf P w0 rs s H = some v ∧ K v H
  | _, _, _ => False
@[simp] theorem retQ_ret (rs : List ResultVar) (K : Value → Heap → Prop) (s : Slots) (H : Heap) : retQ P w0 rs K .ret s H = ∃ v, resOf P w0 rs s H = some v ∧ K v H := rfl
@[simp] theorem retQ_normal (rs : List ResultVar) (K : Value → Heap → Prop) (s : Slots) (H : Heap) : retQ P w0 rs K .normal s H = ∃ v, resOf P w0 rs s H = some v ∧ K v H := rfl
def begin0 (args : List Value) : Slots := fun i => args.getD i undef

theorem run_load_sat {H : Heap} {w : World} (hw : Sat w0 H w) {b o : Nat} {v : Value} (hl : lk w0 H b o = some v) : (load ⟨b, o, none⟩).run P w = .ok v w := by
  simp [load, Sem.run, hw.lk hl]
theorem run_loadCells_sat {H : Heap} {w : World} (hw : Sat w0 H w) {b o : Nat} : ∀ (n i : Nat) (l : List Value) (acc : Array Value),
    ((List.range' i n).mapM fun j => lk w0 H b (o + j)) = some l → (loadCellsFrom ⟨b, o, none⟩ i n acc).run P w = .ok (acc ++ l.toArray) w := by
  intro n
  induction n with
  | zero => intro i l acc h; simp at h; subst h; simp [loadCellsFrom]
  | succ n ih =>
    intro i l acc h
    rw [List.range'_succ, List.mapM_cons] at h
    simp only [Option.pure_def, Option.bind_eq_bind, Option.bind_eq_some_iff, Option.some.injEq] at h
    obtain ⟨v, hv, l', hl', rfl⟩ := h
    have ha : (⟨b, o, none⟩ : Addr).add i = ⟨b, o + i, none⟩ := by unfold Addr.add; split <;> simp_all
    simp only [loadCellsFrom, Sem.run_bind, ha, run_load_sat hw hv, Result.andThen_ok, ih (i + 1) l' (acc.push v) hl']
    simp
theorem run_loadVar_sat {H : Heap} {w : World} (hw : Sat w0 H w) {t : TypeId} {b o : Nat} {v : Value} (h : loadOf P w0 H t b o = some v) : (loadVar t ⟨b, o, none⟩).run P w = .ok v w := by
  unfold loadOf at h
  cases hu : P.underlying t with
  | none => rw [hu] at h; cases h
  | some d =>
    rw [hu] at h
    have hi : ∃ i, P.info? t = some i := by
      unfold Program.underlying at hu
      cases hi : P.info? t with
      | none => simp [hi] at hu
      | some i => exact ⟨i, rfl⟩
    obtain ⟨i, hi⟩ := hi
    have hsz := run_sizeOf (w := w) hi
    have agg : ∀ l, ((List.range (P.cellsOf t)).mapM fun j => lk w0 H b (o + j)) = some l → (loadCells ⟨b, o, none⟩ (P.cellsOf t)).run P w = .ok l.toArray w := fun l hl => by
      rw [List.range_eq_range'] at hl
      simpa [loadCells] using run_loadCells_sat (P := P) hw (P.cellsOf t) 0 l #[] hl
    cases d
    case struct fs =>
      simp only [Option.map_eq_some_iff] at h
      obtain ⟨l, hl, rfl⟩ := h
      simp [loadVar, isAgg, run_underlying hu, Result.andThen_ok, hsz, agg l hl]
    case array n e =>
      simp only [Option.map_eq_some_iff] at h
      obtain ⟨l, hl, rfl⟩ := h
      simp [loadVar, isAgg, run_underlying hu, Result.andThen_ok, hsz, agg l hl]
    all_goals
      simp only [loadVar, isAgg, Sem.run_bind, run_underlying hu, Result.andThen_ok, Sem.run_pure, Bool.false_eq_true, if_false]
      exact run_load_sat hw h

def resSem (tmps : Array Value) : ResultVar → Sem Value
  | .tmp t => pure (tmps.getD t undef)
  | .cell a t => do loadVar t (← asAddr (tmps.getD a undef))
theorem results_eq (fn : Func) (tmps : Array Value) : results fn tmps = (do
    let vs ← fn.results.mapM (resSem tmps)
    pure (if h : vs.size = 1 then vs[0] else .tuple vs)) := by
  unfold results
  congr 1
theorem F_body {f : FuncId} {fn : Func} {c : Code} {args : List Value} {H : Heap} {K : Value → Heap → Prop} (hf : P.funcs[f]? = some fn) (hb : fn.body = some c) (hn : fn.ntmps = N) (ha : args.length ≤ N)
    {rs : List ResultVar} (hr : fn.results = rs.toArray) (h : S P w0 N c (begin0 args) H (retQ P w0 rs K)) : F P w0 f args H K := by
  intro w hw
  refine calls_of_wp hf hb ?_
  refine Code.wp_mono ?_ (h w _ hw ?_)
  · intro e a w' ⟨s, H', hrs, hs, hq⟩
    have key : ∀ v, resOf P w0 rs s H' = some v → (results fn a.tmps).run P w' = .ok v w' := by
      intro v hv
      simp only [resOf, Option.map_eq_some_iff] at hv
      obtain ⟨l, hl, rfl⟩ := hv
      have each : ∀ (rs : List ResultVar) (l : List Value), rs.mapM (resOne P w0 s H') = some l → (rs.mapM (resSem a.tmps)).run P w' = .ok l w' := by
        intro rs
        induction rs with
        | nil => intro l h; simp at h; subst h; simp
        | cons r rs ih =>
          intro l h
          rw [List.mapM_cons] at h
          simp only [Option.pure_def, Option.bind_eq_bind, Option.bind_eq_some_iff, Option.some.injEq] at h
          obtain ⟨v, hv, l', hl', rfl⟩ := h
          have hrun : (resSem a.tmps r).run P w' = .ok v w' := by
            cases r with
            | tmp t => simp only [resOne, Option.some.injEq] at hv; subst hv; simp only [resSem, Sem.run_pure, hrs.at_ t]
            | cell b t =>
              simp only [resOne] at hv
              split at hv
              · rename_i b' o hb'
                simp only [resSem, hrs.at_ b, hb', asAddr, Sem.run_bind, Sem.run_pure, Result.andThen_ok]
                exact run_loadVar_sat hs hv
              · cases hv
          rw [List.mapM_cons]
          simp only [Sem.run_bind, hrun, Result.andThen_ok, ih l' hl', Sem.run_pure]
      have := each rs l hl
      rw [results_eq, hr]
      simp only [List.mapM_toArray, Sem.run_bind, Sem.run_map]
      rw [this]
      simp only [Result.andThen_ok, Sem.run_pure]
      match l with
      | [] => rfl
      | [v] => rfl
      | v :: u :: l => simp [tup]
    cases e with
    | normal => obtain ⟨v, hv, hk⟩ := hq; exact ⟨hrs.defers, v, key v hv, v, H', rfl, hs, hk⟩
    | ret => obtain ⟨v, hv, hk⟩ := hq; exact ⟨hrs.defers, v, key v hv, v, H', rfl, hs, hk⟩
    | _ => exact hq.elim
  · refine ⟨rfl, by simp [hn]; omega, fun i => ?_⟩
    simp only [begin0, Array.getD_eq_getD_getElem?, List.getD_eq_getElem?_getD]
    rw [Array.getElem?_append]
    split
    · simp
    · rename_i hlt
      simp only [List.size_toArray, Nat.not_lt] at hlt
      rw [List.getElem?_eq_none hlt]
      simp only [Array.getElem?_replicate]
      split <;> rfl
end
end Go.Proofs.Ytgnepkppmjabnaa.Eng
