/- The engine's eleventh part: slices of the call's own that grow; bytes and strings; copy. Conditions: none. -/
import Derived.Test.YtgnepkppmjabnaaEng10
import Derived.Laws.BytesArg
import Derived.Laws.IdiomStrings
namespace Go.Proofs.Ytgnepkppmjabnaa.Eng
open Go.RowKit
set_option linter.unusedVariables false
set_option linter.unusedSimpArgs false

/-- The block that a slice lies in. -/
def ob : Value → Option Nat
  | .slice (some a) _ _ => some a.block
  | _ => none
/-- v is nil and empty, or a slice of n elements that begins a block of the call's own whose known cells are cs. -/
def Own (w0 : World) (H : Heap) (e sz : Nat) (v : Value) (n : Nat) (cs : List Value) : Prop :=
  (v = .slice none 0 0 ∧ n = 0 ∧ cs = []) ∨ ∃ b c, v = .slice (some ⟨b, 0, none⟩) n c ∧ n ≤ c ∧ w0.heap.size ≤ b ∧ H b = some (.flex cs (c * sz) e) ∧ cs.length = n * sz
/-- Whatever lay in H but in v's block lies in H', and none of it is v's new block. -/
def Rest (H : Heap) (v : Value) (H' : Heap) (v' : Value) : Prop := ∀ k it, H k = some it → ob v ≠ some k → H' k = some it ∧ ob v' ≠ some k
section
variable {P : Program} {w0 : World} {H : Heap}
/-- A block of the call's own, read from its begin on. -/
theorem Rd.cells {sz n c b : Nat} {xs : List Value} {it : Item} (hlow : w0.heap.size ≤ b) (hb : H b = some it) (hl : xs.length = n * sz) (hc : n ≤ c := by omega) (hx : ∀ j x, xs[j]? = some x → it.cellAt j = some x := by exact fun _ _ h => h) : Rd w0 H sz (.slice (some ⟨b, 0, none⟩) n c) n xs :=
  ⟨_, _, rfl, hc, hl, fun _ => ⟨b, 0, rfl, fun j x hj => by rw [Nat.zero_add, lk_own hlow hb]; exact hx j x hj⟩⟩
theorem Own.nil (e sz : Nat) : Own w0 H e sz (.slice none 0 0) 0 [] := .inl ⟨rfl, rfl, rfl⟩
theorem Own.rd {e sz n : Nat} {v : Value} {cs : List Value} (h : Own w0 H e sz v n cs) : Rd w0 H sz v n cs := by
  rcases h with ⟨rfl, rfl, rfl⟩ | ⟨b, c, rfl, hc, hlow, hb, hl⟩
  · exact Rd.nil 0 none sz
  · refine ⟨_, _, rfl, hc, hl, fun _ => ⟨b, 0, rfl, fun j x hx => ?_⟩⟩
    rw [Nat.zero_add, lk_own hlow hb]
    exact hx
theorem Own.cells {e sz n : Nat} {v : Value} {cs : List Value} (h : Own w0 H e sz v n cs) : v.cells = #[v] := by
  rcases h with ⟨rfl, _, _⟩ | ⟨b, c, rfl, _⟩ <;> rfl
theorem Own.le {H' : Heap} {e sz n : Nat} {v : Value} {cs : List Value} (hl : H.le H') (h : Own w0 H e sz v n cs) : Own w0 H' e sz v n cs := by
  rcases h with ⟨rfl, rfl, rfl⟩ | ⟨b, c, rfl, hc, hlow, hb, hlen⟩
  · exact .nil e sz
  · exact .inr ⟨b, c, rfl, hc, hlow, hl b _ hb, hlen⟩
theorem Own.keep {H' : Heap} {e sz n : Nat} {v u u' : Value} {cs : List Value} (hr : Rest H u H' u') (hne : ∀ k, ob v = some k → ob u ≠ some k) (h : Own w0 H e sz v n cs) : Own w0 H' e sz v n cs ∧ ∀ k, ob v = some k → ob u' ≠ some k := by
  rcases h with ⟨rfl, rfl, rfl⟩ | ⟨b, c, rfl, hc, hlow, hb, hlen⟩
  · exact ⟨.nil e sz, fun k hk => by cases hk⟩
  · obtain ⟨h1, h2⟩ := hr b _ hb (hne b rfl)
    refine ⟨.inr ⟨b, c, rfl, hc, hlow, h1, hlen⟩, fun k hk => ?_⟩
    obtain rfl : b = k := by simpa [ob] using hk
    exact h2
/-- What is below stays, if it does not bear v's block. -/
theorem Rest.le {H0 H' : Heap} {v v' : Value} (hr : Rest H v H' v') (hl : H0.le H) (hn : ∀ k, ob v = some k → H0 k = none) : H0.le H' ∧ ∀ k, ob v' = some k → H0 k = none := by
  have hne : ∀ k it, H0 k = some it → ob v ≠ some k := fun k it hk e => by rw [hn k e] at hk; cases hk
  refine ⟨fun k it hk => (hr k it (hl k it hk) (hne k it hk)).1, fun k hk => ?_⟩
  cases h0 : H0 k with
  | none => rfl
  | some it => exact ((hr k it (hl k it h0) (hne k it h0)).2 hk).elim
theorem own_append {T U e ty : TypeId} {sz bytes : Nat} {z : Value} (E : Elt P T e sz bytes z) (hU : Many P U) {n m : Nat} {v x : Value} {cs ys : List Value} (hv : Own w0 H e sz v n cs) (h1 : cs.all Value.oneCell' = true)
    (hx : Srcs P w0 H sz x m ys) (hlim : (n + m) * bytes ≤ 140737488355328) (h63 : n + m ≤ 9223372036854775807) {K : Value → Heap → Prop}
    (hK : ∀ v' H', Own w0 H' e sz v' (n + m) (cs ++ ys) → Rest H v H' v' → K v' H') :
    OpK P w0 (Builtin.append_ #[T, U] ty #[v, x]) H K := by
  rcases hv with ⟨rfl, rfl, rfl⟩ | ⟨b, c, rfl, hc, hlow, hb, hl⟩
  · refine append_nil (ty := ty) E hU hx (by simpa using hlim) (by omega) (fun h0 => ?_) (fun hp => ?_)
    · subst h0
      have hy : ys = [] := List.eq_nil_of_length_eq_zero (by rw [hx.size]; simp)
      subst hy
      exact hK _ _ (.nil e sz) fun k it hk _ => ⟨hk, by simp [ob]⟩
    · intro b c hb hlow hc
      refine hK _ _ (.inr ⟨b, c, by simp, by omega, hlow, Heap.set_same _ _ _, by simpa using hx.size⟩) fun k it hk _ => ?_
      have hne : k ≠ b := fun e => by subst e; rw [hb] at hk; cases hk
      exact ⟨by rw [Heap.set_ne hne]; exact hk, by simp [ob]; exact hne.symm⟩
  · refine append_own (ty := ty) E hU hb hlow hl hc h1 hx hlim h63 ?_
    intro b' c' hb' hlow' hc'
    refine hK _ _ (.inr ⟨b', c', rfl, hc', hlow', Heap.set_same _ _ _, by rw [List.length_append, hl, hx.size, Nat.add_mul]⟩) fun k it hk hne => ?_
    have h2 : k ≠ b := fun e => hne (by simp [ob, e])
    have h3 : k ≠ b' := fun e => by
      rcases hb' with h | h
      · exact h2 (e.trans h)
      · rw [← e] at h; rw [h] at hk; cases hk
    exact ⟨by rw [Heap.set_ne h3, Heap.del_ne h2]; exact hk, by simp [ob]; exact h3.symm⟩

/-! ### Bytes and strings -/
theorem conv_bytes_str {src dst e : TypeId} (hs : P.underlying src = some (.slice e)) (he : P.underlying e = some (.int .u8)) (hd : P.underlying dst = some .string) {v : Value} {n : Nat} {xs : List Int} (hr : Rd w0 H 1 v n (xs.map (Value.int .u8))) {K : Value → Heap → Prop}
    (hK : K (.string (strOfNums xs)) H) : ConvK P w0 src dst v H K := by
  obtain ⟨A, c, rfl, hc, hl, hk⟩ := hr
  refine OpK_convs hd fun w hw => ⟨_, w, H, ?_, hw, hK⟩
  have hl : xs.length = n := by simpa using hl
  rcases Nat.eq_zero_or_pos n with h0 | h0
  · subst h0
    obtain rfl : xs = [] := List.eq_nil_of_length_eq_zero hl
    cases A with
    | none => exact run_convert_bytes_nil w src e hs he 0 c dst hd
    | some a =>
      simp [convert, run_underlying hs, run_underlying hd, run_underlying he, Conv.bytesToString, loadCells, loadCellsFrom, strOfNums]
      rfl
  · obtain ⟨b, o, hA, hlk⟩ := hk h0
    cases hA
    refine run_convert_bytes_arg w src e hs he b o n c xs hl (fun i hi => ?_) dst hd
    refine hw.lk (hlk i _ ?_)
    rw [List.getElem?_map, List.getElem?_eq_getElem (by omega)]
    simp [List.getD_eq_getElem?_getD, List.getElem?_eq_getElem (show i < xs.length by omega)]
theorem conv_str_bytes {src dst e : TypeId} (hs : P.underlying src = some .string) (hd : P.underlying dst = some (.slice e)) (he : P.underlying e = some (.int .u8)) {s : ByteArray} {K : Value → Heap → Prop}
    (hK : ∀ b c, H b = none → w0.heap.size ≤ b → s.size ≤ c → K (.slice (some ⟨b, 0, none⟩) s.size c) (H.set b (.flex (strCells s) (c * 1) e))) : ConvK P w0 src dst (.string s) H K := by
  refine OpK_conv hd fun w hw => ?_
  have hrun := run_bytes_of_string (P := P) w src dst e s hs hd he
  have hcap : s.size ≤ grownCap w s.size 0 e := by
    unfold grownCap
    simp only [Question.cut]
    omega
  refine ⟨_, _, _, hrun, ?_, hK w.heap.size _ hw.fresh hw.base hcap⟩
  have hrow : ∃ rest : List Value, bytesRow s (grownCap w s.size 0 e) = (strCells s ++ rest).toArray ∧ (strCells s ++ rest).length = grownCap w s.size 0 e := by
    refine ⟨List.replicate (grownCap w s.size 0 e - s.size) (.int .u8 0), ?_, ?_⟩
    · unfold bytesRow
      apply Array.ext'
      simp [strCells]
    · simp only [strCells, List.length_append, List.length_map, List.length_replicate, Array.length_toList]
      show s.size + _ = _
      omega
  obtain ⟨rest, hrow, hlen⟩ := hrow
  rw [hrow]
  refine hw.drew.push _ (.flex (strCells s) (grownCap w s.size 0 e * 1) e) ⟨rest, _, by simp; rfl, fun i hi => ?_, by rw [Nat.mul_one]; exact hlen⟩
  simp only [List.length_append, List.size_toArray] at hi hlen ⊢
  omega

/-! ### copy -/
theorem copy_own {T U e ty : TypeId} {sz bytes : Nat} {z : Value} (E : Elt P T e sz bytes z) {b o dn dc m : Nat} {x : Value} {ys : List Value} {it it' : Item} (hx : Srcs P w0 H sz x m ys) (hb : H b = some it)
    (hs : it.setCells o (ys.take (min m dn * sz)) = some it') {K : Value → Heap → Prop} (hK : K (.int .i64 (min m dn : Nat)) (H.set b it')) :
    OpK P w0 (Builtin.copy_ #[T, U] ty #[.slice (some ⟨b, o, none⟩) dn dc, x]) H K := fun w hw => by
  have h1 : (ys.take (min m dn * sz)).all Value.oneCell' = true := List.all_eq_true.2 fun u hu => List.all_eq_true.1 hx.one u (List.mem_of_mem_take hu)
  obtain ⟨w', hr, hsat⟩ := storeCells_sat (P := P) hw hb hs h1
  have hc := hx.cells (min m dn) (Nat.min_le_left _ _) w hw
  refine ⟨_, w', _, ?_, hsat, hK⟩
  have hmin : Nat.min m dn = min m dn := rfl
  simp only [Builtin.copy_, Sem.run_bind]
  simp [run_underlying E.und, E.run_size, hx.len, hmin, hc, hr, goInt]
end

/-! ### Two slices that grow -/
/-- Two slices of the call's own, apart from each other and from what was known before. -/
structure St (w0 : World) (H0 H : Heap) (ea eb sz : Nat) (va vb : Value) (na nb : Nat) (ca cb : List Value) : Prop where
  le : H0.le H
  a : Own w0 H ea sz va na ca
  b : Own w0 H eb sz vb nb cb
  ab : ∀ k, ob va = some k → ob vb ≠ some k
  na : ∀ k, ob va = some k → H0 k = none
  nb : ∀ k, ob vb = some k → H0 k = none
/-- A new block that neither of the two slices lies in. -/
structure Tm (w0 : World) (H : Heap) (va vb : Value) (k : Nat) (it : Item) : Prop where
  low : w0.heap.size ≤ k
  at_ : H k = some it
  a : ob va ≠ some k
  b : ob vb ≠ some k
section
variable {w0 : World} {H0 H H' : Heap} {ea eb sz na nb k : Nat} {va vb va' vb' : Value} {ca cb : List Value} {it : Item}
theorem Own.known {e n : Nat} {v : Value} {cs : List Value} (h : Own w0 H e sz v n cs) (hk : ob v = some k) : ∃ it, H k = some it := by
  rcases h with ⟨rfl, _, _⟩ | ⟨b, c, rfl, _, _, hb, _⟩
  · cases hk
  · obtain rfl : b = k := by simpa [ob] using hk
    exact ⟨_, hb⟩
theorem St.set (h : St w0 H0 H ea eb sz va vb na nb ca cb) (hk : H k = none) (it : Item) : St w0 H0 (H.set k it) ea eb sz va vb na nb ca cb :=
  ⟨Heap.le_trans h.le (Heap.le_set hk), h.a.le (Heap.le_set hk), h.b.le (Heap.le_set hk), h.ab, h.na, h.nb⟩
theorem St.tm (h : St w0 H0 H ea eb sz va vb na nb ca cb) (hk : H k = none) (hlow : w0.heap.size ≤ k) (it : Item) : Tm w0 (H.set k it) va vb k it :=
  ⟨hlow, Heap.set_same _ _ _, fun e => (by obtain ⟨j, hj⟩ := h.a.known e; rw [hk] at hj; cases hj), fun e => (by obtain ⟨j, hj⟩ := h.b.known e; rw [hk] at hj; cases hj)⟩
theorem Tm.set (h : Tm w0 H va vb k it) {j : Nat} (hj : H j = none) (jt : Item) : Tm w0 (H.set j jt) va vb k it :=
  ⟨h.low, Heap.le_set hj k it h.at_, h.a, h.b⟩
theorem St.appA (h : St w0 H0 H ea eb sz va vb na nb ca cb) {n2 : Nat} {cs2 : List Value} (ho : Own w0 H' ea sz va' n2 cs2) (hr : Rest H va H' va') : St w0 H0 H' ea eb sz va' vb n2 nb cs2 cb := by
  obtain ⟨h1, h2⟩ := hr.le h.le h.na
  obtain ⟨h3, h4⟩ := h.b.keep hr fun k hk e => h.ab k e hk
  exact ⟨h1, ho, h3, fun k hk e => h4 k e hk, h2, h.nb⟩
theorem St.appB (h : St w0 H0 H ea eb sz va vb na nb ca cb) {n2 : Nat} {cs2 : List Value} (ho : Own w0 H' eb sz vb' n2 cs2) (hr : Rest H vb H' vb') : St w0 H0 H' ea eb sz va vb' na n2 ca cs2 := by
  obtain ⟨h1, h2⟩ := hr.le h.le h.nb
  obtain ⟨h3, h4⟩ := h.a.keep hr fun k hk e => h.ab k hk e
  exact ⟨h1, h3, ho, h4, h.na, h2⟩
theorem Tm.appA (h : Tm w0 H va vb k it) (hr : Rest H va H' va') : Tm w0 H' va' vb k it := by
  obtain ⟨h1, h2⟩ := hr k it h.at_ h.a
  exact ⟨h.low, h1, h2, h.b⟩
theorem Tm.appB (h : Tm w0 H va vb k it) (hr : Rest H vb H' vb') : Tm w0 H' va vb' k it := by
  obtain ⟨h1, h2⟩ := hr k it h.at_ h.b
  exact ⟨h.low, h1, h.a, h2⟩
theorem Tm.srcs {P : Program} {cs : List Value} {e n : Nat} (h : Tm w0 H va vb k (.row cs e)) (hl : cs.length = n * sz) (h1 : cs.all Value.oneCell' = true) : Srcs P w0 H sz (.slice (some ⟨k, 0, none⟩) n n) n cs :=
  (Rd.cells h.low h.at_ hl).srcs h1
end
end Go.Proofs.Ytgnepkppmjabnaa.Eng
