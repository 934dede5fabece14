/- The engine's fourteenth part: the check of an order with what comes ahead kept in a table. Conditions: none. -/
import Derived.Test.YtgnepkppmjabnaaEng13
namespace Go.Proofs.Ytgnepkppmjabnaa.Eng
open Go.RowKit
set_option linter.unusedVariables false
set_option linter.unusedSimpArgs false

def preds (o : Oper) : List Nat := o.after.toList.flatMap fun e => if Region.binds .any e then [e.on] else []
def lowB : List Oper → Nat → Bool
  | [], _ => true
  | o :: r, i => (preds o).all (fun k => decide (k < i)) && lowB r (i + 1)
def maskOf (acc : List Nat) : List Nat → Nat
  | [] => 0
  | k :: r => (1 <<< k) ||| acc.getD k 0 ||| maskOf acc r
def masks : List Oper → List Nat → List Nat
  | [], acc => acc
  | o :: r, acc => masks r (acc ++ [maskOf acc (preds o)])
def ahM (ms : List Nat) (i j : Nat) : Bool := (ms.getD j 0).testBit i

theorem anc_step (ops : Array Oper) (n j i : Nat) (o : Oper) (ho : ops[j]? = some o) : i ∈ anc ops (n + 1) j ↔ ∃ k ∈ preds o, i = k ∨ i ∈ anc ops n k := by
  simp only [anc, ho, preds, List.mem_flatMap]
  constructor
  · rintro ⟨e, he, hi⟩
    by_cases hb : Region.binds .any e = true
    · rw [if_pos hb] at hi
      exact ⟨e.on, ⟨e, he, by rw [if_pos hb]; exact List.mem_singleton.2 rfl⟩, by simpa using hi⟩
    · rw [if_neg hb] at hi
      cases hi
  · rintro ⟨k, ⟨e, he, hk⟩, hi⟩
    by_cases hb : Region.binds .any e = true
    · rw [if_pos hb] at hk
      obtain rfl := List.mem_singleton.1 hk
      exact ⟨e, he, by rw [if_pos hb]; simpa using hi⟩
    · rw [if_neg hb] at hk
      cases hk
theorem lowB_get : ∀ (l : List Oper) (i j : Nat) (o : Oper), lowB l i = true → l[j]? = some o → ∀ k ∈ preds o, k < i + j
  | [], _, _, _, _, h => by simp at h
  | a :: l, i, 0, o, hb, h => by
    simp only [lowB, Bool.and_eq_true, List.all_eq_true, decide_eq_true_eq] at hb
    simp at h
    subst h
    exact hb.1
  | a :: l, i, j + 1, o, hb, h => by
    simp only [lowB, Bool.and_eq_true] at hb
    have := lowB_get l (i + 1) j o hb.2 (by simpa using h)
    intro k hk
    have := this k hk
    omega
/-- How deep one looks does not matter, if all edges go back. -/
theorem anc_fuel (l : List Oper) (hl : lowB l 0 = true) : ∀ (j n m i : Nat), j < n → j < m → (i ∈ anc l.toArray n j ↔ i ∈ anc l.toArray m j) := by
  intro j
  induction j using Nat.strongRecOn with
  | _ j ih =>
    intro n m i hn hm
    obtain ⟨n, rfl⟩ : ∃ a, n = a + 1 := ⟨n - 1, by omega⟩
    obtain ⟨m, rfl⟩ : ∃ a, m = a + 1 := ⟨m - 1, by omega⟩
    cases ho : l.toArray[j]? with
    | none => simp [anc, ho]
    | some o =>
      rw [anc_step _ _ _ _ _ ho, anc_step _ _ _ _ _ ho]
      have hlow := lowB_get l 0 j o hl (by simpa using ho)
      constructor
      · rintro ⟨k, hk, h⟩
        have hkj := hlow k hk
        exact ⟨k, hk, h.imp id fun h => (ih k (by omega) n m i (by omega) (by omega)).1 h⟩
      · rintro ⟨k, hk, h⟩
        have hkj := hlow k hk
        exact ⟨k, hk, h.imp id fun h => (ih k (by omega) n m i (by omega) (by omega)).2 h⟩
theorem maskOf_bit (acc : List Nat) (i : Nat) : ∀ ks : List Nat, (maskOf acc ks).testBit i = true ↔ ∃ k ∈ ks, i = k ∨ (acc.getD k 0).testBit i = true
  | [] => by simp [maskOf]
  | k :: r => by
    simp only [maskOf, Nat.testBit_or, Bool.or_eq_true, maskOf_bit acc i r, List.mem_cons, exists_eq_or_imp]
    have h1 : (1 <<< k).testBit i = true ↔ i = k := by
      rw [Nat.one_shiftLeft, Nat.testBit_two_pow]
      simp [eq_comm]
    rw [h1]
theorem ahead_mem (ops : Array Oper) (i j : Nat) : ahead ops i j = true ↔ i ∈ anc ops ops.size j := by simp [ahead]
theorem masks_eq (l : List Oper) (hl : lowB l 0 = true) : ∀ (rest pre : List Oper) (acc : List Nat), l = pre ++ rest → acc.length = pre.length → (∀ j, j < pre.length → ∀ i, (acc.getD j 0).testBit i = true ↔ ahead l.toArray i j = true) →
    (masks rest acc).length = l.length ∧ ∀ j, j < l.length → ∀ i, ((masks rest acc).getD j 0).testBit i = true ↔ ahead l.toArray i j = true
  | [], pre, acc, e, hlen, h => by
    have : l = pre := by simpa using e
    subst this
    exact ⟨hlen, h⟩
  | o :: rest, pre, acc, e, hlen, h => by
    refine masks_eq l hl rest (pre ++ [o]) _ (by simp [e]) (by simp [hlen]) fun j hj i => ?_
    have hj : j < pre.length + 1 := by simpa using hj
    rcases Nat.lt_or_ge j pre.length with h1 | h1
    · rw [List.getD_eq_getElem?_getD, List.getElem?_append_left (by omega), ← List.getD_eq_getElem?_getD]
      exact h j h1 i
    · obtain rfl : j = pre.length := by omega
      rw [List.getD_eq_getElem?_getD, List.getElem?_append_right (by omega), hlen, Nat.sub_self]
      simp only [List.getElem?_cons_zero, Option.getD_some]
      have ho : l[pre.length]? = some o := by rw [e]; simp
      have hsz : pre.length < l.length := (List.getElem?_eq_some_iff.1 ho).1
      rw [maskOf_bit, ahead_mem]
      obtain ⟨n, hn⟩ : ∃ n, l.toArray.size = n + 1 := ⟨l.length - 1, by simp; omega⟩
      have hn' : l.length = n + 1 := by simpa using hn
      rw [hn, anc_step _ _ _ _ _ (by simpa using ho)]
      have hlow := lowB_get l 0 _ o hl ho
      constructor
      · rintro ⟨k, hk, hi⟩
        have hkl := hlow k hk
        refine ⟨k, hk, hi.imp id fun hi => ?_⟩
        have := (h k (by omega) i).1 hi
        rw [ahead_mem, hn] at this
        exact (anc_fuel l hl k (n + 1) n i (by omega) (by omega)).1 this
      · rintro ⟨k, hk, hi⟩
        have hkl := hlow k hk
        refine ⟨k, hk, hi.imp id fun hi => (h k (by omega) i).2 ?_⟩
        rw [ahead_mem, hn]
        exact (anc_fuel l hl k (n + 1) n i (by omega) (by omega)).2 hi
theorem ahM_eq (l : List Oper) (hl : lowB l 0 = true) (i j : Nat) : ahM (masks l []) i j = ahead l.toArray i j := by
  obtain ⟨h1, h2⟩ := masks_eq l hl l [] [] rfl rfl fun j hj => by simp at hj
  rw [Bool.eq_iff_iff]
  rcases Nat.lt_or_ge j l.length with h | h
  · exact h2 j h i
  · have e1 : (masks l []).getD j 0 = 0 := by rw [List.getD_eq_getElem?_getD, List.getElem?_eq_none (by omega)]; rfl
    have e2 : l.toArray[j]? = none := by simp; omega
    rw [ahM, e1, ahead_mem]
    simp only [Nat.zero_testBit, Bool.false_eq_true, false_iff]
    intro hm
    cases hn : l.toArray.size with
    | zero => rw [hn] at hm; simp [anc] at hm
    | succ n => rw [hn] at hm; simp [anc, e2] at hm

def keepA (ah : Nat → Nat → Bool) (j : Nat) (pend : List Nat) : List Nat := pend.filter fun x => !ah x j
def chkA (ops : Array Oper) (ah : Nat → Nat → Bool) : Tr → Array Bool → List Nat → Bool
  | .fin, listed, _ => (Region.ready .any ops listed).isEmpty
  | .q i t, listed, pend => (Region.ready .any ops listed).contains i && ((List.range ops.size).all fun j => j == i || listed.getD j true || ah i j || free ops i j) && blind ops i i && (pend.all fun x => blind ops i x) &&
      chkA ops ah t (listed.setIfInBounds i true) (i :: pend)
  | .one j t, listed, pend => (Region.ready .any ops listed == [j]) && ((keepA ah j pend).all fun x => blind ops j x) && chkA ops ah t (listed.setIfInBounds j true) (keepA ah j pend)
  | .two j t j2 t2, listed, pend => (Region.ready .any ops listed == [j, j2]) && ((keepA ah j pend).all fun x => blind ops j x) && chkA ops ah t (listed.setIfInBounds j true) (keepA ah j pend) &&
      ((keepA ah j2 pend).all fun x => blind ops j2 x) && chkA ops ah t2 (listed.setIfInBounds j2 true) (keepA ah j2 pend)
  | .three j t j2 t2 j3 t3, listed, pend => (Region.ready .any ops listed == [j, j2, j3]) && ((keepA ah j pend).all fun x => blind ops j x) && chkA ops ah t (listed.setIfInBounds j true) (keepA ah j pend) &&
      ((keepA ah j2 pend).all fun x => blind ops j2 x) && chkA ops ah t2 (listed.setIfInBounds j2 true) (keepA ah j2 pend) && ((keepA ah j3 pend).all fun x => blind ops j3 x) && chkA ops ah t3 (listed.setIfInBounds j3 true) (keepA ah j3 pend)
def TX.okA (ops : Array Oper) (ah : Nat → Nat → Bool) : TX → List Nat → Bool
  | .fin, _ => true
  | .q i l t, ld => l == loadAt ops i && t.okA ops ah (if l = true then i :: ld else ld)
  | .one j ks t, ld => ks == keepA ah j ld && t.okA ops ah ks
  | .two j ks t j2 ks2 t2, ld => ks == keepA ah j ld && t.okA ops ah ks && ks2 == keepA ah j2 ld && t2.okA ops ah ks2
  | .three j ks t j2 ks2 t2 j3 ks3 t3, ld => ks == keepA ah j ld && t.okA ops ah ks && ks2 == keepA ah j2 ld && t2.okA ops ah ks2 && ks3 == keepA ah j3 ld && t3.okA ops ah ks3
section
variable {ops : Array Oper} {ah : Nat → Nat → Bool} (h : ∀ i j, ah i j = ahead ops i j)
include h
theorem keepA_eq (j : Nat) (pend : List Nat) : keepA ah j pend = keepI ops j pend := by
  unfold keepA keepI
  congr 1
  funext x
  rw [h]
theorem chkA_eq : ∀ (t : Tr) (listed : Array Bool) (pend : List Nat), chkA ops ah t listed pend = chk ops t listed pend := by
  intro t
  induction t with
  | fin => intro _ _; rfl
  | q i t ih => intro listed pend; simp only [chkA, chk, ih, h]
  | one j t ih => intro listed pend; simp only [chkA, chk, ih, keepA_eq h]
  | two j t j2 t2 ih ih2 => intro listed pend; simp only [chkA, chk, ih, ih2, keepA_eq h]
  | three j t j2 t2 j3 t3 ih ih2 ih3 => intro listed pend; simp only [chkA, chk, ih, ih2, ih3, keepA_eq h]
theorem okA_eq : ∀ (t : TX) (ld : List Nat), t.okA ops ah ld = t.ok ops ld := by
  intro t
  induction t with
  | fin => intro _; rfl
  | q i d t ih => intro ld; simp only [TX.okA, TX.ok, ih]
  | one j ks t ih => intro ld; simp only [TX.okA, TX.ok, ih, keepA_eq h]
  | two j ks t j2 ks2 t2 ih ih2 => intro ld; simp only [TX.okA, TX.ok, ih, ih2, keepA_eq h]
  | three j ks t j2 ks2 t2 j3 ks3 t3 ih ih2 ih3 => intro ld; simp only [TX.okA, TX.ok, ih, ih2, ih3, keepA_eq h]
end
/-- The check with the table that is handed to it. -/
def TX.fits2 (l : List Oper) (ms : List Nat) (t : TX) : Bool := lowB l 0 && (masks l [] == ms) && decide (t.tr.depth ≤ l.length) && chkA l.toArray (ahM ms) t.tr (Array.replicate l.length false) [] && t.okA l.toArray (ahM ms) []
theorem fits_of {l : List Oper} {ms : List Nat} {t : TX} (h : t.fits2 l ms = true) : t.fits l = true := by
  simp only [TX.fits2, Bool.and_eq_true, beq_iff_eq] at h
  obtain ⟨⟨⟨⟨h1, h2⟩, h3⟩, h4⟩, h5⟩ := h
  subst h2
  have hah := ahM_eq l h1
  rw [chkA_eq hah] at h4
  rw [okA_eq hah] at h5
  simp only [TX.fits, h3, h4, h5, Bool.and_self]
/-- A region that draws its order. -/
theorem S_drawn2 {P : Program} {w0 : World} {N : Nat} {l : List Oper} {id : Nat} {s : Slots} {H : Heap} {Q : Post} (hm : P.follows .mixedOrders = true) (ms : List Nat) (t : TX) (hc : t.fits2 l ms = true) (h : SX P w0 N l (fun s H => Q .normal s H) t [] s H) : S P w0 N (.region id l.toArray true) s H Q :=
  S_drawn hm t (fits_of hc) h
end Go.Proofs.Ytgnepkppmjabnaa.Eng
