/- Numbers of fixed width, lists of cells: plain facts. Conditions: none. -/
import Derived.Test.YtgnepkppmjabnaaEng10
namespace Go.Proofs.Ytgnepkppmjabnaa
open Go.RowKit Eng
set_option linter.unusedVariables false
set_option linter.unusedSimpArgs false

theorem wrap_i64 {x : Int} (h0 : -9223372036854775808 ≤ x) (h1 : x ≤ 9223372036854775807) : IntKind.wrap .i64 x = x := by rw [IntKind.wrap_i64]; omega
theorem wrap_u (k : IntKind) (hk : k.signed = false) {x : Int} (h0 : 0 ≤ x) (h1 : x < (2 ^ k.bits : Int)) : k.wrap x = x := by
  unfold IntKind.wrap
  simp only [hk, Bool.false_and, Bool.false_eq_true, if_false]
  exact Int.emod_eq_of_lt h0 h1
theorem wrap_u8 {x : Int} (h0 : 0 ≤ x) (h1 : x < 256) : IntKind.wrap .u8 x = x := wrap_u .u8 rfl h0 (by show x < (2 ^ 8 : Int); omega)
theorem wrap_u32 {x : Int} (h0 : 0 ≤ x) (h1 : x < 4294967296) : IntKind.wrap .u32 x = x := wrap_u .u32 rfl h0 (by show x < (2 ^ 32 : Int); omega)
theorem wrap_u64 {x : Int} (h0 : 0 ≤ x) (h1 : x < 18446744073709551616) : IntKind.wrap .u64 x = x := wrap_u .u64 rfl h0 (by show x < (2 ^ 64 : Int); omega)
theorem ofInt_nat (w m : Nat) : BitVec.ofInt w (m : Int) = BitVec.ofNat w m := by simp
theorem and_u32 {m n : Nat} (hm : m < 4294967296) (hn : n < 4294967296) : IntKind.wrap .u32 ((BitVec.ofInt IntKind.u32.bits (m : Int) &&& BitVec.ofInt IntKind.u32.bits (n : Int)).toNat : Int) = ((m &&& n : Nat) : Int) := by
  have h : (BitVec.ofInt IntKind.u32.bits (m : Int) &&& BitVec.ofInt IntKind.u32.bits (n : Int)).toNat = m &&& n := by
    rw [ofInt_nat, ofInt_nat, BitVec.toNat_and, BitVec.toNat_ofNat, BitVec.toNat_ofNat]
    show m % 4294967296 &&& n % 4294967296 = _
    rw [Nat.mod_eq_of_lt hm, Nat.mod_eq_of_lt hn]
  rw [h]
  have := Nat.and_le_left (n := m) (m := n)
  exact wrap_u32 (by omega) (by omega)
theorem or_u32 {m n : Nat} (hm : m < 4294967296) (hn : n < 4294967296) : IntKind.wrap .u32 ((BitVec.ofInt IntKind.u32.bits (m : Int) ||| BitVec.ofInt IntKind.u32.bits (n : Int)).toNat : Int) = ((m ||| n : Nat) : Int) := by
  have h : (BitVec.ofInt IntKind.u32.bits (m : Int) ||| BitVec.ofInt IntKind.u32.bits (n : Int)).toNat = m ||| n := by
    rw [ofInt_nat, ofInt_nat, BitVec.toNat_or, BitVec.toNat_ofNat, BitVec.toNat_ofNat]
    show m % 4294967296 ||| n % 4294967296 = _
    rw [Nat.mod_eq_of_lt hm, Nat.mod_eq_of_lt hn]
  rw [h]
  have := Nat.or_lt_two_pow (n := 32) (x := m) (y := n) hm hn
  exact wrap_u32 (by omega) (by omega)
theorem shr_nat (m k : Nat) (b : Nat) (hb : k ≤ b) : ((m : Int).fdiv (2 ^ min ((k : Int).toNat) b)) = ((m / 2 ^ k : Nat) : Int) := by
  have : min ((k : Int).toNat) b = k := by simp; omega
  have e : ((2 : Int) ^ k) = ((2 ^ k : Nat) : Int) := by simp
  rw [this, e, Int.fdiv_eq_ediv_of_nonneg _ (Int.natCast_nonneg _), Int.natCast_ediv]

def pcF : Nat → Nat → Nat
  | 0, _ => 0
  | k + 1, n => n % 2 + pcF k (n / 2)
theorem pcF_eq : ∀ (k j n : Nat), n ≤ k → n ≤ j → pcF k n = pcF j n
  | 0, 0, _, _, _ => rfl
  | 0, j + 1, n, h, _ => by
    have : n = 0 := by omega
    subst this
    have := pcF_eq 0 j 0 (Nat.le_refl 0) (Nat.zero_le j)
    simp only [pcF] at this ⊢
    rw [Nat.zero_div, ← this]
  | k + 1, 0, n, _, h => by
    have : n = 0 := by omega
    subst this
    have := pcF_eq k 0 0 (Nat.zero_le k) (Nat.le_refl 0)
    simp only [pcF] at this ⊢
    rw [Nat.zero_div, this]
  | k + 1, j + 1, n, h, h2 => by
    simp only [pcF]
    rw [pcF_eq k j (n / 2) (by omega) (by omega)]
/-- How many bits of a number are 1. -/
def pc (n : Nat) : Nat := pcF n n
theorem pc_zero : pc 0 = 0 := rfl
theorem pc_succ (n : Nat) : pc n = n % 2 + pc (n / 2) := by
  cases n with
  | zero => rfl
  | succ m =>
    show pcF (m + 1) (m + 1) = _
    rw [pcF, pcF_eq m ((m + 1) / 2) ((m + 1) / 2) (by omega) (Nat.le_refl _)]
    rfl
theorem pc_split (k n : Nat) : pc n = pc (n / 2 ^ k) + pc (n % 2 ^ k) := by
  induction k generalizing n with
  | zero => simp [Nat.mod_one, pc_zero]
  | succ k ih =>
    rw [pc_succ n, pc_succ (n % 2 ^ (k + 1)), ih (n / 2)]
    have h1 : n / 2 / 2 ^ k = n / 2 ^ (k + 1) := by rw [Nat.div_div_eq_div_mul, Nat.pow_succ, Nat.mul_comm]
    have h2 : n % 2 ^ (k + 1) % 2 = n % 2 := Nat.mod_mod_of_dvd _ ⟨2 ^ k, by rw [Nat.pow_succ, Nat.mul_comm]⟩
    have h3 : n % 2 ^ (k + 1) / 2 = n / 2 % 2 ^ k := by
      rw [Nat.pow_succ, Nat.mul_comm, Nat.mod_mul_right_div_self]
    rw [h1, h2, h3]
    omega
theorem pc_le (k n : Nat) (h : n < 2 ^ k) : pc n ≤ k := by
  induction k generalizing n with
  | zero => simp at h; subst h; rw [pc_zero]; exact Nat.zero_le _
  | succ k ih =>
    rw [pc_succ]
    have := ih (n / 2) (by rw [Nat.pow_succ] at h; omega)
    omega

theorem pc_fuel (k n : Nat) (h : n < 2 ^ k) : pc n = pcF k n := by
  induction k generalizing n with
  | zero => simp at h; subst h; rw [pc_zero]; rfl
  | succ k ih => rw [pc_succ, pcF, ih (n / 2) (by rw [Nat.pow_succ] at h; omega)]

/-- The first place of an element of which p holds; -1: there is none. -/
def idxF {α : Type} (p : α → Bool) (l : List α) : Int := match l.findIdx? p with
  | some i => i
  | none => -1
theorem idxF_found {α : Type} {p : α → Bool} {l : List α} {k : Nat} (hk : k < l.length) (hp : p l[k] = true) (h : ∀ j (hj : j < l.length), j < k → p l[j] = false) : idxF p l = k := by
  have : l.findIdx? p = some k := List.findIdx?_eq_some_iff_getElem.2 ⟨hk, hp, fun j hj => by simp [h j (by omega) hj]⟩
  simp [idxF, this]
theorem idxF_none {α : Type} {p : α → Bool} {l : List α} (h : ∀ j (hj : j < l.length), p l[j] = false) : idxF p l = -1 := by
  have : l.findIdx? p = none := List.findIdx?_eq_none_iff.2 fun x hx => by
    obtain ⟨j, hj, rfl⟩ := List.getElem_of_mem hx
    exact h j hj
  simp [idxF, this]
theorem idxF_range {α : Type} (p : α → Bool) (l : List α) : -1 ≤ idxF p l ∧ idxF p l < l.length := by
  unfold idxF
  split
  · rename_i i hi
    have := (List.findIdx?_eq_some_iff_getElem.1 hi).1
    omega
  · omega
theorem idxF_any {α : Type} (p : α → Bool) (l : List α) : decide (0 ≤ idxF p l) = l.any p := by
  unfold idxF
  split
  · rename_i i hi
    obtain ⟨h, hp, _⟩ := List.findIdx?_eq_some_iff_getElem.1 hi
    have : l.any p = true := List.any_eq_true.2 ⟨l[i], List.getElem_mem h, hp⟩
    rw [this]; simp
  · rename_i hi
    have : l.any p = false := by
      rw [List.any_eq_false]
      intro x hx
      simpa using List.findIdx?_eq_none_iff.1 hi x hx
    rw [this]; rfl

/-! ### Slices of known elements -/
/-- v is a slice that reads as l, each element as the cells f gives. -/
structure Ls {α : Type} (f : α → List Value) (sz : Nat) (w0 : World) (H : Heap) (v : Value) (l : List α) : Prop where
  len : ∀ x ∈ l, (f x).length = sz
  rd : Rd w0 H sz v l.length (l.flatMap f)
theorem Ls.le {α : Type} {f : α → List Value} {sz : Nat} {w0 : World} {H H' : Heap} {v : Value} {l : List α} (hl : H.le H') (h : Ls f sz w0 H v l) : Ls f sz w0 H' v l := ⟨h.len, h.rd.le hl⟩
theorem flat_at {α : Type} {f : α → List Value} {sz : Nat} : ∀ (l : List α) (j : Nat) (hj : j < l.length), (∀ x ∈ l, (f x).length = sz) → ∀ r x, (f l[j])[r]? = some x → (l.flatMap f)[j * sz + r]? = some x := by
  intro l
  induction l with
  | nil => intro j hj; simp at hj
  | cons a l ih =>
    intro j hj hl r x hx
    rw [List.flatMap_cons]
    cases j with
    | zero =>
      simp only [List.getElem_cons_zero, Nat.zero_mul, Nat.zero_add] at hx ⊢
      rw [List.getElem?_append_left (List.getElem?_eq_some_iff.1 hx).1, hx]
    | succ j =>
      have ha := hl a List.mem_cons_self
      have : (j + 1) * sz + r = (f a).length + (j * sz + r) := by rw [ha, Nat.succ_mul]; omega
      rw [this, List.getElem?_append_right (by omega)]
      simp only [Nat.add_sub_cancel_left]
      exact ih j (by simpa using hj) (fun y hy => hl y (List.mem_cons_of_mem _ hy)) r x (by simpa using hx)
theorem Ls.open_ {α : Type} {f : α → List Value} {sz : Nat} {w0 : World} {H : Heap} {v : Value} {l : List α} (h : Ls f sz w0 H v l) :
    ∃ A c, v = .slice A l.length c ∧ l.length ≤ c ∧ (0 < l.length → ∃ b o, A = some ⟨b, o, none⟩ ∧ ∀ (j : Nat) (hj : j < l.length) r x, (f l[j])[r]? = some x → lk w0 H b (o + j * sz + r) = some x) := by
  obtain ⟨A, c, hv, hc, hl, hr⟩ := h.rd.out
  refine ⟨A, c, hv, hc, fun hp => ?_⟩
  obtain ⟨b, o, hA, hlk⟩ := hr hp
  refine ⟨b, o, hA, fun j hj r x hx => ?_⟩
  have := hlk (j * sz + r) x (flat_at l j hj h.len r x hx)
  rwa [← Nat.add_assoc] at this
end Go.Proofs.Ytgnepkppmjabnaa
