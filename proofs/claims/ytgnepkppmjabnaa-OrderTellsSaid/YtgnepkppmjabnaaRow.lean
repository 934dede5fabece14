/- From a walk to a row: a law that returns true and leaves its arguments. Conditions: what the arguments' types are. -/
import Derived.Test.YtgnepkppmjabnaaEng13
import Derived.ProofKit
import Derived.SizedLaws
import Derived.Deep.Matrix
namespace Go.Proofs.Ytgnepkppmjabnaa.Eng
open Go.RowKit Go.ChangeShapes Go.WideShapes Go.ChangeAt
set_option linter.unusedVariables false
set_option linter.unusedSimpArgs false
section
variable {H : Type} {enc : TypeId × Value → H} {P : Program} {W W' : World}
theorem trodAll_stays (hl : laidOutB P = true) (hb : Below W.heap.size W W') : ∀ (ts : List TypeId) (vs : List Value) (ds : List (DataW H)) (ps : List MemPlace), (∀ t ∈ ts, P.readableRec t = true ∧ t < P.types.size) →
    DataW.TrodAll enc P W 0 (fun _ => true) true ts vs ds ps → (∀ x ∈ ps, x.block < W.heap.size) → DataW.TrodAll enc P W' 0 (fun b => decide (b < W.heap.size)) true ts vs ds ps
  | [], [], [], _, _, h, _ => h
  | t :: ts, v :: vs, d :: ds, ps, ht, ⟨p, q, h1, h2, e⟩, hlt => by
    subst e
    exact ⟨p, q, Below.trod hl (ht t List.mem_cons_self).1 (ht t List.mem_cons_self).2 h1 hb (fun x hx => hlt x (List.mem_append_left _ hx)),
      trodAll_stays hl hb ts vs ds q (fun u hu => ht u (List.mem_cons_of_mem _ hu)) h2 (fun x hx => hlt x (List.mem_append_right _ hx)), rfl⟩
theorem trodAll_len : ∀ (ts : List TypeId) (vs : List Value) (ds : List (DataW H)) (ps : List MemPlace), DataW.TrodAll enc P W 0 (fun _ => true) true ts vs ds ps → ds.length = ts.length
  | [], [], [], _, h => rfl
  | t :: ts, v :: vs, d :: ds, ps, ⟨p, q, h1, h2, e⟩ => by simp [trodAll_len ts vs ds q h2]
/-- The call gives true, and leaves what it was given. -/
theorem contract_of {f : FuncId} {fn : Func} {s : ChangeSpec} {tb : TypeId} (hl : laidOutB P = true) (hts : ∀ t ∈ fn.params.toList, P.readableRec t = true ∧ t < P.types.size) (hres : fn.resultTypes = #[tb]) (hub : P.underlying tb = some .bool) (hvars : s.vars = [])
    (hspec : ∀ ds : List (DataW H), ds.length = fn.params.toList.length → s.fn H ds = { results := [.lit (.bool true)], args := ds }) {args : Array Value} {ds gs : List (DataW H)} {before : List MemPlace}
    (hW : DataW.Whole enc P fn.params.toList s.vars false W args.toList ds gs before) (hF : F P W f args.toList (fun _ => none) (fun v _ => v = .bool true)) :
    Calls P f args W fun e W' => ∃ v, e = .returned v ∧ s.post enc P fn false true false false W args v W' := by
  have hW' := hW
  obtain ⟨p, q, hA, hV, rfl, _, _⟩ := hW
  rw [hvars] at hV
  obtain ⟨rfl, rfl⟩ := trodVars_none hV
  have hlt : ∀ y ∈ p, y.block < W.heap.size := fun y hy => by simpa using hW'.lt y (by simp [hy])
  have hlen := trodAll_len _ _ _ _ hA
  have hsp := hspec ds hlen
  have := hF W ⟨Below.refl _ _, fun b it h => by cases h⟩
  have e : args.toList.toArray = args := by simp
  rw [e] at this
  refine this.mono ?_
  rintro ex W' ⟨v, H', rfl, hs, rfl⟩
  refine ⟨_, rfl, ds, [], _, [], p, [], hW', ?_, ?_, ?_, hs.below.frame _, fun h => by cases h⟩
  · rw [List.append_nil, hsp, hres]
    exact trodAll_mk1 ⟨1, by simp [DataW.trod, Value.cells, hub]⟩
  · rw [List.append_nil, hsp]
    exact trodAll_stays hl hs.below _ _ _ _ hts hA hlt
  · rw [List.append_nil, hsp, hvars]
    rfl
theorem cell_lt {a : Addr} {v : Value} (h : W.cell? a = some v) : a.block < W.heap.size := by
  rcases Nat.lt_or_ge a.block W.heap.size with h1 | h1
  · exact h1
  · have : W.heap[a.block]? = none := Array.getElem?_eq_none h1
    simp [World.cell?, this] at h
theorem lk_w0 {b o : Nat} {v : Value} {H : Heap} (h : W.cell? ⟨b, o, none⟩ = some v) : lk W H b o = some v := by
  unfold lk
  rw [if_pos (cell_lt h)]
  exact h
/-- A slice of numbers that is handed in. -/
theorem open_rd {T e : TypeId} {k : IntKind} {v : Value} {d : DataW H} {p : List MemPlace} (hu : P.underlying T = some (.slice e)) (he : P.underlying e = some (.int k)) (ce : P.cellsOf e = 1) (hv : ∃ a l c, v = .slice a l c)
    (h : DataW.Trod enc P W 0 (fun _ => true) true T v d p) : ∃ zs : List Int, Rd W (fun _ => none) 1 v zs.length (zs.map (Value.int k)) ∧ zs.length ≤ maxLen ∧ ∀ n ∈ zs, (Lit.int k n).wf = true := by
  obtain ⟨a0, len, cap, rfl⟩ := hv
  obtain ⟨fuel, hf⟩ := h
  rcases open_ints hu he ce hf with ⟨hcs, hx⟩ | ⟨a, len', cap', zs, hcs, _, hl, hmx, hz, hx, hcell, hwz⟩
  · simp [Value.cells] at hcs
    obtain ⟨rfl, rfl, rfl⟩ := hcs
    exact ⟨[], Rd.nil 0 none 1, Nat.zero_le _, fun n hn => by cases hn⟩
  · simp [Value.cells] at hcs
    obtain ⟨rfl, rfl, rfl⟩ := hcs
    simp only [if_true] at hz
    have hlen : (zs.take len).length = len := by simp; omega
    refine ⟨zs.take len, ?_, by omega, fun n hn => hwz n (List.mem_of_mem_take hn)⟩
    rw [hlen]
    refine ⟨⟨some a, cap, rfl, hl, by simp; omega, fun hp => ?_⟩⟩
    obtain ⟨b, off, spot⟩ := a
    have hspot : spot = none := by simpa [Addr.add] using World.cell?_spot (hcell 0 (by omega))
    subst hspot
    refine ⟨b, off, rfl, fun j x hj => ?_⟩
    rw [List.getElem?_map] at hj
    obtain ⟨y, hy, rfl⟩ := Option.map_eq_some_iff.1 hj
    obtain ⟨hj1, hy⟩ := List.getElem?_eq_some_iff.1 hy
    have := hcell j (by omega)
    rw [add_plain] at this
    refine lk_w0 ?_
    rw [this, ← hy]
    simp [List.getD_eq_getElem?_getD, List.getElem?_eq_getElem (show j < zs.length by omega)]
/-- Lists of numbers that are handed in. -/
structure Ll (k : IntKind) (w0 : World) (v : Value) (l : List (Value × List Int)) : Prop where
  rd : Rd w0 (fun _ => none) 1 v l.length (l.map (·.1))
  each : ∀ x ∈ l, Rd w0 (fun _ => none) 1 x.1 x.2.length (x.2.map (Value.int k))
theorem rd_of_cells {k : IntKind} {A : Option Addr} {len cap : Nat} {zs : List Int} (hz : zs.length = cap) (hl : len ≤ cap) (hnone : A = none → cap = 0) (hcell : ∀ a, A = some a → ∀ i, i < cap → W.cell? (a.add i) = some (.int k (zs.getD i 0))) :
    Rd W (fun _ => none) 1 (.slice A len cap) (zs.take len).length ((zs.take len).map (Value.int k)) := by
  have hlen : (zs.take len).length = len := by simp; omega
  rw [hlen]
  refine ⟨⟨A, cap, rfl, hl, by simp; omega, fun hp => ?_⟩⟩
  cases A with
  | none => have := hnone rfl; omega
  | some a =>
    obtain ⟨b, off, spot⟩ := a
    have hspot : spot = none := by simpa [Addr.add] using World.cell?_spot (hcell _ rfl 0 (by omega))
    subst hspot
    refine ⟨b, off, rfl, fun j x hj => ?_⟩
    rw [List.getElem?_map] at hj
    obtain ⟨y, hy, rfl⟩ := Option.map_eq_some_iff.1 hj
    obtain ⟨hj1, hy⟩ := List.getElem?_eq_some_iff.1 hy
    have := hcell _ rfl j (by omega)
    rw [add_plain] at this
    refine lk_w0 ?_
    rw [this, ← hy]
    simp [List.getD_eq_getElem?_getD, List.getElem?_eq_getElem (show j < zs.length by omega)]
theorem open_ll {T e q : TypeId} {k : IntKind} {v : Value} {d : DataW H} {p : List MemPlace} (hu : P.underlying T = some (.slice e)) (he : P.underlying e = some (.slice q)) (hq : P.underlying q = some (.int k)) (ce : P.cellsOf e = 1) (cq : P.cellsOf q = 1) (hv : ∃ a l c, v = .slice a l c)
    (h : DataW.Trod enc P W 0 (fun _ => true) true T v d p) : ∃ l, Ll k W v l := by
  obtain ⟨a0, len, cap, rfl⟩ := hv
  obtain ⟨fuel, hf⟩ := h
  rcases Go.Deep.open_int_rows hu he hq ce cq hf with ⟨hcs, _⟩ | ⟨a, len', cap', A, L, C, Z, hcs, _, hl, _, _, hrow⟩
  · simp [Value.cells] at hcs
    obtain ⟨rfl, rfl, rfl⟩ := hcs
    exact ⟨[], Rd.nil 0 none 1, fun x hx => by cases hx⟩
  · simp [Value.cells] at hcs
    obtain ⟨rfl, rfl, rfl⟩ := hcs
    refine ⟨(List.range len).map fun r => (.slice (A r) (L r) (C r), (Z r).take (L r)), ?_, fun x hx => ?_⟩
    · rw [List.length_map, List.length_range, List.map_map]
      refine ⟨⟨some a, cap, rfl, hl, by simp, fun hp => ?_⟩⟩
      obtain ⟨b, off, spot⟩ := a
      have hspot : spot = none := by simpa [Addr.add] using World.cell?_spot (hrow 0 (by omega)).1
      subst hspot
      refine ⟨b, off, rfl, fun j x hj => ?_⟩
      rw [List.getElem?_map] at hj
      obtain ⟨y, hy, rfl⟩ := Option.map_eq_some_iff.1 hj
      obtain ⟨hj1, hy⟩ := List.getElem?_eq_some_iff.1 hy
      simp only [List.length_range] at hj1
      simp only [List.getElem_range] at hy
      subst hy
      have := (hrow j (by omega)).1
      rw [add_plain] at this
      exact lk_w0 this
    · obtain ⟨r, hr, rfl⟩ := List.mem_map.1 hx
      have hr := List.mem_range.1 hr
      obtain ⟨_, h1, _, h3, _, h5, h6⟩ := hrow r (by omega)
      exact rd_of_cells h3 h1 h5 fun a ha i hi => (h6 a ha).2 i hi
theorem wf_u32 {n : Int} (h : (Lit.int .u32 n).wf = true) : 0 ≤ n ∧ n < 4294967296 := by
  have h1 : IntKind.u32.min = 0 := rfl
  have h2 : IntKind.u32.max = 4294967295 := rfl
  simp [Lit.wf, h1, h2] at h
  omega
theorem wf_i64 {n : Int} (h : (Lit.int .i64 n).wf = true) : -9223372036854775808 ≤ n ∧ n ≤ 9223372036854775807 := by
  have h1 : IntKind.i64.min = -9223372036854775808 := rfl
  have h2 : IntKind.i64.max = 9223372036854775807 := rfl
  simp [Lit.wf, h1, h2] at h
  omega
theorem toNats {k : IntKind} {zs : List Int} (h : ∀ n ∈ zs, 0 ≤ n) : zs.map (Value.int k) = (zs.map Int.toNat).map fun (n : Nat) => Value.int k (n : Int) := by
  rw [List.map_map]
  refine List.map_congr_left fun n hn => ?_
  have := h n hn
  simp only [Function.comp_apply]
  congr 1
  omega
end
end Go.Proofs.Ytgnepkppmjabnaa.Eng
