/- The laws' arguments opened: a geometry, steps, rows of numbers, numbers. -/
import Derived.Test.YtihmiokejhnicaaUa
import Derived.WalkKit
import Derived.ProofKit
import Derived.OpenShut
import Derived.Deep.Slices
import Derived.Deep.Fields
import Derived.Deep.Matrix
import Derived.ChangeSame
import Derived.Lib.SmallJoins
set_option linter.unusedVariables false
set_option linter.unusedSimpArgs false
namespace Go.Proofs.Ytihmiokejhnicaa.Op
open Go.ChangeShapes Go.WideShapes Go.ChangeAt Go.RowKit Go.Deep Go.Proofs.YtihmiokejhnicaaW.PrintWords

section
variable {H : Type} {enc : TypeId × Value → H} {P : Program} {w : World} {base : Nat} {spare : Nat → Bool} {held : Bool}
theorem slice_fields {t e : TypeId} {fs : Array Field} {fuel : Nat} {cs : List Value} {x : DataW H × List MemPlace} (ht : P.underlying t = some (.slice e)) (he : P.underlying e = some (.struct fs))
    (hone : oneCellFields P fs = true) (hC : P.cellsOf e = fs.size) (h : DataW.trod enc P w base spare held fuel t cs = some x) :
    (cs = [.slice none 0 0] ∧ x = (.nil, [])) ∨
    ∃ (a : Addr) (len cap m : Nat), cs = [.slice (some a) len cap] ∧ len ≤ cap ∧ cap ≤ maxLen ∧ m = (if spare a.block then cap else len) ∧
      ∀ i, i < m → ∀ (j : Nat) (f : Field), fs[j]? = some f → ∃ (n : Nat) (v : Value) (y : DataW H × List MemPlace), w.cell? (a.add (i * fs.size + j)) = some v ∧ DataW.trod enc P w base spare held n f.type [v] = some y := by
  rcases open_slice ht h with h0 | ⟨a, len, cap, m, n, D, Pl, hcs, hb, hl, hm, hmm, hx, hi⟩
  · exact .inl h0
  · refine .inr ⟨a, len, cap, m, hcs, hl, hm, hmm, fun i him => ?_⟩
    obtain ⟨cs', hc, ht'⟩ := hi i him
    rw [hC] at hc
    obtain ⟨ys, n', hn', hy, hlen, hyl, hf⟩ := DataW.trod_struct he ht'
    obtain ⟨_, hcl, hat⟩ := World.cells?_some hc
    refine fun j f hj => ?_
    obtain ⟨ho, hk⟩ := hone_of hone j f hj
    have hjl : j < fs.size := (Array.getElem?_eq_some_iff.1 hj).1
    have hcell := hat j hjl
    have hv : cs'[j]? = some (cs'[j]'(by omega)) := List.getElem?_eq_getElem (by omega)
    have h1 := hf j f hj
    rw [ho, hk] at h1
    have hone' : (cs'.drop j).take 1 = [cs'[j]'(by omega)] := by
      rw [List.drop_eq_getElem_cons (by omega)]
      rfl
    rw [hone'] at h1
    have hys : ys[j]? = some (ys[j]'(by omega)) := List.getElem?_eq_getElem (by omega)
    refine ⟨_, _, _, ?_, h1.trans hys⟩
    rw [← Go.Deep.add_add, hcell, hv]
end

variable {H : Type} {enc : TypeId × Value → H} {W : World} {v : Value} {d : DataW H} {p : List MemPlace}

set_option maxRecDepth 100000 in
theorem cache (hv : Value.okWide Try.prog W .any 0 23 v) (h : DataW.Trod enc Try.prog W 0 (fun _ => true) true 23 v d p) :
    ∃ a b c : Int, v = .agg #[.int .i64 a, .int .i64 b, .int .i64 c] := by
  obtain ⟨v0, v1, v2, y0, y1, y2, n, rfl, _, _, h0, h1, h2⟩ := Joins.open_agg3 Try.underlying23 (by kernel_rfl) (by kernel_rfl) hv h
  obtain ⟨a, h0, _⟩ := DataW.trod_int Try.underlying3 h0
  obtain ⟨b, h1, _⟩ := DataW.trod_int Try.underlying3 h1
  obtain ⟨c, h2, _⟩ := DataW.trod_int Try.underlying3 h2
  cases h0
  cases h1
  cases h2
  exact ⟨a, b, c, rfl⟩

set_option maxRecDepth 100000 in
theorem ints_C {k : IntKind} {x : Option Addr} {n : Nat} {zs : List Int} (h : n ≤ 9223372036854775807) (hl : zs.length = n) (hc : 0 < n → ∃ a, x = some a ∧ ∀ i, i < n → W.cell? (a.add i) = some (.int k (zs.getD i 0))) : (Kd.int k).C W x n zs := by
  refine ⟨hl, h, fun hn => ?_⟩
  obtain ⟨a, rfl, hcc⟩ := hc hn
  refine ⟨a, rfl, fun j s hj => ⟨[.int k s], rfl, rfl, fun i u hu => ?_⟩⟩
  obtain ⟨hlt, hj'⟩ := List.getElem?_eq_some_iff.1 hj
  match i, hu with
  | 0, hu =>
    cases hu
    have := hcc j (by omega)
    rw [List.getD_eq_getElem?_getD, hj] at this
    simpa [Kd.int, Kd.scalar] using this
  | _ + 1, hu => simp at hu

set_option maxRecDepth 100000 in
theorem ints {k : IntKind} {t e : TypeId} (ht : Try.prog.underlying t = some (.slice e)) (he : Try.prog.underlying e = some (.int k)) (hce : Try.prog.cellsOf e = 1) (hv : Value.okWide Try.prog W .any 0 t v) (h : DataW.Trod enc Try.prog W 0 (fun _ => true) true t v d p) :
    ∃ (A : Option Addr) (l : List Int) (c : Nat), v = .slice A l.length c ∧ l.length ≤ c ∧ (Kd.int k).C W A l.length l ∧ ∀ x ∈ l, (Lit.int k x).wf = true := by
  obtain ⟨a, len, cap, rfl⟩ := okWide_slice ht hv
  obtain ⟨fuel, hf⟩ := h
  rcases open_ints ht he hce hf with ⟨hcs, _⟩ | ⟨x, n, c, zs, hcs, _, hl, hm, hz, _, hcell, hwz⟩
  · simp [Value.cells] at hcs
    obtain ⟨rfl, rfl, rfl⟩ := hcs
    exact ⟨none, [], 0, rfl, Nat.le_refl _, ints_C (by simp) rfl (fun h => by simp at h), by simp⟩
  · simp [Value.cells] at hcs
    obtain ⟨rfl, rfl, rfl⟩ := hcs
    simp only [if_true] at hz
    have hlen : (zs.take len).length = len := by simp; omega
    refine ⟨some x, zs.take len, cap, by rw [hlen], by omega, ints_C (by simp only [maxLen] at hm; omega) rfl (fun _ => ⟨x, rfl, fun i hi => ?_⟩), fun y hy => hwz y (List.mem_of_mem_take hy)⟩
    rw [hlen] at hi
    rw [hcell i (by omega)]
    simp [List.getD_eq_getElem?_getD, hi]

set_option maxRecDepth 100000 in
theorem rows (hv : Value.okWide Try.prog W .any 0 42 v) (h : DataW.Trod enc Try.prog W 0 (fun _ => true) true 42 v d p) :
    ∃ (A : Option Addr) (l : List (List Int)) (c : Nat), v = .slice A l.length c ∧ l.length ≤ c ∧ Kd.C (Kd.slice 3 (Kd.int .i64)) W A l.length l ∧ ∀ r ∈ l, ∀ x ∈ r, (Lit.int .i64 x).wf = true := by
  obtain ⟨a, len, cap, rfl⟩ := okWide_slice Try.underlying42 hv
  obtain ⟨fuel, hf⟩ := h
  rcases open_int_rows Try.underlying42 Try.underlying57 Try.underlying3 (by kernel_rfl) (by kernel_rfl) hf with ⟨hcs, _⟩ | ⟨x, n, c, A, L, C, Z, hcs, _, hl, hm, _, hr⟩
  · simp [Value.cells] at hcs
    obtain ⟨rfl, rfl, rfl⟩ := hcs
    exact ⟨none, [], 0, rfl, Nat.le_refl _, ⟨rfl, by simp, fun h => by simp at h⟩, by simp⟩
  · simp [Value.cells] at hcs
    obtain ⟨rfl, rfl, rfl⟩ := hcs
    refine ⟨some x, (List.range len).map (fun r => (Z r).take (L r)), cap, by simp, by simpa using hl, ⟨by simp, ?_, fun _ => ⟨x, rfl, fun j s hj => ?_⟩⟩, fun r hr' y hy => ?_⟩
    · simp only [List.length_map, List.length_range]
      simp only [maxLen] at hm
      omega
    · obtain ⟨hlt, hj⟩ := List.getElem?_eq_some_iff.1 hj
      simp only [List.length_map, List.length_range] at hlt
      simp only [List.getElem_map, List.getElem_range] at hj
      subst hj
      obtain ⟨hc, h1, h2, h3, h4, h5, h6⟩ := hr j (by omega)
      have hlen : ((Z j).take (L j)).length = L j := by simp; omega
      refine ⟨[.slice (A j) (L j) (C j)], rfl, ⟨A j, C j, by rw [hlen], by omega, ints_C (by simp only [maxLen] at h2; omega) rfl (fun hn => ?_)⟩, fun i u hu => ?_⟩
      · rw [hlen] at hn
        rcases hA : A j with _ | a'
        · have := h5 hA
          omega
        · refine ⟨a', rfl, fun i hi => ?_⟩
          rw [hlen] at hi
          rw [(h6 a' hA).2 i (by omega)]
          simp [List.getD_eq_getElem?_getD, hi]
      · match i, hu with
        | 0, hu => cases hu; simpa [Kd.slice] using hc
        | _ + 1, hu => simp at hu
    · obtain ⟨j, hj, rfl⟩ := List.mem_map.1 hr'
      obtain ⟨_, _, _, _, h4, _⟩ := hr j (by have := List.mem_range.1 hj; omega)
      exact h4 y (List.mem_of_mem_take hy)
end Go.Proofs.Ytihmiokejhnicaa.Op
