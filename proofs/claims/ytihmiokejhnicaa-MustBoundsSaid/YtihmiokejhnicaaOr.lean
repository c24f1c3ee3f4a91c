/- The laws' operations opened. -/
import Derived.Test.YtihmiokejhnicaaOq
import Derived.Test.YtihmiokejhnicaaUj
set_option linter.unusedVariables false
set_option linter.unusedSimpArgs false
namespace Go.Proofs.Ytihmiokejhnicaa.Op
open Go.ChangeShapes Go.WideShapes Go.ChangeAt Go.RowKit Go.Deep Go.Proofs.YtihmiokejhnicaaW.PrintWords
variable {H : Type} {enc : TypeId × Value → H} {W : World} {v : Value} {d : DataW H} {p : List MemPlace}

set_option maxRecDepth 100000 in
theorem steps (hv : Value.okWide Try.prog W .any 0 24 v) (h : DataW.Trod enc Try.prog W 0 (fun _ => true) true 24 v d p) :
    ∃ (A : Option Addr) (l : List Stp) (c : Nat), v = .slice A l.length c ∧ l.length ≤ c ∧ Kd.C kSt W A l.length l := by
  obtain ⟨a, len, cap, rfl⟩ := okWide_slice Try.underlying24 hv
  obtain ⟨fuel, hf⟩ := h
  rcases slice_fields Try.underlying24 Try.underlying37 (by kernel_rfl) (by kernel_rfl) hf with ⟨hcs, _⟩ | ⟨x, n, c, m, hcs, hl, hm, hmm, hi⟩
  · simp [Value.cells] at hcs
    obtain ⟨rfl, rfl, rfl⟩ := hcs
    exact ⟨none, [], 0, rfl, Nat.le_refl _, rfl, by simp, fun h => by simp at h⟩
  · simp [Value.cells] at hcs
    obtain ⟨rfl, rfl, rfl⟩ := hcs
    simp only [if_true] at hmm
    subst hmm
    obtain ⟨F, hF⟩ := choose_lt (α := Stp) (n := len) (p := fun i s => W.cell? (x.add (i * 3)) = some (.int .i64 s.1) ∧ W.cell? (x.add (i * 3 + 1)) = some (.int .i64 s.2.1) ∧ W.cell? (x.add (i * 3 + 2)) = some (.int .u8 s.2.2)) (fun i hlt => by
      obtain ⟨_, v0, y0, c0, t0⟩ := hi i (by omega) 0 _ rfl
      obtain ⟨_, v1, y1, c1, t1⟩ := hi i (by omega) 1 _ rfl
      obtain ⟨_, v2, y2, c2, t2⟩ := hi i (by omega) 2 _ rfl
      obtain ⟨a, e0, _⟩ := DataW.trod_int Try.underlying3 t0
      obtain ⟨b, e1, _⟩ := DataW.trod_int Try.underlying3 t1
      obtain ⟨c, e2, _⟩ := DataW.trod_int Try.underlying5 t2
      cases e0
      cases e1
      cases e2
      exact ⟨(a, b, c), c0, c1, c2⟩)
    refine ⟨some x, (List.range len).map F, _, by simp; rfl, by simpa using hl, by simp, ?_, fun _ => ⟨x, rfl, fun j s hj => ?_⟩⟩
    · simp only [List.length_map, List.length_range]
      simp only [maxLen] at hm
      omega
    · obtain ⟨hlt, hj⟩ := List.getElem?_eq_some_iff.1 hj
      simp only [List.length_map, List.length_range] at hlt
      simp only [List.getElem_map, List.getElem_range] at hj
      subst hj
      obtain ⟨c0, c1, c2⟩ := hF j hlt
      refine ⟨[.int .i64 (F j).1, .int .i64 (F j).2.1, .int .u8 (F j).2.2], rfl, ⟨[_], [_, _], rfl, rfl, [_], [_], rfl, rfl, rfl⟩, fun i u hu => ?_⟩
      match i, hu with
      | 0, hu => cases hu; exact c0
      | 1, hu => cases hu; exact c1
      | 2, hu => cases hu; exact c2
      | _ + 3, hu => simp at hu

end Go.Proofs.Ytihmiokejhnicaa.Op
