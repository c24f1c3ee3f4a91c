/- may: New and Unknown of a geometry that is not valid. -/
import Derived.Test.YtacpfcneihlcnaaMa
set_option linter.unusedVariables false
set_option linter.unusedSimpArgs false
namespace Go.Proofs.Ytacpfcneihlcnaa
open Go.RowKit Go.Maps

set_option maxHeartbeats 400000 in
theorem may_new_bad {S W L : Int} (h : vldB S W L = false) (w : World) :
    Calls Try.prog 21 #[.agg #[.int .i64 S, .int .i64 W, .int .i64 L]] w fun e w' => e = .returned (.tuple #[.agg #[.int .i64 0, .int .i64 0, .int .i64 0, .bool false, .map none], .int .i64 1]) ∧ Below w.heap.size w w' := by
  have V := fun w => valid_any S W L w
  rw [h] at V
  clear h
  go_enter Try.func21, Try.ntmps21
  go_wp2_with fail
  refine (V _).mono ?_; rintro e w1 ⟨rfl, hb1⟩
  obtain ⟨hc, hf⟩ := bcell hb1
  have hz : w.heap.size + 1 < w1.heap.size := by have := hb1.size; simp at this; omega
  go_wp2_with fail
  exact bodyPost_ret (v := .tuple #[.agg #[.int .i64 0, .int .i64 0, .int .i64 0, .bool false, .map none], .int .i64 1]) (by simp [results, Try.results21, go_sem, hc, hz]) rfl
    ⟨rfl, by repeat (first | with_reducible exact Below.refl _ _ | refine below_set ?_ (by first | exact Nat.le_refl _ | (simp; omega) | simp) _ | refine below_alloc ?_ _ | refine below_drewN ?_ _ | refine below_then ?_ (by assumption))⟩
set_option maxHeartbeats 400000 in
theorem may_unknown_bad {S W L : Int} (h : vldB S W L = false) (w : World) :
    Calls Try.prog 14 #[.agg #[.int .i64 S, .int .i64 W, .int .i64 L]] w fun e w' => e = .returned (.tuple #[.agg #[.int .i64 0, .int .i64 0, .int .i64 0, .bool false, .map none], .int .i64 1]) ∧ Below w.heap.size w w' := by
  have V := fun w => valid_any S W L w
  rw [h] at V
  clear h
  go_enter Try.func14, Try.ntmps14
  go_wp2_with fail
  refine (V _).mono ?_; rintro e w1 ⟨rfl, hb1⟩
  obtain ⟨hc, hf⟩ := bcell hb1
  have hz : w.heap.size + 1 < w1.heap.size := by have := hb1.size; simp at this; omega
  go_wp2_with fail
  exact bodyPost_ret (v := .tuple #[.agg #[.int .i64 0, .int .i64 0, .int .i64 0, .bool false, .map none], .int .i64 1]) (by simp [results, Try.results14, go_sem, hc, hz]) rfl
    ⟨rfl, by repeat (first | with_reducible exact Below.refl _ _ | refine below_set ?_ (by first | exact Nat.le_refl _ | (simp; omega) | simp) _ | refine below_alloc ?_ _ | refine below_drewN ?_ _ | refine below_then ?_ (by assumption))⟩
end Go.Proofs.Ytacpfcneihlcnaa
