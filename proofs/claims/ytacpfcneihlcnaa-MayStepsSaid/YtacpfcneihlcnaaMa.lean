/- The package may: what its functions return, told by association lists. -/
import Derived.Test.YtacpfcneihlcnaaCa
import Derived.Test.YtacpfcneihlcnaaSh0
import Derived.Deep.LoopGhost
import Derived.Deep.QuietTactic
import Derived.BigQuiet
import Derived.Outline
set_option linter.unusedVariables false
set_option linter.unusedSimpArgs false
namespace Go.Proofs.Ytacpfcneihlcnaa
open Go.RowKit Go.Maps

set_option maxHeartbeats 400000 in
theorem may_new {S W L : Int} (h : vldB S W L = true) (w : World) :
    Calls Try.prog 21 #[.agg #[.int .i64 S, .int .i64 W, .int .i64 L]] w fun e w' => e = .returned (.tuple #[.agg #[.int .i64 S, .int .i64 W, .int .i64 L, .bool false, .map none], .int .i64 0]) ∧ Below w.heap.size w w' := by
  have V := fun w => valid_is h w
  clear h
  go_enter Try.func21, Try.ntmps21
  go_wp2_with fail
  refine (V _).mono ?_; rintro e w1 ⟨rfl, hb1⟩
  obtain ⟨hc, hf⟩ := bcell hb1
  have hz : w.heap.size + 1 < w1.heap.size := by have := hb1.size; simp at this; omega
  go_wp2_with fail
  exact bodyPost_ret (v := .tuple #[.agg #[.int .i64 S, .int .i64 W, .int .i64 L, .bool false, .map none], .int .i64 0]) (by simp [results, Try.results21, go_sem, hc, hz]) rfl
    ⟨rfl, by repeat (first | with_reducible exact Below.refl _ _ | refine below_set ?_ (by first | exact Nat.le_refl _ | (simp; omega) | simp) _ | refine below_alloc ?_ _ | refine below_drewN ?_ _ | refine below_then ?_ (by assumption))⟩

set_option maxHeartbeats 400000 in
theorem may_unknown {S W L : Int} (h : vldB S W L = true) (w : World) :
    Calls Try.prog 14 #[.agg #[.int .i64 S, .int .i64 W, .int .i64 L]] w fun e w' => e = .returned (.tuple #[.agg #[.int .i64 S, .int .i64 W, .int .i64 L, .bool true, .map none], .int .i64 0]) ∧ Below w.heap.size w w' := by
  have V := fun w => valid_is h w
  clear h
  go_enter Try.func14, Try.ntmps14
  go_wp2_with fail
  refine (V _).mono ?_; rintro e w1 ⟨rfl, hb1⟩
  obtain ⟨hc, hf⟩ := bcell hb1
  have hz : w.heap.size + 1 < w1.heap.size := by have := hb1.size; simp at this; omega
  go_wp2_with fail
  exact bodyPost_ret (v := .tuple #[.agg #[.int .i64 S, .int .i64 W, .int .i64 L, .bool true, .map none], .int .i64 0]) (by simp [results, Try.results14, go_sem, hc, hz]) rfl
    ⟨rfl, by repeat (first | with_reducible exact Below.refl _ _ | refine below_set ?_ (by first | exact Nat.le_refl _ | (simp; omega) | simp) _ | refine below_alloc ?_ _ | refine below_drewN ?_ _ | refine below_then ?_ (by assumption))⟩

theorem clone_some {w : World} {b : Nat} {es : AL} (h : MapAt w b es) :
    Calls Try.prog 47 #[.map (some b)] w fun e w' => e = .returned (.map (some w.heap.size)) ∧ MapAt w' w.heap.size es ∧ Below w.heap.size w w' ∧ w.heap.size < w'.heap.size :=
  (AnyW.maps_Clone_owns Try.cloneM _ _ b _ _ w h.2).mono fun e w' ⟨he, h1, _, hb⟩ => ⟨he, ⟨h.1, h1⟩, hb, h1.lt⟩
theorem clone_nil (w : World) :
    Calls Try.prog 47 #[.map none] w fun e w' => e = .returned (.map none) ∧ w' = w := AnyW.maps_Clone_nil Try.cloneM w

set_option maxHeartbeats 400000 in
theorem copied_any {S W L : Int} {u : Bool} {p : Option Nat} {es : AL} {w : World} (h : MapIs w p es) :
    Calls Try.prog 36 #[.agg #[.int .i64 S, .int .i64 W, .int .i64 L, .bool u, .map p]] w fun e w' => ∃ b, e = .returned (.agg #[.int .i64 S, .int .i64 W, .int .i64 L, .bool u, .map (some b)]) ∧ MapAt w' b es ∧ w.heap.size ≤ b ∧ Below w.heap.size w w' := by
  have hmm := @run_makeMap Try.prog
  rcases h with ⟨rfl, rfl⟩ | ⟨b, rfl, h⟩
  · have q1 := fun w => run_eql_map_nil (P := Try.prog) w 29 _ _ none Try.underlying29
    go_enter Try.func36, Try.ntmps36
    go_wp2_with fail
    refine (clone_nil _).mono ?_; rintro e w1 ⟨rfl, rfl⟩
    go_wp2_with fail
    refine bodyPost_ret (v := .agg #[.int .i64 S, .int .i64 W, .int .i64 L, .bool u, .map (some (w.heap.size + 1 + 1))]) (by simp [results, Try.results36, go_sem]) rfl
      ⟨_, rfl, ?_, by omega, by repeat (first | with_reducible exact Below.refl _ _ | refine below_alloc ?_ _)⟩
    have := MapAt.made ((w.alloc (.cells #[.int .i64 S, .int .i64 W, .int .i64 L, .bool u, .map (some (w.heap.size + 1 + 1))] 31)).alloc (.cells #[.int .i64 S, .int .i64 W, .int .i64 L, .bool u, .map (some (w.heap.size + 1 + 1))] 31))
    simpa using this
  · have q1 := fun w p => run_eql_map_nil (P := Try.prog) w 29 _ _ p Try.underlying29
    have HM := Lib.hid h
    clear h
    go_enter Try.func36, Try.ntmps36
    go_wp2_with fail
    refine at_world ?_
    intro W1 hW
    have HB0 : Below w.heap.size w W1 := by rw [hW]; exact below_alloc (below_alloc (Below.refl _ _) _) _
    have hm1 : MapAt W1 b es := by rw [hW]; exact (HM.out.alloc _).alloc _
    have hs1 : w.heap.size + 1 < W1.heap.size := by rw [hW]; simp
    obtain ⟨b0, b1⟩ : Blk W1 w.heap.size _ _ ∧ Blk W1 (w.heap.size + 1) _ _ := by rw [hW]; exact Blk.new2 _ _ _ _ _
    clear hW
    refine (clone_some hm1).mono ?_; rintro e w1 ⟨rfl, hm1, hb1, hz1⟩
    have B0 := b0.on hb1
    have B1 := b1.on hb1
    have C0 := B0.c5
    have C1 := B1.c5
    have F0 := B0.fz
    have F1 := B1.fz
    have HM1 := Lib.hid hm1
    have HB1 := Lib.hid (below_then HB0 hb1)
    clear hm1 hb1 b0 b1 HB0 B0 B1 HM
    go_wp2_with fail
    refine bodyPost_ret (v := .agg #[.int .i64 S, .int .i64 W, .int .i64 L, .bool u, .map (some W1.heap.size)]) (by simp [results, Try.results36, go_sem, C0, C1]) rfl ?_
    have hm := HM1.out
    have hb := HB1.out
    refine ⟨_, rfl, ?_, by omega, ?_⟩
    · repeat (first | with_reducible exact hm | refine MapAt.far ?_ ?_ _)
      all_goals (simp; omega)
    · repeat (first | with_reducible exact hb | refine below_set ?_ (by first | exact Nat.le_refl _ | (simp; omega) | simp) _)
end Go.Proofs.Ytacpfcneihlcnaa
