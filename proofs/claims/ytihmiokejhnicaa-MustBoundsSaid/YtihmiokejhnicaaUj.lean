/- The law's operations in memory; great; New of a geometry that is not valid. -/
import Derived.Test.YtihmiokejhnicaaUi
set_option linter.unusedVariables false
set_option linter.unusedSimpArgs false
namespace Go.Proofs.Ytihmiokejhnicaa
open Go.RowKit Go.Maps Go.Proofs.YtihmiokejhnicaaW.PrintWords

/-- An operation: from, to, pick. -/
abbrev Stp := Int × Int × Int
def kSt : Kd Stp := Kd.pair (Kd.int .i64) (Kd.pair (Kd.int .i64) (Kd.int .u8))
theorem stp_at {w : World} {A : Option Addr} {n : Nat} {l : List Stp} (h : Kd.C kSt w A n l) (i : Nat) (hi : i < n) :
    ∃ ad, A = some ad ∧ w.cell? (ad.add (i * 3)) = some (.int .i64 (l.getD i (0, 0, 0)).1) ∧ w.cell? ⟨(ad.add (i * 3)).block, (ad.add (i * 3)).off + 1, none⟩ = some (.int .i64 (l.getD i (0, 0, 0)).2.1) ∧
      w.cell? ⟨(ad.add (i * 3)).block, (ad.add (i * 3)).off + 2, none⟩ = some (.int .u8 (l.getD i (0, 0, 0)).2.2) := by
  obtain ⟨ad, c, e, _, hK, hc0⟩ := Kd.C_get h ((0, 0, 0) : Stp) i (by omega) (by omega)
  simp only [Int.toNat_natCast] at hK hc0
  have hc : ∀ j u, c[j]? = some u → w.cell? (ad.add (i * 3 + j)) = some u := hc0
  have hcs : c = [.int .i64 (l.getD i (0, 0, 0)).1, .int .i64 (l.getD i (0, 0, 0)).2.1, .int .u8 (l.getD i (0, 0, 0)).2.2] := by
    obtain ⟨_, _, rfl, rfl, ⟨_, _, rfl, rfl, rfl⟩⟩ := hK
    rfl
  subst hcs
  exact ⟨ad, e, hc 0 _ rfl, by rw [← add_field _ _ 1 (by omega)]; exact hc 1 _ rfl, by rw [← add_field _ _ 2 (by omega)]; exact hc 2 _ rfl⟩


def lowB (x : Stp) : Bool := decide (x.1 ≤ 1000) && decide (x.2.1 ≤ 1000)
def GreatP (l : List Stp) : Prop := l.length ≤ 100 ∧ ∀ x ∈ l, lowB x = true
theorem low_bd {x : Stp} (h : lowB x = true) : x.1 ≤ 1000 ∧ x.2.1 ≤ 1000 := by
  simp only [lowB, Bool.and_eq_true, decide_eq_true_eq] at h
  exact h
def GreatPost (l : List Stp) (w : World) (e : Ending) (w' : World) : Prop := ∃ r, e = .returned (.bool r) ∧ (r = false → GreatP l) ∧ Below w.heap.size w w'

set_option maxRecDepth 100000 in
set_option maxHeartbeats 1000000 in
theorem great_any {w : World} {A : Option Addr} {c : Nat} {l : List Stp} (hC : Kd.C kSt w A l.length l) (hc : l.length ≤ c) :
    Calls Try.prog 13 #[.slice A l.length c] w (GreatPost l w) := by
  have HC0 := hide hC
  have hmx := Kd.C_max hC
  clear hC
  go_enter Try.func13, Try.ntmps13
  go_wp2_with fail
  go_loopw [7] (fun v wr => ∃ i : Nat, v = .int .i64 i ∧ i ≤ l.length ∧ Hid (∀ j, j < i → lowB (l.getD j (0, 0, 0)) = true) ∧ Hid (Below w.heap.size w wr)) (fun v _ => l.length - (intOf v).toNat)
  case atStart => exact ⟨0, rfl, Nat.zero_le _, hide (fun j hj => absurd hj (Nat.not_lt_zero _)), hide (Below.refl _ _)⟩
  case round =>
    obtain ⟨i, rfl, hi, HN, HB⟩ := hrel
    by_cases hlt : i < l.length
    · obtain ⟨ad, rfl, hx, hy, hz⟩ := stp_at (Kd.C_below HC0.out HB.out) i hlt
      generalize hr : l.getD i (0, 0, 0) = r at hx hy hz
      obtain ⟨a, b, pk⟩ := r
      have HR := hide hr
      simp only at hx hy hz
      clear hr
      by_cases c1 : 1000 < a
      · go_wp2_with fail
        go_ret
        exact ⟨true, rfl, (fun h => by cases h), by have hb := HB.out; (repeat (first | with_reducible exact Below.refl _ _ | with_reducible assumption | refine below_set ?_ (by first | exact Nat.le_refl _ | (simp; omega) | simp) _ | refine below_alloc ?_ _ | refine below_drewN ?_ _ | refine below_drew ?_))⟩
      · by_cases c2 : 1000 < b
        · go_wp2_with fail
          go_ret
          exact ⟨true, rfl, (fun h => by cases h), by have hb := HB.out; (repeat (first | with_reducible exact Below.refl _ _ | with_reducible assumption | refine below_set ?_ (by first | exact Nat.le_refl _ | (simp; omega) | simp) _ | refine below_alloc ?_ _ | refine below_drewN ?_ _ | refine below_drew ?_))⟩
        · have HF := hide (show lowB (a, b, pk) = true by simp [lowB]; omega)
          go_wp2_with fail
          go_roundw
          case rel =>
            refine ⟨i + 1, by go_num, by omega, hide (fun j hj => ?_), hide (below_alloc HB.out _)⟩
            rcases Nat.lt_or_ge j i with h1 | h1
            · exact HN.out j h1
            · obtain rfl : j = i := by omega
              rw [HR.out]; exact HF.out
          case measure => simp [intOf]; omega
    · have hie : i = l.length := by omega
      have HI := hide hie
      clear hie
      by_cases h100 : l.length ≤ 100
      · have t3 : decide ((100 : Int) < l.length) = false := by simp; omega
        go_wp2_with fail
        go_ret
        exact ⟨false, by simp [t3], (fun _ => ⟨h100, fun x hx => by
          obtain ⟨j, hj, rfl⟩ := List.getElem_of_mem hx
          have := HN.out j (by rw [HI.out]; exact hj)
          rwa [List.getD_eq_getElem?_getD, List.getElem?_eq_getElem hj] at this⟩), HB.out⟩
      · have t3 : decide ((100 : Int) < l.length) = true := by simp; omega
        go_wp2_with fail
        go_ret
        exact ⟨true, by simp [t3], (fun h => by cases h), HB.out⟩

set_option maxHeartbeats 400000 in
theorem must_new_bad {S W L : Int} (h : vldB S W L = false) (w : World) :
    Calls Try.prog 21 #[.agg #[.int .i64 S, .int .i64 W, .int .i64 L]] w fun e w' => e = .returned (.tuple #[.agg #[.int .i64 0, .int .i64 0, .int .i64 0, .map none], .int .i64 1]) ∧ Below w.heap.size w w' := by
  have V := fun w => valid_any S W L w
  rw [h] at V
  clear h
  go_enter Try.func21, Try.ntmps21
  go_wp2_with fail
  refine (V _).mono ?_; rintro e w1 ⟨rfl, hb1⟩
  obtain ⟨hc, hf⟩ := bcell hb1
  have hz : w.heap.size + 1 < w1.heap.size := by have := hb1.size; simp at this; omega
  go_wp2_with fail
  exact bodyPost_ret (v := .tuple #[.agg #[.int .i64 0, .int .i64 0, .int .i64 0, .map none], .int .i64 1]) (by simp [results, Try.results21, go_sem, hc, hz]) rfl
    ⟨rfl, by repeat (first | with_reducible exact Below.refl _ _ | refine below_set ?_ (by first | exact Nat.le_refl _ | (simp; omega) | simp) _ | refine below_alloc ?_ _ | refine below_drewN ?_ _ | refine below_then ?_ (by assumption))⟩
end Go.Proofs.Ytihmiokejhnicaa
