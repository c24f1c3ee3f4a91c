/- cache.Valid and cache.Set: what they return. -/
import Derived.Test.YtihmiokejhnicaaMp
import Derived.WalkSpells
import Derived.WalkLawsBesides
set_option linter.unusedVariables false
set_option linter.unusedSimpArgs false
namespace Go.Proofs.Ytihmiokejhnicaa
open Go.RowKit Go.Maps

def powB (n most : Int) : Bool := decide (1 ≤ n) && (decide (n ≤ most) && (bits .and .i64 n (n - 1) == 0))
def vldB (S W L : Int) : Bool := powB S 64 && (decide (1 ≤ W) && (decide (W ≤ 8) && powB L 16))
theorem powB_bd {n most : Int} (h : powB n most = true) : 1 ≤ n ∧ n ≤ most := by
  simp only [powB, Bool.and_eq_true, decide_eq_true_eq] at h
  exact ⟨h.1, h.2.1⟩
theorem vldB_bd {S W L : Int} (h : vldB S W L = true) : 1 ≤ S ∧ S ≤ 64 ∧ 1 ≤ W ∧ W ≤ 8 ∧ 1 ≤ L ∧ L ≤ 16 := by
  simp only [vldB, Bool.and_eq_true, decide_eq_true_eq] at h
  obtain ⟨h1, h2, h3, h4⟩ := h
  exact ⟨(powB_bd h1).1, (powB_bd h1).2, h2, h3, (powB_bd h4).1, (powB_bd h4).2⟩

set_option maxHeartbeats 400000 in
theorem power_any (n most : Int) (w : World) (h1 : most ≤ 64) :
    Calls Try.prog 43 #[.int .i64 n, .int .i64 most] w fun e w' => e = .returned (.bool (powB n most)) ∧ w' = w := by
  by_cases a : 1 ≤ n
  · by_cases b : n ≤ most
    · go_enter Try.func43, Try.ntmps43
      go_wp2
      go_ret
      exact ⟨ret_bool (by simp [powB, a, b]), rfl⟩
    · go_enter Try.func43, Try.ntmps43
      go_wp2
      go_ret
      exact ⟨ret_bool (by simp [powB, a]; omega), rfl⟩
  · go_enter Try.func43, Try.ntmps43
    go_wp2
    go_ret
    exact ⟨ret_bool (by simp [powB]; omega), rfl⟩

set_option maxHeartbeats 400000 in
theorem valid_any (S W L : Int) (w : World) :
    Calls Try.prog 22 #[.agg #[.int .i64 S, .int .i64 W, .int .i64 L]] w fun e w' => e = .returned (.bool (vldB S W L)) ∧ Below w.heap.size w w' := by
  have hB : ∀ o : Obj, Below w.heap.size w (w.alloc o) := fun o => (Below.refl _ _).alloc (Nat.le_refl _) _
  cases hs : powB S 64
  · have P1 : ∀ W0, Calls Try.prog 43 #[.int .i64 S, .int .i64 64] W0 fun e w' => e = .returned (.bool false) ∧ w' = W0 := fun W0 => hs ▸ power_any S 64 W0 (by omega)
    have FIN := hide (show vldB S W L = false by simp [vldB, hs])
    clear hs
    go_enter Try.func22, Try.ntmps22
    go_wp2_with (go_at_call 43; refine (P1 _).mono ?_; rintro e w' ⟨rfl, rfl⟩)
    go_ret
    exact ⟨ret_bool FIN.out.symm, hB _⟩
  · have P1 : ∀ W0, Calls Try.prog 43 #[.int .i64 S, .int .i64 64] W0 fun e w' => e = .returned (.bool true) ∧ w' = W0 := fun W0 => hs ▸ power_any S 64 W0 (by omega)
    by_cases a : 1 ≤ W
    · by_cases b : W ≤ 8
      · have P2 : ∀ W0, Calls Try.prog 43 #[.int .i64 L, .int .i64 16] W0 fun e w' => e = .returned (.bool (vldB S W L)) ∧ w' = W0 := fun W0 => by
          have := power_any L 16 W0 (by omega)
          have e : vldB S W L = powB L 16 := by simp [vldB, hs, a, b]
          rwa [e]
        clear hs
        go_enter Try.func22, Try.ntmps22
        go_wp2_with fail
        refine (P1 _).mono ?_; rintro e w' ⟨rfl, rfl⟩
        go_wp2_with fail
        refine (P2 _).mono ?_; rintro e w' ⟨rfl, rfl⟩
        go_wp2_with fail
        go_ret
        exact ⟨rfl, hB _⟩
      · have FIN := hide (show vldB S W L = false by simp [vldB, hs, a, b])
        clear hs
        go_enter Try.func22, Try.ntmps22
        go_wp2_with (go_at_call 43; refine (P1 _).mono ?_; rintro e w' ⟨rfl, rfl⟩)
        go_ret
        exact ⟨ret_bool FIN.out.symm, hB _⟩
    · have FIN := hide (show vldB S W L = false by simp [vldB, hs, a])
      clear hs
      go_enter Try.func22, Try.ntmps22
      go_wp2_with (go_at_call 43; refine (P1 _).mono ?_; rintro e w' ⟨rfl, rfl⟩)
      go_ret
      exact ⟨ret_bool FIN.out.symm, hB _⟩

/-- Valid, where what it says is known. -/
theorem valid_is {S W L : Int} {b : Bool} (h : vldB S W L = b) (w : World) :
    Calls Try.prog 22 #[.agg #[.int .i64 S, .int .i64 W, .int .i64 L]] w fun e w' => e = .returned (.bool b) ∧ Below w.heap.size w w' := h ▸ valid_any S W L w

set_option maxHeartbeats 400000 in
theorem set_any {S W L : Int} (h : vldB S W L = true) (n : Int) (h0 : 0 ≤ n) (h1 : n ≤ 1000000000) (w : World) :
    Calls Try.prog 29 #[.agg #[.int .i64 S, .int .i64 W, .int .i64 L], .int .i64 n] w fun e w' => e = .returned (.int .i64 (n % S)) ∧ Below w.heap.size w w' := by
  have hb := vldB_bd h
  have V := fun w => valid_is h w
  clear h
  obtain ⟨s0, s1, _⟩ := hb
  have hB : ∀ o : Obj, Below w.heap.size w (w.alloc o) := fun o => (Below.refl _ _).alloc (Nat.le_refl _) _
  go_enter Try.func29, Try.ntmps29
  go_wp2_with fail
  refine (V _).mono ?_; rintro e w1 ⟨rfl, hb1⟩
  obtain ⟨hc, hf⟩ := bcell hb1
  have hz : w.heap.size < w1.heap.size := by have := hb1.size; simp at this; omega
  go_wp2_with fail
  go_ret
  exact ⟨rfl, below_then (hB _) hb1⟩
end Go.Proofs.Ytihmiokejhnicaa
