/- The law's steps in memory; small; awake. -/
import Derived.Test.YtacpfcneihlcnaaSt
set_option linter.unusedVariables false
set_option linter.unusedSimpArgs false
namespace Go.Proofs.Ytacpfcneihlcnaa
open Go.RowKit Go.Maps Go.Proofs.YtacpfcneihlcnaaW.PrintWords

/-- A step: from, to, pick. -/
abbrev Stp := Int × Int × Int
def kSt : Kd Stp := Kd.pair (Kd.int .i64) (Kd.pair (Kd.int .i64) (Kd.int .u8))
theorem stp_at {w : World} {A : Option Addr} {n : Nat} {l : List Stp} (h : Kd.C kSt w A n l) (i : Nat) (hi : i < n) :
    ∃ ad, A = some ad ∧ w.cell? (ad.add (i * 3)) = some (.int .i64 (l.getD i (0, 0, 0)).1) ∧ w.cell? ⟨(ad.add (i * 3)).block, (ad.add (i * 3)).off + 1, none⟩ = some (.int .i64 (l.getD i (0, 0, 0)).2.1) ∧
      w.cell? ⟨(ad.add (i * 3)).block, (ad.add (i * 3)).off + 2, none⟩ = some (.int .u8 (l.getD i (0, 0, 0)).2.2) := by
  obtain ⟨ad, c, e, _, hK, hc0⟩ := Kd.C_get h ((0, 0, 0) : Stp) i (by omega) (by omega)
  simp only [Int.toNat_natCast] at hK hc0
  have hc : ∀ j u, c[j]? = some u → w.cell? (ad.add (i * 3 + j)) = some u := hc0
  have hcs : c = [.int .i64 (l.getD i (0, 0, 0)).1, .int .i64 (l.getD i (0, 0, 0)).2.1, .int .u8 (l.getD i (0, 0, 0)).2.2] := by
    obtain ⟨_, _, rfl, rfl, ⟨_, _, rfl, rfl, rfl⟩⟩ := hK
    rfl
  subst hcs
  exact ⟨ad, e, hc 0 _ rfl, by rw [← add_field _ _ 1 (by omega)]; exact hc 1 _ rfl, by rw [← add_field _ _ 2 (by omega)]; exact hc 2 _ rfl⟩

/-- Lines not far out. -/
def nearB (x : Stp) : Bool := decide (-4000 ≤ x.1) && (decide (x.1 ≤ 4000) && (decide (-4000 ≤ x.2.1) && decide (x.2.1 ≤ 4000)))
def SmallP (S W L : Int) (l : List Stp) : Prop := vldB S W L = true ∧ S ≤ 16 ∧ l.length ≤ 40 ∧ ∀ x ∈ l, nearB x = true
theorem near_bd {x : Stp} (h : nearB x = true) : -4000 ≤ x.1 ∧ x.1 ≤ 4000 ∧ -4000 ≤ x.2.1 ∧ x.2.1 ≤ 4000 := by
  simp only [nearB, Bool.and_eq_true, decide_eq_true_eq] at h
  exact h
def SmallPost (S W L : Int) (l : List Stp) (w : World) (e : Ending) (w' : World) : Prop := ∃ r, e = .returned (.bool r) ∧ (r = true → SmallP S W L l) ∧ Below w.heap.size w w'

set_option maxRecDepth 100000 in
set_option maxHeartbeats 1000000 in
theorem small_any (S W L : Int) {w : World} {A : Option Addr} {c : Nat} {l : List Stp} (hC : Kd.C kSt w A l.length l) (hc : l.length ≤ c) :
    Calls Try.prog 12 #[.agg #[.int .i64 S, .int .i64 W, .int .i64 L], .slice A l.length c] w (SmallPost S W L l w) := by
  have V := fun w => valid_any S W L w
  have hmx := Kd.C_max hC
  have HC := hide hC
  clear hC
  cases hv : vldB S W L with
  | false =>
    rw [hv] at V
    clear hv
    go_enter Try.func12, Try.ntmps12
    go_wp2_with fail
    refine at_world ?_
    intro W1 hW
    have HB0 := below_at hW (Below.refl _ _)
    clear hW
    refine (V _).mono ?_; rintro e w1 ⟨rfl, hb1⟩
    go_wp2_with fail
    go_ret
    exact ⟨false, rfl, (fun h => by cases h), below_then HB0 hb1⟩
  | true =>
    rw [hv] at V
    obtain ⟨s0, s1, w0, w1, _⟩ := vldB_bd hv
    have HV := hide hv
    clear hv
    go_enter Try.func12, Try.ntmps12
    go_wp2_with fail
    refine at_world ?_
    intro W1 hW
    have HB0 := below_at hW (Below.refl _ _)
    have b0 := Blk.newAt hW
    have HC1 := hide (hW ▸ Kd.C_below HC.out ((Below.refl _ _).alloc (Nat.le_refl _) _) : Kd.C kSt W1 A l.length l)
    clear hW
    refine (V _).mono ?_; rintro e w2 ⟨rfl, hb1⟩
    have HC := hide (Kd.C_below HC1.out hb1)
    have HB := hide (below_then HB0 hb1)
    have C0 := (b0.on hb1).c3
    clear HB0 HC1 hb1 b0 V
    by_cases hs : S ≤ 16
    · by_cases hn : l.length ≤ 40
      · have t1 : decide ((16 : Int) < S) = false := by simp; omega
        have t2 : decide ((16 : Int) < W) = false := by simp; omega
        have t3 : decide ((40 : Int) < l.length) = false := by simp; omega
        go_wp2_with fail
        go_loopw [27] (fun v wr => ∃ i : Nat, v = .int .i64 i ∧ i ≤ l.length ∧ Hid (∀ j, j < i → nearB (l.getD j (0, 0, 0)) = true) ∧ Hid (Kd.C kSt wr A l.length l) ∧ Hid (Below w.heap.size w wr)) (fun v _ => l.length - (intOf v).toNat)
        case atStart => exact ⟨0, rfl, Nat.zero_le _, hide (fun j hj => absurd hj (Nat.not_lt_zero _)), HC, HB⟩
        case round =>
          obtain ⟨i, rfl, hi, HN, HC, HB⟩ := hrel
          by_cases hlt : i < l.length
          · obtain ⟨ad, rfl, hx, hy, hz⟩ := stp_at HC.out i hlt
            have HND := hide (show ∀ b, nearB (l.getD i (0, 0, 0)) = b → True from fun _ _ => trivial)
            have HI := hide (show ∀ r, l.getD i (0, 0, 0) = r → r ∈ l from fun r hr => by rw [← hr, List.getD_eq_getElem?_getD, List.getElem?_eq_getElem hlt]; exact List.getElem_mem _)
            generalize hr : l.getD i (0, 0, 0) = r at hx hy hz
            obtain ⟨a, b, pk⟩ := r
            have HR := hide hr
            simp only at hx hy hz
            clear hr HND
            by_cases c1 : a < -4000
            · have HF := hide (show nearB (a, b, pk) = false by simp [nearB]; omega)
              go_wp2_with fail
              go_ret
              exact ⟨false, rfl, (fun h => by cases h), by have hb := HB.out; (repeat (first | with_reducible exact Below.refl _ _ | with_reducible assumption | refine below_set ?_ (by first | exact Nat.le_refl _ | (simp; omega) | simp) _ | refine below_alloc ?_ _ | refine below_drewN ?_ _ | refine below_drew ?_))⟩
            · by_cases c2 : 4000 < a
              · go_wp2_with fail
                go_ret
                exact ⟨false, rfl, (fun h => by cases h), by have hb := HB.out; (repeat (first | with_reducible exact Below.refl _ _ | with_reducible assumption | refine below_set ?_ (by first | exact Nat.le_refl _ | (simp; omega) | simp) _ | refine below_alloc ?_ _ | refine below_drewN ?_ _ | refine below_drew ?_))⟩
              · by_cases c3 : b < -4000
                · go_wp2_with fail
                  go_ret
                  exact ⟨false, rfl, (fun h => by cases h), by have hb := HB.out; (repeat (first | with_reducible exact Below.refl _ _ | with_reducible assumption | refine below_set ?_ (by first | exact Nat.le_refl _ | (simp; omega) | simp) _ | refine below_alloc ?_ _ | refine below_drewN ?_ _ | refine below_drew ?_))⟩
                · by_cases c4 : 4000 < b
                  · go_wp2_with fail
                    go_ret
                    exact ⟨false, rfl, (fun h => by cases h), by have hb := HB.out; (repeat (first | with_reducible exact Below.refl _ _ | with_reducible assumption | refine below_set ?_ (by first | exact Nat.le_refl _ | (simp; omega) | simp) _ | refine below_alloc ?_ _ | refine below_drewN ?_ _ | refine below_drew ?_))⟩
                  · have HF := hide (show nearB (a, b, pk) = true by simp [nearB]; omega)
                    go_wp2_with fail
                    go_roundw
                    case rel =>
                      refine ⟨i + 1, by go_num, by omega, hide (fun j hj => ?_), hide (Kd.C_below HC.out ((Below.refl _ _).alloc (Nat.le_refl _) _)), hide (below_alloc HB.out _)⟩
                      rcases Nat.lt_or_ge j i with h1 | h1
                      · exact HN.out j h1
                      · obtain rfl : j = i := by omega
                        rw [HR.out]; exact HF.out
                    case measure => simp [intOf]; omega
          · have hie : i = l.length := by omega
            have HI := hide hie
            clear hie
            go_wp2_with fail
            go_ret
            exact ⟨true, rfl, (fun _ => ⟨HV.out, hs, hn, fun x hx => by
              obtain ⟨j, hj, rfl⟩ := List.getElem_of_mem hx
              have := HN.out j (by rw [HI.out]; exact hj)
              rwa [List.getD_eq_getElem?_getD, List.getElem?_eq_getElem hj] at this⟩), HB.out⟩
      · have hn' : (40 : Int) < l.length := by omega
        go_wp2_with fail
        go_ret
        exact ⟨false, rfl, (fun h => by cases h), HB.out⟩
    · go_wp2_with fail
      go_ret
      exact ⟨false, rfl, (fun h => by cases h), HB.out⟩

end Go.Proofs.Ytacpfcneihlcnaa
