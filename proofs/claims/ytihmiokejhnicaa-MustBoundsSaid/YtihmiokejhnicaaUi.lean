/- The law's do, great. -/
import Derived.Test.YtihmiokejhnicaaUh
set_option linter.unusedVariables false
set_option linter.unusedSimpArgs false
namespace Go.Proofs.Ytihmiokejhnicaa
open Go.RowKit Go.Maps Go.Proofs.YtihmiokejhnicaaW.PrintWords

theorem good_doU {S W lo hi : Int} {es : AL} (hW : 1 ≤ W) (h : Good W es) (h0 : lo ≤ 1000000) (h1 : hi ≤ 1000000) : Good W (doU S W es lo hi) := by
  unfold doU
  split
  · exact good_nil W
  · split
    · unfold accA
      split
      · exact h
      · exact good_accU hW h (by omega) h0
    · unfold rngU
      split
      · exact h
      · split
        · exact good_accU hW h (by omega) (by omega)
        · exact good_oldL h
theorem length_doU (S W lo hi : Int) (es : AL) : (doU S W es lo hi).length ≤ es.length + 1 := by
  unfold doU
  split
  · exact Nat.zero_le _
  · split
    · unfold accA
      split
      · omega
      · exact length_accU _ _ _ _
    · unfold rngU
      split
      · omega
      · split
        · exact length_accU _ _ _ _
        · exact Nat.le_trans (length_oldL _ _ _) (by omega)

set_option maxRecDepth 100000 in
set_option maxHeartbeats 2000000 in
theorem do_any {S W L : Int} (hv : vldB S W L = true) {p : Option Nat} {es : AL} {lo hi pk : Int} (h0 : lo ≤ 1000000) (h1 : hi ≤ 1000000) {w : World} (hes : MapIs w p es) (hg : Good W es) (hn : es.length ≤ 100000) :
    Calls Try.prog 20 #[.agg #[.int .i64 S, .int .i64 W, .int .i64 L, .map p], .agg #[.int .i64 lo, .int .i64 hi, .int .u8 pk]] w fun e w' => ∃ q, e = .returned (.agg #[.int .i64 S, .int .i64 W, .int .i64 L, .map q]) ∧ MapIs w' q (doU S W es lo hi) ∧ Below w.heap.size w w' := by
  have AC := fun w (h : MapIs w p es) => u_access_any (L := L) hv (line := lo) h0 h hg hn
  have RC := fun w (h : MapIs w p es) => u_range_any (L := L) hv (lo := lo) (hi := hi) h1 h hg hn
  have FC := fun w => u_forget (S := S) (W := W) (L := L) (p := p) w
  have HE := hide hes
  clear hv hg hn hes
  unfold doU
  by_cases e1 : lo = -1
  · by_cases e2 : hi = -1
    · subst e1
      subst e2
      rw [if_pos ⟨rfl, rfl⟩]
      clear AC RC h0 h1
      have FD := fun w => (FC w).mono (R' := fun e w' => ∃ q, e = .returned (.agg #[.int .i64 S, .int .i64 W, .int .i64 L, .map q]) ∧ MapIs w' q [] ∧ Below w.heap.size w w') (fun e w' ⟨he, hb⟩ => ⟨none, he, .nil_ _, hb⟩)
      clear FC
      go_enter Try.func20, Try.ntmps20
      go_wp2_with fail
      refine at_world ?_
      intro W1 hW
      have HB1 := hide (below_at hW (below_at2 rfl (Below.refl _ _)))
      have b2 := Blk.newAt hW
      simp only [World.size_alloc] at b2
      have HE1 := hide (MapIs.at_ hW (MapIs.at2 rfl HE.out))
      clear hW HE
      refine (FD _).mono ?_; rintro e w1 ⟨q, rfl, hm, hb⟩
      have b2 := b2.on hb
      have HM := hide hm
      have HQ := hide (hm.ne b2)
      have HB := hide (below_then HB1.out hb)
      have C2 := b2.c4
      have F2 := b2.fz
      have hs2 : w.heap.size + 1 + 1 < w1.heap.size := b2.lt
      clear hm hb b2 HB1 HE1 FD
      go_wp2_with fail
      refine bodyPost_ret (v := .agg #[.int .i64 S, .int .i64 W, .int .i64 L, .map q]) (by simp [results, Try.results20, go_sem, C2]) rfl ⟨q, rfl, ?_, by have hb := HB.out; (repeat (first | with_reducible exact Below.refl _ _ | with_reducible assumption | refine below_set ?_ (by first | exact Nat.le_refl _ | (simp; omega) | simp) _ | refine below_alloc ?_ _ | refine below_drewN ?_ _ | refine below_drew ?_))⟩
      have hm := HM.out
      repeat (first | with_reducible assumption | refine MapIs.far ?_ ?_ _)
      all_goals exact HQ.out
    · rw [if_neg (fun h => e2 h.2), if_neg (by omega)]
      have t1 : (lo == -1) = true := by simpa using e1
      have t2 : (hi == -1) = false := by simpa using e2
      have t3 : (lo == hi) = false := by simp; omega
      generalize rngU S W es lo hi = es' at RC
      clear e1 e2 AC FC
      go_enter Try.func20, Try.ntmps20
      go_wp2_with fail
      refine at_world ?_
      intro W1 hW
      have HB1 := hide (below_at hW (below_at2 rfl (Below.refl _ _)))
      have b2 := Blk.newAt hW
      simp only [World.size_alloc] at b2
      have HE1 := hide (MapIs.at_ hW (MapIs.at2 rfl HE.out))
      clear hW HE
      refine (RC _ HE1.out).mono ?_; rintro e w1 ⟨q, rfl, hm, hb⟩
      have b2 := b2.on hb
      have HM := hide hm
      have HQ := hide (hm.ne b2)
      have HB := hide (below_then HB1.out hb)
      have C2 := b2.c4
      have F2 := b2.fz
      have hs2 : w.heap.size + 1 + 1 < w1.heap.size := b2.lt
      clear hm hb b2 HB1 HE1 RC
      go_wp2_with fail
      refine bodyPost_ret (v := .agg #[.int .i64 S, .int .i64 W, .int .i64 L, .map q]) (by simp [results, Try.results20, go_sem, C2]) rfl ⟨q, rfl, ?_, by have hb := HB.out; (repeat (first | with_reducible exact Below.refl _ _ | with_reducible assumption | refine below_set ?_ (by first | exact Nat.le_refl _ | (simp; omega) | simp) _ | refine below_alloc ?_ _ | refine below_drewN ?_ _ | refine below_drew ?_))⟩
      have hm := HM.out
      repeat (first | with_reducible assumption | refine MapIs.far ?_ ?_ _)
      all_goals exact HQ.out
  · have t1 : (lo == -1) = false := by simpa using e1
    rw [if_neg (fun h => e1 h.1)]
    by_cases e3 : lo = hi
    · rw [if_pos e3]
      have t3 : (lo == hi) = true := by simpa using e3
      generalize accA S W es lo = es' at AC
      clear e1 e3 RC FC
      go_enter Try.func20, Try.ntmps20
      go_wp2_with fail
      refine at_world ?_
      intro W1 hW
      have HB1 := hide (below_at hW (below_at2 rfl (Below.refl _ _)))
      have b2 := Blk.newAt hW
      simp only [World.size_alloc] at b2
      have HE1 := hide (MapIs.at_ hW (MapIs.at2 rfl HE.out))
      clear hW HE
      refine (AC _ HE1.out).mono ?_; rintro e w1 ⟨q, rfl, hm, hb⟩
      have b2 := b2.on hb
      have HM := hide hm
      have HQ := hide (hm.ne b2)
      have HB := hide (below_then HB1.out hb)
      have C2 := b2.c4
      have F2 := b2.fz
      have hs2 : w.heap.size + 1 + 1 < w1.heap.size := b2.lt
      clear hm hb b2 HB1 HE1 AC
      go_wp2_with fail
      refine bodyPost_ret (v := .agg #[.int .i64 S, .int .i64 W, .int .i64 L, .map q]) (by simp [results, Try.results20, go_sem, C2]) rfl ⟨q, rfl, ?_, by have hb := HB.out; (repeat (first | with_reducible exact Below.refl _ _ | with_reducible assumption | refine below_set ?_ (by first | exact Nat.le_refl _ | (simp; omega) | simp) _ | refine below_alloc ?_ _ | refine below_drewN ?_ _ | refine below_drew ?_))⟩
      have hm := HM.out
      repeat (first | with_reducible assumption | refine MapIs.far ?_ ?_ _)
      all_goals exact HQ.out
    · rw [if_neg e3]
      have t3 : (lo == hi) = false := by simpa using e3
      generalize rngU S W es lo hi = es' at RC
      clear e1 e3 AC FC
      go_enter Try.func20, Try.ntmps20
      go_wp2_with fail
      refine at_world ?_
      intro W1 hW
      have HB1 := hide (below_at hW (below_at2 rfl (Below.refl _ _)))
      have b2 := Blk.newAt hW
      simp only [World.size_alloc] at b2
      have HE1 := hide (MapIs.at_ hW (MapIs.at2 rfl HE.out))
      clear hW HE
      refine (RC _ HE1.out).mono ?_; rintro e w1 ⟨q, rfl, hm, hb⟩
      have b2 := b2.on hb
      have HM := hide hm
      have HQ := hide (hm.ne b2)
      have HB := hide (below_then HB1.out hb)
      have C2 := b2.c4
      have F2 := b2.fz
      have hs2 : w.heap.size + 1 + 1 < w1.heap.size := b2.lt
      clear hm hb b2 HB1 HE1 RC
      go_wp2_with fail
      refine bodyPost_ret (v := .agg #[.int .i64 S, .int .i64 W, .int .i64 L, .map q]) (by simp [results, Try.results20, go_sem, C2]) rfl ⟨q, rfl, ?_, by have hb := HB.out; (repeat (first | with_reducible exact Below.refl _ _ | with_reducible assumption | refine below_set ?_ (by first | exact Nat.le_refl _ | (simp; omega) | simp) _ | refine below_alloc ?_ _ | refine below_drewN ?_ _ | refine below_drew ?_))⟩
      have hm := HM.out
      repeat (first | with_reducible assumption | refine MapIs.far ?_ ?_ _)
      all_goals exact HQ.out
end Go.Proofs.Ytihmiokejhnicaa
