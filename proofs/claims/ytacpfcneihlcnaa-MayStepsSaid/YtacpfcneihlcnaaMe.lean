/- may: Join; the law's step. -/
import Derived.Test.YtacpfcneihlcnaaMd
set_option linter.unusedVariables false
set_option linter.unusedSimpArgs false
namespace Go.Proofs.Ytacpfcneihlcnaa
open Go.RowKit Go.Maps

def stepS (S W : Int) (s : MS) (lo hi : Int) : MS := if lo = hi then accS S W s lo else rngS S W s lo hi

set_option maxRecDepth 100000 in
set_option maxHeartbeats 1000000 in
theorem step_any {S W L : Int} (hv : vldB S W L = true) {u : Bool} {p : Option Nat} {es : AL} {lo hi pk : Int} (h0 : lo ≤ 1000000) (h1 : hi ≤ 1000000) {w : World} (hes : MapIs w p es) (hg : Good W es) (hn : es.length ≤ 100000) :
    Calls Try.prog 18 #[.agg #[.int .i64 S, .int .i64 W, .int .i64 L, .bool u, .map p], .agg #[.int .i64 lo, .int .i64 hi, .int .u8 pk]] w fun e w' => ∃ q, e = .returned (.agg #[.int .i64 S, .int .i64 W, .int .i64 L, .bool (stepS S W (u, es) lo hi).1, .map q]) ∧ MapIs w' q (stepS S W (u, es) lo hi).2 ∧ Below w.heap.size w w' := by
  have AC := fun w (h : MapIs w p es) => ma_access_any hv (u := u) (line := lo) h0 h hg hn
  have RC := fun w (h : MapIs w p es) => ma_range hv (u := u) (lo := lo) (hi := hi) h1 h hg hn
  have HE := hide hes
  have HPL := hide hes.lt
  clear hv hg hn hes
  by_cases he : lo = hi
  · have te : (lo == hi) = true := by simpa using he
    have e : stepS S W (u, es) lo hi = accS S W (u, es) lo := by unfold stepS; rw [if_pos he]
    rw [e]
    generalize accS S W (u, es) lo = s at AC
    obtain ⟨u', es'⟩ := s
    clear he e RC
    go_enter Try.func18, Try.ntmps18
    go_wp2_with fail
    refine at_world ?_
    intro W1 hW
    have HB0 := below_at (show W1 = _ from hW) (below_at2 rfl (Below.refl _ _))
    have hs1 : w.heap.size + 2 < W1.heap.size := by have := size_at hW; simp at this; omega
    have b2 := Blk.newAt hW
    have hm1 := (HE.out.at2 rfl).at_ hW
    simp only [World.size_alloc] at b2
    clear hW HE
    refine (AC _ hm1).mono ?_; rintro e w1 ⟨q, rfl, hm2, hb1⟩
    have b2 := b2.on hb1
    have HM := hide hm2
    have HQ := hide (show q ≠ some (w.heap.size + 1 + 1) from fun e => by
      rcases hm2 with ⟨h, _⟩ | ⟨b, h, hm⟩
      · rw [h] at e; cases e
      · rw [h] at e; cases e; exact hm.ne b2 rfl)
    have hb := below_then HB0 hb1
    have C2 := b2.c5
    have F2 := b2.fz
    have hs2 : w.heap.size + 1 + 1 < w1.heap.size := b2.lt
    clear hm2 hb1 hm1 b2 HB0
    go_wp2_with fail
    refine bodyPost_ret (v := .agg #[.int .i64 S, .int .i64 W, .int .i64 L, .bool u', .map q]) (by simp [results, Try.results18, go_sem, C2]) rfl ⟨q, rfl, ?_, by (repeat (first | with_reducible exact Below.refl _ _ | with_reducible assumption | refine below_set ?_ (by first | exact Nat.le_refl _ | (simp; omega) | simp) _ | refine below_alloc ?_ _ | refine below_drewN ?_ _ | refine below_drew ?_))⟩
    have hm := HM.out
    repeat (first | with_reducible assumption | refine MapIs.far ?_ ?_ _)
    all_goals exact HQ.out
  · have te : (lo == hi) = false := by simpa using he
    have e : stepS S W (u, es) lo hi = rngS S W (u, es) lo hi := by unfold stepS; rw [if_neg he]
    rw [e]
    generalize rngS S W (u, es) lo hi = s at RC
    obtain ⟨u', es'⟩ := s
    clear he e AC
    go_enter Try.func18, Try.ntmps18
    go_wp2_with fail
    refine at_world ?_
    intro W1 hW
    have HB0 := below_at (show W1 = _ from hW) (below_at2 rfl (Below.refl _ _))
    have hs1 : w.heap.size + 2 < W1.heap.size := by have := size_at hW; simp at this; omega
    have b2 := Blk.newAt hW
    have hm1 := (HE.out.at2 rfl).at_ hW
    simp only [World.size_alloc] at b2
    clear hW HE
    refine (RC _ hm1).mono ?_; rintro e w1 ⟨q, rfl, hm2, hb1⟩
    have b2 := b2.on hb1
    have HM := hide hm2
    have HQ := hide (show q ≠ some (w.heap.size + 1 + 1) from fun e => by
      rcases hm2 with ⟨h, _⟩ | ⟨b, h, hm⟩
      · rw [h] at e; cases e
      · rw [h] at e; cases e; exact hm.ne b2 rfl)
    have hb := below_then HB0 hb1
    have C2 := b2.c5
    have F2 := b2.fz
    have hs2 : w.heap.size + 1 + 1 < w1.heap.size := b2.lt
    clear hm2 hb1 hm1 b2 HB0
    go_wp2_with fail
    refine bodyPost_ret (v := .agg #[.int .i64 S, .int .i64 W, .int .i64 L, .bool u', .map q]) (by simp [results, Try.results18, go_sem, C2]) rfl ⟨q, rfl, ?_, by (repeat (first | with_reducible exact Below.refl _ _ | with_reducible assumption | refine below_set ?_ (by first | exact Nat.le_refl _ | (simp; omega) | simp) _ | refine below_alloc ?_ _ | refine below_drewN ?_ _ | refine below_drew ?_))⟩
    have hm := HM.out
    repeat (first | with_reducible assumption | refine MapIs.far ?_ ?_ _)
    all_goals exact HQ.out

end Go.Proofs.Ytacpfcneihlcnaa
