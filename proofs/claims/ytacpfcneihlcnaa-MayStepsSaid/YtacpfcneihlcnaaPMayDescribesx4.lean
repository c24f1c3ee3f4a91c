-- PRINTED BY print.sh 35421559b90ae4d0a3588c463048766b98c2df88dd9212a6774a882060cdf62d: not written by this session
import Derived.Test.YtacpfcneihlcnaaPMayDescribesx0
import Derived.Test.YtacpfcneihlcnaaPMayDescribesx2
import Derived.Test.YtacpfcneihlcnaaPMayDescribesx3
namespace Go.Proofs.Ytacpfcneihlcnaa.PMayDescribes
open Go.RowKit Go.Proofs.YtacpfcneihlcnaaW.PrintWords Go.Proofs.YtacpfcneihlcnaaW.PrintLast Go.Proofs.YtacpfcneihlcnaaW.PrintMore
attribute [local go_sem] max2_int min2_int max_two min_two max_three min_three max_four min_four   -- for this text's walks alone
set_option linter.unusedVariables false
set_option linter.unusedSimpArgs false

/-! ### ontimeref31_State_AccessRange: function 34 -/
mutual
def ontimeref31_State_AccessRange.j0 : Nat → Int → Int → Int → Int → Int → Bool → List (S81) → Option (Int × Int × Int × Bool × (List (S81)))
  | 0, _, _, _, _, _, _, _ => none
  | k + 1, x1, x2, x150000, x150001, x150002, x150003, x150004 => if x150003 = true then (ontimeref31_State_AccessRange.j1 k x1 x2 true x150000 x150001 x150002 x150003 x150004) else (ontimeref31_State_AccessRange.j1 k x1 x2 (decide (x1 > x2)) x150000 x150001 x150002 x150003 x150004)
def ontimeref31_State_AccessRange.j1 : Nat → Int → Int → Bool → Int → Int → Int → Bool → List (S81) → Option (Int × Int × Int × Bool × (List (S81)))
  | 0, _, _, _, _, _, _, _, _ => none
  | k + 1, x1, x2, x16, x150000, x150001, x150002, x150003, x150004 => if x16 = true then (some (x150000, x150001, x150002, x150003, x150004)) else (if x1 = x2 then ((ontimeref31_State_Access.f k x150000 x150001 x150002 x150003 x150004 x1).bind fun bt151 => (some (bt151.1, bt151.2.1, bt151.2.2.1, bt151.2.2.2.1, bt151.2.2.2.2))) else (if (wrap64 (x2 - x1)) ≥ 64 then (some (x150000, x150001, x150002, true, ([] : List (S81)))) else (ontimeref31_State_AccessRange.l0 k x2 x1 x150000 x150001 x150002 x150003 x150004)))
def ontimeref31_State_AccessRange.l0 : Nat → Int → Int → Int → Int → Int → Bool → List (S81) → Option (Int × Int × Int × Bool × (List (S81)))
  | 0, _, _, _, _, _, _, _ => none
  | k + 1, x2, x7, x150000, x150001, x150002, x150003, x150004 => if x7 ≤ x2 then ((ontimeref31_State_Put.f k x150000 x150001 x150002 x150003 x150004 x7 0).bind fun bt158 => (ontimeref31_State_AccessRange.l0 k x2 (wrap64 (x7 + 1)) bt158.1 bt158.2.1 bt158.2.2.1 bt158.2.2.2.1 bt158.2.2.2.2)) else (some (x150000, x150001, x150002, x150003, x150004))
end
def ontimeref31_State_AccessRange.f (k : Nat) (a0_0 : Int) (a0_1 : Int) (a0_2 : Int) (a0_3 : Bool) (l0_4 : List (S81)) (a1 : Int) (a2 : Int) : Option (Int × Int × Int × Bool × (List (S81))) := if a1 < 0 then (ontimeref31_State_AccessRange.j0 k 0 a2 a0_0 a0_1 a0_2 a0_3 l0_4) else (ontimeref31_State_AccessRange.j0 k a1 a2 a0_0 a0_1 a0_2 a0_3 l0_4)
theorem ontimeref31_State_AccessRange.mono_l : ∀ k, (∀ y0 y1 y2 y3 y4 y5 y6, LeO (ontimeref31_State_AccessRange.j0 k y0 y1 y2 y3 y4 y5 y6) (ontimeref31_State_AccessRange.j0 (k + 1) y0 y1 y2 y3 y4 y5 y6)) ∧ (∀ y0 y1 y2 y3 y4 y5 y6 y7, LeO (ontimeref31_State_AccessRange.j1 k y0 y1 y2 y3 y4 y5 y6 y7) (ontimeref31_State_AccessRange.j1 (k + 1) y0 y1 y2 y3 y4 y5 y6 y7)) ∧ (∀ y0 y1 y2 y3 y4 y5 y6, LeO (ontimeref31_State_AccessRange.l0 k y0 y1 y2 y3 y4 y5 y6) (ontimeref31_State_AccessRange.l0 (k + 1) y0 y1 y2 y3 y4 y5 y6))
  | 0 => ⟨fun _ _ _ _ _ _ _ r h => by simp [ontimeref31_State_AccessRange.j0] at h, fun _ _ _ _ _ _ _ _ r h => by simp [ontimeref31_State_AccessRange.j1] at h, fun _ _ _ _ _ _ _ r h => by simp [ontimeref31_State_AccessRange.l0] at h⟩
  | k + 1 => by
    obtain ⟨ih0, ih1, ih2⟩ := ontimeref31_State_AccessRange.mono_l k
    refine ⟨?_, ?_, ?_⟩
    · intro y0 y1 y2 y3 y4 y5 y6
      unfold ontimeref31_State_AccessRange.j0
      repeat' first
      | (with_reducible exact ih0 _ _ _ _ _ _ _)
      | (with_reducible exact ih1 _ _ _ _ _ _ _ _)
      | (with_reducible exact ih2 _ _ _ _ _ _ _)
      | (with_reducible exact ontimeref31_State_Access.mono _ _ _ _ _ _ _)
      | (with_reducible exact ontimeref31_State_Put.mono _ _ _ _ _ _ _ _)
      | (with_reducible exact LeO.refl _)
      | (with_reducible exact LeO.none _)
      | (with_reducible refine LeO.ite ?_ ?_)
      | (with_reducible refine LeO.bind ?_ (fun _ => ?_))
      | exact ih0 _ _ _ _ _ _ _
      | exact ih1 _ _ _ _ _ _ _ _
      | exact ih2 _ _ _ _ _ _ _
      | exact ontimeref31_State_Access.mono _ _ _ _ _ _ _
      | exact ontimeref31_State_Put.mono _ _ _ _ _ _ _ _
      | exact LeO.none _
      | refine LeO.ite ?_ ?_
      | refine LeO.bind ?_ (fun _ => ?_)
    · intro y0 y1 y2 y3 y4 y5 y6 y7
      unfold ontimeref31_State_AccessRange.j1
      repeat' first
      | (with_reducible exact ih0 _ _ _ _ _ _ _)
      | (with_reducible exact ih1 _ _ _ _ _ _ _ _)
      | (with_reducible exact ih2 _ _ _ _ _ _ _)
      | (with_reducible exact ontimeref31_State_Access.mono _ _ _ _ _ _ _)
      | (with_reducible exact ontimeref31_State_Put.mono _ _ _ _ _ _ _ _)
      | (with_reducible exact LeO.refl _)
      | (with_reducible exact LeO.none _)
      | (with_reducible refine LeO.ite ?_ ?_)
      | (with_reducible refine LeO.bind ?_ (fun _ => ?_))
      | exact ih0 _ _ _ _ _ _ _
      | exact ih1 _ _ _ _ _ _ _ _
      | exact ih2 _ _ _ _ _ _ _
      | exact ontimeref31_State_Access.mono _ _ _ _ _ _ _
      | exact ontimeref31_State_Put.mono _ _ _ _ _ _ _ _
      | exact LeO.none _
      | refine LeO.ite ?_ ?_
      | refine LeO.bind ?_ (fun _ => ?_)
    · intro y0 y1 y2 y3 y4 y5 y6
      unfold ontimeref31_State_AccessRange.l0
      repeat' first
      | (with_reducible exact ih0 _ _ _ _ _ _ _)
      | (with_reducible exact ih1 _ _ _ _ _ _ _ _)
      | (with_reducible exact ih2 _ _ _ _ _ _ _)
      | (with_reducible exact ontimeref31_State_Access.mono _ _ _ _ _ _ _)
      | (with_reducible exact ontimeref31_State_Put.mono _ _ _ _ _ _ _ _)
      | (with_reducible exact LeO.refl _)
      | (with_reducible exact LeO.none _)
      | (with_reducible refine LeO.ite ?_ ?_)
      | (with_reducible refine LeO.bind ?_ (fun _ => ?_))
      | exact ih0 _ _ _ _ _ _ _
      | exact ih1 _ _ _ _ _ _ _ _
      | exact ih2 _ _ _ _ _ _ _
      | exact ontimeref31_State_Access.mono _ _ _ _ _ _ _
      | exact ontimeref31_State_Put.mono _ _ _ _ _ _ _ _
      | exact LeO.none _
      | refine LeO.ite ?_ ?_
      | refine LeO.bind ?_ (fun _ => ?_)
theorem ontimeref31_State_AccessRange.mono : ∀ a0 a1 a2 a3 a4 a5 a6 k, LeO (ontimeref31_State_AccessRange.f k a0 a1 a2 a3 a4 a5 a6) (ontimeref31_State_AccessRange.f (k + 1) a0 a1 a2 a3 a4 a5 a6) := by
  intro a0 a1 a2 a3 a4 a5 a6 k
  obtain ⟨ih0, ih1, ih2⟩ := ontimeref31_State_AccessRange.mono_l k
  unfold ontimeref31_State_AccessRange.f
  repeat' first
      | (with_reducible exact ih0 _ _ _ _ _ _ _)
      | (with_reducible exact ih1 _ _ _ _ _ _ _ _)
      | (with_reducible exact ih2 _ _ _ _ _ _ _)
      | (with_reducible exact ontimeref31_State_Access.mono _ _ _ _ _ _ _)
      | (with_reducible exact ontimeref31_State_Put.mono _ _ _ _ _ _ _ _)
      | (with_reducible exact LeO.refl _)
      | (with_reducible exact LeO.none _)
      | (with_reducible refine LeO.ite ?_ ?_)
      | (with_reducible refine LeO.bind ?_ (fun _ => ?_))
      | exact ih0 _ _ _ _ _ _ _
      | exact ih1 _ _ _ _ _ _ _ _
      | exact ih2 _ _ _ _ _ _ _
      | exact ontimeref31_State_Access.mono _ _ _ _ _ _ _
      | exact ontimeref31_State_Put.mono _ _ _ _ _ _ _ _
      | exact LeO.none _
      | refine LeO.ite ?_ ?_
      | refine LeO.bind ?_ (fun _ => ?_)
set_option maxHeartbeats 8000000 in
set_option maxRecDepth 100000 in
theorem ontimeref31_State_AccessRange.calls (k : Nat) (a0_0 : Int) (a0_1 : Int) (a0_2 : Int) (a0_3 : Bool) (P0_4_ : Nat → Prop) (u9000_ : Value) (l0_4 : List (S81)) (a1 : Int) (a2 : Int) (r1 : Int) (r2 : Int) (r3 : Int) (r4 : Bool) (r5 : List (S81)) (w0 w : World) (hB : Below w0.heap.size w0 w) (ho0_4 : Kd.R k81 81 w w0.heap.size P0_4_ u9000_ l0_4) (h : ontimeref31_State_AccessRange.f k a0_0 a0_1 a0_2 a0_3 l0_4 a1 a2 = some (r1, r2, r3, r4, r5)) :
    Calls Try.prog 34 #[.agg #[.int .i64 a0_0, .int .i64 a0_1, .int .i64 a0_2, .bool a0_3, u9000_], .int .i64 a1, .int .i64 a2] w fun e w' => ∃ v4_ : Value, e = .returned (.agg #[.int .i64 r1, .int .i64 r2, .int .i64 r3, .bool r4, v4_]) ∧ Kd.R k81 81 w' w0.heap.size (fun k_ => (P0_4_ k_ ∨ w.heap.size ≤ k_)) v4_ r5 ∧ Below w0.heap.size w0 w' ∧ Kept w w' (fun k_ => P0_4_ k_) := by
  have hu34 := Try.underlying34
  have hu23 := Try.underlying23
  have HO0_4 := Aside0.mk (show Kd.R k81 81 w w0.heap.size (fun k_ => (P0_4_ k_ ∨ w.heap.size ≤ k_)) u9000_ l0_4 from Kd.R_mono ho0_4 (fun k_ hk => (.inl hk)))
  have HK := Aside0.mk (Kept.refl w (fun k_ => P0_4_ k_))
  have HW0 := Aside0.mk hB.size
  have HB := Aside0.mk hB
  clear hB
  have H : (if a1 < 0 then (ontimeref31_State_AccessRange.j0 k 0 a2 a0_0 a0_1 a0_2 a0_3 l0_4) else (ontimeref31_State_AccessRange.j0 k a1 a2 a0_0 a0_1 a0_2 a0_3 l0_4)) = some (r1, r2, r3, r4, r5) := h
  clear h
  have HC4 := Aside0.mk H
  clear H
  obtain ⟨Ao5, co5, eo5⟩ := Kd.R_slice HO0_4.out
  subst eo5
  go_enter Try.func34, Try.ntmps34
  go_upto_if 9 with (first | ((with_reducible refine gate_dst (N := 3) rfl ?_); refine box_event ?hg (N := 3) ?hd (cs := #[.int .i64 a0_0, .int .i64 a0_1, .int .i64 a0_2, .bool a0_3, .slice Ao5 l0_4.length co5]) (t := 34) ?hr ?_; (case hd => rfl); (case hg => rfl); (case hr => first | (go_simp; done) | (go_simp; rfl)); intro gb149 hg w6 hbox hb; have n0_ := Aside0.mk (Kd.R_below (by (with_reducible repeat (first | apply Kd.R_alloc | apply Kd.R_drewN | apply Kd.R_drew)); exact HO0_4.out) hb); have n1_ := Aside0.mk (Kept.below (S := (fun k_ => P0_4_ k_)) (by repeat (first | (with_reducible first | exact HK.out | apply Kept.alloc | apply Kept.drewN | apply Kept.drew) | exact HK.out)) hb); have n2_ := Aside0.mk (below_step (by repeat (first | (with_reducible first | exact HB.out | apply below_alloc | apply pw_below_drewN | apply below_drew1) | exact HB.out)) hb); have n3_ := Aside0.mk (hbox); have n4_ := Aside0.mk ((by rw [hg]; exact (by first | exact HK.out.1 | exact (show Kept w _ (fun k_ => P0_4_ k_) from by repeat (first | (with_reducible first | exact HK.out | apply Kept.alloc | apply Kept.drewN | apply Kept.drew) | exact HK.out)).1) : w.heap.size ≤ gb149)); have n5_ := Aside0.mk ((by rw [hg]; exact (below_size (by repeat (first | (with_reducible first | exact HB.out | apply below_alloc | apply pw_below_drewN | apply below_drew1) | exact HB.out))) : w0.heap.size ≤ gb149)); clear HO0_4; clear HK; clear HB; have HO0_4 := n0_; have HK := n1_; have HB := n2_; have BK149 := n3_; have GW149 := n4_; have GE149 := n5_; clear n0_ n1_ n2_ n3_ n4_ n5_; clear hb hbox hg) | ((with_reducible refine gate_dst (N := 6) rfl ?_); refine box_event ?hg (N := 6) ?hd (cs := #[.int .i64 0, .int .i64 0, .int .i64 0, .bool false, .slice none 0 0]) (t := 34) ?hr ?_; (case hd => rfl); (case hg => rfl); (case hr => first | (go_simp; done) | (go_simp; rfl)); intro gb150 hg w7 hbox hb; have n0_ := Aside0.mk (Kd.R_below (by (with_reducible repeat (first | apply Kd.R_alloc | apply Kd.R_drewN | apply Kd.R_drew)); exact HO0_4.out) hb); have n1_ := Aside0.mk (blk_below (g := gb149) (o := .cells #[.int .i64 a0_0, .int .i64 a0_1, .int .i64 a0_2, .bool a0_3, .slice Ao5 l0_4.length co5] 34 (0, 0)) (by (with_reducible repeat (first | refine blk_drewN ?_ _ | refine blk_drew ?_ | refine blk_alloc ?_ _)); exact BK149.out) hb); have n2_ := Aside0.mk (Kept.below (S := (fun k_ => P0_4_ k_)) (by repeat (first | (with_reducible first | exact HK.out | apply Kept.alloc | apply Kept.drewN | apply Kept.drew | refine Kept.setCell ?_ (.inr GW149.out) _) | exact HK.out)) hb); have n3_ := Aside0.mk (below_step (by repeat (first | (with_reducible first | exact HB.out | apply below_alloc | apply pw_below_drewN | apply below_drew1 | refine below_set ?_ GE149.out) | exact HB.out)) hb); have n4_ := Aside0.mk (hbox); have n5_ := Aside0.mk ((by rw [hg]; exact (by first | exact HK.out.1 | exact (show Kept w _ (fun k_ => P0_4_ k_) from by repeat (first | (with_reducible first | exact HK.out | apply Kept.alloc | apply Kept.drewN | apply Kept.drew | refine Kept.setCell ?_ (.inr GW149.out) _) | exact HK.out)).1) : w.heap.size ≤ gb150)); have n6_ := Aside0.mk ((by rw [hg]; exact (below_size (by repeat (first | (with_reducible first | exact HB.out | apply below_alloc | apply pw_below_drewN | apply below_drew1 | refine below_set ?_ GE149.out) | exact HB.out))) : w0.heap.size ≤ gb150)); have n7_ := Aside0.mk ((by rw [hg]; exact Nat.ne_of_lt (blk_lt (g := gb149) (o := .cells #[.int .i64 a0_0, .int .i64 a0_1, .int .i64 a0_2, .bool a0_3, .slice Ao5 l0_4.length co5] 34 (0, 0)) (by (with_reducible repeat (first | refine blk_drewN ?_ _ | refine blk_drew ?_ | refine blk_alloc ?_ _)); exact BK149.out)) : gb149 ≠ gb150)); have n8_ := Aside0.mk ((by rw [hg]; exact Nat.ne_of_gt (blk_lt (g := gb149) (o := .cells #[.int .i64 a0_0, .int .i64 a0_1, .int .i64 a0_2, .bool a0_3, .slice Ao5 l0_4.length co5] 34 (0, 0)) (by (with_reducible repeat (first | refine blk_drewN ?_ _ | refine blk_drew ?_ | refine blk_alloc ?_ _)); exact BK149.out)) : gb150 ≠ gb149)); clear HO0_4; clear BK149; clear HK; clear HB; have HO0_4 := n0_; have BK149 := n1_; have HK := n2_; have HB := n3_; have BK150 := n4_; have GW150 := n5_; have GE150 := n6_; have NB149_150 := n7_; have NB150_149 := n8_; clear n0_ n1_ n2_ n3_ n4_ n5_ n6_ n7_ n8_; clear hb hbox hg))
  (try simp only [Act.put, List.setIfInBounds_toArray, List.set_cons_zero, List.set_cons_succ])
  go_cut [1] (fun v1 wc => ∃ (kq : Nat) (x1_3 : Int), v1 = .int .i64 x1_3 ∧ Aside0 (ontimeref31_State_AccessRange.j0 kq x1_3 a2 a0_0 a0_1 a0_2 a0_3 l0_4 = some (r1, r2, r3, r4, r5)) ∧ Aside0 (kq ≤ k) ∧ Aside0 (Kd.R k81 81 wc w0.heap.size (fun k_ => (P0_4_ k_ ∨ w.heap.size ≤ k_)) (.slice Ao5 l0_4.length co5) l0_4) ∧ Aside0 (wc.heap[gb149]? = some (.cells #[.int .i64 a0_0, .int .i64 a0_1, .int .i64 a0_2, .bool a0_3, (.slice Ao5 l0_4.length co5)] 34 (0, 0))) ∧ Aside0 (wc.heap[gb150]? = some (.cells #[.int .i64 0, .int .i64 0, .int .i64 0, .bool false, (.slice none 0 0)] 34 (0, 0))) ∧ Aside0 (Kept w wc (fun k_ => P0_4_ k_)) ∧ Aside0 (Below w0.heap.size w0 wc))
  case first =>
    have H := HC4.out
    clear HC4
    by_cases c8 : a1 < 0
    · rw [if_pos c8] at H
      have c8b0 : decide (a1 < 0) = true := decide_eq_true c8
      clear c8
      (first | rw [c8b0] | (simp only [i64_w, i32_w]; rw [c8b0]) | skip)
      have H' := Aside0.mk H
      clear H
      go_wp2
      go_meet
      case rel => exact ⟨_, (0), (by first | rfl | (simp; done) | (simp [*]; done)), H', ⟨by first | omega | exact Nat.le_refl _⟩, ⟨by (with_reducible repeat (first | apply Kd.R_alloc | apply Kd.R_drewN | apply Kd.R_drew)); exact HO0_4.out⟩, ⟨by (with_reducible repeat (first | refine blk_drewN ?_ _ | refine blk_drew ?_ | refine blk_alloc ?_ _)); exact BK149.out⟩, ⟨by (with_reducible repeat (first | refine blk_drewN ?_ _ | refine blk_drew ?_ | refine blk_alloc ?_ _)); exact BK150.out⟩, ⟨by repeat (first | (with_reducible first | exact HK.out | apply Kept.alloc | apply Kept.drewN | apply Kept.drew | refine Kept.setCell ?_ (.inr GW149.out) _ | refine Kept.setCell ?_ (.inr GW150.out) _) | exact HK.out)⟩, ⟨by repeat (first | (with_reducible first | exact HB.out | apply below_alloc | apply pw_below_drewN | apply below_drew1 | refine below_set ?_ GE149.out | refine below_set ?_ GE150.out) | exact HB.out)⟩⟩
    · rw [if_neg c8] at H
      have c8b0 : decide (a1 < 0) = false := decide_eq_false c8
      clear c8
      (first | rw [c8b0] | (simp only [i64_w, i32_w]; rw [c8b0]) | skip)
      have H' := Aside0.mk H
      clear H
      go_wp2
      go_meet
      case rel => exact ⟨_, (a1), (by first | rfl | (simp; done) | (simp [*]; done)), H', ⟨by first | omega | exact Nat.le_refl _⟩, ⟨by (with_reducible repeat (first | apply Kd.R_alloc | apply Kd.R_drewN | apply Kd.R_drew)); exact HO0_4.out⟩, ⟨by (with_reducible repeat (first | refine blk_drewN ?_ _ | refine blk_drew ?_ | refine blk_alloc ?_ _)); exact BK149.out⟩, ⟨by (with_reducible repeat (first | refine blk_drewN ?_ _ | refine blk_drew ?_ | refine blk_alloc ?_ _)); exact BK150.out⟩, ⟨by repeat (first | (with_reducible first | exact HK.out | apply Kept.alloc | apply Kept.drewN | apply Kept.drew | refine Kept.setCell ?_ (.inr GW149.out) _ | refine Kept.setCell ?_ (.inr GW150.out) _) | exact HK.out)⟩, ⟨by repeat (first | (with_reducible first | exact HB.out | apply below_alloc | apply pw_below_drewN | apply below_drew1 | refine below_set ?_ GE149.out | refine below_set ?_ GE150.out) | exact HB.out)⟩⟩
  case rest =>
    clear HC4
    try clear p2
    try clear c3
    try clear c8
    try clear c8b0
    obtain ⟨kq, x1_3, rfl, HA, HJ3, HO_150004, BK149, BK150, HK, HB⟩ := hcut
    cases kq with
    | zero => exact absurd HA.out (by simp [ontimeref31_State_AccessRange.j0])
    | succ kj3 =>
      have H := HA.out
      clear HA
      simp only [ontimeref31_State_AccessRange.j0] at H
      have HC9 := Aside0.mk H
      clear H
      go_upto_region 3 with (fail)
      go_cut [16] (fun v16 wc => ∃ (kq : Nat) (x16_8 : Bool), v16 = .bool x16_8 ∧ Aside0 (ontimeref31_State_AccessRange.j1 kq x1_3 a2 x16_8 a0_0 a0_1 a0_2 a0_3 l0_4 = some (r1, r2, r3, r4, r5)) ∧ Aside0 (kq ≤ kj3) ∧ Aside0 (Kd.R k81 81 wc w0.heap.size (fun k_ => (P0_4_ k_ ∨ w.heap.size ≤ k_)) (.slice Ao5 l0_4.length co5) l0_4) ∧ Aside0 (wc.heap[gb149]? = some (.cells #[.int .i64 a0_0, .int .i64 a0_1, .int .i64 a0_2, .bool a0_3, (.slice Ao5 l0_4.length co5)] 34 (0, 0))) ∧ Aside0 (wc.heap[gb150]? = some (.cells #[.int .i64 0, .int .i64 0, .int .i64 0, .bool false, (.slice none 0 0)] 34 (0, 0))) ∧ Aside0 (Kept w wc (fun k_ => P0_4_ k_)) ∧ Aside0 (Below w0.heap.size w0 wc))
      case first =>
        have H := HC9.out
        clear HC9
        by_cases c10 : a0_3 = true
        · subst c10
          have H1 : (ontimeref31_State_AccessRange.j1 kj3 x1_3 a2 true a0_0 a0_1 a0_2 true l0_4) = some (r1, r2, r3, r4, r5) := by rw [if_pos rfl] at H; exact H
          clear H
          have H := H1
          clear H1
          have H' := Aside0.mk H
          clear H
          have hnb11 := NB149_150.out
          have hnc11 := NB150_149.out
          have hcz12_0 : wc.cell? ⟨gb149, 0, none⟩ = some (.int .i64 a0_0) := (blk_cell BK149.out 0).trans rfl
          have hcz12_1 : wc.cell? ⟨gb149, 1, none⟩ = some (.int .i64 a0_1) := (blk_cell BK149.out 1).trans rfl
          have hcz12_2 : wc.cell? ⟨gb149, 2, none⟩ = some (.int .i64 a0_2) := (blk_cell BK149.out 2).trans rfl
          have hcz12_3 : wc.cell? ⟨gb149, 3, none⟩ = some (.bool true) := (blk_cell BK149.out 3).trans rfl
          have hcz12_4 : wc.cell? ⟨gb149, 4, none⟩ = some (.slice Ao5 l0_4.length co5) := (blk_cell BK149.out 4).trans rfl
          have hfz12_0 := blk_frozen BK149.out 0
          have hfz12_1 := blk_frozen BK149.out 1
          have hfz12_2 := blk_frozen BK149.out 2
          have hfz12_3 := blk_frozen BK149.out 3
          have hfz12_4 := blk_frozen BK149.out 4
          go_wp2
          go_meet
          case rel => exact ⟨_, (true), (by first | rfl | (simp; done) | (simp [*]; done)), H', ⟨by have := HJ3.out; first | omega | exact Nat.le_refl _⟩, ⟨by (with_reducible repeat (first | apply Kd.R_alloc | apply Kd.R_drewN | apply Kd.R_drew)); exact HO_150004.out⟩, ⟨by (with_reducible repeat (first | refine blk_drewN ?_ _ | refine blk_drew ?_ | refine blk_alloc ?_ _)); exact BK149.out⟩, ⟨by (with_reducible repeat (first | refine blk_drewN ?_ _ | refine blk_drew ?_ | refine blk_alloc ?_ _)); exact BK150.out⟩, ⟨by repeat (first | (with_reducible first | exact HK.out | apply Kept.alloc | apply Kept.drewN | apply Kept.drew | refine Kept.setCell ?_ (.inr GW149.out) _ | refine Kept.setCell ?_ (.inr GW150.out) _) | exact HK.out)⟩, ⟨by repeat (first | (with_reducible first | exact HB.out | apply below_alloc | apply pw_below_drewN | apply below_drew1 | refine below_set ?_ GE149.out | refine below_set ?_ GE150.out) | exact HB.out)⟩⟩
        · replace c10 := Bool.eq_false_iff.mpr c10
          subst c10
          have H1 : (ontimeref31_State_AccessRange.j1 kj3 x1_3 a2 (decide (x1_3 > a2)) a0_0 a0_1 a0_2 false l0_4) = some (r1, r2, r3, r4, r5) := by rw [if_neg (show ¬ (false = true) by decide)] at H; exact H
          clear H
          have H := H1
          clear H1
          have H' := Aside0.mk H
          clear H
          have hnb13 := NB149_150.out
          have hnc13 := NB150_149.out
          have hcz14_0 : wc.cell? ⟨gb149, 0, none⟩ = some (.int .i64 a0_0) := (blk_cell BK149.out 0).trans rfl
          have hcz14_1 : wc.cell? ⟨gb149, 1, none⟩ = some (.int .i64 a0_1) := (blk_cell BK149.out 1).trans rfl
          have hcz14_2 : wc.cell? ⟨gb149, 2, none⟩ = some (.int .i64 a0_2) := (blk_cell BK149.out 2).trans rfl
          have hcz14_3 : wc.cell? ⟨gb149, 3, none⟩ = some (.bool false) := (blk_cell BK149.out 3).trans rfl
          have hcz14_4 : wc.cell? ⟨gb149, 4, none⟩ = some (.slice Ao5 l0_4.length co5) := (blk_cell BK149.out 4).trans rfl
          have hfz14_0 := blk_frozen BK149.out 0
          have hfz14_1 := blk_frozen BK149.out 1
          have hfz14_2 := blk_frozen BK149.out 2
          have hfz14_3 := blk_frozen BK149.out 3
          have hfz14_4 := blk_frozen BK149.out 4
          go_wp2
          go_meet
          case rel => exact ⟨_, (decide (x1_3 > a2)), (by first | rfl | (simp; done) | (simp [*]; done)), H', ⟨by have := HJ3.out; first | omega | exact Nat.le_refl _⟩, ⟨by (with_reducible repeat (first | apply Kd.R_alloc | apply Kd.R_drewN | apply Kd.R_drew)); exact HO_150004.out⟩, ⟨by (with_reducible repeat (first | refine blk_drewN ?_ _ | refine blk_drew ?_ | refine blk_alloc ?_ _)); exact BK149.out⟩, ⟨by (with_reducible repeat (first | refine blk_drewN ?_ _ | refine blk_drew ?_ | refine blk_alloc ?_ _)); exact BK150.out⟩, ⟨by repeat (first | (with_reducible first | exact HK.out | apply Kept.alloc | apply Kept.drewN | apply Kept.drew | refine Kept.setCell ?_ (.inr GW149.out) _ | refine Kept.setCell ?_ (.inr GW150.out) _) | exact HK.out)⟩, ⟨by repeat (first | (with_reducible first | exact HB.out | apply below_alloc | apply pw_below_drewN | apply below_drew1 | refine below_set ?_ GE149.out | refine below_set ?_ GE150.out) | exact HB.out)⟩⟩
      case rest =>
        clear HC9
        try clear c1
        try clear p2
        try clear c3
        try clear c8
        try clear c8b0
        try clear c10
        try clear c11
        try clear c13
        try clear hcz12_0
        try clear hcz12_1
        try clear hcz12_2
        try clear hcz12_3
        try clear hcz12_4
        try clear hcz14_0
        try clear hcz14_1
        try clear hcz14_2
        try clear hcz14_3
        try clear hcz14_4
        try clear hfz12_0
        try clear hfz12_1
        try clear hfz12_2
        try clear hfz12_3
        try clear hfz12_4
        try clear hfz14_0
        try clear hfz14_1
        try clear hfz14_2
        try clear hfz14_3
        try clear hfz14_4
        try clear p2
        obtain ⟨kq, x16_8, rfl, HA, HJ8, HO_150004, BK149, BK150, HK, HB⟩ := hcut
        cases kq with
        | zero => exact absurd HA.out (by simp [ontimeref31_State_AccessRange.j1])
        | succ kj8 =>
          have H := HA.out
          clear HA
          simp only [ontimeref31_State_AccessRange.j1] at H
          by_cases c15 : x16_8 = true
          · subst c15
            have H1 : (some (a0_0, a0_1, a0_2, a0_3, l0_4)) = some (r1, r2, r3, r4, r5) := by rw [if_pos rfl] at H; exact H
            clear H
            have H := H1
            clear H1
            simp only [Option.some.injEq, Prod.mk.injEq] at H
            obtain ⟨rfl, rfl, rfl, rfl, rfl⟩ := H
            have hnb16 := NB149_150.out
            have hnc16 := NB150_149.out
            have hcz17_0 : wc.cell? ⟨gb149, 0, none⟩ = some (.int .i64 a0_0) := (blk_cell BK149.out 0).trans rfl
            have hcz17_1 : wc.cell? ⟨gb149, 1, none⟩ = some (.int .i64 a0_1) := (blk_cell BK149.out 1).trans rfl
            have hcz17_2 : wc.cell? ⟨gb149, 2, none⟩ = some (.int .i64 a0_2) := (blk_cell BK149.out 2).trans rfl
            have hcz17_3 : wc.cell? ⟨gb149, 3, none⟩ = some (.bool a0_3) := (blk_cell BK149.out 3).trans rfl
            have hcz17_4 : wc.cell? ⟨gb149, 4, none⟩ = some (.slice Ao5 l0_4.length co5) := (blk_cell BK149.out 4).trans rfl
            have hfz17_0 := blk_frozen BK149.out 0
            have hfz17_1 := blk_frozen BK149.out 1
            have hfz17_2 := blk_frozen BK149.out 2
            have hfz17_3 := blk_frozen BK149.out 3
            have hfz17_4 := blk_frozen BK149.out 4
            have hcz18_0 : wc.cell? ⟨gb150, 0, none⟩ = some (.int .i64 0) := (blk_cell BK150.out 0).trans rfl
            have hcz18_1 : wc.cell? ⟨gb150, 1, none⟩ = some (.int .i64 0) := (blk_cell BK150.out 1).trans rfl
            have hcz18_2 : wc.cell? ⟨gb150, 2, none⟩ = some (.int .i64 0) := (blk_cell BK150.out 2).trans rfl
            have hcz18_3 : wc.cell? ⟨gb150, 3, none⟩ = some (.bool false) := (blk_cell BK150.out 3).trans rfl
            have hcz18_4 : wc.cell? ⟨gb150, 4, none⟩ = some (.slice none 0 0) := (blk_cell BK150.out 4).trans rfl
            have hfz18_0 := blk_frozen BK150.out 0
            have hfz18_1 := blk_frozen BK150.out 1
            have hfz18_2 := blk_frozen BK150.out 2
            have hfz18_3 := blk_frozen BK150.out 3
            have hfz18_4 := blk_frozen BK150.out 4
            go_wp2
            refine bodyPost_ret (results_cell_row rfl _ _ gb150 34 #[.int .i64 a0_0, .int .i64 a0_1, .int .i64 a0_2, .bool a0_3, .slice Ao5 l0_4.length co5] (0, 0) _ rfl (by (with_reducible repeat (first | refine blk_drewN ?_ _ | refine blk_drew ?_ | refine blk_alloc ?_ _)); refine blk_put (cs := #[.int .i64 a0_0, .int .i64 a0_1, .int .i64 a0_2, .bool a0_3, .slice none 0 0]) ?_ 4 _ rfl; (with_reducible repeat (first | refine blk_drewN ?_ _ | refine blk_drew ?_ | refine blk_alloc ?_ _)); refine blk_put (cs := #[.int .i64 a0_0, .int .i64 a0_1, .int .i64 a0_2, .bool false, .slice none 0 0]) ?_ 3 _ rfl; (with_reducible repeat (first | refine blk_drewN ?_ _ | refine blk_drew ?_ | refine blk_alloc ?_ _)); refine blk_put (cs := #[.int .i64 a0_0, .int .i64 a0_1, .int .i64 0, .bool false, .slice none 0 0]) ?_ 2 _ rfl; (with_reducible repeat (first | refine blk_drewN ?_ _ | refine blk_drew ?_ | refine blk_alloc ?_ _)); refine blk_put (cs := #[.int .i64 a0_0, .int .i64 0, .int .i64 0, .bool false, .slice none 0 0]) ?_ 1 _ rfl; (with_reducible repeat (first | refine blk_drewN ?_ _ | refine blk_drew ?_ | refine blk_alloc ?_ _)); refine blk_put (cs := #[.int .i64 0, .int .i64 0, .int .i64 0, .bool false, .slice none 0 0]) ?_ 0 _ rfl; (with_reducible repeat (first | refine blk_drewN ?_ _ | refine blk_drew ?_ | refine blk_alloc ?_ _)); exact BK150.out) Try.underlying34 rfl (by kernel_rfl)) rfl ?_
            exact ⟨_, by first | rfl | (simp [errW_none, errW_some] <;> rfl) | (simp [*, errW_none, errW_some] <;> rfl), by (with_reducible repeat (first | apply Kd.R_alloc | apply Kd.R_drewN | apply Kd.R_drew)); exact Kd.R_mono (Kd.R_far (p := ⟨gb150, 4, none⟩) (Kd.R_far (p := ⟨gb150, 3, none⟩) (Kd.R_far (p := ⟨gb150, 2, none⟩) (Kd.R_far (p := ⟨gb150, 1, none⟩) (Kd.R_far (p := ⟨gb150, 0, none⟩) (Kd.R_types HO_150004.out BK150.out (by decide)) (fun _ hk => hk.2) (.int .i64 a0_0)) (fun _ hk => hk.2) (.int .i64 a0_1)) (fun _ hk => hk.2) (.int .i64 a0_2)) (fun _ hk => hk.2) (.bool a0_3)) (fun _ hk => hk.2) (.slice Ao5 l0_4.length co5)) (fun _ hk => hk.1), by repeat (first | (with_reducible first | exact HB.out | apply below_alloc | apply pw_below_drewN | apply below_drew1 | refine below_set ?_ GE149.out | refine below_set ?_ GE150.out) | exact HB.out), by repeat (first | (with_reducible first | exact HK.out | apply Kept.alloc | apply Kept.drewN | apply Kept.drew | refine Kept.setCell ?_ (.inr GW149.out) _ | refine Kept.setCell ?_ (.inr GW150.out) _) | exact HK.out)⟩
          · replace c15 := Bool.eq_false_iff.mpr c15
            subst c15
            have H1 : (if x1_3 = a2 then ((ontimeref31_State_Access.f kj8 a0_0 a0_1 a0_2 a0_3 l0_4 x1_3).bind fun bt151 => (some (bt151.1, bt151.2.1, bt151.2.2.1, bt151.2.2.2.1, bt151.2.2.2.2))) else (if (wrap64 (a2 - x1_3)) ≥ 64 then (some (a0_0, a0_1, a0_2, true, ([] : List (S81)))) else (ontimeref31_State_AccessRange.l0 kj8 a2 x1_3 a0_0 a0_1 a0_2 a0_3 l0_4))) = some (r1, r2, r3, r4, r5) := by rw [if_neg (show ¬ (false = true) by decide)] at H; exact H
            clear H
            have H := H1
            clear H1
            by_cases c19 : x1_3 = a2
            · rw [if_pos c19] at H
              have c19b0 : (x1_3 == a2) = true := beq_iff_eq.mpr c19
              have c19b1 : (x1_3 != a2) = false := bne_eq_false_iff_eq.mpr c19
              clear c19
              replace H := Option.bind_eq_some_iff.mp H
              obtain ⟨⟨t151, t152, t153, t154, t155⟩, A200, H⟩ := H
              replace H : (some (t151, t152, t153, t154, t155)) = some (r1, r2, r3, r4, r5) := H
              have A20 := Aside0.mk A200
              clear A200
              simp only [Option.some.injEq, Prod.mk.injEq] at H
              obtain ⟨rfl, rfl, rfl, rfl, rfl⟩ := H
              have hnb21 := NB149_150.out
              have hnc21 := NB150_149.out
              have hcz22_0 : wc.cell? ⟨gb149, 0, none⟩ = some (.int .i64 a0_0) := (blk_cell BK149.out 0).trans rfl
              have hcz22_1 : wc.cell? ⟨gb149, 1, none⟩ = some (.int .i64 a0_1) := (blk_cell BK149.out 1).trans rfl
              have hcz22_2 : wc.cell? ⟨gb149, 2, none⟩ = some (.int .i64 a0_2) := (blk_cell BK149.out 2).trans rfl
              have hcz22_3 : wc.cell? ⟨gb149, 3, none⟩ = some (.bool a0_3) := (blk_cell BK149.out 3).trans rfl
              have hcz22_4 : wc.cell? ⟨gb149, 4, none⟩ = some (.slice Ao5 l0_4.length co5) := (blk_cell BK149.out 4).trans rfl
              have hfz22_0 := blk_frozen BK149.out 0
              have hfz22_1 := blk_frozen BK149.out 1
              have hfz22_2 := blk_frozen BK149.out 2
              have hfz22_3 := blk_frozen BK149.out 3
              have hfz22_4 := blk_frozen BK149.out 4
              go_wp2_with (first | ((with_reducible refine gate_callee (f := 33) rfl ?_); refine goesL_ (some 23) rfl rfl Try.func33 (by kernel_rfl) rfl #[.agg #[.int .i64 a0_0, .int .i64 a0_1, .int .i64 a0_2, .bool a0_3, .slice Ao5 l0_4.length co5], .int .i64 x1_3] rfl (by (try simp only [List.map_toArray, List.map_cons, List.map_nil]); first | done | rfl | (simp only [List.length_drop, List.length_take]; rfl)) ?_; (with_reducible refine (ontimeref31_State_Access.calls kj8 a0_0 a0_1 a0_2 a0_3 (fun k_ => some k_ = (.slice Ao5 l0_4.length co5 : Value).ownBlock) (.slice Ao5 l0_4.length co5) l0_4 x1_3 t151 t152 t153 t154 t155 w0 _ ?side1 ?side2 A20.out).mono ?_); (case side1 => repeat (first | (with_reducible first | exact HB.out | apply below_alloc | apply pw_below_drewN | apply below_drew1 | refine below_set ?_ GE149.out | refine below_set ?_ GE150.out) | exact HB.out)); (case side2 => exact Kd.R_tight rfl HO_150004.out); rintro e w23 ⟨v156, rfl, ho0, hb, hkp⟩; refine ⟨_, rfl, ?_⟩; have n0_ := Aside0.mk (blk_kept (by (with_reducible repeat (first | refine blk_drewN ?_ _ | refine blk_drew ?_ | refine blk_alloc ?_ _)); exact BK149.out) hkp (fun hs_ => (fun e_ => (Kd.R_ne HO_150004.out BK149.out (by decide)) e_) hs_)); have n1_ := Aside0.mk (blk_kept (by (with_reducible repeat (first | refine blk_drewN ?_ _ | refine blk_drew ?_ | refine blk_alloc ?_ _)); exact BK150.out) hkp (fun hs_ => (fun e_ => (Kd.R_ne HO_150004.out BK150.out (by decide)) e_) hs_)); have n2_ := Aside0.mk (Kd.R_mono (ok' := fun k_ => (P0_4_ k_ ∨ w.heap.size ≤ k_)) ho0 (fun k_ hk_ => Or.elim hk_ (fun hs_ => (HO_150004.out.1 k_ (hs_).symm)) (fun hn_ => (.inr (Nat.le_trans (by first | exact HK.out.1 | exact (show Kept w _ (fun k_ => P0_4_ k_) from by repeat (first | (with_reducible first | exact HK.out | apply Kept.alloc | apply Kept.drewN | apply Kept.drew | refine Kept.setCell ?_ (.inr GW149.out) _ | refine Kept.setCell ?_ (.inr GW150.out) _) | exact HK.out)).1) hn_))))); have n3_ := Aside0.mk (Kept.then_ (S := (fun k_ => P0_4_ k_)) (by repeat (first | (with_reducible first | exact HK.out | apply Kept.alloc | apply Kept.drewN | apply Kept.drew | refine Kept.setCell ?_ (.inr GW149.out) _ | refine Kept.setCell ?_ (.inr GW150.out) _) | exact HK.out)) hkp (fun k_ hs_ => (fun e_ => (HO_150004.out.1 k_ e_.symm)) hs_)); have n4_ := Aside0.mk (hb); clear BK149; clear BK150; clear HK; clear HB; clear HO_150004; have BK149 := n0_; have BK150 := n1_; have HO157 := n2_; have HK := n3_; have HB := n4_; clear n0_ n1_ n2_ n3_ n4_; (try clear hb); (try clear hkp); (try clear ho0); have hcz24_0 : w23.cell? ⟨gb150, 0, none⟩ = some (.int .i64 0) := (blk_cell BK150.out 0).trans rfl; have hcz24_1 : w23.cell? ⟨gb150, 1, none⟩ = some (.int .i64 0) := (blk_cell BK150.out 1).trans rfl; have hcz24_2 : w23.cell? ⟨gb150, 2, none⟩ = some (.int .i64 0) := (blk_cell BK150.out 2).trans rfl; have hcz24_3 : w23.cell? ⟨gb150, 3, none⟩ = some (.bool false) := (blk_cell BK150.out 3).trans rfl; have hcz24_4 : w23.cell? ⟨gb150, 4, none⟩ = some (.slice none 0 0) := (blk_cell BK150.out 4).trans rfl; have hfz24_0 := blk_frozen BK150.out 0; have hfz24_1 := blk_frozen BK150.out 1; have hfz24_2 := blk_frozen BK150.out 2; have hfz24_3 := blk_frozen BK150.out 3; have hfz24_4 := blk_frozen BK150.out 4; obtain ⟨Ao25, co25, eo25⟩ := Kd.R_slice HO157.out; subst eo25))
              refine bodyPost_ret (results_cell_row rfl _ _ gb150 34 #[.int .i64 t151, .int .i64 t152, .int .i64 t153, .bool t154, .slice Ao25 t155.length co25] (0, 0) _ rfl (by (with_reducible repeat (first | refine blk_drewN ?_ _ | refine blk_drew ?_ | refine blk_alloc ?_ _)); refine blk_put (cs := #[.int .i64 t151, .int .i64 t152, .int .i64 t153, .bool t154, .slice none 0 0]) ?_ 4 _ rfl; (with_reducible repeat (first | refine blk_drewN ?_ _ | refine blk_drew ?_ | refine blk_alloc ?_ _)); refine blk_put (cs := #[.int .i64 t151, .int .i64 t152, .int .i64 t153, .bool false, .slice none 0 0]) ?_ 3 _ rfl; (with_reducible repeat (first | refine blk_drewN ?_ _ | refine blk_drew ?_ | refine blk_alloc ?_ _)); refine blk_put (cs := #[.int .i64 t151, .int .i64 t152, .int .i64 0, .bool false, .slice none 0 0]) ?_ 2 _ rfl; (with_reducible repeat (first | refine blk_drewN ?_ _ | refine blk_drew ?_ | refine blk_alloc ?_ _)); refine blk_put (cs := #[.int .i64 t151, .int .i64 0, .int .i64 0, .bool false, .slice none 0 0]) ?_ 1 _ rfl; (with_reducible repeat (first | refine blk_drewN ?_ _ | refine blk_drew ?_ | refine blk_alloc ?_ _)); refine blk_put (cs := #[.int .i64 0, .int .i64 0, .int .i64 0, .bool false, .slice none 0 0]) ?_ 0 _ rfl; (with_reducible repeat (first | refine blk_drewN ?_ _ | refine blk_drew ?_ | refine blk_alloc ?_ _)); exact BK150.out) Try.underlying34 rfl (by kernel_rfl)) rfl ?_
              exact ⟨_, by first | rfl | (simp [errW_none, errW_some] <;> rfl) | (simp [*, errW_none, errW_some] <;> rfl), by (with_reducible repeat (first | apply Kd.R_alloc | apply Kd.R_drewN | apply Kd.R_drew)); exact Kd.R_mono (Kd.R_far (p := ⟨gb150, 4, none⟩) (Kd.R_far (p := ⟨gb150, 3, none⟩) (Kd.R_far (p := ⟨gb150, 2, none⟩) (Kd.R_far (p := ⟨gb150, 1, none⟩) (Kd.R_far (p := ⟨gb150, 0, none⟩) (Kd.R_types HO157.out BK150.out (by decide)) (fun _ hk => hk.2) (.int .i64 t151)) (fun _ hk => hk.2) (.int .i64 t152)) (fun _ hk => hk.2) (.int .i64 t153)) (fun _ hk => hk.2) (.bool t154)) (fun _ hk => hk.2) (.slice Ao25 t155.length co25)) (fun _ hk => hk.1), by repeat (first | (with_reducible first | exact HB.out | apply below_alloc | apply pw_below_drewN | apply below_drew1 | refine below_set ?_ GE149.out | refine below_set ?_ GE150.out) | exact HB.out), by repeat (first | (with_reducible first | exact HK.out | apply Kept.alloc | apply Kept.drewN | apply Kept.drew | refine Kept.setCell ?_ (.inr GW149.out) _ | refine Kept.setCell ?_ (.inr GW150.out) _) | exact HK.out)⟩
            · rw [if_neg c19] at H
              have c19b0 : (x1_3 == a2) = false := beq_eq_false_iff_ne.mpr c19
              have c19b1 : (x1_3 != a2) = true := bne_iff_ne.mpr c19
              by_cases c26 : (wrap64 (a2 - x1_3)) ≥ 64
              · rw [if_pos c26] at H
                have c26b0 : decide (64 ≤ (wrap64 (a2 - x1_3))) = true := decide_eq_true c26
                clear c26
                simp only [Option.some.injEq, Prod.mk.injEq] at H
                obtain ⟨rfl, rfl, rfl, rfl, rfl⟩ := H
                have hnb27 := NB149_150.out
                have hnc27 := NB150_149.out
                have hcz28_0 : wc.cell? ⟨gb149, 0, none⟩ = some (.int .i64 a0_0) := (blk_cell BK149.out 0).trans rfl
                have hcz28_1 : wc.cell? ⟨gb149, 1, none⟩ = some (.int .i64 a0_1) := (blk_cell BK149.out 1).trans rfl
                have hcz28_2 : wc.cell? ⟨gb149, 2, none⟩ = some (.int .i64 a0_2) := (blk_cell BK149.out 2).trans rfl
                have hcz28_3 : wc.cell? ⟨gb149, 3, none⟩ = some (.bool a0_3) := (blk_cell BK149.out 3).trans rfl
                have hcz28_4 : wc.cell? ⟨gb149, 4, none⟩ = some (.slice Ao5 l0_4.length co5) := (blk_cell BK149.out 4).trans rfl
                have hfz28_0 := blk_frozen BK149.out 0
                have hfz28_1 := blk_frozen BK149.out 1
                have hfz28_2 := blk_frozen BK149.out 2
                have hfz28_3 := blk_frozen BK149.out 3
                have hfz28_4 := blk_frozen BK149.out 4
                have hcz29_0 : wc.cell? ⟨gb150, 0, none⟩ = some (.int .i64 0) := (blk_cell BK150.out 0).trans rfl
                have hcz29_1 : wc.cell? ⟨gb150, 1, none⟩ = some (.int .i64 0) := (blk_cell BK150.out 1).trans rfl
                have hcz29_2 : wc.cell? ⟨gb150, 2, none⟩ = some (.int .i64 0) := (blk_cell BK150.out 2).trans rfl
                have hcz29_3 : wc.cell? ⟨gb150, 3, none⟩ = some (.bool false) := (blk_cell BK150.out 3).trans rfl
                have hcz29_4 : wc.cell? ⟨gb150, 4, none⟩ = some (.slice none 0 0) := (blk_cell BK150.out 4).trans rfl
                have hfz29_0 := blk_frozen BK150.out 0
                have hfz29_1 := blk_frozen BK150.out 1
                have hfz29_2 := blk_frozen BK150.out 2
                have hfz29_3 := blk_frozen BK150.out 3
                have hfz29_4 := blk_frozen BK150.out 4
                go_wp2
                refine bodyPost_ret (results_cell_row rfl _ _ gb150 34 #[.int .i64 a0_0, .int .i64 a0_1, .int .i64 a0_2, .bool true, .slice none 0 0] (0, 0) _ rfl (by (with_reducible repeat (first | refine blk_drewN ?_ _ | refine blk_drew ?_ | refine blk_alloc ?_ _)); refine blk_put (cs := #[.int .i64 a0_0, .int .i64 a0_1, .int .i64 a0_2, .bool true, .slice none 0 0]) ?_ 4 _ rfl; (with_reducible repeat (first | refine blk_drewN ?_ _ | refine blk_drew ?_ | refine blk_alloc ?_ _)); refine blk_put (cs := #[.int .i64 a0_0, .int .i64 a0_1, .int .i64 a0_2, .bool false, .slice none 0 0]) ?_ 3 _ rfl; (with_reducible repeat (first | refine blk_drewN ?_ _ | refine blk_drew ?_ | refine blk_alloc ?_ _)); refine blk_put (cs := #[.int .i64 a0_0, .int .i64 a0_1, .int .i64 0, .bool false, .slice none 0 0]) ?_ 2 _ rfl; (with_reducible repeat (first | refine blk_drewN ?_ _ | refine blk_drew ?_ | refine blk_alloc ?_ _)); refine blk_put (cs := #[.int .i64 a0_0, .int .i64 0, .int .i64 0, .bool false, .slice none 0 0]) ?_ 1 _ rfl; (with_reducible repeat (first | refine blk_drewN ?_ _ | refine blk_drew ?_ | refine blk_alloc ?_ _)); refine blk_put (cs := #[.int .i64 0, .int .i64 0, .int .i64 0, .bool false, .slice none 0 0]) ?_ 0 _ rfl; (with_reducible repeat (first | refine blk_drewN ?_ _ | refine blk_drew ?_ | refine blk_alloc ?_ _)); exact BK150.out) Try.underlying34 rfl (by kernel_rfl)) rfl ?_
                exact ⟨_, by first | rfl | (simp [errW_none, errW_some] <;> rfl) | (simp [*, errW_none, errW_some] <;> rfl), by first | exact Kd.R_nil _ _ _ _ _ | exact Kd.N_nil _ _ _ _ _ | exact Kd.V_nil _ _ _ _ _ | exact Kd.Q_nil _ _ _ _ _ | exact Kd.S_nil _ _ _ _ _, by repeat (first | (with_reducible first | exact HB.out | apply below_alloc | apply pw_below_drewN | apply below_drew1 | refine below_set ?_ GE149.out | refine below_set ?_ GE150.out) | exact HB.out), by repeat (first | (with_reducible first | exact HK.out | apply Kept.alloc | apply Kept.drewN | apply Kept.drew | refine Kept.setCell ?_ (.inr GW149.out) _ | refine Kept.setCell ?_ (.inr GW150.out) _) | exact HK.out)⟩
              · rw [if_neg c26] at H
                have c26b0 : decide (64 ≤ (wrap64 (a2 - x1_3))) = false := decide_eq_false c26
                clear c26
                have H' := Aside0.mk H
                clear H
                go_wp2
                go_loopg [7] kj8 (fun kq v7 w' => ∃ (x7_3 : Int) (x150000_3 : Int) (x150001_3 : Int) (x150002_3 : Int) (x150003_3 : Bool) (x150004_3 : List (S81)) (u150004 : Value), v7 = .int .i64 x7_3 ∧ Aside0 (ontimeref31_State_AccessRange.l0 kq a2 x7_3 x150000_3 x150001_3 x150002_3 x150003_3 x150004_3 = some (r1, r2, r3, r4, r5)) ∧ Aside0 (kq ≤ kj8) ∧ Aside0 (Kd.R k81 81 w' w0.heap.size (fun k_ => (P0_4_ k_ ∨ w.heap.size ≤ k_)) u150004 x150004_3) ∧ Aside0 (w'.heap[gb149]? = some (.cells #[.int .i64 x150000_3, .int .i64 x150001_3, .int .i64 x150002_3, .bool x150003_3, u150004] 34 (0, 0))) ∧ Aside0 (w'.heap[gb150]? = some (.cells #[.int .i64 0, .int .i64 0, .int .i64 0, .bool false, (.slice none 0 0)] 34 (0, 0))) ∧ Aside0 (Kept w w' (fun k_ => P0_4_ k_)) ∧ Aside0 (Below w0.heap.size w0 w'))
                case atStart => exact ⟨(x1_3), (a0_0), (a0_1), (a0_2), (a0_3), (l0_4), (.slice Ao5 l0_4.length co5), (by first | rfl | (simp; done) | (simp [*]; done)), H', ⟨Nat.le_refl _⟩, ⟨by (with_reducible repeat (first | apply Kd.R_alloc | apply Kd.R_drewN | apply Kd.R_drew)); exact HO_150004.out⟩, ⟨by (with_reducible repeat (first | refine blk_drewN ?_ _ | refine blk_drew ?_ | refine blk_alloc ?_ _)); exact BK149.out⟩, ⟨by (with_reducible repeat (first | refine blk_drewN ?_ _ | refine blk_drew ?_ | refine blk_alloc ?_ _)); exact BK150.out⟩, ⟨by repeat (first | (with_reducible first | exact HK.out | apply Kept.alloc | apply Kept.drewN | apply Kept.drew | refine Kept.setCell ?_ (.inr GW149.out) _ | refine Kept.setCell ?_ (.inr GW150.out) _) | exact HK.out)⟩, ⟨by repeat (first | (with_reducible first | exact HB.out | apply below_alloc | apply pw_below_drewN | apply below_drew1 | refine below_set ?_ GE149.out | refine below_set ?_ GE150.out) | exact HB.out)⟩⟩
                case round =>
                  clear H'
                  try clear c1
                  try clear c2
                  try clear p2
                  try clear c3
                  try clear p6
                  try clear c8
                  try clear c8b0
                  try clear c10
                  try clear c11
                  try clear c13
                  try clear c15
                  try clear c16
                  try clear c19
                  try clear c19b0
                  try clear c19b1
                  try clear c21
                  try clear c26
                  try clear c26b0
                  try clear c27
                  try clear hcz12_0
                  try clear hcz12_1
                  try clear hcz12_2
                  try clear hcz12_3
                  try clear hcz12_4
                  try clear hcz14_0
                  try clear hcz14_1
                  try clear hcz14_2
                  try clear hcz14_3
                  try clear hcz14_4
                  try clear hcz17_0
                  try clear hcz17_1
                  try clear hcz17_2
                  try clear hcz17_3
                  try clear hcz17_4
                  try clear hcz18_0
                  try clear hcz18_1
                  try clear hcz18_2
                  try clear hcz18_3
                  try clear hcz18_4
                  try clear hcz22_0
                  try clear hcz22_1
                  try clear hcz22_2
                  try clear hcz22_3
                  try clear hcz22_4
                  try clear hcz24_0
                  try clear hcz24_1
                  try clear hcz24_2
                  try clear hcz24_3
                  try clear hcz24_4
                  try clear hcz28_0
                  try clear hcz28_1
                  try clear hcz28_2
                  try clear hcz28_3
                  try clear hcz28_4
                  try clear hcz29_0
                  try clear hcz29_1
                  try clear hcz29_2
                  try clear hcz29_3
                  try clear hcz29_4
                  try clear hfz12_0
                  try clear hfz12_1
                  try clear hfz12_2
                  try clear hfz12_3
                  try clear hfz12_4
                  try clear hfz14_0
                  try clear hfz14_1
                  try clear hfz14_2
                  try clear hfz14_3
                  try clear hfz14_4
                  try clear hfz17_0
                  try clear hfz17_1
                  try clear hfz17_2
                  try clear hfz17_3
                  try clear hfz17_4
                  try clear hfz18_0
                  try clear hfz18_1
                  try clear hfz18_2
                  try clear hfz18_3
                  try clear hfz18_4
                  try clear hfz22_0
                  try clear hfz22_1
                  try clear hfz22_2
                  try clear hfz22_3
                  try clear hfz22_4
                  try clear hfz24_0
                  try clear hfz24_1
                  try clear hfz24_2
                  try clear hfz24_3
                  try clear hfz24_4
                  try clear hfz28_0
                  try clear hfz28_1
                  try clear hfz28_2
                  try clear hfz28_3
                  try clear hfz28_4
                  try clear hfz29_0
                  try clear hfz29_1
                  try clear hfz29_2
                  try clear hfz29_3
                  try clear hfz29_4
                  try clear p2
                  obtain ⟨x7_3, x150000_3, x150001_3, x150002_3, x150003_3, x150004_3, u150004, rfl, HA, HK3, HO_150004, BK149, BK150, HK, HB⟩ := hrel
                  cases gk with
                  | zero => exact absurd HA.out (by simp [ontimeref31_State_AccessRange.l0])
                  | succ k3 =>
                    have H := HA.out
                    clear HA
                    simp only [ontimeref31_State_AccessRange.l0] at H
                    by_cases c30 : x7_3 ≤ a2
                    · rw [if_pos c30] at H
                      have c30b0 : decide (x7_3 ≤ a2) = true := decide_eq_true c30
                      clear c30
                      replace H := Option.bind_eq_some_iff.mp H
                      obtain ⟨⟨t158, t159, t160, t161, t162⟩, A310, H⟩ := H
                      replace H : (ontimeref31_State_AccessRange.l0 k3 a2 (wrap64 (x7_3 + 1)) t158 t159 t160 t161 t162) = some (r1, r2, r3, r4, r5) := H
                      have A31 := Aside0.mk A310
                      clear A310
                      have H' := Aside0.mk H
                      clear H
                      have hnb32 := NB149_150.out
                      have hnc32 := NB150_149.out
                      have hcz33_0 : wr.cell? ⟨gb149, 0, none⟩ = some (.int .i64 x150000_3) := (blk_cell BK149.out 0).trans rfl
                      have hcz33_1 : wr.cell? ⟨gb149, 1, none⟩ = some (.int .i64 x150001_3) := (blk_cell BK149.out 1).trans rfl
                      have hcz33_2 : wr.cell? ⟨gb149, 2, none⟩ = some (.int .i64 x150002_3) := (blk_cell BK149.out 2).trans rfl
                      have hcz33_3 : wr.cell? ⟨gb149, 3, none⟩ = some (.bool x150003_3) := (blk_cell BK149.out 3).trans rfl
                      have hcz33_4 : wr.cell? ⟨gb149, 4, none⟩ = some (u150004) := (blk_cell BK149.out 4).trans rfl
                      have hfz33_0 := blk_frozen BK149.out 0
                      have hfz33_1 := blk_frozen BK149.out 1
                      have hfz33_2 := blk_frozen BK149.out 2
                      have hfz33_3 := blk_frozen BK149.out 3
                      have hfz33_4 := blk_frozen BK149.out 4
                      obtain ⟨Ao34, co34, eo34⟩ := Kd.R_slice HO_150004.out
                      subst eo34
                      go_wp2_with (first | ((with_reducible refine gate_callee (f := 42) rfl ?_); refine goesL_ (some 39) rfl rfl Try.func42 (by kernel_rfl) rfl #[.agg #[.int .i64 x150000_3, .int .i64 x150001_3, .int .i64 x150002_3, .bool x150003_3, .slice Ao34 x150004_3.length co34], .int .i64 x7_3, .int .i64 0] rfl (by (try simp only [List.map_toArray, List.map_cons, List.map_nil]); first | done | rfl | (simp only [List.length_drop, List.length_take]; rfl)) ?_; (with_reducible refine (ontimeref31_State_Put.calls k3 x150000_3 x150001_3 x150002_3 x150003_3 _ _ x150004_3 x7_3 0 t158 t159 t160 t161 t162 _ ?side1 ?side2 A31.out).mono ?_); (case side1 => repeat (first | exact (Kd.R_reads' HO_150004.out).2.2 | (with_reducible refine Kd.C_alloc ?_ _) | (with_reducible refine Kd.C_drewN ?_ _) | (with_reducible refine Kd.C_drew ?_))); (case side2 => exact (Kd.R_reads' HO_150004.out).2.1); rintro e w35 ⟨v163, rfl, ho0, hb⟩; refine ⟨_, rfl, ?_⟩; have n0_ := Aside0.mk (Kd.R_elder' (by (with_reducible repeat (first | apply Kd.R_alloc | apply Kd.R_drewN | apply Kd.R_drew)); exact HO_150004.out) (Kd.R_base ho0) hb); have n1_ := Aside0.mk (Kd.R_lower (Kd.R_new' (Kd.R_newM (M := fun k_ => (P0_4_ k_ ∨ w.heap.size ≤ k_)) ho0 (by first | exact HK.out.1 | exact (show Kept w _ (fun k_ => P0_4_ k_) from by repeat (first | (with_reducible first | exact HK.out | apply Kept.alloc | apply Kept.drewN | apply Kept.drew | refine Kept.setCell ?_ (.inr GW149.out) _ | refine Kept.setCell ?_ (.inr GW150.out) _) | exact HK.out)).1) (fun k_ h_ => .inr h_)) (Kd.R_lt (by (with_reducible repeat (first | apply Kd.R_alloc | apply Kd.R_drewN | apply Kd.R_drew)); exact HO_150004.out))) (below_size (by repeat (first | (with_reducible first | exact HB.out | apply below_alloc | apply pw_below_drewN | apply below_drew1 | refine below_set ?_ GE149.out | refine below_set ?_ GE150.out) | exact HB.out)))); have n2_ := Aside0.mk (blk_below (g := gb149) (o := .cells #[.int .i64 x150000_3, .int .i64 x150001_3, .int .i64 x150002_3, .bool x150003_3, .slice Ao34 x150004_3.length co34] 34 (0, 0)) (by (with_reducible repeat (first | refine blk_drewN ?_ _ | refine blk_drew ?_ | refine blk_alloc ?_ _)); exact BK149.out) hb); have n3_ := Aside0.mk (blk_below (g := gb150) (o := .cells #[.int .i64 0, .int .i64 0, .int .i64 0, .bool false, .slice none 0 0] 34 (0, 0)) (by (with_reducible repeat (first | refine blk_drewN ?_ _ | refine blk_drew ?_ | refine blk_alloc ?_ _)); exact BK150.out) hb); have n4_ := Aside0.mk (Kept.below (S := (fun k_ => P0_4_ k_)) (by repeat (first | (with_reducible first | exact HK.out | apply Kept.alloc | apply Kept.drewN | apply Kept.drew | refine Kept.setCell ?_ (.inr GW149.out) _ | refine Kept.setCell ?_ (.inr GW150.out) _) | exact HK.out)) hb); have n5_ := Aside0.mk (below_step (by repeat (first | (with_reducible first | exact HB.out | apply below_alloc | apply pw_below_drewN | apply below_drew1 | refine below_set ?_ GE149.out | refine below_set ?_ GE150.out) | exact HB.out)) hb); clear HO_150004; clear BK149; clear BK150; clear HK; clear HB; have HO_150004 := n0_; have HO164 := n1_; have BK149 := n2_; have BK150 := n3_; have HK := n4_; have HB := n5_; clear n0_ n1_ n2_ n3_ n4_ n5_; (try clear hb); (try clear hb2); (try clear hk); (try clear hi); (try clear ho0); have hcz36_0 : w35.cell? ⟨gb149, 0, none⟩ = some (.int .i64 x150000_3) := (blk_cell BK149.out 0).trans rfl; have hcz36_1 : w35.cell? ⟨gb149, 1, none⟩ = some (.int .i64 x150001_3) := (blk_cell BK149.out 1).trans rfl; have hcz36_2 : w35.cell? ⟨gb149, 2, none⟩ = some (.int .i64 x150002_3) := (blk_cell BK149.out 2).trans rfl; have hcz36_3 : w35.cell? ⟨gb149, 3, none⟩ = some (.bool x150003_3) := (blk_cell BK149.out 3).trans rfl; have hcz36_4 : w35.cell? ⟨gb149, 4, none⟩ = some (.slice Ao34 x150004_3.length co34) := (blk_cell BK149.out 4).trans rfl; have hfz36_0 := blk_frozen BK149.out 0; have hfz36_1 := blk_frozen BK149.out 1; have hfz36_2 := blk_frozen BK149.out 2; have hfz36_3 := blk_frozen BK149.out 3; have hfz36_4 := blk_frozen BK149.out 4; obtain ⟨Ao37, co37, eo37⟩ := Kd.R_slice HO164.out; subst eo37))
                      go_roundg k3
                      case measure => have := HJ3.out; have := HJ8.out; have := HK3.out; omega
                      case rel => exact ⟨(wrap64 (x7_3 + 1)), (t158), (t159), (t160), (t161), (t162), (.slice Ao37 t162.length co37), (by first | rfl | (simp; done) | (simp [*]; done)), H', ⟨by have := HJ3.out; have := HJ8.out; have := HK3.out; omega⟩, ⟨by (with_reducible repeat (first | apply Kd.R_alloc | apply Kd.R_drewN | apply Kd.R_drew)); exact Kd.R_mono (Kd.R_far (p := ⟨gb149, 4, none⟩) (Kd.R_far (p := ⟨gb149, 3, none⟩) (Kd.R_far (p := ⟨gb149, 2, none⟩) (Kd.R_far (p := ⟨gb149, 1, none⟩) (Kd.R_far (p := ⟨gb149, 0, none⟩) (Kd.R_types HO164.out BK149.out (by decide)) (fun _ hk => hk.2) (.int .i64 t158)) (fun _ hk => hk.2) (.int .i64 t159)) (fun _ hk => hk.2) (.int .i64 t160)) (fun _ hk => hk.2) (.bool t161)) (fun _ hk => hk.2) (.slice Ao37 t162.length co37)) (fun _ hk => hk.1.1.1)⟩, ⟨by (with_reducible repeat (first | refine blk_drewN ?_ _ | refine blk_drew ?_ | refine blk_alloc ?_ _)); refine blk_put (cs := #[.int .i64 t158, .int .i64 t159, .int .i64 t160, .bool t161, .slice Ao34 x150004_3.length co34]) ?_ 4 _ rfl; (with_reducible repeat (first | refine blk_drewN ?_ _ | refine blk_drew ?_ | refine blk_alloc ?_ _)); refine blk_put (cs := #[.int .i64 t158, .int .i64 t159, .int .i64 t160, .bool x150003_3, .slice Ao34 x150004_3.length co34]) ?_ 3 _ rfl; (with_reducible repeat (first | refine blk_drewN ?_ _ | refine blk_drew ?_ | refine blk_alloc ?_ _)); refine blk_put (cs := #[.int .i64 t158, .int .i64 t159, .int .i64 x150002_3, .bool x150003_3, .slice Ao34 x150004_3.length co34]) ?_ 2 _ rfl; (with_reducible repeat (first | refine blk_drewN ?_ _ | refine blk_drew ?_ | refine blk_alloc ?_ _)); refine blk_put (cs := #[.int .i64 t158, .int .i64 x150001_3, .int .i64 x150002_3, .bool x150003_3, .slice Ao34 x150004_3.length co34]) ?_ 1 _ rfl; (with_reducible repeat (first | refine blk_drewN ?_ _ | refine blk_drew ?_ | refine blk_alloc ?_ _)); refine blk_put (cs := #[.int .i64 x150000_3, .int .i64 x150001_3, .int .i64 x150002_3, .bool x150003_3, .slice Ao34 x150004_3.length co34]) ?_ 0 _ rfl; (with_reducible repeat (first | refine blk_drewN ?_ _ | refine blk_drew ?_ | refine blk_alloc ?_ _)); exact BK149.out⟩, ⟨by (with_reducible repeat (first | refine blk_drewN ?_ _ | refine blk_drew ?_ | refine blk_alloc ?_ _)); refine blk_far ?_ NB150_149.out _; (with_reducible repeat (first | refine blk_drewN ?_ _ | refine blk_drew ?_ | refine blk_alloc ?_ _)); refine blk_far ?_ NB150_149.out _; (with_reducible repeat (first | refine blk_drewN ?_ _ | refine blk_drew ?_ | refine blk_alloc ?_ _)); refine blk_far ?_ NB150_149.out _; (with_reducible repeat (first | refine blk_drewN ?_ _ | refine blk_drew ?_ | refine blk_alloc ?_ _)); refine blk_far ?_ NB150_149.out _; (with_reducible repeat (first | refine blk_drewN ?_ _ | refine blk_drew ?_ | refine blk_alloc ?_ _)); refine blk_far ?_ NB150_149.out _; (with_reducible repeat (first | refine blk_drewN ?_ _ | refine blk_drew ?_ | refine blk_alloc ?_ _)); exact BK150.out⟩, ⟨by repeat (first | (with_reducible first | exact HK.out | apply Kept.alloc | apply Kept.drewN | apply Kept.drew | refine Kept.setCell ?_ (.inr GW149.out) _ | refine Kept.setCell ?_ (.inr GW150.out) _) | exact HK.out)⟩, ⟨by repeat (first | (with_reducible first | exact HB.out | apply below_alloc | apply pw_below_drewN | apply below_drew1 | refine below_set ?_ GE149.out | refine below_set ?_ GE150.out) | exact HB.out)⟩⟩
                    · rw [if_neg c30] at H
                      have c30b0 : decide (x7_3 ≤ a2) = false := decide_eq_false c30
                      clear c30
                      simp only [Option.some.injEq, Prod.mk.injEq] at H
                      obtain ⟨rfl, rfl, rfl, rfl, rfl⟩ := H
                      have hnb38 := NB149_150.out
                      have hnc38 := NB150_149.out
                      have hcz39_0 : wr.cell? ⟨gb149, 0, none⟩ = some (.int .i64 x150000_3) := (blk_cell BK149.out 0).trans rfl
                      have hcz39_1 : wr.cell? ⟨gb149, 1, none⟩ = some (.int .i64 x150001_3) := (blk_cell BK149.out 1).trans rfl
                      have hcz39_2 : wr.cell? ⟨gb149, 2, none⟩ = some (.int .i64 x150002_3) := (blk_cell BK149.out 2).trans rfl
                      have hcz39_3 : wr.cell? ⟨gb149, 3, none⟩ = some (.bool x150003_3) := (blk_cell BK149.out 3).trans rfl
                      have hcz39_4 : wr.cell? ⟨gb149, 4, none⟩ = some (u150004) := (blk_cell BK149.out 4).trans rfl
                      have hfz39_0 := blk_frozen BK149.out 0
                      have hfz39_1 := blk_frozen BK149.out 1
                      have hfz39_2 := blk_frozen BK149.out 2
                      have hfz39_3 := blk_frozen BK149.out 3
                      have hfz39_4 := blk_frozen BK149.out 4
                      have hcz40_0 : wr.cell? ⟨gb150, 0, none⟩ = some (.int .i64 0) := (blk_cell BK150.out 0).trans rfl
                      have hcz40_1 : wr.cell? ⟨gb150, 1, none⟩ = some (.int .i64 0) := (blk_cell BK150.out 1).trans rfl
                      have hcz40_2 : wr.cell? ⟨gb150, 2, none⟩ = some (.int .i64 0) := (blk_cell BK150.out 2).trans rfl
                      have hcz40_3 : wr.cell? ⟨gb150, 3, none⟩ = some (.bool false) := (blk_cell BK150.out 3).trans rfl
                      have hcz40_4 : wr.cell? ⟨gb150, 4, none⟩ = some (.slice none 0 0) := (blk_cell BK150.out 4).trans rfl
                      have hfz40_0 := blk_frozen BK150.out 0
                      have hfz40_1 := blk_frozen BK150.out 1
                      have hfz40_2 := blk_frozen BK150.out 2
                      have hfz40_3 := blk_frozen BK150.out 3
                      have hfz40_4 := blk_frozen BK150.out 4
                      obtain ⟨Ao41, co41, eo41⟩ := Kd.R_slice HO_150004.out
                      subst eo41
                      go_wp2
                      refine bodyPost_ret (results_cell_row rfl _ _ gb150 34 #[.int .i64 x150000_3, .int .i64 x150001_3, .int .i64 x150002_3, .bool x150003_3, .slice Ao41 x150004_3.length co41] (0, 0) _ rfl (by (with_reducible repeat (first | refine blk_drewN ?_ _ | refine blk_drew ?_ | refine blk_alloc ?_ _)); refine blk_put (cs := #[.int .i64 x150000_3, .int .i64 x150001_3, .int .i64 x150002_3, .bool x150003_3, .slice none 0 0]) ?_ 4 _ rfl; (with_reducible repeat (first | refine blk_drewN ?_ _ | refine blk_drew ?_ | refine blk_alloc ?_ _)); refine blk_put (cs := #[.int .i64 x150000_3, .int .i64 x150001_3, .int .i64 x150002_3, .bool false, .slice none 0 0]) ?_ 3 _ rfl; (with_reducible repeat (first | refine blk_drewN ?_ _ | refine blk_drew ?_ | refine blk_alloc ?_ _)); refine blk_put (cs := #[.int .i64 x150000_3, .int .i64 x150001_3, .int .i64 0, .bool false, .slice none 0 0]) ?_ 2 _ rfl; (with_reducible repeat (first | refine blk_drewN ?_ _ | refine blk_drew ?_ | refine blk_alloc ?_ _)); refine blk_put (cs := #[.int .i64 x150000_3, .int .i64 0, .int .i64 0, .bool false, .slice none 0 0]) ?_ 1 _ rfl; (with_reducible repeat (first | refine blk_drewN ?_ _ | refine blk_drew ?_ | refine blk_alloc ?_ _)); refine blk_put (cs := #[.int .i64 0, .int .i64 0, .int .i64 0, .bool false, .slice none 0 0]) ?_ 0 _ rfl; (with_reducible repeat (first | refine blk_drewN ?_ _ | refine blk_drew ?_ | refine blk_alloc ?_ _)); exact BK150.out) Try.underlying34 rfl (by kernel_rfl)) rfl ?_
                      exact ⟨_, by first | rfl | (simp [errW_none, errW_some] <;> rfl) | (simp [*, errW_none, errW_some] <;> rfl), by (with_reducible repeat (first | apply Kd.R_alloc | apply Kd.R_drewN | apply Kd.R_drew)); exact Kd.R_mono (Kd.R_far (p := ⟨gb150, 4, none⟩) (Kd.R_far (p := ⟨gb150, 3, none⟩) (Kd.R_far (p := ⟨gb150, 2, none⟩) (Kd.R_far (p := ⟨gb150, 1, none⟩) (Kd.R_far (p := ⟨gb150, 0, none⟩) (Kd.R_types HO_150004.out BK150.out (by decide)) (fun _ hk => hk.2) (.int .i64 x150000_3)) (fun _ hk => hk.2) (.int .i64 x150001_3)) (fun _ hk => hk.2) (.int .i64 x150002_3)) (fun _ hk => hk.2) (.bool x150003_3)) (fun _ hk => hk.2) (.slice Ao41 x150004_3.length co41)) (fun _ hk => hk.1), by repeat (first | (with_reducible first | exact HB.out | apply below_alloc | apply pw_below_drewN | apply below_drew1 | refine below_set ?_ GE149.out | refine below_set ?_ GE150.out) | exact HB.out), by repeat (first | (with_reducible first | exact HK.out | apply Kept.alloc | apply Kept.drewN | apply Kept.drew | refine Kept.setCell ?_ (.inr GW149.out) _ | refine Kept.setCell ?_ (.inr GW150.out) _) | exact HK.out)⟩

-- NOT PRINTED: function 13 (ontimelaw31_after)

-- NOT PRINTED: function 14 (may_Unknown)

-- NOT PRINTED: function 15 (may_Describes)

end Go.Proofs.Ytacpfcneihlcnaa.PMayDescribes
