-- PRINTED BY print.sh 35421559b90ae4d0a3588c463048766b98c2df88dd9212a6774a882060cdf62d: not written by this session
import Derived.Test.YtacpfcneihlcnaaPMayDescribesx0
import Derived.Test.YtacpfcneihlcnaaPMayDescribesx1
import Derived.Test.YtacpfcneihlcnaaPMayDescribesx2
namespace Go.Proofs.Ytacpfcneihlcnaa.PMayDescribes
open Go.RowKit Go.Proofs.YtacpfcneihlcnaaW.PrintWords Go.Proofs.YtacpfcneihlcnaaW.PrintLast Go.Proofs.YtacpfcneihlcnaaW.PrintMore
attribute [local go_sem] max2_int min2_int max_two min_two max_three min_three max_four min_four   -- for this text's walks alone
set_option linter.unusedVariables false
set_option linter.unusedSimpArgs false

/-! ### ontimeref31_State_Access: function 33 -/
mutual
def ontimeref31_State_Access.j0 : Nat → Int → Bool → Int → Int → Int → Bool → List (S81) → Option (Int × Int × Int × Bool × (List (S81)))
  | 0, _, _, _, _, _, _, _ => none
  | k + 1, x1, x14, x131000, x131001, x131002, x131003, x131004 => if x14 = true then (some (x131000, x131001, x131002, x131003, x131004)) else ((ontimeref31_State_Age.f k x131000 x131001 x131002 x131003 x131004 x1).bind fun t132 => (if t132 < 0 then (ontimeref31_State_Access.j1 k x1 x131001 x131000 x131001 x131002 x131003 x131004) else (ontimeref31_State_Access.j1 k x1 t132 x131000 x131001 x131002 x131003 x131004)))
def ontimeref31_State_Access.j1 : Nat → Int → Int → Int → Int → Int → Bool → List (S81) → Option (Int × Int × Int × Bool × (List (S81)))
  | 0, _, _, _, _, _, _, _ => none
  | k + 1, x1, x5, x131000, x131001, x131002, x131003, x131004 => ontimeref31_State_Access.l0 k x1 x5 0 x131000 x131001 x131002 x131003 x131004 x131000 x131001 x131002 false ([] : List (S81))
def ontimeref31_State_Access.l0 : Nat → Int → Int → Int → Int → Int → Int → Bool → List (S81) → Int → Int → Int → Bool → List (S81) → Option (Int × Int × Int × Bool × (List (S81)))
  | 0, _, _, _, _, _, _, _, _, _, _, _, _, _ => none
  | k + 1, x1, x5, x7, x131000, x131001, x131002, x131003, x131004, x134000, x134001, x134002, x134003, x134004 => if x7 < (x131004.length : Int) then (if 0 ≤ x7 then (if ((rd_T81 x131004 x7).f0) = x1 then (ontimeref31_State_Access.j3 k x1 x5 x7 false x131000 x131001 x131002 x131003 x131004 x134000 x134001 x134002 x134003 x134004 ((rd_T81 x131004 x7).f0) ((rd_T81 x131004 x7).f1)) else (if x131000 = 0 then (none) else (if (Int.tmod ((rd_T81 x131004 x7).f0) x131000) = (Int.tmod x1 x131000) then (ontimeref31_State_Access.j3 k x1 x5 x7 (decide (((rd_T81 x131004 x7).f1) ≤ x5)) x131000 x131001 x131002 x131003 x131004 x134000 x134001 x134002 x134003 x134004 ((rd_T81 x131004 x7).f0) ((rd_T81 x131004 x7).f1)) else (ontimeref31_State_Access.j3 k x1 x5 x7 false x131000 x131001 x131002 x131003 x131004 x134000 x134001 x134002 x134003 x134004 ((rd_T81 x131004 x7).f0) ((rd_T81 x131004 x7).f1))))) else (none)) else ((ontimeref31_State_Put.f k x134000 x134001 x134002 x134003 x134004 x1 0).bind fun bt134 => (some (bt134.1, bt134.2.1, bt134.2.2.1, bt134.2.2.2.1, bt134.2.2.2.2)))
def ontimeref31_State_Access.j3 : Nat → Int → Int → Int → Bool → Int → Int → Int → Bool → List (S81) → Int → Int → Int → Bool → List (S81) → Int → Int → Option (Int × Int × Int × Bool × (List (S81)))
  | 0, _, _, _, _, _, _, _, _, _, _, _, _, _, _, _, _ => none
  | k + 1, x1, x5, x7, x62, x131000, x131001, x131002, x131003, x131004, x134000, x134001, x134002, x134003, x134004, x143000, x143001 => if x62 = true then (if (wrap64 (x143001 + 1)) < x131001 then (if x134004.length < 8796093022208 then (ontimeref31_State_Access.l0 k x1 x5 (wrap64 (x7 + 1)) x131000 x131001 x131002 x131003 x131004 x134000 x134001 x134002 x134003 (x134004 ++ [(⟨x143000, wrap64 (x143001 + 1)⟩ : S81)])) else (none)) else (ontimeref31_State_Access.l0 k x1 x5 (wrap64 (x7 + 1)) x131000 x131001 x131002 x131003 x131004 x134000 x134001 x134002 x134003 x134004)) else (if x143001 < x131001 then (if x134004.length < 8796093022208 then (ontimeref31_State_Access.l0 k x1 x5 (wrap64 (x7 + 1)) x131000 x131001 x131002 x131003 x131004 x134000 x134001 x134002 x134003 (x134004 ++ [(⟨x143000, x143001⟩ : S81)])) else (none)) else (ontimeref31_State_Access.l0 k x1 x5 (wrap64 (x7 + 1)) x131000 x131001 x131002 x131003 x131004 x134000 x134001 x134002 x134003 x134004))
end
def ontimeref31_State_Access.f (k : Nat) (a0_0 : Int) (a0_1 : Int) (a0_2 : Int) (a0_3 : Bool) (l0_4 : List (S81)) (a1 : Int) : Option (Int × Int × Int × Bool × (List (S81))) := if a0_3 = true then (ontimeref31_State_Access.j0 k a1 true a0_0 a0_1 a0_2 a0_3 l0_4) else (ontimeref31_State_Access.j0 k a1 (decide (a1 < 0)) a0_0 a0_1 a0_2 a0_3 l0_4)
theorem ontimeref31_State_Access.mono_l : ∀ k, (∀ y0 y1 y2 y3 y4 y5 y6, LeO (ontimeref31_State_Access.j0 k y0 y1 y2 y3 y4 y5 y6) (ontimeref31_State_Access.j0 (k + 1) y0 y1 y2 y3 y4 y5 y6)) ∧ (∀ y0 y1 y2 y3 y4 y5 y6, LeO (ontimeref31_State_Access.j1 k y0 y1 y2 y3 y4 y5 y6) (ontimeref31_State_Access.j1 (k + 1) y0 y1 y2 y3 y4 y5 y6)) ∧ (∀ y0 y1 y2 y3 y4 y5 y6 y7 y8 y9 y10 y11 y12, LeO (ontimeref31_State_Access.l0 k y0 y1 y2 y3 y4 y5 y6 y7 y8 y9 y10 y11 y12) (ontimeref31_State_Access.l0 (k + 1) y0 y1 y2 y3 y4 y5 y6 y7 y8 y9 y10 y11 y12)) ∧ (∀ y0 y1 y2 y3 y4 y5 y6 y7 y8 y9 y10 y11 y12 y13 y14 y15, LeO (ontimeref31_State_Access.j3 k y0 y1 y2 y3 y4 y5 y6 y7 y8 y9 y10 y11 y12 y13 y14 y15) (ontimeref31_State_Access.j3 (k + 1) y0 y1 y2 y3 y4 y5 y6 y7 y8 y9 y10 y11 y12 y13 y14 y15))
  | 0 => ⟨fun _ _ _ _ _ _ _ r h => by simp [ontimeref31_State_Access.j0] at h, fun _ _ _ _ _ _ _ r h => by simp [ontimeref31_State_Access.j1] at h, fun _ _ _ _ _ _ _ _ _ _ _ _ _ r h => by simp [ontimeref31_State_Access.l0] at h, fun _ _ _ _ _ _ _ _ _ _ _ _ _ _ _ _ r h => by simp [ontimeref31_State_Access.j3] at h⟩
  | k + 1 => by
    obtain ⟨ih0, ih1, ih2, ih3⟩ := ontimeref31_State_Access.mono_l k
    refine ⟨?_, ?_, ?_, ?_⟩
    · intro y0 y1 y2 y3 y4 y5 y6
      unfold ontimeref31_State_Access.j0
      repeat' first
      | (with_reducible exact ih0 _ _ _ _ _ _ _)
      | (with_reducible exact ih1 _ _ _ _ _ _ _)
      | (with_reducible exact ih2 _ _ _ _ _ _ _ _ _ _ _ _ _)
      | (with_reducible exact ih3 _ _ _ _ _ _ _ _ _ _ _ _ _ _ _ _)
      | (with_reducible exact ontimeref31_State_Age.mono _ _ _ _ _ _ _)
      | (with_reducible exact ontimeref31_State_Put.mono _ _ _ _ _ _ _ _)
      | (with_reducible exact LeO.refl _)
      | (with_reducible exact LeO.none _)
      | (with_reducible refine LeO.ite ?_ ?_)
      | (with_reducible refine LeO.bind ?_ (fun _ => ?_))
      | exact ih0 _ _ _ _ _ _ _
      | exact ih1 _ _ _ _ _ _ _
      | exact ih2 _ _ _ _ _ _ _ _ _ _ _ _ _
      | exact ih3 _ _ _ _ _ _ _ _ _ _ _ _ _ _ _ _
      | exact ontimeref31_State_Age.mono _ _ _ _ _ _ _
      | exact ontimeref31_State_Put.mono _ _ _ _ _ _ _ _
      | exact LeO.none _
      | refine LeO.ite ?_ ?_
      | refine LeO.bind ?_ (fun _ => ?_)
    · intro y0 y1 y2 y3 y4 y5 y6
      unfold ontimeref31_State_Access.j1
      repeat' first
      | (with_reducible exact ih0 _ _ _ _ _ _ _)
      | (with_reducible exact ih1 _ _ _ _ _ _ _)
      | (with_reducible exact ih2 _ _ _ _ _ _ _ _ _ _ _ _ _)
      | (with_reducible exact ih3 _ _ _ _ _ _ _ _ _ _ _ _ _ _ _ _)
      | (with_reducible exact ontimeref31_State_Age.mono _ _ _ _ _ _ _)
      | (with_reducible exact ontimeref31_State_Put.mono _ _ _ _ _ _ _ _)
      | (with_reducible exact LeO.refl _)
      | (with_reducible exact LeO.none _)
      | (with_reducible refine LeO.ite ?_ ?_)
      | (with_reducible refine LeO.bind ?_ (fun _ => ?_))
      | exact ih0 _ _ _ _ _ _ _
      | exact ih1 _ _ _ _ _ _ _
      | exact ih2 _ _ _ _ _ _ _ _ _ _ _ _ _
      | exact ih3 _ _ _ _ _ _ _ _ _ _ _ _ _ _ _ _
      | exact ontimeref31_State_Age.mono _ _ _ _ _ _ _
      | exact ontimeref31_State_Put.mono _ _ _ _ _ _ _ _
      | exact LeO.none _
      | refine LeO.ite ?_ ?_
      | refine LeO.bind ?_ (fun _ => ?_)
    · intro y0 y1 y2 y3 y4 y5 y6 y7 y8 y9 y10 y11 y12
      unfold ontimeref31_State_Access.l0
      repeat' first
      | (with_reducible exact ih0 _ _ _ _ _ _ _)
      | (with_reducible exact ih1 _ _ _ _ _ _ _)
      | (with_reducible exact ih2 _ _ _ _ _ _ _ _ _ _ _ _ _)
      | (with_reducible exact ih3 _ _ _ _ _ _ _ _ _ _ _ _ _ _ _ _)
      | (with_reducible exact ontimeref31_State_Age.mono _ _ _ _ _ _ _)
      | (with_reducible exact ontimeref31_State_Put.mono _ _ _ _ _ _ _ _)
      | (with_reducible exact LeO.refl _)
      | (with_reducible exact LeO.none _)
      | (with_reducible refine LeO.ite ?_ ?_)
      | (with_reducible refine LeO.bind ?_ (fun _ => ?_))
      | exact ih0 _ _ _ _ _ _ _
      | exact ih1 _ _ _ _ _ _ _
      | exact ih2 _ _ _ _ _ _ _ _ _ _ _ _ _
      | exact ih3 _ _ _ _ _ _ _ _ _ _ _ _ _ _ _ _
      | exact ontimeref31_State_Age.mono _ _ _ _ _ _ _
      | exact ontimeref31_State_Put.mono _ _ _ _ _ _ _ _
      | exact LeO.none _
      | refine LeO.ite ?_ ?_
      | refine LeO.bind ?_ (fun _ => ?_)
    · intro y0 y1 y2 y3 y4 y5 y6 y7 y8 y9 y10 y11 y12 y13 y14 y15
      unfold ontimeref31_State_Access.j3
      repeat' first
      | (with_reducible exact ih0 _ _ _ _ _ _ _)
      | (with_reducible exact ih1 _ _ _ _ _ _ _)
      | (with_reducible exact ih2 _ _ _ _ _ _ _ _ _ _ _ _ _)
      | (with_reducible exact ih3 _ _ _ _ _ _ _ _ _ _ _ _ _ _ _ _)
      | (with_reducible exact ontimeref31_State_Age.mono _ _ _ _ _ _ _)
      | (with_reducible exact ontimeref31_State_Put.mono _ _ _ _ _ _ _ _)
      | (with_reducible exact LeO.refl _)
      | (with_reducible exact LeO.none _)
      | (with_reducible refine LeO.ite ?_ ?_)
      | (with_reducible refine LeO.bind ?_ (fun _ => ?_))
      | exact ih0 _ _ _ _ _ _ _
      | exact ih1 _ _ _ _ _ _ _
      | exact ih2 _ _ _ _ _ _ _ _ _ _ _ _ _
      | exact ih3 _ _ _ _ _ _ _ _ _ _ _ _ _ _ _ _
      | exact ontimeref31_State_Age.mono _ _ _ _ _ _ _
      | exact ontimeref31_State_Put.mono _ _ _ _ _ _ _ _
      | exact LeO.none _
      | refine LeO.ite ?_ ?_
      | refine LeO.bind ?_ (fun _ => ?_)
theorem ontimeref31_State_Access.mono : ∀ a0 a1 a2 a3 a4 a5 k, LeO (ontimeref31_State_Access.f k a0 a1 a2 a3 a4 a5) (ontimeref31_State_Access.f (k + 1) a0 a1 a2 a3 a4 a5) := by
  intro a0 a1 a2 a3 a4 a5 k
  obtain ⟨ih0, ih1, ih2, ih3⟩ := ontimeref31_State_Access.mono_l k
  unfold ontimeref31_State_Access.f
  repeat' first
      | (with_reducible exact ih0 _ _ _ _ _ _ _)
      | (with_reducible exact ih1 _ _ _ _ _ _ _)
      | (with_reducible exact ih2 _ _ _ _ _ _ _ _ _ _ _ _ _)
      | (with_reducible exact ih3 _ _ _ _ _ _ _ _ _ _ _ _ _ _ _ _)
      | (with_reducible exact ontimeref31_State_Age.mono _ _ _ _ _ _ _)
      | (with_reducible exact ontimeref31_State_Put.mono _ _ _ _ _ _ _ _)
      | (with_reducible exact LeO.refl _)
      | (with_reducible exact LeO.none _)
      | (with_reducible refine LeO.ite ?_ ?_)
      | (with_reducible refine LeO.bind ?_ (fun _ => ?_))
      | exact ih0 _ _ _ _ _ _ _
      | exact ih1 _ _ _ _ _ _ _
      | exact ih2 _ _ _ _ _ _ _ _ _ _ _ _ _
      | exact ih3 _ _ _ _ _ _ _ _ _ _ _ _ _ _ _ _
      | exact ontimeref31_State_Age.mono _ _ _ _ _ _ _
      | exact ontimeref31_State_Put.mono _ _ _ _ _ _ _ _
      | exact LeO.none _
      | refine LeO.ite ?_ ?_
      | refine LeO.bind ?_ (fun _ => ?_)
set_option maxHeartbeats 8000000 in
set_option maxRecDepth 100000 in
theorem ontimeref31_State_Access.calls (k : Nat) (a0_0 : Int) (a0_1 : Int) (a0_2 : Int) (a0_3 : Bool) (P0_4_ : Nat → Prop) (u9000_ : Value) (l0_4 : List (S81)) (a1 : Int) (r1 : Int) (r2 : Int) (r3 : Int) (r4 : Bool) (r5 : List (S81)) (w0 w : World) (hB : Below w0.heap.size w0 w) (ho0_4 : Kd.R k81 81 w w0.heap.size P0_4_ u9000_ l0_4) (h : ontimeref31_State_Access.f k a0_0 a0_1 a0_2 a0_3 l0_4 a1 = some (r1, r2, r3, r4, r5)) :
    Calls Try.prog 33 #[.agg #[.int .i64 a0_0, .int .i64 a0_1, .int .i64 a0_2, .bool a0_3, u9000_], .int .i64 a1] w fun e w' => ∃ v4_ : Value, e = .returned (.agg #[.int .i64 r1, .int .i64 r2, .int .i64 r3, .bool r4, v4_]) ∧ Kd.R k81 81 w' w0.heap.size (fun k_ => (P0_4_ k_ ∨ w.heap.size ≤ k_)) v4_ r5 ∧ Below w0.heap.size w0 w' ∧ Kept w w' (fun k_ => P0_4_ k_) := by
  have hu34 := Try.underlying34
  have hu23 := Try.underlying23
  have hu81 := Try.underlying81
  have HO0_4 := Aside0.mk (show Kd.R k81 81 w w0.heap.size (fun k_ => (P0_4_ k_ ∨ w.heap.size ≤ k_)) u9000_ l0_4 from Kd.R_mono ho0_4 (fun k_ hk => (.inl hk)))
  have HK := Aside0.mk (Kept.refl w (fun k_ => P0_4_ k_))
  have HW0 := Aside0.mk hB.size
  have HB := Aside0.mk hB
  clear hB
  have H : (if a0_3 = true then (ontimeref31_State_Access.j0 k a1 true a0_0 a0_1 a0_2 a0_3 l0_4) else (ontimeref31_State_Access.j0 k a1 (decide (a1 < 0)) a0_0 a0_1 a0_2 a0_3 l0_4)) = some (r1, r2, r3, r4, r5) := h
  clear h
  have HC3 := Aside0.mk H
  clear H
  obtain ⟨Ao4, co4, eo4⟩ := Kd.R_slice HO0_4.out
  subst eo4
  go_enter Try.func33, Try.ntmps33
  go_upto_region 1 with (first | ((with_reducible refine gate_dst (N := 2) rfl ?_); refine box_event ?hg (N := 2) ?hd (cs := #[.int .i64 a0_0, .int .i64 a0_1, .int .i64 a0_2, .bool a0_3, .slice Ao4 l0_4.length co4]) (t := 34) ?hr ?_; (case hd => rfl); (case hg => rfl); (case hr => first | (go_simp; done) | (go_simp; rfl)); intro gb130 hg w5 hbox hb; have n0_ := Aside0.mk (Kd.R_below (by (with_reducible repeat (first | apply Kd.R_alloc | apply Kd.R_drewN | apply Kd.R_drew)); exact HO0_4.out) hb); have n1_ := Aside0.mk (Kept.below (S := (fun k_ => P0_4_ k_)) (by repeat (first | (with_reducible first | exact HK.out | apply Kept.alloc | apply Kept.drewN | apply Kept.drew) | exact HK.out)) hb); have n2_ := Aside0.mk (below_step (by repeat (first | (with_reducible first | exact HB.out | apply below_alloc | apply pw_below_drewN | apply below_drew1) | exact HB.out)) hb); have n3_ := Aside0.mk (hbox); have n4_ := Aside0.mk ((by rw [hg]; exact (by first | exact HK.out.1 | exact (show Kept w _ (fun k_ => P0_4_ k_) from by repeat (first | (with_reducible first | exact HK.out | apply Kept.alloc | apply Kept.drewN | apply Kept.drew) | exact HK.out)).1) : w.heap.size ≤ gb130)); have n5_ := Aside0.mk ((by rw [hg]; exact (below_size (by repeat (first | (with_reducible first | exact HB.out | apply below_alloc | apply pw_below_drewN | apply below_drew1) | exact HB.out))) : w0.heap.size ≤ gb130)); clear HO0_4; clear HK; clear HB; have HO0_4 := n0_; have HK := n1_; have HB := n2_; have BK130 := n3_; have GW130 := n4_; have GE130 := n5_; clear n0_ n1_ n2_ n3_ n4_ n5_; clear hb hbox hg) | ((with_reducible refine gate_dst (N := 4) rfl ?_); refine box_event ?hg (N := 4) ?hd (cs := #[.int .i64 0, .int .i64 0, .int .i64 0, .bool false, .slice none 0 0]) (t := 34) ?hr ?_; (case hd => rfl); (case hg => rfl); (case hr => first | (go_simp; done) | (go_simp; rfl)); intro gb131 hg w6 hbox hb; have n0_ := Aside0.mk (Kd.R_below (by (with_reducible repeat (first | apply Kd.R_alloc | apply Kd.R_drewN | apply Kd.R_drew)); exact HO0_4.out) hb); have n1_ := Aside0.mk (blk_below (g := gb130) (o := .cells #[.int .i64 a0_0, .int .i64 a0_1, .int .i64 a0_2, .bool a0_3, .slice Ao4 l0_4.length co4] 34 (0, 0)) (by (with_reducible repeat (first | refine blk_drewN ?_ _ | refine blk_drew ?_ | refine blk_alloc ?_ _)); exact BK130.out) hb); have n2_ := Aside0.mk (Kept.below (S := (fun k_ => P0_4_ k_)) (by repeat (first | (with_reducible first | exact HK.out | apply Kept.alloc | apply Kept.drewN | apply Kept.drew | refine Kept.setCell ?_ (.inr GW130.out) _) | exact HK.out)) hb); have n3_ := Aside0.mk (below_step (by repeat (first | (with_reducible first | exact HB.out | apply below_alloc | apply pw_below_drewN | apply below_drew1 | refine below_set ?_ GE130.out) | exact HB.out)) hb); have n4_ := Aside0.mk (hbox); have n5_ := Aside0.mk ((by rw [hg]; exact (by first | exact HK.out.1 | exact (show Kept w _ (fun k_ => P0_4_ k_) from by repeat (first | (with_reducible first | exact HK.out | apply Kept.alloc | apply Kept.drewN | apply Kept.drew | refine Kept.setCell ?_ (.inr GW130.out) _) | exact HK.out)).1) : w.heap.size ≤ gb131)); have n6_ := Aside0.mk ((by rw [hg]; exact (below_size (by repeat (first | (with_reducible first | exact HB.out | apply below_alloc | apply pw_below_drewN | apply below_drew1 | refine below_set ?_ GE130.out) | exact HB.out))) : w0.heap.size ≤ gb131)); have n7_ := Aside0.mk ((by rw [hg]; exact Nat.ne_of_lt (blk_lt (g := gb130) (o := .cells #[.int .i64 a0_0, .int .i64 a0_1, .int .i64 a0_2, .bool a0_3, .slice Ao4 l0_4.length co4] 34 (0, 0)) (by (with_reducible repeat (first | refine blk_drewN ?_ _ | refine blk_drew ?_ | refine blk_alloc ?_ _)); exact BK130.out)) : gb130 ≠ gb131)); have n8_ := Aside0.mk ((by rw [hg]; exact Nat.ne_of_gt (blk_lt (g := gb130) (o := .cells #[.int .i64 a0_0, .int .i64 a0_1, .int .i64 a0_2, .bool a0_3, .slice Ao4 l0_4.length co4] 34 (0, 0)) (by (with_reducible repeat (first | refine blk_drewN ?_ _ | refine blk_drew ?_ | refine blk_alloc ?_ _)); exact BK130.out)) : gb131 ≠ gb130)); clear HO0_4; clear BK130; clear HK; clear HB; have HO0_4 := n0_; have BK130 := n1_; have HK := n2_; have HB := n3_; have BK131 := n4_; have GW131 := n5_; have GE131 := n6_; have NB130_131 := n7_; have NB131_130 := n8_; clear n0_ n1_ n2_ n3_ n4_ n5_ n6_ n7_ n8_; clear hb hbox hg))
  repeat (go_quiet (first | ((with_reducible refine gate_dst (N := 2) rfl ?_); refine box_event ?hg (N := 2) ?hd (cs := #[.int .i64 a0_0, .int .i64 a0_1, .int .i64 a0_2, .bool a0_3, .slice Ao4 l0_4.length co4]) (t := 34) ?hr ?_; (case hd => rfl); (case hg => rfl); (case hr => first | (go_simp; done) | (go_simp; rfl)); intro gb130 hg w5 hbox hb; have n0_ := Aside0.mk (Kd.R_below (by (with_reducible repeat (first | apply Kd.R_alloc | apply Kd.R_drewN | apply Kd.R_drew)); exact HO0_4.out) hb); have n1_ := Aside0.mk (Kept.below (S := (fun k_ => P0_4_ k_)) (by repeat (first | (with_reducible first | exact HK.out | apply Kept.alloc | apply Kept.drewN | apply Kept.drew) | exact HK.out)) hb); have n2_ := Aside0.mk (below_step (by repeat (first | (with_reducible first | exact HB.out | apply below_alloc | apply pw_below_drewN | apply below_drew1) | exact HB.out)) hb); have n3_ := Aside0.mk (hbox); have n4_ := Aside0.mk ((by rw [hg]; exact (by first | exact HK.out.1 | exact (show Kept w _ (fun k_ => P0_4_ k_) from by repeat (first | (with_reducible first | exact HK.out | apply Kept.alloc | apply Kept.drewN | apply Kept.drew) | exact HK.out)).1) : w.heap.size ≤ gb130)); have n5_ := Aside0.mk ((by rw [hg]; exact (below_size (by repeat (first | (with_reducible first | exact HB.out | apply below_alloc | apply pw_below_drewN | apply below_drew1) | exact HB.out))) : w0.heap.size ≤ gb130)); clear HO0_4; clear HK; clear HB; have HO0_4 := n0_; have HK := n1_; have HB := n2_; have BK130 := n3_; have GW130 := n4_; have GE130 := n5_; clear n0_ n1_ n2_ n3_ n4_ n5_; clear hb hbox hg) | ((with_reducible refine gate_dst (N := 4) rfl ?_); refine box_event ?hg (N := 4) ?hd (cs := #[.int .i64 0, .int .i64 0, .int .i64 0, .bool false, .slice none 0 0]) (t := 34) ?hr ?_; (case hd => rfl); (case hg => rfl); (case hr => first | (go_simp; done) | (go_simp; rfl)); intro gb131 hg w6 hbox hb; have n0_ := Aside0.mk (Kd.R_below (by (with_reducible repeat (first | apply Kd.R_alloc | apply Kd.R_drewN | apply Kd.R_drew)); exact HO0_4.out) hb); have n1_ := Aside0.mk (blk_below (g := gb130) (o := .cells #[.int .i64 a0_0, .int .i64 a0_1, .int .i64 a0_2, .bool a0_3, .slice Ao4 l0_4.length co4] 34 (0, 0)) (by (with_reducible repeat (first | refine blk_drewN ?_ _ | refine blk_drew ?_ | refine blk_alloc ?_ _)); exact BK130.out) hb); have n2_ := Aside0.mk (Kept.below (S := (fun k_ => P0_4_ k_)) (by repeat (first | (with_reducible first | exact HK.out | apply Kept.alloc | apply Kept.drewN | apply Kept.drew | refine Kept.setCell ?_ (.inr GW130.out) _) | exact HK.out)) hb); have n3_ := Aside0.mk (below_step (by repeat (first | (with_reducible first | exact HB.out | apply below_alloc | apply pw_below_drewN | apply below_drew1 | refine below_set ?_ GE130.out) | exact HB.out)) hb); have n4_ := Aside0.mk (hbox); have n5_ := Aside0.mk ((by rw [hg]; exact (by first | exact HK.out.1 | exact (show Kept w _ (fun k_ => P0_4_ k_) from by repeat (first | (with_reducible first | exact HK.out | apply Kept.alloc | apply Kept.drewN | apply Kept.drew | refine Kept.setCell ?_ (.inr GW130.out) _) | exact HK.out)).1) : w.heap.size ≤ gb131)); have n6_ := Aside0.mk ((by rw [hg]; exact (below_size (by repeat (first | (with_reducible first | exact HB.out | apply below_alloc | apply pw_below_drewN | apply below_drew1 | refine below_set ?_ GE130.out) | exact HB.out))) : w0.heap.size ≤ gb131)); have n7_ := Aside0.mk ((by rw [hg]; exact Nat.ne_of_lt (blk_lt (g := gb130) (o := .cells #[.int .i64 a0_0, .int .i64 a0_1, .int .i64 a0_2, .bool a0_3, .slice Ao4 l0_4.length co4] 34 (0, 0)) (by (with_reducible repeat (first | refine blk_drewN ?_ _ | refine blk_drew ?_ | refine blk_alloc ?_ _)); exact BK130.out)) : gb130 ≠ gb131)); have n8_ := Aside0.mk ((by rw [hg]; exact Nat.ne_of_gt (blk_lt (g := gb130) (o := .cells #[.int .i64 a0_0, .int .i64 a0_1, .int .i64 a0_2, .bool a0_3, .slice Ao4 l0_4.length co4] 34 (0, 0)) (by (with_reducible repeat (first | refine blk_drewN ?_ _ | refine blk_drew ?_ | refine blk_alloc ?_ _)); exact BK130.out)) : gb131 ≠ gb130)); clear HO0_4; clear BK130; clear HK; clear HB; have HO0_4 := n0_; have BK130 := n1_; have HK := n2_; have HB := n3_; have BK131 := n4_; have GW131 := n5_; have GE131 := n6_; have NB130_131 := n7_; have NB131_130 := n8_; clear n0_ n1_ n2_ n3_ n4_ n5_ n6_ n7_ n8_; clear hb hbox hg)); go_upto_region 1 with (first | ((with_reducible refine gate_dst (N := 2) rfl ?_); refine box_event ?hg (N := 2) ?hd (cs := #[.int .i64 a0_0, .int .i64 a0_1, .int .i64 a0_2, .bool a0_3, .slice Ao4 l0_4.length co4]) (t := 34) ?hr ?_; (case hd => rfl); (case hg => rfl); (case hr => first | (go_simp; done) | (go_simp; rfl)); intro gb130 hg w5 hbox hb; have n0_ := Aside0.mk (Kd.R_below (by (with_reducible repeat (first | apply Kd.R_alloc | apply Kd.R_drewN | apply Kd.R_drew)); exact HO0_4.out) hb); have n1_ := Aside0.mk (Kept.below (S := (fun k_ => P0_4_ k_)) (by repeat (first | (with_reducible first | exact HK.out | apply Kept.alloc | apply Kept.drewN | apply Kept.drew) | exact HK.out)) hb); have n2_ := Aside0.mk (below_step (by repeat (first | (with_reducible first | exact HB.out | apply below_alloc | apply pw_below_drewN | apply below_drew1) | exact HB.out)) hb); have n3_ := Aside0.mk (hbox); have n4_ := Aside0.mk ((by rw [hg]; exact (by first | exact HK.out.1 | exact (show Kept w _ (fun k_ => P0_4_ k_) from by repeat (first | (with_reducible first | exact HK.out | apply Kept.alloc | apply Kept.drewN | apply Kept.drew) | exact HK.out)).1) : w.heap.size ≤ gb130)); have n5_ := Aside0.mk ((by rw [hg]; exact (below_size (by repeat (first | (with_reducible first | exact HB.out | apply below_alloc | apply pw_below_drewN | apply below_drew1) | exact HB.out))) : w0.heap.size ≤ gb130)); clear HO0_4; clear HK; clear HB; have HO0_4 := n0_; have HK := n1_; have HB := n2_; have BK130 := n3_; have GW130 := n4_; have GE130 := n5_; clear n0_ n1_ n2_ n3_ n4_ n5_; clear hb hbox hg) | ((with_reducible refine gate_dst (N := 4) rfl ?_); refine box_event ?hg (N := 4) ?hd (cs := #[.int .i64 0, .int .i64 0, .int .i64 0, .bool false, .slice none 0 0]) (t := 34) ?hr ?_; (case hd => rfl); (case hg => rfl); (case hr => first | (go_simp; done) | (go_simp; rfl)); intro gb131 hg w6 hbox hb; have n0_ := Aside0.mk (Kd.R_below (by (with_reducible repeat (first | apply Kd.R_alloc | apply Kd.R_drewN | apply Kd.R_drew)); exact HO0_4.out) hb); have n1_ := Aside0.mk (blk_below (g := gb130) (o := .cells #[.int .i64 a0_0, .int .i64 a0_1, .int .i64 a0_2, .bool a0_3, .slice Ao4 l0_4.length co4] 34 (0, 0)) (by (with_reducible repeat (first | refine blk_drewN ?_ _ | refine blk_drew ?_ | refine blk_alloc ?_ _)); exact BK130.out) hb); have n2_ := Aside0.mk (Kept.below (S := (fun k_ => P0_4_ k_)) (by repeat (first | (with_reducible first | exact HK.out | apply Kept.alloc | apply Kept.drewN | apply Kept.drew | refine Kept.setCell ?_ (.inr GW130.out) _) | exact HK.out)) hb); have n3_ := Aside0.mk (below_step (by repeat (first | (with_reducible first | exact HB.out | apply below_alloc | apply pw_below_drewN | apply below_drew1 | refine below_set ?_ GE130.out) | exact HB.out)) hb); have n4_ := Aside0.mk (hbox); have n5_ := Aside0.mk ((by rw [hg]; exact (by first | exact HK.out.1 | exact (show Kept w _ (fun k_ => P0_4_ k_) from by repeat (first | (with_reducible first | exact HK.out | apply Kept.alloc | apply Kept.drewN | apply Kept.drew | refine Kept.setCell ?_ (.inr GW130.out) _) | exact HK.out)).1) : w.heap.size ≤ gb131)); have n6_ := Aside0.mk ((by rw [hg]; exact (below_size (by repeat (first | (with_reducible first | exact HB.out | apply below_alloc | apply pw_below_drewN | apply below_drew1 | refine below_set ?_ GE130.out) | exact HB.out))) : w0.heap.size ≤ gb131)); have n7_ := Aside0.mk ((by rw [hg]; exact Nat.ne_of_lt (blk_lt (g := gb130) (o := .cells #[.int .i64 a0_0, .int .i64 a0_1, .int .i64 a0_2, .bool a0_3, .slice Ao4 l0_4.length co4] 34 (0, 0)) (by (with_reducible repeat (first | refine blk_drewN ?_ _ | refine blk_drew ?_ | refine blk_alloc ?_ _)); exact BK130.out)) : gb130 ≠ gb131)); have n8_ := Aside0.mk ((by rw [hg]; exact Nat.ne_of_gt (blk_lt (g := gb130) (o := .cells #[.int .i64 a0_0, .int .i64 a0_1, .int .i64 a0_2, .bool a0_3, .slice Ao4 l0_4.length co4] 34 (0, 0)) (by (with_reducible repeat (first | refine blk_drewN ?_ _ | refine blk_drew ?_ | refine blk_alloc ?_ _)); exact BK130.out)) : gb131 ≠ gb130)); clear HO0_4; clear BK130; clear HK; clear HB; have HO0_4 := n0_; have BK130 := n1_; have HK := n2_; have HB := n3_; have BK131 := n4_; have GW131 := n5_; have GE131 := n6_; have NB130_131 := n7_; have NB131_130 := n8_; clear n0_ n1_ n2_ n3_ n4_ n5_ n6_ n7_ n8_; clear hb hbox hg)))
  (try simp only [Act.put, List.setIfInBounds_toArray, List.set_cons_zero, List.set_cons_succ])
  go_cut [14] (fun v14 wc => ∃ (kq : Nat) (x14_2 : Bool), v14 = .bool x14_2 ∧ Aside0 (ontimeref31_State_Access.j0 kq a1 x14_2 a0_0 a0_1 a0_2 a0_3 l0_4 = some (r1, r2, r3, r4, r5)) ∧ Aside0 (kq ≤ k) ∧ Aside0 (Kd.R k81 81 wc w0.heap.size (fun k_ => (P0_4_ k_ ∨ w.heap.size ≤ k_)) (.slice Ao4 l0_4.length co4) l0_4) ∧ Aside0 (wc.heap[gb130]? = some (.cells #[.int .i64 a0_0, .int .i64 a0_1, .int .i64 a0_2, .bool a0_3, (.slice Ao4 l0_4.length co4)] 34 (0, 0))) ∧ Aside0 (wc.heap[gb131]? = some (.cells #[.int .i64 0, .int .i64 0, .int .i64 0, .bool false, (.slice none 0 0)] 34 (0, 0))) ∧ Aside0 (Kept w wc (fun k_ => P0_4_ k_)) ∧ Aside0 (Below w0.heap.size w0 wc))
  case first =>
    have H := HC3.out
    clear HC3
    by_cases c7 : a0_3 = true
    · subst c7
      have H1 : (ontimeref31_State_Access.j0 k a1 true a0_0 a0_1 a0_2 true l0_4) = some (r1, r2, r3, r4, r5) := by rw [if_pos rfl] at H; exact H
      clear H
      have H := H1
      clear H1
      have H' := Aside0.mk H
      clear H
      have hnb8 := NB130_131.out
      have hnc8 := NB131_130.out
      have hcz9_0 : w6.cell? ⟨gb130, 0, none⟩ = some (.int .i64 a0_0) := (blk_cell BK130.out 0).trans rfl
      have hcz9_1 : w6.cell? ⟨gb130, 1, none⟩ = some (.int .i64 a0_1) := (blk_cell BK130.out 1).trans rfl
      have hcz9_2 : w6.cell? ⟨gb130, 2, none⟩ = some (.int .i64 a0_2) := (blk_cell BK130.out 2).trans rfl
      have hcz9_3 : w6.cell? ⟨gb130, 3, none⟩ = some (.bool true) := (blk_cell BK130.out 3).trans rfl
      have hcz9_4 : w6.cell? ⟨gb130, 4, none⟩ = some (.slice Ao4 l0_4.length co4) := (blk_cell BK130.out 4).trans rfl
      have hfz9_0 := blk_frozen BK130.out 0
      have hfz9_1 := blk_frozen BK130.out 1
      have hfz9_2 := blk_frozen BK130.out 2
      have hfz9_3 := blk_frozen BK130.out 3
      have hfz9_4 := blk_frozen BK130.out 4
      go_wp2
      repeat (go_quiet (fail); try go_wp2)
      go_meet
      case rel => exact ⟨_, (true), (by first | rfl | (simp; done) | (simp [*]; done)), H', ⟨by first | omega | exact Nat.le_refl _⟩, ⟨by (with_reducible repeat (first | apply Kd.R_alloc | apply Kd.R_drewN | apply Kd.R_drew)); exact HO0_4.out⟩, ⟨by (with_reducible repeat (first | refine blk_drewN ?_ _ | refine blk_drew ?_ | refine blk_alloc ?_ _)); exact BK130.out⟩, ⟨by (with_reducible repeat (first | refine blk_drewN ?_ _ | refine blk_drew ?_ | refine blk_alloc ?_ _)); exact BK131.out⟩, ⟨by repeat (first | (with_reducible first | exact HK.out | apply Kept.alloc | apply Kept.drewN | apply Kept.drew | refine Kept.setCell ?_ (.inr GW130.out) _ | refine Kept.setCell ?_ (.inr GW131.out) _) | exact HK.out)⟩, ⟨by repeat (first | (with_reducible first | exact HB.out | apply below_alloc | apply pw_below_drewN | apply below_drew1 | refine below_set ?_ GE130.out | refine below_set ?_ GE131.out) | exact HB.out)⟩⟩
    · replace c7 := Bool.eq_false_iff.mpr c7
      subst c7
      have H1 : (ontimeref31_State_Access.j0 k a1 (decide (a1 < 0)) a0_0 a0_1 a0_2 false l0_4) = some (r1, r2, r3, r4, r5) := by rw [if_neg (show ¬ (false = true) by decide)] at H; exact H
      clear H
      have H := H1
      clear H1
      have H' := Aside0.mk H
      clear H
      have hnb10 := NB130_131.out
      have hnc10 := NB131_130.out
      have hcz11_0 : w6.cell? ⟨gb130, 0, none⟩ = some (.int .i64 a0_0) := (blk_cell BK130.out 0).trans rfl
      have hcz11_1 : w6.cell? ⟨gb130, 1, none⟩ = some (.int .i64 a0_1) := (blk_cell BK130.out 1).trans rfl
      have hcz11_2 : w6.cell? ⟨gb130, 2, none⟩ = some (.int .i64 a0_2) := (blk_cell BK130.out 2).trans rfl
      have hcz11_3 : w6.cell? ⟨gb130, 3, none⟩ = some (.bool false) := (blk_cell BK130.out 3).trans rfl
      have hcz11_4 : w6.cell? ⟨gb130, 4, none⟩ = some (.slice Ao4 l0_4.length co4) := (blk_cell BK130.out 4).trans rfl
      have hfz11_0 := blk_frozen BK130.out 0
      have hfz11_1 := blk_frozen BK130.out 1
      have hfz11_2 := blk_frozen BK130.out 2
      have hfz11_3 := blk_frozen BK130.out 3
      have hfz11_4 := blk_frozen BK130.out 4
      go_wp2
      repeat (go_quiet (fail); try go_wp2)
      go_meet
      case rel => exact ⟨_, (decide (a1 < 0)), (by first | rfl | (simp; done) | (simp [*]; done)), H', ⟨by first | omega | exact Nat.le_refl _⟩, ⟨by (with_reducible repeat (first | apply Kd.R_alloc | apply Kd.R_drewN | apply Kd.R_drew)); exact HO0_4.out⟩, ⟨by (with_reducible repeat (first | refine blk_drewN ?_ _ | refine blk_drew ?_ | refine blk_alloc ?_ _)); exact BK130.out⟩, ⟨by (with_reducible repeat (first | refine blk_drewN ?_ _ | refine blk_drew ?_ | refine blk_alloc ?_ _)); exact BK131.out⟩, ⟨by repeat (first | (with_reducible first | exact HK.out | apply Kept.alloc | apply Kept.drewN | apply Kept.drew | refine Kept.setCell ?_ (.inr GW130.out) _ | refine Kept.setCell ?_ (.inr GW131.out) _) | exact HK.out)⟩, ⟨by repeat (first | (with_reducible first | exact HB.out | apply below_alloc | apply pw_below_drewN | apply below_drew1 | refine below_set ?_ GE130.out | refine below_set ?_ GE131.out) | exact HB.out)⟩⟩
  case rest =>
    clear HC3
    try clear c1
    try clear p2
    try clear c3
    try clear c7
    try clear c8
    try clear c10
    try clear hcz11_0
    try clear hcz11_1
    try clear hcz11_2
    try clear hcz11_3
    try clear hcz11_4
    try clear hcz9_0
    try clear hcz9_1
    try clear hcz9_2
    try clear hcz9_3
    try clear hcz9_4
    try clear hfz11_0
    try clear hfz11_1
    try clear hfz11_2
    try clear hfz11_3
    try clear hfz11_4
    try clear hfz9_0
    try clear hfz9_1
    try clear hfz9_2
    try clear hfz9_3
    try clear hfz9_4
    obtain ⟨kq, x14_2, rfl, HA, HJ2, HO_131004, BK130, BK131, HK, HB⟩ := hcut
    cases kq with
    | zero => exact absurd HA.out (by simp [ontimeref31_State_Access.j0])
    | succ kj2 =>
      have H := HA.out
      clear HA
      simp only [ontimeref31_State_Access.j0] at H
      by_cases c12 : x14_2 = true
      · subst c12
        have H1 : (some (a0_0, a0_1, a0_2, a0_3, l0_4)) = some (r1, r2, r3, r4, r5) := by rw [if_pos rfl] at H; exact H
        clear H
        have H := H1
        clear H1
        simp only [Option.some.injEq, Prod.mk.injEq] at H
        obtain ⟨rfl, rfl, rfl, rfl, rfl⟩ := H
        have hnb13 := NB130_131.out
        have hnc13 := NB131_130.out
        have hcz14_0 : wc.cell? ⟨gb130, 0, none⟩ = some (.int .i64 a0_0) := (blk_cell BK130.out 0).trans rfl
        have hcz14_1 : wc.cell? ⟨gb130, 1, none⟩ = some (.int .i64 a0_1) := (blk_cell BK130.out 1).trans rfl
        have hcz14_2 : wc.cell? ⟨gb130, 2, none⟩ = some (.int .i64 a0_2) := (blk_cell BK130.out 2).trans rfl
        have hcz14_3 : wc.cell? ⟨gb130, 3, none⟩ = some (.bool a0_3) := (blk_cell BK130.out 3).trans rfl
        have hcz14_4 : wc.cell? ⟨gb130, 4, none⟩ = some (.slice Ao4 l0_4.length co4) := (blk_cell BK130.out 4).trans rfl
        have hfz14_0 := blk_frozen BK130.out 0
        have hfz14_1 := blk_frozen BK130.out 1
        have hfz14_2 := blk_frozen BK130.out 2
        have hfz14_3 := blk_frozen BK130.out 3
        have hfz14_4 := blk_frozen BK130.out 4
        have hcz15_0 : wc.cell? ⟨gb131, 0, none⟩ = some (.int .i64 0) := (blk_cell BK131.out 0).trans rfl
        have hcz15_1 : wc.cell? ⟨gb131, 1, none⟩ = some (.int .i64 0) := (blk_cell BK131.out 1).trans rfl
        have hcz15_2 : wc.cell? ⟨gb131, 2, none⟩ = some (.int .i64 0) := (blk_cell BK131.out 2).trans rfl
        have hcz15_3 : wc.cell? ⟨gb131, 3, none⟩ = some (.bool false) := (blk_cell BK131.out 3).trans rfl
        have hcz15_4 : wc.cell? ⟨gb131, 4, none⟩ = some (.slice none 0 0) := (blk_cell BK131.out 4).trans rfl
        have hfz15_0 := blk_frozen BK131.out 0
        have hfz15_1 := blk_frozen BK131.out 1
        have hfz15_2 := blk_frozen BK131.out 2
        have hfz15_3 := blk_frozen BK131.out 3
        have hfz15_4 := blk_frozen BK131.out 4
        go_wp2
        repeat (go_quiet (fail); try go_wp2)
        refine bodyPost_ret (results_cell_row rfl _ _ gb131 34 #[.int .i64 a0_0, .int .i64 a0_1, .int .i64 a0_2, .bool a0_3, .slice Ao4 l0_4.length co4] (0, 0) _ rfl (by (with_reducible repeat (first | refine blk_drewN ?_ _ | refine blk_drew ?_ | refine blk_alloc ?_ _)); refine blk_put (cs := #[.int .i64 a0_0, .int .i64 a0_1, .int .i64 a0_2, .bool a0_3, .slice none 0 0]) ?_ 4 _ rfl; (with_reducible repeat (first | refine blk_drewN ?_ _ | refine blk_drew ?_ | refine blk_alloc ?_ _)); refine blk_put (cs := #[.int .i64 a0_0, .int .i64 a0_1, .int .i64 a0_2, .bool false, .slice none 0 0]) ?_ 3 _ rfl; (with_reducible repeat (first | refine blk_drewN ?_ _ | refine blk_drew ?_ | refine blk_alloc ?_ _)); refine blk_put (cs := #[.int .i64 a0_0, .int .i64 a0_1, .int .i64 0, .bool false, .slice none 0 0]) ?_ 2 _ rfl; (with_reducible repeat (first | refine blk_drewN ?_ _ | refine blk_drew ?_ | refine blk_alloc ?_ _)); refine blk_put (cs := #[.int .i64 a0_0, .int .i64 0, .int .i64 0, .bool false, .slice none 0 0]) ?_ 1 _ rfl; (with_reducible repeat (first | refine blk_drewN ?_ _ | refine blk_drew ?_ | refine blk_alloc ?_ _)); refine blk_put (cs := #[.int .i64 0, .int .i64 0, .int .i64 0, .bool false, .slice none 0 0]) ?_ 0 _ rfl; (with_reducible repeat (first | refine blk_drewN ?_ _ | refine blk_drew ?_ | refine blk_alloc ?_ _)); exact BK131.out) Try.underlying34 rfl (by kernel_rfl)) rfl ?_
        exact ⟨_, by first | rfl | (simp [errW_none, errW_some] <;> rfl) | (simp [*, errW_none, errW_some] <;> rfl), by (with_reducible repeat (first | apply Kd.R_alloc | apply Kd.R_drewN | apply Kd.R_drew)); exact Kd.R_mono (Kd.R_far (p := ⟨gb131, 4, none⟩) (Kd.R_far (p := ⟨gb131, 3, none⟩) (Kd.R_far (p := ⟨gb131, 2, none⟩) (Kd.R_far (p := ⟨gb131, 1, none⟩) (Kd.R_far (p := ⟨gb131, 0, none⟩) (Kd.R_types HO_131004.out BK131.out (by decide)) (fun _ hk => hk.2) (.int .i64 a0_0)) (fun _ hk => hk.2) (.int .i64 a0_1)) (fun _ hk => hk.2) (.int .i64 a0_2)) (fun _ hk => hk.2) (.bool a0_3)) (fun _ hk => hk.2) (.slice Ao4 l0_4.length co4)) (fun _ hk => hk.1), by repeat (first | (with_reducible first | exact HB.out | apply below_alloc | apply pw_below_drewN | apply below_drew1 | refine below_set ?_ GE130.out | refine below_set ?_ GE131.out) | exact HB.out), by repeat (first | (with_reducible first | exact HK.out | apply Kept.alloc | apply Kept.drewN | apply Kept.drew | refine Kept.setCell ?_ (.inr GW130.out) _ | refine Kept.setCell ?_ (.inr GW131.out) _) | exact HK.out)⟩
      · replace c12 := Bool.eq_false_iff.mpr c12
        subst c12
        have H1 : ((ontimeref31_State_Age.f kj2 a0_0 a0_1 a0_2 a0_3 l0_4 a1).bind fun t132 => (if t132 < 0 then (ontimeref31_State_Access.j1 kj2 a1 a0_1 a0_0 a0_1 a0_2 a0_3 l0_4) else (ontimeref31_State_Access.j1 kj2 a1 t132 a0_0 a0_1 a0_2 a0_3 l0_4))) = some (r1, r2, r3, r4, r5) := by rw [if_neg (show ¬ (false = true) by decide)] at H; exact H
        clear H
        have H := H1
        clear H1
        replace H := Option.bind_eq_some_iff.mp H
        obtain ⟨t132, A160, H⟩ := H
        replace H : (if t132 < 0 then (ontimeref31_State_Access.j1 kj2 a1 a0_1 a0_0 a0_1 a0_2 a0_3 l0_4) else (ontimeref31_State_Access.j1 kj2 a1 t132 a0_0 a0_1 a0_2 a0_3 l0_4)) = some (r1, r2, r3, r4, r5) := H
        have A16 := Aside0.mk A160
        clear A160
        have HC17 := Aside0.mk H
        clear H
        have hnb18 := NB130_131.out
        have hnc18 := NB131_130.out
        have hcz19_0 : wc.cell? ⟨gb130, 0, none⟩ = some (.int .i64 a0_0) := (blk_cell BK130.out 0).trans rfl
        have hcz19_1 : wc.cell? ⟨gb130, 1, none⟩ = some (.int .i64 a0_1) := (blk_cell BK130.out 1).trans rfl
        have hcz19_2 : wc.cell? ⟨gb130, 2, none⟩ = some (.int .i64 a0_2) := (blk_cell BK130.out 2).trans rfl
        have hcz19_3 : wc.cell? ⟨gb130, 3, none⟩ = some (.bool a0_3) := (blk_cell BK130.out 3).trans rfl
        have hcz19_4 : wc.cell? ⟨gb130, 4, none⟩ = some (.slice Ao4 l0_4.length co4) := (blk_cell BK130.out 4).trans rfl
        have hfz19_0 := blk_frozen BK130.out 0
        have hfz19_1 := blk_frozen BK130.out 1
        have hfz19_2 := blk_frozen BK130.out 2
        have hfz19_3 := blk_frozen BK130.out 3
        have hfz19_4 := blk_frozen BK130.out 4
        go_upto_if 20 with (first | (go_at_call 35; (with_reducible refine (ontimeref31_State_Age.calls kj2 a0_0 a0_1 a0_2 a0_3 _ _ l0_4 a1 t132 _ ?side1 ?side2 A16.out).mono ?_); (case side1 => repeat (first | exact (Kd.R_reads' HO_131004.out).2.2 | (with_reducible refine Kd.C_alloc ?_ _) | (with_reducible refine Kd.C_drewN ?_ _) | (with_reducible refine Kd.C_drew ?_))); (case side2 => exact (Kd.R_reads' HO_131004.out).2.1); rintro e w20 ⟨rfl, hb⟩; have n0_ := Aside0.mk (Kd.R_below (by (with_reducible repeat (first | apply Kd.R_alloc | apply Kd.R_drewN | apply Kd.R_drew)); exact HO_131004.out) hb); have n1_ := Aside0.mk (blk_below (g := gb130) (o := .cells #[.int .i64 a0_0, .int .i64 a0_1, .int .i64 a0_2, .bool a0_3, .slice Ao4 l0_4.length co4] 34 (0, 0)) (by (with_reducible repeat (first | refine blk_drewN ?_ _ | refine blk_drew ?_ | refine blk_alloc ?_ _)); exact BK130.out) hb); have n2_ := Aside0.mk (blk_below (g := gb131) (o := .cells #[.int .i64 0, .int .i64 0, .int .i64 0, .bool false, .slice none 0 0] 34 (0, 0)) (by (with_reducible repeat (first | refine blk_drewN ?_ _ | refine blk_drew ?_ | refine blk_alloc ?_ _)); exact BK131.out) hb); have n3_ := Aside0.mk (Kept.below (S := (fun k_ => P0_4_ k_)) (by repeat (first | (with_reducible first | exact HK.out | apply Kept.alloc | apply Kept.drewN | apply Kept.drew | refine Kept.setCell ?_ (.inr GW130.out) _ | refine Kept.setCell ?_ (.inr GW131.out) _) | exact HK.out)) hb); have n4_ := Aside0.mk (below_step (by repeat (first | (with_reducible first | exact HB.out | apply below_alloc | apply pw_below_drewN | apply below_drew1 | refine below_set ?_ GE130.out | refine below_set ?_ GE131.out) | exact HB.out)) hb); clear HO_131004; clear BK130; clear BK131; clear HK; clear HB; have HO_131004 := n0_; have BK130 := n1_; have BK131 := n2_; have HK := n3_; have HB := n4_; clear n0_ n1_ n2_ n3_ n4_; (try clear hb); (try clear hb2); (try clear hk); (try clear hi)))
        repeat (go_quiet (first | (go_at_call 35; (with_reducible refine (ontimeref31_State_Age.calls kj2 a0_0 a0_1 a0_2 a0_3 _ _ l0_4 a1 t132 _ ?side1 ?side2 A16.out).mono ?_); (case side1 => repeat (first | exact (Kd.R_reads' HO_131004.out).2.2 | (with_reducible refine Kd.C_alloc ?_ _) | (with_reducible refine Kd.C_drewN ?_ _) | (with_reducible refine Kd.C_drew ?_))); (case side2 => exact (Kd.R_reads' HO_131004.out).2.1); rintro e w20 ⟨rfl, hb⟩; have n0_ := Aside0.mk (Kd.R_below (by (with_reducible repeat (first | apply Kd.R_alloc | apply Kd.R_drewN | apply Kd.R_drew)); exact HO_131004.out) hb); have n1_ := Aside0.mk (blk_below (g := gb130) (o := .cells #[.int .i64 a0_0, .int .i64 a0_1, .int .i64 a0_2, .bool a0_3, .slice Ao4 l0_4.length co4] 34 (0, 0)) (by (with_reducible repeat (first | refine blk_drewN ?_ _ | refine blk_drew ?_ | refine blk_alloc ?_ _)); exact BK130.out) hb); have n2_ := Aside0.mk (blk_below (g := gb131) (o := .cells #[.int .i64 0, .int .i64 0, .int .i64 0, .bool false, .slice none 0 0] 34 (0, 0)) (by (with_reducible repeat (first | refine blk_drewN ?_ _ | refine blk_drew ?_ | refine blk_alloc ?_ _)); exact BK131.out) hb); have n3_ := Aside0.mk (Kept.below (S := (fun k_ => P0_4_ k_)) (by repeat (first | (with_reducible first | exact HK.out | apply Kept.alloc | apply Kept.drewN | apply Kept.drew | refine Kept.setCell ?_ (.inr GW130.out) _ | refine Kept.setCell ?_ (.inr GW131.out) _) | exact HK.out)) hb); have n4_ := Aside0.mk (below_step (by repeat (first | (with_reducible first | exact HB.out | apply below_alloc | apply pw_below_drewN | apply below_drew1 | refine below_set ?_ GE130.out | refine below_set ?_ GE131.out) | exact HB.out)) hb); clear HO_131004; clear BK130; clear BK131; clear HK; clear HB; have HO_131004 := n0_; have BK130 := n1_; have BK131 := n2_; have HK := n3_; have HB := n4_; clear n0_ n1_ n2_ n3_ n4_; (try clear hb); (try clear hb2); (try clear hk); (try clear hi))); go_upto_if 20 with (first | (go_at_call 35; (with_reducible refine (ontimeref31_State_Age.calls kj2 a0_0 a0_1 a0_2 a0_3 _ _ l0_4 a1 t132 _ ?side1 ?side2 A16.out).mono ?_); (case side1 => repeat (first | exact (Kd.R_reads' HO_131004.out).2.2 | (with_reducible refine Kd.C_alloc ?_ _) | (with_reducible refine Kd.C_drewN ?_ _) | (with_reducible refine Kd.C_drew ?_))); (case side2 => exact (Kd.R_reads' HO_131004.out).2.1); rintro e w20 ⟨rfl, hb⟩; have n0_ := Aside0.mk (Kd.R_below (by (with_reducible repeat (first | apply Kd.R_alloc | apply Kd.R_drewN | apply Kd.R_drew)); exact HO_131004.out) hb); have n1_ := Aside0.mk (blk_below (g := gb130) (o := .cells #[.int .i64 a0_0, .int .i64 a0_1, .int .i64 a0_2, .bool a0_3, .slice Ao4 l0_4.length co4] 34 (0, 0)) (by (with_reducible repeat (first | refine blk_drewN ?_ _ | refine blk_drew ?_ | refine blk_alloc ?_ _)); exact BK130.out) hb); have n2_ := Aside0.mk (blk_below (g := gb131) (o := .cells #[.int .i64 0, .int .i64 0, .int .i64 0, .bool false, .slice none 0 0] 34 (0, 0)) (by (with_reducible repeat (first | refine blk_drewN ?_ _ | refine blk_drew ?_ | refine blk_alloc ?_ _)); exact BK131.out) hb); have n3_ := Aside0.mk (Kept.below (S := (fun k_ => P0_4_ k_)) (by repeat (first | (with_reducible first | exact HK.out | apply Kept.alloc | apply Kept.drewN | apply Kept.drew | refine Kept.setCell ?_ (.inr GW130.out) _ | refine Kept.setCell ?_ (.inr GW131.out) _) | exact HK.out)) hb); have n4_ := Aside0.mk (below_step (by repeat (first | (with_reducible first | exact HB.out | apply below_alloc | apply pw_below_drewN | apply below_drew1 | refine below_set ?_ GE130.out | refine below_set ?_ GE131.out) | exact HB.out)) hb); clear HO_131004; clear BK130; clear BK131; clear HK; clear HB; have HO_131004 := n0_; have BK130 := n1_; have BK131 := n2_; have HK := n3_; have HB := n4_; clear n0_ n1_ n2_ n3_ n4_; (try clear hb); (try clear hb2); (try clear hk); (try clear hi))))
        (try simp only [Act.put, List.setIfInBounds_toArray, List.set_cons_zero, List.set_cons_succ])
        go_cut [5] (fun v5 wc => ∃ (kq : Nat) (x5_16 : Int), v5 = .int .i64 x5_16 ∧ Aside0 (ontimeref31_State_Access.j1 kq a1 x5_16 a0_0 a0_1 a0_2 a0_3 l0_4 = some (r1, r2, r3, r4, r5)) ∧ Aside0 (kq ≤ kj2) ∧ Aside0 (Kd.R k81 81 wc w0.heap.size (fun k_ => (P0_4_ k_ ∨ w.heap.size ≤ k_)) (.slice Ao4 l0_4.length co4) l0_4) ∧ Aside0 (wc.heap[gb130]? = some (.cells #[.int .i64 a0_0, .int .i64 a0_1, .int .i64 a0_2, .bool a0_3, (.slice Ao4 l0_4.length co4)] 34 (0, 0))) ∧ Aside0 (wc.heap[gb131]? = some (.cells #[.int .i64 0, .int .i64 0, .int .i64 0, .bool false, (.slice none 0 0)] 34 (0, 0))) ∧ Aside0 (Kept w wc (fun k_ => P0_4_ k_)) ∧ Aside0 (Below w0.heap.size w0 wc))
        case first =>
          have H := HC17.out
          clear HC17
          by_cases c21 : t132 < 0
          · rw [if_pos c21] at H
            have c21b0 : decide (t132 < 0) = true := decide_eq_true c21
            clear c21
            (first | rw [c21b0] | (simp only [i64_w, i32_w]; rw [c21b0]) | skip)
            have H' := Aside0.mk H
            clear H
            have hnb22 := NB130_131.out
            have hnc22 := NB131_130.out
            have hcz23_0 : w20.cell? ⟨gb130, 0, none⟩ = some (.int .i64 a0_0) := (blk_cell BK130.out 0).trans rfl
            have hcz23_1 : w20.cell? ⟨gb130, 1, none⟩ = some (.int .i64 a0_1) := (blk_cell BK130.out 1).trans rfl
            have hcz23_2 : w20.cell? ⟨gb130, 2, none⟩ = some (.int .i64 a0_2) := (blk_cell BK130.out 2).trans rfl
            have hcz23_3 : w20.cell? ⟨gb130, 3, none⟩ = some (.bool a0_3) := (blk_cell BK130.out 3).trans rfl
            have hcz23_4 : w20.cell? ⟨gb130, 4, none⟩ = some (.slice Ao4 l0_4.length co4) := (blk_cell BK130.out 4).trans rfl
            have hfz23_0 := blk_frozen BK130.out 0
            have hfz23_1 := blk_frozen BK130.out 1
            have hfz23_2 := blk_frozen BK130.out 2
            have hfz23_3 := blk_frozen BK130.out 3
            have hfz23_4 := blk_frozen BK130.out 4
            go_wp2
            repeat (go_quiet (fail); try go_wp2)
            go_meet
            case rel => exact ⟨_, (a0_1), (by first | rfl | (simp; done) | (simp [*]; done)), H', ⟨by have := HJ2.out; first | omega | exact Nat.le_refl _⟩, ⟨by (with_reducible repeat (first | apply Kd.R_alloc | apply Kd.R_drewN | apply Kd.R_drew)); exact HO_131004.out⟩, ⟨by (with_reducible repeat (first | refine blk_drewN ?_ _ | refine blk_drew ?_ | refine blk_alloc ?_ _)); exact BK130.out⟩, ⟨by (with_reducible repeat (first | refine blk_drewN ?_ _ | refine blk_drew ?_ | refine blk_alloc ?_ _)); exact BK131.out⟩, ⟨by repeat (first | (with_reducible first | exact HK.out | apply Kept.alloc | apply Kept.drewN | apply Kept.drew | refine Kept.setCell ?_ (.inr GW130.out) _ | refine Kept.setCell ?_ (.inr GW131.out) _) | exact HK.out)⟩, ⟨by repeat (first | (with_reducible first | exact HB.out | apply below_alloc | apply pw_below_drewN | apply below_drew1 | refine below_set ?_ GE130.out | refine below_set ?_ GE131.out) | exact HB.out)⟩⟩
          · rw [if_neg c21] at H
            have c21b0 : decide (t132 < 0) = false := decide_eq_false c21
            clear c21
            (first | rw [c21b0] | (simp only [i64_w, i32_w]; rw [c21b0]) | skip)
            have H' := Aside0.mk H
            clear H
            go_wp2
            repeat (go_quiet (fail); try go_wp2)
            go_meet
            case rel => exact ⟨_, (t132), (by first | rfl | (simp; done) | (simp [*]; done)), H', ⟨by have := HJ2.out; first | omega | exact Nat.le_refl _⟩, ⟨by (with_reducible repeat (first | apply Kd.R_alloc | apply Kd.R_drewN | apply Kd.R_drew)); exact HO_131004.out⟩, ⟨by (with_reducible repeat (first | refine blk_drewN ?_ _ | refine blk_drew ?_ | refine blk_alloc ?_ _)); exact BK130.out⟩, ⟨by (with_reducible repeat (first | refine blk_drewN ?_ _ | refine blk_drew ?_ | refine blk_alloc ?_ _)); exact BK131.out⟩, ⟨by repeat (first | (with_reducible first | exact HK.out | apply Kept.alloc | apply Kept.drewN | apply Kept.drew | refine Kept.setCell ?_ (.inr GW130.out) _ | refine Kept.setCell ?_ (.inr GW131.out) _) | exact HK.out)⟩, ⟨by repeat (first | (with_reducible first | exact HB.out | apply below_alloc | apply pw_below_drewN | apply below_drew1 | refine below_set ?_ GE130.out | refine below_set ?_ GE131.out) | exact HB.out)⟩⟩
        case rest =>
          clear HC17
          try clear c1
          try clear c2
          try clear p2
          try clear c3
          try clear c7
          try clear c8
          try clear c10
          try clear c12
          try clear c13
          try clear c18
          try clear c21
          try clear c21b0
          try clear c22
          try clear hcz11_0
          try clear hcz11_1
          try clear hcz11_2
          try clear hcz11_3
          try clear hcz11_4
          try clear hcz14_0
          try clear hcz14_1
          try clear hcz14_2
          try clear hcz14_3
          try clear hcz14_4
          try clear hcz15_0
          try clear hcz15_1
          try clear hcz15_2
          try clear hcz15_3
          try clear hcz15_4
          try clear hcz19_0
          try clear hcz19_1
          try clear hcz19_2
          try clear hcz19_3
          try clear hcz19_4
          try clear hcz23_0
          try clear hcz23_1
          try clear hcz23_2
          try clear hcz23_3
          try clear hcz23_4
          try clear hcz9_0
          try clear hcz9_1
          try clear hcz9_2
          try clear hcz9_3
          try clear hcz9_4
          try clear hfz11_0
          try clear hfz11_1
          try clear hfz11_2
          try clear hfz11_3
          try clear hfz11_4
          try clear hfz14_0
          try clear hfz14_1
          try clear hfz14_2
          try clear hfz14_3
          try clear hfz14_4
          try clear hfz15_0
          try clear hfz15_1
          try clear hfz15_2
          try clear hfz15_3
          try clear hfz15_4
          try clear hfz19_0
          try clear hfz19_1
          try clear hfz19_2
          try clear hfz19_3
          try clear hfz19_4
          try clear hfz23_0
          try clear hfz23_1
          try clear hfz23_2
          try clear hfz23_3
          try clear hfz23_4
          try clear hfz9_0
          try clear hfz9_1
          try clear hfz9_2
          try clear hfz9_3
          try clear hfz9_4
          try clear p2
          obtain ⟨kq, x5_16, rfl, HA, HJ16, HO_131004, BK130, BK131, HK, HB⟩ := hcut
          cases kq with
          | zero => exact absurd HA.out (by simp [ontimeref31_State_Access.j1])
          | succ kj16 =>
            have H := HA.out
            clear HA
            simp only [ontimeref31_State_Access.j1] at H
            have H' := Aside0.mk H
            clear H
            have hnb24 := NB130_131.out
            have hnc24 := NB131_130.out
            have hcz25_0 : wc.cell? ⟨gb130, 0, none⟩ = some (.int .i64 a0_0) := (blk_cell BK130.out 0).trans rfl
            have hcz25_1 : wc.cell? ⟨gb130, 1, none⟩ = some (.int .i64 a0_1) := (blk_cell BK130.out 1).trans rfl
            have hcz25_2 : wc.cell? ⟨gb130, 2, none⟩ = some (.int .i64 a0_2) := (blk_cell BK130.out 2).trans rfl
            have hcz25_3 : wc.cell? ⟨gb130, 3, none⟩ = some (.bool a0_3) := (blk_cell BK130.out 3).trans rfl
            have hcz25_4 : wc.cell? ⟨gb130, 4, none⟩ = some (.slice Ao4 l0_4.length co4) := (blk_cell BK130.out 4).trans rfl
            have hfz25_0 := blk_frozen BK130.out 0
            have hfz25_1 := blk_frozen BK130.out 1
            have hfz25_2 := blk_frozen BK130.out 2
            have hfz25_3 := blk_frozen BK130.out 3
            have hfz25_4 := blk_frozen BK130.out 4
            go_wp2_with (first | ((with_reducible refine gate_dst (N := 6) rfl ?_); refine box_event ?hg (N := 6) ?hd (cs := #[.int .i64 0, .int .i64 0, .int .i64 0, .bool false, .slice none 0 0]) (t := 34) ?hr ?_; (case hd => rfl); (case hg => rfl); (case hr => first | (go_simp; done) | (go_simp; rfl)); intro gb133 hg w26 hbox hb; have n0_ := Aside0.mk (Kd.R_below (by (with_reducible repeat (first | apply Kd.R_alloc | apply Kd.R_drewN | apply Kd.R_drew)); exact HO_131004.out) hb); have n1_ := Aside0.mk (blk_below (g := gb130) (o := .cells #[.int .i64 a0_0, .int .i64 a0_1, .int .i64 a0_2, .bool a0_3, .slice Ao4 l0_4.length co4] 34 (0, 0)) (by (with_reducible repeat (first | refine blk_drewN ?_ _ | refine blk_drew ?_ | refine blk_alloc ?_ _)); exact BK130.out) hb); have n2_ := Aside0.mk (blk_below (g := gb131) (o := .cells #[.int .i64 0, .int .i64 0, .int .i64 0, .bool false, .slice none 0 0] 34 (0, 0)) (by (with_reducible repeat (first | refine blk_drewN ?_ _ | refine blk_drew ?_ | refine blk_alloc ?_ _)); exact BK131.out) hb); have n3_ := Aside0.mk (Kept.below (S := (fun k_ => P0_4_ k_)) (by repeat (first | (with_reducible first | exact HK.out | apply Kept.alloc | apply Kept.drewN | apply Kept.drew | refine Kept.setCell ?_ (.inr GW130.out) _ | refine Kept.setCell ?_ (.inr GW131.out) _) | exact HK.out)) hb); have n4_ := Aside0.mk (below_step (by repeat (first | (with_reducible first | exact HB.out | apply below_alloc | apply pw_below_drewN | apply below_drew1 | refine below_set ?_ GE130.out | refine below_set ?_ GE131.out) | exact HB.out)) hb); have n5_ := Aside0.mk (hbox); have n6_ := Aside0.mk ((by rw [hg]; exact (by first | exact HK.out.1 | exact (show Kept w _ (fun k_ => P0_4_ k_) from by repeat (first | (with_reducible first | exact HK.out | apply Kept.alloc | apply Kept.drewN | apply Kept.drew | refine Kept.setCell ?_ (.inr GW130.out) _ | refine Kept.setCell ?_ (.inr GW131.out) _) | exact HK.out)).1) : w.heap.size ≤ gb133)); have n7_ := Aside0.mk ((by rw [hg]; exact (below_size (by repeat (first | (with_reducible first | exact HB.out | apply below_alloc | apply pw_below_drewN | apply below_drew1 | refine below_set ?_ GE130.out | refine below_set ?_ GE131.out) | exact HB.out))) : w0.heap.size ≤ gb133)); have n8_ := Aside0.mk ((by rw [hg]; exact Nat.ne_of_lt (blk_lt (g := gb130) (o := .cells #[.int .i64 a0_0, .int .i64 a0_1, .int .i64 a0_2, .bool a0_3, .slice Ao4 l0_4.length co4] 34 (0, 0)) (by (with_reducible repeat (first | refine blk_drewN ?_ _ | refine blk_drew ?_ | refine blk_alloc ?_ _)); exact BK130.out)) : gb130 ≠ gb133)); have n9_ := Aside0.mk ((by rw [hg]; exact Nat.ne_of_gt (blk_lt (g := gb130) (o := .cells #[.int .i64 a0_0, .int .i64 a0_1, .int .i64 a0_2, .bool a0_3, .slice Ao4 l0_4.length co4] 34 (0, 0)) (by (with_reducible repeat (first | refine blk_drewN ?_ _ | refine blk_drew ?_ | refine blk_alloc ?_ _)); exact BK130.out)) : gb133 ≠ gb130)); have n10_ := Aside0.mk ((by rw [hg]; exact Nat.ne_of_lt (blk_lt (g := gb131) (o := .cells #[.int .i64 0, .int .i64 0, .int .i64 0, .bool false, .slice none 0 0] 34 (0, 0)) (by (with_reducible repeat (first | refine blk_drewN ?_ _ | refine blk_drew ?_ | refine blk_alloc ?_ _)); exact BK131.out)) : gb131 ≠ gb133)); have n11_ := Aside0.mk ((by rw [hg]; exact Nat.ne_of_gt (blk_lt (g := gb131) (o := .cells #[.int .i64 0, .int .i64 0, .int .i64 0, .bool false, .slice none 0 0] 34 (0, 0)) (by (with_reducible repeat (first | refine blk_drewN ?_ _ | refine blk_drew ?_ | refine blk_alloc ?_ _)); exact BK131.out)) : gb133 ≠ gb131)); clear HO_131004; clear BK130; clear BK131; clear HK; clear HB; have HO_131004 := n0_; have BK130 := n1_; have BK131 := n2_; have HK := n3_; have HB := n4_; have BK133 := n5_; have GW133 := n6_; have GE133 := n7_; have NB130_133 := n8_; have NB133_130 := n9_; have NB131_133 := n10_; have NB133_131 := n11_; clear n0_ n1_ n2_ n3_ n4_ n5_ n6_ n7_ n8_ n9_ n10_ n11_; clear hb hbox hg; have hnb27 := NB133_130.out; have hnc27 := NB130_133.out; have hnb28 := NB133_131.out; have hnc28 := NB131_133.out; have hcz29_0 : w26.cell? ⟨gb133, 0, none⟩ = some (.int .i64 0) := (blk_cell BK133.out 0).trans rfl; have hcz29_1 : w26.cell? ⟨gb133, 1, none⟩ = some (.int .i64 0) := (blk_cell BK133.out 1).trans rfl; have hcz29_2 : w26.cell? ⟨gb133, 2, none⟩ = some (.int .i64 0) := (blk_cell BK133.out 2).trans rfl; have hcz29_3 : w26.cell? ⟨gb133, 3, none⟩ = some (.bool false) := (blk_cell BK133.out 3).trans rfl; have hcz29_4 : w26.cell? ⟨gb133, 4, none⟩ = some (.slice none 0 0) := (blk_cell BK133.out 4).trans rfl; have hfz29_0 := blk_frozen BK133.out 0; have hfz29_1 := blk_frozen BK133.out 1; have hfz29_2 := blk_frozen BK133.out 2; have hfz29_3 := blk_frozen BK133.out 3; have hfz29_4 := blk_frozen BK133.out 4))
            repeat (go_quiet (first | ((with_reducible refine gate_dst (N := 6) rfl ?_); refine box_event ?hg (N := 6) ?hd (cs := #[.int .i64 0, .int .i64 0, .int .i64 0, .bool false, .slice none 0 0]) (t := 34) ?hr ?_; (case hd => rfl); (case hg => rfl); (case hr => first | (go_simp; done) | (go_simp; rfl)); intro gb133 hg w26 hbox hb; have n0_ := Aside0.mk (Kd.R_below (by (with_reducible repeat (first | apply Kd.R_alloc | apply Kd.R_drewN | apply Kd.R_drew)); exact HO_131004.out) hb); have n1_ := Aside0.mk (blk_below (g := gb130) (o := .cells #[.int .i64 a0_0, .int .i64 a0_1, .int .i64 a0_2, .bool a0_3, .slice Ao4 l0_4.length co4] 34 (0, 0)) (by (with_reducible repeat (first | refine blk_drewN ?_ _ | refine blk_drew ?_ | refine blk_alloc ?_ _)); exact BK130.out) hb); have n2_ := Aside0.mk (blk_below (g := gb131) (o := .cells #[.int .i64 0, .int .i64 0, .int .i64 0, .bool false, .slice none 0 0] 34 (0, 0)) (by (with_reducible repeat (first | refine blk_drewN ?_ _ | refine blk_drew ?_ | refine blk_alloc ?_ _)); exact BK131.out) hb); have n3_ := Aside0.mk (Kept.below (S := (fun k_ => P0_4_ k_)) (by repeat (first | (with_reducible first | exact HK.out | apply Kept.alloc | apply Kept.drewN | apply Kept.drew | refine Kept.setCell ?_ (.inr GW130.out) _ | refine Kept.setCell ?_ (.inr GW131.out) _) | exact HK.out)) hb); have n4_ := Aside0.mk (below_step (by repeat (first | (with_reducible first | exact HB.out | apply below_alloc | apply pw_below_drewN | apply below_drew1 | refine below_set ?_ GE130.out | refine below_set ?_ GE131.out) | exact HB.out)) hb); have n5_ := Aside0.mk (hbox); have n6_ := Aside0.mk ((by rw [hg]; exact (by first | exact HK.out.1 | exact (show Kept w _ (fun k_ => P0_4_ k_) from by repeat (first | (with_reducible first | exact HK.out | apply Kept.alloc | apply Kept.drewN | apply Kept.drew | refine Kept.setCell ?_ (.inr GW130.out) _ | refine Kept.setCell ?_ (.inr GW131.out) _) | exact HK.out)).1) : w.heap.size ≤ gb133)); have n7_ := Aside0.mk ((by rw [hg]; exact (below_size (by repeat (first | (with_reducible first | exact HB.out | apply below_alloc | apply pw_below_drewN | apply below_drew1 | refine below_set ?_ GE130.out | refine below_set ?_ GE131.out) | exact HB.out))) : w0.heap.size ≤ gb133)); have n8_ := Aside0.mk ((by rw [hg]; exact Nat.ne_of_lt (blk_lt (g := gb130) (o := .cells #[.int .i64 a0_0, .int .i64 a0_1, .int .i64 a0_2, .bool a0_3, .slice Ao4 l0_4.length co4] 34 (0, 0)) (by (with_reducible repeat (first | refine blk_drewN ?_ _ | refine blk_drew ?_ | refine blk_alloc ?_ _)); exact BK130.out)) : gb130 ≠ gb133)); have n9_ := Aside0.mk ((by rw [hg]; exact Nat.ne_of_gt (blk_lt (g := gb130) (o := .cells #[.int .i64 a0_0, .int .i64 a0_1, .int .i64 a0_2, .bool a0_3, .slice Ao4 l0_4.length co4] 34 (0, 0)) (by (with_reducible repeat (first | refine blk_drewN ?_ _ | refine blk_drew ?_ | refine blk_alloc ?_ _)); exact BK130.out)) : gb133 ≠ gb130)); have n10_ := Aside0.mk ((by rw [hg]; exact Nat.ne_of_lt (blk_lt (g := gb131) (o := .cells #[.int .i64 0, .int .i64 0, .int .i64 0, .bool false, .slice none 0 0] 34 (0, 0)) (by (with_reducible repeat (first | refine blk_drewN ?_ _ | refine blk_drew ?_ | refine blk_alloc ?_ _)); exact BK131.out)) : gb131 ≠ gb133)); have n11_ := Aside0.mk ((by rw [hg]; exact Nat.ne_of_gt (blk_lt (g := gb131) (o := .cells #[.int .i64 0, .int .i64 0, .int .i64 0, .bool false, .slice none 0 0] 34 (0, 0)) (by (with_reducible repeat (first | refine blk_drewN ?_ _ | refine blk_drew ?_ | refine blk_alloc ?_ _)); exact BK131.out)) : gb133 ≠ gb131)); clear HO_131004; clear BK130; clear BK131; clear HK; clear HB; have HO_131004 := n0_; have BK130 := n1_; have BK131 := n2_; have HK := n3_; have HB := n4_; have BK133 := n5_; have GW133 := n6_; have GE133 := n7_; have NB130_133 := n8_; have NB133_130 := n9_; have NB131_133 := n10_; have NB133_131 := n11_; clear n0_ n1_ n2_ n3_ n4_ n5_ n6_ n7_ n8_ n9_ n10_ n11_; clear hb hbox hg; have hnb27 := NB133_130.out; have hnc27 := NB130_133.out; have hnb28 := NB133_131.out; have hnc28 := NB131_133.out; have hcz29_0 : w26.cell? ⟨gb133, 0, none⟩ = some (.int .i64 0) := (blk_cell BK133.out 0).trans rfl; have hcz29_1 : w26.cell? ⟨gb133, 1, none⟩ = some (.int .i64 0) := (blk_cell BK133.out 1).trans rfl; have hcz29_2 : w26.cell? ⟨gb133, 2, none⟩ = some (.int .i64 0) := (blk_cell BK133.out 2).trans rfl; have hcz29_3 : w26.cell? ⟨gb133, 3, none⟩ = some (.bool false) := (blk_cell BK133.out 3).trans rfl; have hcz29_4 : w26.cell? ⟨gb133, 4, none⟩ = some (.slice none 0 0) := (blk_cell BK133.out 4).trans rfl; have hfz29_0 := blk_frozen BK133.out 0; have hfz29_1 := blk_frozen BK133.out 1; have hfz29_2 := blk_frozen BK133.out 2; have hfz29_3 := blk_frozen BK133.out 3; have hfz29_4 := blk_frozen BK133.out 4)); try go_wp2_with (first | ((with_reducible refine gate_dst (N := 6) rfl ?_); refine box_event ?hg (N := 6) ?hd (cs := #[.int .i64 0, .int .i64 0, .int .i64 0, .bool false, .slice none 0 0]) (t := 34) ?hr ?_; (case hd => rfl); (case hg => rfl); (case hr => first | (go_simp; done) | (go_simp; rfl)); intro gb133 hg w26 hbox hb; have n0_ := Aside0.mk (Kd.R_below (by (with_reducible repeat (first | apply Kd.R_alloc | apply Kd.R_drewN | apply Kd.R_drew)); exact HO_131004.out) hb); have n1_ := Aside0.mk (blk_below (g := gb130) (o := .cells #[.int .i64 a0_0, .int .i64 a0_1, .int .i64 a0_2, .bool a0_3, .slice Ao4 l0_4.length co4] 34 (0, 0)) (by (with_reducible repeat (first | refine blk_drewN ?_ _ | refine blk_drew ?_ | refine blk_alloc ?_ _)); exact BK130.out) hb); have n2_ := Aside0.mk (blk_below (g := gb131) (o := .cells #[.int .i64 0, .int .i64 0, .int .i64 0, .bool false, .slice none 0 0] 34 (0, 0)) (by (with_reducible repeat (first | refine blk_drewN ?_ _ | refine blk_drew ?_ | refine blk_alloc ?_ _)); exact BK131.out) hb); have n3_ := Aside0.mk (Kept.below (S := (fun k_ => P0_4_ k_)) (by repeat (first | (with_reducible first | exact HK.out | apply Kept.alloc | apply Kept.drewN | apply Kept.drew | refine Kept.setCell ?_ (.inr GW130.out) _ | refine Kept.setCell ?_ (.inr GW131.out) _) | exact HK.out)) hb); have n4_ := Aside0.mk (below_step (by repeat (first | (with_reducible first | exact HB.out | apply below_alloc | apply pw_below_drewN | apply below_drew1 | refine below_set ?_ GE130.out | refine below_set ?_ GE131.out) | exact HB.out)) hb); have n5_ := Aside0.mk (hbox); have n6_ := Aside0.mk ((by rw [hg]; exact (by first | exact HK.out.1 | exact (show Kept w _ (fun k_ => P0_4_ k_) from by repeat (first | (with_reducible first | exact HK.out | apply Kept.alloc | apply Kept.drewN | apply Kept.drew | refine Kept.setCell ?_ (.inr GW130.out) _ | refine Kept.setCell ?_ (.inr GW131.out) _) | exact HK.out)).1) : w.heap.size ≤ gb133)); have n7_ := Aside0.mk ((by rw [hg]; exact (below_size (by repeat (first | (with_reducible first | exact HB.out | apply below_alloc | apply pw_below_drewN | apply below_drew1 | refine below_set ?_ GE130.out | refine below_set ?_ GE131.out) | exact HB.out))) : w0.heap.size ≤ gb133)); have n8_ := Aside0.mk ((by rw [hg]; exact Nat.ne_of_lt (blk_lt (g := gb130) (o := .cells #[.int .i64 a0_0, .int .i64 a0_1, .int .i64 a0_2, .bool a0_3, .slice Ao4 l0_4.length co4] 34 (0, 0)) (by (with_reducible repeat (first | refine blk_drewN ?_ _ | refine blk_drew ?_ | refine blk_alloc ?_ _)); exact BK130.out)) : gb130 ≠ gb133)); have n9_ := Aside0.mk ((by rw [hg]; exact Nat.ne_of_gt (blk_lt (g := gb130) (o := .cells #[.int .i64 a0_0, .int .i64 a0_1, .int .i64 a0_2, .bool a0_3, .slice Ao4 l0_4.length co4] 34 (0, 0)) (by (with_reducible repeat (first | refine blk_drewN ?_ _ | refine blk_drew ?_ | refine blk_alloc ?_ _)); exact BK130.out)) : gb133 ≠ gb130)); have n10_ := Aside0.mk ((by rw [hg]; exact Nat.ne_of_lt (blk_lt (g := gb131) (o := .cells #[.int .i64 0, .int .i64 0, .int .i64 0, .bool false, .slice none 0 0] 34 (0, 0)) (by (with_reducible repeat (first | refine blk_drewN ?_ _ | refine blk_drew ?_ | refine blk_alloc ?_ _)); exact BK131.out)) : gb131 ≠ gb133)); have n11_ := Aside0.mk ((by rw [hg]; exact Nat.ne_of_gt (blk_lt (g := gb131) (o := .cells #[.int .i64 0, .int .i64 0, .int .i64 0, .bool false, .slice none 0 0] 34 (0, 0)) (by (with_reducible repeat (first | refine blk_drewN ?_ _ | refine blk_drew ?_ | refine blk_alloc ?_ _)); exact BK131.out)) : gb133 ≠ gb131)); clear HO_131004; clear BK130; clear BK131; clear HK; clear HB; have HO_131004 := n0_; have BK130 := n1_; have BK131 := n2_; have HK := n3_; have HB := n4_; have BK133 := n5_; have GW133 := n6_; have GE133 := n7_; have NB130_133 := n8_; have NB133_130 := n9_; have NB131_133 := n10_; have NB133_131 := n11_; clear n0_ n1_ n2_ n3_ n4_ n5_ n6_ n7_ n8_ n9_ n10_ n11_; clear hb hbox hg; have hnb27 := NB133_130.out; have hnc27 := NB130_133.out; have hnb28 := NB133_131.out; have hnc28 := NB131_133.out; have hcz29_0 : w26.cell? ⟨gb133, 0, none⟩ = some (.int .i64 0) := (blk_cell BK133.out 0).trans rfl; have hcz29_1 : w26.cell? ⟨gb133, 1, none⟩ = some (.int .i64 0) := (blk_cell BK133.out 1).trans rfl; have hcz29_2 : w26.cell? ⟨gb133, 2, none⟩ = some (.int .i64 0) := (blk_cell BK133.out 2).trans rfl; have hcz29_3 : w26.cell? ⟨gb133, 3, none⟩ = some (.bool false) := (blk_cell BK133.out 3).trans rfl; have hcz29_4 : w26.cell? ⟨gb133, 4, none⟩ = some (.slice none 0 0) := (blk_cell BK133.out 4).trans rfl; have hfz29_0 := blk_frozen BK133.out 0; have hfz29_1 := blk_frozen BK133.out 1; have hfz29_2 := blk_frozen BK133.out 2; have hfz29_3 := blk_frozen BK133.out 3; have hfz29_4 := blk_frozen BK133.out 4)))
            go_loopg [7] kj16 (fun kq v7 w' => ∃ (x7_3 : Int) (x134004_3 : List (S81)) (u134004 : Value), v7 = .int .i64 x7_3 ∧ Aside0 (ontimeref31_State_Access.l0 kq a1 x5_16 x7_3 a0_0 a0_1 a0_2 a0_3 l0_4 a0_0 a0_1 a0_2 false x134004_3 = some (r1, r2, r3, r4, r5)) ∧ Aside0 (kq ≤ kj16) ∧ Aside0 (Kd.R k81 81 w' w0.heap.size (fun k_ => (P0_4_ k_ ∨ w.heap.size ≤ k_) ∧ some k_ ≠ (u134004 : Value).ownBlock) (.slice Ao4 l0_4.length co4) l0_4) ∧ Aside0 (Kd.R k81 81 w' w0.heap.size (fun k_ => (P0_4_ k_ ∨ w.heap.size ≤ k_) ∧ some k_ ≠ ((.slice Ao4 l0_4.length co4) : Value).ownBlock) u134004 x134004_3) ∧ Aside0 (w'.heap[gb130]? = some (.cells #[.int .i64 a0_0, .int .i64 a0_1, .int .i64 a0_2, .bool a0_3, (.slice Ao4 l0_4.length co4)] 34 (0, 0))) ∧ Aside0 (w'.heap[gb131]? = some (.cells #[.int .i64 0, .int .i64 0, .int .i64 0, .bool false, (.slice none 0 0)] 34 (0, 0))) ∧ Aside0 (w'.heap[gb133]? = some (.cells #[.int .i64 a0_0, .int .i64 a0_1, .int .i64 a0_2, .bool false, u134004] 34 (0, 0))) ∧ Aside0 (Kept w w' (fun k_ => P0_4_ k_)) ∧ Aside0 (Below w0.heap.size w0 w'))
            case atStart => exact ⟨(0), (([] : List (S81))), (.slice none 0 0), (by first | rfl | (simp; done) | (simp [*]; done)), H', ⟨Nat.le_refl _⟩, ⟨by (with_reducible repeat (first | apply Kd.R_alloc | apply Kd.R_drewN | apply Kd.R_drew)); exact Kd.R_mono (Kd.R_far (p := ⟨gb133, 4, none⟩) (Kd.R_far (p := ⟨gb133, 3, none⟩) (Kd.R_far (p := ⟨gb133, 2, none⟩) (Kd.R_far (p := ⟨gb133, 1, none⟩) (Kd.R_far (p := ⟨gb133, 0, none⟩) (Kd.R_types HO_131004.out BK133.out (by decide)) (fun _ hk => hk.2) (.int .i64 a0_0)) (fun _ hk => hk.2) (.int .i64 a0_1)) (fun _ hk => hk.2) (.int .i64 a0_2)) (fun _ hk => hk.2) (.bool false)) (fun _ hk => hk.2) (.slice none 0 0)) (fun _ hk => ⟨hk.1, (by simp [Value.ownBlock])⟩)⟩, ⟨by first | exact Kd.R_nil _ _ _ _ _ | exact Kd.N_nil _ _ _ _ _ | exact Kd.V_nil _ _ _ _ _ | exact Kd.Q_nil _ _ _ _ _ | exact Kd.S_nil _ _ _ _ _⟩, ⟨by (with_reducible repeat (first | refine blk_drewN ?_ _ | refine blk_drew ?_ | refine blk_alloc ?_ _)); refine blk_far ?_ NB130_133.out _; (with_reducible repeat (first | refine blk_drewN ?_ _ | refine blk_drew ?_ | refine blk_alloc ?_ _)); refine blk_far ?_ NB130_133.out _; (with_reducible repeat (first | refine blk_drewN ?_ _ | refine blk_drew ?_ | refine blk_alloc ?_ _)); refine blk_far ?_ NB130_133.out _; (with_reducible repeat (first | refine blk_drewN ?_ _ | refine blk_drew ?_ | refine blk_alloc ?_ _)); refine blk_far ?_ NB130_133.out _; (with_reducible repeat (first | refine blk_drewN ?_ _ | refine blk_drew ?_ | refine blk_alloc ?_ _)); refine blk_far ?_ NB130_133.out _; (with_reducible repeat (first | refine blk_drewN ?_ _ | refine blk_drew ?_ | refine blk_alloc ?_ _)); exact BK130.out⟩, ⟨by (with_reducible repeat (first | refine blk_drewN ?_ _ | refine blk_drew ?_ | refine blk_alloc ?_ _)); refine blk_far ?_ NB131_133.out _; (with_reducible repeat (first | refine blk_drewN ?_ _ | refine blk_drew ?_ | refine blk_alloc ?_ _)); refine blk_far ?_ NB131_133.out _; (with_reducible repeat (first | refine blk_drewN ?_ _ | refine blk_drew ?_ | refine blk_alloc ?_ _)); refine blk_far ?_ NB131_133.out _; (with_reducible repeat (first | refine blk_drewN ?_ _ | refine blk_drew ?_ | refine blk_alloc ?_ _)); refine blk_far ?_ NB131_133.out _; (with_reducible repeat (first | refine blk_drewN ?_ _ | refine blk_drew ?_ | refine blk_alloc ?_ _)); refine blk_far ?_ NB131_133.out _; (with_reducible repeat (first | refine blk_drewN ?_ _ | refine blk_drew ?_ | refine blk_alloc ?_ _)); exact BK131.out⟩, ⟨by (with_reducible repeat (first | refine blk_drewN ?_ _ | refine blk_drew ?_ | refine blk_alloc ?_ _)); refine blk_put (cs := #[.int .i64 a0_0, .int .i64 a0_1, .int .i64 a0_2, .bool false, .slice none 0 0]) ?_ 4 _ rfl; (with_reducible repeat (first | refine blk_drewN ?_ _ | refine blk_drew ?_ | refine blk_alloc ?_ _)); refine blk_put (cs := #[.int .i64 a0_0, .int .i64 a0_1, .int .i64 a0_2, .bool false, .slice none 0 0]) ?_ 3 _ rfl; (with_reducible repeat (first | refine blk_drewN ?_ _ | refine blk_drew ?_ | refine blk_alloc ?_ _)); refine blk_put (cs := #[.int .i64 a0_0, .int .i64 a0_1, .int .i64 0, .bool false, .slice none 0 0]) ?_ 2 _ rfl; (with_reducible repeat (first | refine blk_drewN ?_ _ | refine blk_drew ?_ | refine blk_alloc ?_ _)); refine blk_put (cs := #[.int .i64 a0_0, .int .i64 0, .int .i64 0, .bool false, .slice none 0 0]) ?_ 1 _ rfl; (with_reducible repeat (first | refine blk_drewN ?_ _ | refine blk_drew ?_ | refine blk_alloc ?_ _)); refine blk_put (cs := #[.int .i64 0, .int .i64 0, .int .i64 0, .bool false, .slice none 0 0]) ?_ 0 _ rfl; (with_reducible repeat (first | refine blk_drewN ?_ _ | refine blk_drew ?_ | refine blk_alloc ?_ _)); exact BK133.out⟩, ⟨by repeat (first | (with_reducible first | exact HK.out | apply Kept.alloc | apply Kept.drewN | apply Kept.drew | refine Kept.setCell ?_ (.inr GW130.out) _ | refine Kept.setCell ?_ (.inr GW131.out) _ | refine Kept.setCell ?_ (.inr GW133.out) _) | exact HK.out)⟩, ⟨by repeat (first | (with_reducible first | exact HB.out | apply below_alloc | apply pw_below_drewN | apply below_drew1 | refine below_set ?_ GE130.out | refine below_set ?_ GE131.out | refine below_set ?_ GE133.out) | exact HB.out)⟩⟩
            case round =>
              clear H'
              try clear c1
              try clear c2
              try clear p2
              try clear c3
              try clear c7
              try clear c8
              try clear c10
              try clear c12
              try clear c13
              try clear c18
              try clear c21
              try clear c21b0
              try clear c22
              try clear c24
              try clear c27
              try clear c28
              try clear hcz11_0
              try clear hcz11_1
              try clear hcz11_2
              try clear hcz11_3
              try clear hcz11_4
              try clear hcz14_0
              try clear hcz14_1
              try clear hcz14_2
              try clear hcz14_3
              try clear hcz14_4
              try clear hcz15_0
              try clear hcz15_1
              try clear hcz15_2
              try clear hcz15_3
              try clear hcz15_4
              try clear hcz19_0
              try clear hcz19_1
              try clear hcz19_2
              try clear hcz19_3
              try clear hcz19_4
              try clear hcz23_0
              try clear hcz23_1
              try clear hcz23_2
              try clear hcz23_3
              try clear hcz23_4
              try clear hcz25_0
              try clear hcz25_1
              try clear hcz25_2
              try clear hcz25_3
              try clear hcz25_4
              try clear hcz29_0
              try clear hcz29_1
              try clear hcz29_2
              try clear hcz29_3
              try clear hcz29_4
              try clear hcz9_0
              try clear hcz9_1
              try clear hcz9_2
              try clear hcz9_3
              try clear hcz9_4
              try clear hfz11_0
              try clear hfz11_1
              try clear hfz11_2
              try clear hfz11_3
              try clear hfz11_4
              try clear hfz14_0
              try clear hfz14_1
              try clear hfz14_2
              try clear hfz14_3
              try clear hfz14_4
              try clear hfz15_0
              try clear hfz15_1
              try clear hfz15_2
              try clear hfz15_3
              try clear hfz15_4
              try clear hfz19_0
              try clear hfz19_1
              try clear hfz19_2
              try clear hfz19_3
              try clear hfz19_4
              try clear hfz23_0
              try clear hfz23_1
              try clear hfz23_2
              try clear hfz23_3
              try clear hfz23_4
              try clear hfz25_0
              try clear hfz25_1
              try clear hfz25_2
              try clear hfz25_3
              try clear hfz25_4
              try clear hfz29_0
              try clear hfz29_1
              try clear hfz29_2
              try clear hfz29_3
              try clear hfz29_4
              try clear hfz9_0
              try clear hfz9_1
              try clear hfz9_2
              try clear hfz9_3
              try clear hfz9_4
              try clear p2
              obtain ⟨x7_3, x134004_3, u134004, rfl, HA, HK3, HO_131004, HO_134004, BK130, BK131, BK133, HK, HB⟩ := hrel
              cases gk with
              | zero => exact absurd HA.out (by simp [ontimeref31_State_Access.l0])
              | succ k3 =>
                have H := HA.out
                clear HA
                simp only [ontimeref31_State_Access.l0] at H
                by_cases c30 : x7_3 < (l0_4.length : Int)
                · rw [if_pos c30] at H
                  have c30b0 : decide (x7_3 < (l0_4.length : Int)) = true := decide_eq_true c30
                  clear c30
                  by_cases c31 : 0 ≤ x7_3
                  · rw [if_pos c31] at H
                    have c31b0 : decide (0 ≤ x7_3) = true := decide_eq_true c31
                    clear c31
                    have HC32 := Aside0.mk H
                    clear H
                    have hnb33 := NB130_131.out
                    have hnc33 := NB131_130.out
                    have hnb34 := NB130_133.out
                    have hnc34 := NB133_130.out
                    have hcz35_0 : wr.cell? ⟨gb130, 0, none⟩ = some (.int .i64 a0_0) := (blk_cell BK130.out 0).trans rfl
                    have hcz35_1 : wr.cell? ⟨gb130, 1, none⟩ = some (.int .i64 a0_1) := (blk_cell BK130.out 1).trans rfl
                    have hcz35_2 : wr.cell? ⟨gb130, 2, none⟩ = some (.int .i64 a0_2) := (blk_cell BK130.out 2).trans rfl
                    have hcz35_3 : wr.cell? ⟨gb130, 3, none⟩ = some (.bool a0_3) := (blk_cell BK130.out 3).trans rfl
                    have hcz35_4 : wr.cell? ⟨gb130, 4, none⟩ = some (.slice Ao4 l0_4.length co4) := (blk_cell BK130.out 4).trans rfl
                    have hfz35_0 := blk_frozen BK130.out 0
                    have hfz35_1 := blk_frozen BK130.out 1
                    have hfz35_2 := blk_frozen BK130.out 2
                    have hfz35_3 := blk_frozen BK130.out 3
                    have hfz35_4 := blk_frozen BK130.out 4
                    have p141 : 0 ≤ (x7_3 : Int) := of_decide_eq_true (by first | (with_reducible assumption) | assumption)
                    have q141 : x7_3 < (l0_4.length : Int) := of_decide_eq_true (by first | (with_reducible assumption) | assumption)
                    obtain ⟨ad141, e141, hx141_0, hx141_1⟩ := at_T81 (Kd.R_reads' HO_131004.out).2.2 x7_3 p141 q141
                    cases e141
                    replace p141 := eq_true p141
                    replace q141 := eq_true q141
                    go_upto_region 11 with (first | ((with_reducible refine gate_dst (N := 8) rfl ?_); refine box_event ?hg (N := 8) ?hd (cs := #[.int .i64 0, .int .i64 0]) (t := 81) ?hr ?_; (case hd => rfl); (case hg => rfl); (case hr => first | (go_simp; done) | (go_simp; rfl)); intro gb142 hg w36 hbox hb; have n0_ := Aside0.mk (Kd.R_below (Kd.R_elderB (by (with_reducible repeat (first | apply Kd.R_alloc | apply Kd.R_drewN | apply Kd.R_drew)); exact HO_131004.out) gb142 (Nat.le_of_eq hg.symm)) hb); have n1_ := Aside0.mk (Kd.R_below (Kd.R_elderB (by (with_reducible repeat (first | apply Kd.R_alloc | apply Kd.R_drewN | apply Kd.R_drew)); exact HO_134004.out) gb142 (Nat.le_of_eq hg.symm)) hb); have n2_ := Aside0.mk (blk_below (g := gb130) (o := .cells #[.int .i64 a0_0, .int .i64 a0_1, .int .i64 a0_2, .bool a0_3, .slice (some ad141) l0_4.length co4] 34 (0, 0)) (by (with_reducible repeat (first | refine blk_drewN ?_ _ | refine blk_drew ?_ | refine blk_alloc ?_ _)); exact BK130.out) hb); have n3_ := Aside0.mk (blk_below (g := gb131) (o := .cells #[.int .i64 0, .int .i64 0, .int .i64 0, .bool false, .slice none 0 0] 34 (0, 0)) (by (with_reducible repeat (first | refine blk_drewN ?_ _ | refine blk_drew ?_ | refine blk_alloc ?_ _)); exact BK131.out) hb); have n4_ := Aside0.mk (blk_below (g := gb133) (o := .cells #[.int .i64 a0_0, .int .i64 a0_1, .int .i64 a0_2, .bool false, u134004] 34 (0, 0)) (by (with_reducible repeat (first | refine blk_drewN ?_ _ | refine blk_drew ?_ | refine blk_alloc ?_ _)); exact BK133.out) hb); have n5_ := Aside0.mk (Kept.below (S := (fun k_ => P0_4_ k_)) (by repeat (first | (with_reducible first | exact HK.out | apply Kept.alloc | apply Kept.drewN | apply Kept.drew | refine Kept.setCell ?_ (.inr GW130.out) _ | refine Kept.setCell ?_ (.inr GW131.out) _ | refine Kept.setCell ?_ (.inr GW133.out) _) | exact HK.out)) hb); have n6_ := Aside0.mk (below_step (by repeat (first | (with_reducible first | exact HB.out | apply below_alloc | apply pw_below_drewN | apply below_drew1 | refine below_set ?_ GE130.out | refine below_set ?_ GE131.out | refine below_set ?_ GE133.out) | exact HB.out)) hb); have n7_ := Aside0.mk (hbox); have n8_ := Aside0.mk ((by rw [hg]; exact (by first | exact HK.out.1 | exact (show Kept w _ (fun k_ => P0_4_ k_) from by repeat (first | (with_reducible first | exact HK.out | apply Kept.alloc | apply Kept.drewN | apply Kept.drew | refine Kept.setCell ?_ (.inr GW130.out) _ | refine Kept.setCell ?_ (.inr GW131.out) _ | refine Kept.setCell ?_ (.inr GW133.out) _) | exact HK.out)).1) : w.heap.size ≤ gb142)); have n9_ := Aside0.mk ((by rw [hg]; exact (below_size (by repeat (first | (with_reducible first | exact HB.out | apply below_alloc | apply pw_below_drewN | apply below_drew1 | refine below_set ?_ GE130.out | refine below_set ?_ GE131.out | refine below_set ?_ GE133.out) | exact HB.out))) : w0.heap.size ≤ gb142)); have n10_ := Aside0.mk ((by rw [hg]; exact Nat.ne_of_lt (blk_lt (g := gb130) (o := .cells #[.int .i64 a0_0, .int .i64 a0_1, .int .i64 a0_2, .bool a0_3, .slice (some ad141) l0_4.length co4] 34 (0, 0)) (by (with_reducible repeat (first | refine blk_drewN ?_ _ | refine blk_drew ?_ | refine blk_alloc ?_ _)); exact BK130.out)) : gb130 ≠ gb142)); have n11_ := Aside0.mk ((by rw [hg]; exact Nat.ne_of_gt (blk_lt (g := gb130) (o := .cells #[.int .i64 a0_0, .int .i64 a0_1, .int .i64 a0_2, .bool a0_3, .slice (some ad141) l0_4.length co4] 34 (0, 0)) (by (with_reducible repeat (first | refine blk_drewN ?_ _ | refine blk_drew ?_ | refine blk_alloc ?_ _)); exact BK130.out)) : gb142 ≠ gb130)); have n12_ := Aside0.mk ((by rw [hg]; exact Nat.ne_of_lt (blk_lt (g := gb131) (o := .cells #[.int .i64 0, .int .i64 0, .int .i64 0, .bool false, .slice none 0 0] 34 (0, 0)) (by (with_reducible repeat (first | refine blk_drewN ?_ _ | refine blk_drew ?_ | refine blk_alloc ?_ _)); exact BK131.out)) : gb131 ≠ gb142)); have n13_ := Aside0.mk ((by rw [hg]; exact Nat.ne_of_gt (blk_lt (g := gb131) (o := .cells #[.int .i64 0, .int .i64 0, .int .i64 0, .bool false, .slice none 0 0] 34 (0, 0)) (by (with_reducible repeat (first | refine blk_drewN ?_ _ | refine blk_drew ?_ | refine blk_alloc ?_ _)); exact BK131.out)) : gb142 ≠ gb131)); have n14_ := Aside0.mk ((by rw [hg]; exact Nat.ne_of_lt (blk_lt (g := gb133) (o := .cells #[.int .i64 a0_0, .int .i64 a0_1, .int .i64 a0_2, .bool false, u134004] 34 (0, 0)) (by (with_reducible repeat (first | refine blk_drewN ?_ _ | refine blk_drew ?_ | refine blk_alloc ?_ _)); exact BK133.out)) : gb133 ≠ gb142)); have n15_ := Aside0.mk ((by rw [hg]; exact Nat.ne_of_gt (blk_lt (g := gb133) (o := .cells #[.int .i64 a0_0, .int .i64 a0_1, .int .i64 a0_2, .bool false, u134004] 34 (0, 0)) (by (with_reducible repeat (first | refine blk_drewN ?_ _ | refine blk_drew ?_ | refine blk_alloc ?_ _)); exact BK133.out)) : gb142 ≠ gb133)); clear HO_131004; clear HO_134004; clear BK130; clear BK131; clear BK133; clear HK; clear HB; have HO_131004 := n0_; have HO_134004 := n1_; have BK130 := n2_; have BK131 := n3_; have BK133 := n4_; have HK := n5_; have HB := n6_; have BK142 := n7_; have GW142 := n8_; have GE142 := n9_; have NB130_142 := n10_; have NB142_130 := n11_; have NB131_142 := n12_; have NB142_131 := n13_; have NB133_142 := n14_; have NB142_133 := n15_; clear n0_ n1_ n2_ n3_ n4_ n5_ n6_ n7_ n8_ n9_ n10_ n11_ n12_ n13_ n14_ n15_; clear hb hbox hg; have hnb37 := NB142_130.out; have hnc37 := NB130_142.out; have hnb38 := NB142_131.out; have hnc38 := NB131_142.out; have hnb39 := NB142_133.out; have hnc39 := NB133_142.out; have hcz40_0 : w36.cell? ⟨gb142, 0, none⟩ = some (.int .i64 0) := (blk_cell BK142.out 0).trans rfl; have hcz40_1 : w36.cell? ⟨gb142, 1, none⟩ = some (.int .i64 0) := (blk_cell BK142.out 1).trans rfl; have hfz40_0 := blk_frozen BK142.out 0; have hfz40_1 := blk_frozen BK142.out 1))
                    repeat (go_quiet (first | ((with_reducible refine gate_dst (N := 8) rfl ?_); refine box_event ?hg (N := 8) ?hd (cs := #[.int .i64 0, .int .i64 0]) (t := 81) ?hr ?_; (case hd => rfl); (case hg => rfl); (case hr => first | (go_simp; done) | (go_simp; rfl)); intro gb142 hg w36 hbox hb; have n0_ := Aside0.mk (Kd.R_below (Kd.R_elderB (by (with_reducible repeat (first | apply Kd.R_alloc | apply Kd.R_drewN | apply Kd.R_drew)); exact HO_131004.out) gb142 (Nat.le_of_eq hg.symm)) hb); have n1_ := Aside0.mk (Kd.R_below (Kd.R_elderB (by (with_reducible repeat (first | apply Kd.R_alloc | apply Kd.R_drewN | apply Kd.R_drew)); exact HO_134004.out) gb142 (Nat.le_of_eq hg.symm)) hb); have n2_ := Aside0.mk (blk_below (g := gb130) (o := .cells #[.int .i64 a0_0, .int .i64 a0_1, .int .i64 a0_2, .bool a0_3, .slice (some ad141) l0_4.length co4] 34 (0, 0)) (by (with_reducible repeat (first | refine blk_drewN ?_ _ | refine blk_drew ?_ | refine blk_alloc ?_ _)); exact BK130.out) hb); have n3_ := Aside0.mk (blk_below (g := gb131) (o := .cells #[.int .i64 0, .int .i64 0, .int .i64 0, .bool false, .slice none 0 0] 34 (0, 0)) (by (with_reducible repeat (first | refine blk_drewN ?_ _ | refine blk_drew ?_ | refine blk_alloc ?_ _)); exact BK131.out) hb); have n4_ := Aside0.mk (blk_below (g := gb133) (o := .cells #[.int .i64 a0_0, .int .i64 a0_1, .int .i64 a0_2, .bool false, u134004] 34 (0, 0)) (by (with_reducible repeat (first | refine blk_drewN ?_ _ | refine blk_drew ?_ | refine blk_alloc ?_ _)); exact BK133.out) hb); have n5_ := Aside0.mk (Kept.below (S := (fun k_ => P0_4_ k_)) (by repeat (first | (with_reducible first | exact HK.out | apply Kept.alloc | apply Kept.drewN | apply Kept.drew | refine Kept.setCell ?_ (.inr GW130.out) _ | refine Kept.setCell ?_ (.inr GW131.out) _ | refine Kept.setCell ?_ (.inr GW133.out) _) | exact HK.out)) hb); have n6_ := Aside0.mk (below_step (by repeat (first | (with_reducible first | exact HB.out | apply below_alloc | apply pw_below_drewN | apply below_drew1 | refine below_set ?_ GE130.out | refine below_set ?_ GE131.out | refine below_set ?_ GE133.out) | exact HB.out)) hb); have n7_ := Aside0.mk (hbox); have n8_ := Aside0.mk ((by rw [hg]; exact (by first | exact HK.out.1 | exact (show Kept w _ (fun k_ => P0_4_ k_) from by repeat (first | (with_reducible first | exact HK.out | apply Kept.alloc | apply Kept.drewN | apply Kept.drew | refine Kept.setCell ?_ (.inr GW130.out) _ | refine Kept.setCell ?_ (.inr GW131.out) _ | refine Kept.setCell ?_ (.inr GW133.out) _) | exact HK.out)).1) : w.heap.size ≤ gb142)); have n9_ := Aside0.mk ((by rw [hg]; exact (below_size (by repeat (first | (with_reducible first | exact HB.out | apply below_alloc | apply pw_below_drewN | apply below_drew1 | refine below_set ?_ GE130.out | refine below_set ?_ GE131.out | refine below_set ?_ GE133.out) | exact HB.out))) : w0.heap.size ≤ gb142)); have n10_ := Aside0.mk ((by rw [hg]; exact Nat.ne_of_lt (blk_lt (g := gb130) (o := .cells #[.int .i64 a0_0, .int .i64 a0_1, .int .i64 a0_2, .bool a0_3, .slice (some ad141) l0_4.length co4] 34 (0, 0)) (by (with_reducible repeat (first | refine blk_drewN ?_ _ | refine blk_drew ?_ | refine blk_alloc ?_ _)); exact BK130.out)) : gb130 ≠ gb142)); have n11_ := Aside0.mk ((by rw [hg]; exact Nat.ne_of_gt (blk_lt (g := gb130) (o := .cells #[.int .i64 a0_0, .int .i64 a0_1, .int .i64 a0_2, .bool a0_3, .slice (some ad141) l0_4.length co4] 34 (0, 0)) (by (with_reducible repeat (first | refine blk_drewN ?_ _ | refine blk_drew ?_ | refine blk_alloc ?_ _)); exact BK130.out)) : gb142 ≠ gb130)); have n12_ := Aside0.mk ((by rw [hg]; exact Nat.ne_of_lt (blk_lt (g := gb131) (o := .cells #[.int .i64 0, .int .i64 0, .int .i64 0, .bool false, .slice none 0 0] 34 (0, 0)) (by (with_reducible repeat (first | refine blk_drewN ?_ _ | refine blk_drew ?_ | refine blk_alloc ?_ _)); exact BK131.out)) : gb131 ≠ gb142)); have n13_ := Aside0.mk ((by rw [hg]; exact Nat.ne_of_gt (blk_lt (g := gb131) (o := .cells #[.int .i64 0, .int .i64 0, .int .i64 0, .bool false, .slice none 0 0] 34 (0, 0)) (by (with_reducible repeat (first | refine blk_drewN ?_ _ | refine blk_drew ?_ | refine blk_alloc ?_ _)); exact BK131.out)) : gb142 ≠ gb131)); have n14_ := Aside0.mk ((by rw [hg]; exact Nat.ne_of_lt (blk_lt (g := gb133) (o := .cells #[.int .i64 a0_0, .int .i64 a0_1, .int .i64 a0_2, .bool false, u134004] 34 (0, 0)) (by (with_reducible repeat (first | refine blk_drewN ?_ _ | refine blk_drew ?_ | refine blk_alloc ?_ _)); exact BK133.out)) : gb133 ≠ gb142)); have n15_ := Aside0.mk ((by rw [hg]; exact Nat.ne_of_gt (blk_lt (g := gb133) (o := .cells #[.int .i64 a0_0, .int .i64 a0_1, .int .i64 a0_2, .bool false, u134004] 34 (0, 0)) (by (with_reducible repeat (first | refine blk_drewN ?_ _ | refine blk_drew ?_ | refine blk_alloc ?_ _)); exact BK133.out)) : gb142 ≠ gb133)); clear HO_131004; clear HO_134004; clear BK130; clear BK131; clear BK133; clear HK; clear HB; have HO_131004 := n0_; have HO_134004 := n1_; have BK130 := n2_; have BK131 := n3_; have BK133 := n4_; have HK := n5_; have HB := n6_; have BK142 := n7_; have GW142 := n8_; have GE142 := n9_; have NB130_142 := n10_; have NB142_130 := n11_; have NB131_142 := n12_; have NB142_131 := n13_; have NB133_142 := n14_; have NB142_133 := n15_; clear n0_ n1_ n2_ n3_ n4_ n5_ n6_ n7_ n8_ n9_ n10_ n11_ n12_ n13_ n14_ n15_; clear hb hbox hg; have hnb37 := NB142_130.out; have hnc37 := NB130_142.out; have hnb38 := NB142_131.out; have hnc38 := NB131_142.out; have hnb39 := NB142_133.out; have hnc39 := NB133_142.out; have hcz40_0 : w36.cell? ⟨gb142, 0, none⟩ = some (.int .i64 0) := (blk_cell BK142.out 0).trans rfl; have hcz40_1 : w36.cell? ⟨gb142, 1, none⟩ = some (.int .i64 0) := (blk_cell BK142.out 1).trans rfl; have hfz40_0 := blk_frozen BK142.out 0; have hfz40_1 := blk_frozen BK142.out 1)); go_upto_region 11 with (first | ((with_reducible refine gate_dst (N := 8) rfl ?_); refine box_event ?hg (N := 8) ?hd (cs := #[.int .i64 0, .int .i64 0]) (t := 81) ?hr ?_; (case hd => rfl); (case hg => rfl); (case hr => first | (go_simp; done) | (go_simp; rfl)); intro gb142 hg w36 hbox hb; have n0_ := Aside0.mk (Kd.R_below (Kd.R_elderB (by (with_reducible repeat (first | apply Kd.R_alloc | apply Kd.R_drewN | apply Kd.R_drew)); exact HO_131004.out) gb142 (Nat.le_of_eq hg.symm)) hb); have n1_ := Aside0.mk (Kd.R_below (Kd.R_elderB (by (with_reducible repeat (first | apply Kd.R_alloc | apply Kd.R_drewN | apply Kd.R_drew)); exact HO_134004.out) gb142 (Nat.le_of_eq hg.symm)) hb); have n2_ := Aside0.mk (blk_below (g := gb130) (o := .cells #[.int .i64 a0_0, .int .i64 a0_1, .int .i64 a0_2, .bool a0_3, .slice (some ad141) l0_4.length co4] 34 (0, 0)) (by (with_reducible repeat (first | refine blk_drewN ?_ _ | refine blk_drew ?_ | refine blk_alloc ?_ _)); exact BK130.out) hb); have n3_ := Aside0.mk (blk_below (g := gb131) (o := .cells #[.int .i64 0, .int .i64 0, .int .i64 0, .bool false, .slice none 0 0] 34 (0, 0)) (by (with_reducible repeat (first | refine blk_drewN ?_ _ | refine blk_drew ?_ | refine blk_alloc ?_ _)); exact BK131.out) hb); have n4_ := Aside0.mk (blk_below (g := gb133) (o := .cells #[.int .i64 a0_0, .int .i64 a0_1, .int .i64 a0_2, .bool false, u134004] 34 (0, 0)) (by (with_reducible repeat (first | refine blk_drewN ?_ _ | refine blk_drew ?_ | refine blk_alloc ?_ _)); exact BK133.out) hb); have n5_ := Aside0.mk (Kept.below (S := (fun k_ => P0_4_ k_)) (by repeat (first | (with_reducible first | exact HK.out | apply Kept.alloc | apply Kept.drewN | apply Kept.drew | refine Kept.setCell ?_ (.inr GW130.out) _ | refine Kept.setCell ?_ (.inr GW131.out) _ | refine Kept.setCell ?_ (.inr GW133.out) _) | exact HK.out)) hb); have n6_ := Aside0.mk (below_step (by repeat (first | (with_reducible first | exact HB.out | apply below_alloc | apply pw_below_drewN | apply below_drew1 | refine below_set ?_ GE130.out | refine below_set ?_ GE131.out | refine below_set ?_ GE133.out) | exact HB.out)) hb); have n7_ := Aside0.mk (hbox); have n8_ := Aside0.mk ((by rw [hg]; exact (by first | exact HK.out.1 | exact (show Kept w _ (fun k_ => P0_4_ k_) from by repeat (first | (with_reducible first | exact HK.out | apply Kept.alloc | apply Kept.drewN | apply Kept.drew | refine Kept.setCell ?_ (.inr GW130.out) _ | refine Kept.setCell ?_ (.inr GW131.out) _ | refine Kept.setCell ?_ (.inr GW133.out) _) | exact HK.out)).1) : w.heap.size ≤ gb142)); have n9_ := Aside0.mk ((by rw [hg]; exact (below_size (by repeat (first | (with_reducible first | exact HB.out | apply below_alloc | apply pw_below_drewN | apply below_drew1 | refine below_set ?_ GE130.out | refine below_set ?_ GE131.out | refine below_set ?_ GE133.out) | exact HB.out))) : w0.heap.size ≤ gb142)); have n10_ := Aside0.mk ((by rw [hg]; exact Nat.ne_of_lt (blk_lt (g := gb130) (o := .cells #[.int .i64 a0_0, .int .i64 a0_1, .int .i64 a0_2, .bool a0_3, .slice (some ad141) l0_4.length co4] 34 (0, 0)) (by (with_reducible repeat (first | refine blk_drewN ?_ _ | refine blk_drew ?_ | refine blk_alloc ?_ _)); exact BK130.out)) : gb130 ≠ gb142)); have n11_ := Aside0.mk ((by rw [hg]; exact Nat.ne_of_gt (blk_lt (g := gb130) (o := .cells #[.int .i64 a0_0, .int .i64 a0_1, .int .i64 a0_2, .bool a0_3, .slice (some ad141) l0_4.length co4] 34 (0, 0)) (by (with_reducible repeat (first | refine blk_drewN ?_ _ | refine blk_drew ?_ | refine blk_alloc ?_ _)); exact BK130.out)) : gb142 ≠ gb130)); have n12_ := Aside0.mk ((by rw [hg]; exact Nat.ne_of_lt (blk_lt (g := gb131) (o := .cells #[.int .i64 0, .int .i64 0, .int .i64 0, .bool false, .slice none 0 0] 34 (0, 0)) (by (with_reducible repeat (first | refine blk_drewN ?_ _ | refine blk_drew ?_ | refine blk_alloc ?_ _)); exact BK131.out)) : gb131 ≠ gb142)); have n13_ := Aside0.mk ((by rw [hg]; exact Nat.ne_of_gt (blk_lt (g := gb131) (o := .cells #[.int .i64 0, .int .i64 0, .int .i64 0, .bool false, .slice none 0 0] 34 (0, 0)) (by (with_reducible repeat (first | refine blk_drewN ?_ _ | refine blk_drew ?_ | refine blk_alloc ?_ _)); exact BK131.out)) : gb142 ≠ gb131)); have n14_ := Aside0.mk ((by rw [hg]; exact Nat.ne_of_lt (blk_lt (g := gb133) (o := .cells #[.int .i64 a0_0, .int .i64 a0_1, .int .i64 a0_2, .bool false, u134004] 34 (0, 0)) (by (with_reducible repeat (first | refine blk_drewN ?_ _ | refine blk_drew ?_ | refine blk_alloc ?_ _)); exact BK133.out)) : gb133 ≠ gb142)); have n15_ := Aside0.mk ((by rw [hg]; exact Nat.ne_of_gt (blk_lt (g := gb133) (o := .cells #[.int .i64 a0_0, .int .i64 a0_1, .int .i64 a0_2, .bool false, u134004] 34 (0, 0)) (by (with_reducible repeat (first | refine blk_drewN ?_ _ | refine blk_drew ?_ | refine blk_alloc ?_ _)); exact BK133.out)) : gb142 ≠ gb133)); clear HO_131004; clear HO_134004; clear BK130; clear BK131; clear BK133; clear HK; clear HB; have HO_131004 := n0_; have HO_134004 := n1_; have BK130 := n2_; have BK131 := n3_; have BK133 := n4_; have HK := n5_; have HB := n6_; have BK142 := n7_; have GW142 := n8_; have GE142 := n9_; have NB130_142 := n10_; have NB142_130 := n11_; have NB131_142 := n12_; have NB142_131 := n13_; have NB133_142 := n14_; have NB142_133 := n15_; clear n0_ n1_ n2_ n3_ n4_ n5_ n6_ n7_ n8_ n9_ n10_ n11_ n12_ n13_ n14_ n15_; clear hb hbox hg; have hnb37 := NB142_130.out; have hnc37 := NB130_142.out; have hnb38 := NB142_131.out; have hnc38 := NB131_142.out; have hnb39 := NB142_133.out; have hnc39 := NB133_142.out; have hcz40_0 : w36.cell? ⟨gb142, 0, none⟩ = some (.int .i64 0) := (blk_cell BK142.out 0).trans rfl; have hcz40_1 : w36.cell? ⟨gb142, 1, none⟩ = some (.int .i64 0) := (blk_cell BK142.out 1).trans rfl; have hfz40_0 := blk_frozen BK142.out 0; have hfz40_1 := blk_frozen BK142.out 1)))
                    (try simp only [Act.put, List.setIfInBounds_toArray, List.set_cons_zero, List.set_cons_succ])
                    go_cut [62] (fun v62 wc => ∃ (kq : Nat) (x62_31 : Bool), v62 = .bool x62_31 ∧ Aside0 (ontimeref31_State_Access.j3 kq a1 x5_16 x7_3 x62_31 a0_0 a0_1 a0_2 a0_3 l0_4 a0_0 a0_1 a0_2 false x134004_3 ((rd_T81 l0_4 x7_3).f0) ((rd_T81 l0_4 x7_3).f1) = some (r1, r2, r3, r4, r5)) ∧ Aside0 (kq ≤ k3) ∧ Aside0 (Kd.R k81 81 wc w0.heap.size (fun k_ => (P0_4_ k_ ∨ w.heap.size ≤ k_) ∧ some k_ ≠ (u134004 : Value).ownBlock ∧ k_ ≠ gb142) (.slice (some ad141) l0_4.length co4) l0_4) ∧ Aside0 (Kd.R k81 81 wc w0.heap.size (fun k_ => (P0_4_ k_ ∨ w.heap.size ≤ k_) ∧ some k_ ≠ ((.slice (some ad141) l0_4.length co4) : Value).ownBlock ∧ k_ ≠ gb142) u134004 x134004_3) ∧ Aside0 (wc.heap[gb130]? = some (.cells #[.int .i64 a0_0, .int .i64 a0_1, .int .i64 a0_2, .bool a0_3, (.slice (some ad141) l0_4.length co4)] 34 (0, 0))) ∧ Aside0 (wc.heap[gb131]? = some (.cells #[.int .i64 0, .int .i64 0, .int .i64 0, .bool false, (.slice none 0 0)] 34 (0, 0))) ∧ Aside0 (wc.heap[gb133]? = some (.cells #[.int .i64 a0_0, .int .i64 a0_1, .int .i64 a0_2, .bool false, u134004] 34 (0, 0))) ∧ Aside0 (wc.heap[gb142]? = some (.cells #[.int .i64 ((rd_T81 l0_4 x7_3).f0), .int .i64 ((rd_T81 l0_4 x7_3).f1)] 81 (0, 0))) ∧ Aside0 (Kept w wc (fun k_ => P0_4_ k_)) ∧ Aside0 (Below w0.heap.size w0 wc))
                    case first =>
                      have H := HC32.out
                      clear HC32
                      by_cases c41 : ((rd_T81 l0_4 x7_3).f0) = a1
                      · rw [if_pos c41] at H
                        have c41b0 : (((rd_T81 l0_4 x7_3).f0) == a1) = true := beq_iff_eq.mpr c41
                        have c41b1 : (((rd_T81 l0_4 x7_3).f0) != a1) = false := bne_eq_false_iff_eq.mpr c41
                        clear c41
                        (first | rw [c41b0] | (simp only [i64_w, i32_w]; rw [c41b0]) | skip)
                        have H' := Aside0.mk H
                        clear H
                        have hnb42 := NB142_130.out
                        have hnc42 := NB130_142.out
                        have hnb43 := NB142_131.out
                        have hnc43 := NB131_142.out
                        have hnb44 := NB142_133.out
                        have hnc44 := NB133_142.out
                        have hcz45_0 : w36.cell? ⟨gb142, 0, none⟩ = some (.int .i64 0) := (blk_cell BK142.out 0).trans rfl
                        have hcz45_1 : w36.cell? ⟨gb142, 1, none⟩ = some (.int .i64 0) := (blk_cell BK142.out 1).trans rfl
                        have hfz45_0 := blk_frozen BK142.out 0
                        have hfz45_1 := blk_frozen BK142.out 1
                        go_wp2
                        repeat (go_quiet (fail); try go_wp2)
                        go_meet
                        case rel => exact ⟨_, (false), (by first | rfl | (simp; done) | (simp [*]; done)), H', ⟨by have := HJ2.out; have := HJ16.out; have := HK3.out; first | omega | exact Nat.le_refl _⟩, ⟨by (with_reducible repeat (first | apply Kd.R_alloc | apply Kd.R_drewN | apply Kd.R_drew)); exact Kd.R_mono (Kd.R_far (p := ⟨gb142, 1, none⟩) (Kd.R_far (p := ⟨gb142, 0, none⟩) (Kd.R_mono HO_131004.out (fun k_ hk => (⟨hk, hk.2⟩ : _ ∧ k_ ≠ gb142))) (fun _ hk => hk.2) (.int .i64 ((rd_T81 l0_4 x7_3).f0))) (fun _ hk => hk.2) (.int .i64 ((rd_T81 l0_4 x7_3).f1))) (fun _ hk => ⟨hk.1.1.1, ⟨hk.1.1.2, hk.1.2⟩⟩)⟩, ⟨by (with_reducible repeat (first | apply Kd.R_alloc | apply Kd.R_drewN | apply Kd.R_drew)); exact Kd.R_mono (Kd.R_far (p := ⟨gb142, 1, none⟩) (Kd.R_far (p := ⟨gb142, 0, none⟩) (Kd.R_mono HO_134004.out (fun k_ hk => (⟨hk, hk.2⟩ : _ ∧ k_ ≠ gb142))) (fun _ hk => hk.2) (.int .i64 ((rd_T81 l0_4 x7_3).f0))) (fun _ hk => hk.2) (.int .i64 ((rd_T81 l0_4 x7_3).f1))) (fun _ hk => ⟨hk.1.1.1, ⟨hk.1.1.2, hk.1.2⟩⟩)⟩, ⟨by (with_reducible repeat (first | refine blk_drewN ?_ _ | refine blk_drew ?_ | refine blk_alloc ?_ _)); refine blk_far ?_ NB130_142.out _; (with_reducible repeat (first | refine blk_drewN ?_ _ | refine blk_drew ?_ | refine blk_alloc ?_ _)); refine blk_far ?_ NB130_142.out _; (with_reducible repeat (first | refine blk_drewN ?_ _ | refine blk_drew ?_ | refine blk_alloc ?_ _)); exact BK130.out⟩, ⟨by (with_reducible repeat (first | refine blk_drewN ?_ _ | refine blk_drew ?_ | refine blk_alloc ?_ _)); refine blk_far ?_ NB131_142.out _; (with_reducible repeat (first | refine blk_drewN ?_ _ | refine blk_drew ?_ | refine blk_alloc ?_ _)); refine blk_far ?_ NB131_142.out _; (with_reducible repeat (first | refine blk_drewN ?_ _ | refine blk_drew ?_ | refine blk_alloc ?_ _)); exact BK131.out⟩, ⟨by (with_reducible repeat (first | refine blk_drewN ?_ _ | refine blk_drew ?_ | refine blk_alloc ?_ _)); refine blk_far ?_ NB133_142.out _; (with_reducible repeat (first | refine blk_drewN ?_ _ | refine blk_drew ?_ | refine blk_alloc ?_ _)); refine blk_far ?_ NB133_142.out _; (with_reducible repeat (first | refine blk_drewN ?_ _ | refine blk_drew ?_ | refine blk_alloc ?_ _)); exact BK133.out⟩, ⟨by (with_reducible repeat (first | refine blk_drewN ?_ _ | refine blk_drew ?_ | refine blk_alloc ?_ _)); refine blk_put (cs := #[.int .i64 ((rd_T81 l0_4 x7_3).f0), .int .i64 0]) ?_ 1 _ rfl; (with_reducible repeat (first | refine blk_drewN ?_ _ | refine blk_drew ?_ | refine blk_alloc ?_ _)); refine blk_put (cs := #[.int .i64 0, .int .i64 0]) ?_ 0 _ rfl; (with_reducible repeat (first | refine blk_drewN ?_ _ | refine blk_drew ?_ | refine blk_alloc ?_ _)); exact BK142.out⟩, ⟨by repeat (first | (with_reducible first | exact HK.out | apply Kept.alloc | apply Kept.drewN | apply Kept.drew | refine Kept.setCell ?_ (.inr GW130.out) _ | refine Kept.setCell ?_ (.inr GW131.out) _ | refine Kept.setCell ?_ (.inr GW133.out) _ | refine Kept.setCell ?_ (.inr GW142.out) _) | exact HK.out)⟩, ⟨by repeat (first | (with_reducible first | exact HB.out | apply below_alloc | apply pw_below_drewN | apply below_drew1 | refine below_set ?_ GE130.out | refine below_set ?_ GE131.out | refine below_set ?_ GE133.out | refine below_set ?_ GE142.out) | exact HB.out)⟩⟩
                      · rw [if_neg c41] at H
                        have c41b0 : (((rd_T81 l0_4 x7_3).f0) == a1) = false := beq_eq_false_iff_ne.mpr c41
                        have c41b1 : (((rd_T81 l0_4 x7_3).f0) != a1) = true := bne_iff_ne.mpr c41
                        (first | rw [c41b0] | (simp only [i64_w, i32_w]; rw [c41b0]) | skip)
                        by_cases c46 : a0_0 = 0
                        · rw [if_pos c46] at H
                          exact absurd H (by simp)
                        · rw [if_neg c46] at H
                          have c46b0 : (a0_0 == 0) = false := beq_eq_false_iff_ne.mpr c46
                          have c46b1 : (a0_0 != 0) = true := bne_iff_ne.mpr c46
                          by_cases c47 : (Int.tmod ((rd_T81 l0_4 x7_3).f0) a0_0) = (Int.tmod a1 a0_0)
                          · rw [if_pos c47] at H
                            have c47b0 : ((Int.tmod ((rd_T81 l0_4 x7_3).f0) a0_0) == (Int.tmod a1 a0_0)) = true := beq_iff_eq.mpr c47
                            have c47b1 : ((Int.tmod ((rd_T81 l0_4 x7_3).f0) a0_0) != (Int.tmod a1 a0_0)) = false := bne_eq_false_iff_eq.mpr c47
                            clear c47
                            have H' := Aside0.mk H
                            clear H
                            have hnb48 := NB142_130.out
                            have hnc48 := NB130_142.out
                            have hnb49 := NB142_131.out
                            have hnc49 := NB131_142.out
                            have hnb50 := NB142_133.out
                            have hnc50 := NB133_142.out
                            have hcz51_0 : w36.cell? ⟨gb142, 0, none⟩ = some (.int .i64 0) := (blk_cell BK142.out 0).trans rfl
                            have hcz51_1 : w36.cell? ⟨gb142, 1, none⟩ = some (.int .i64 0) := (blk_cell BK142.out 1).trans rfl
                            have hfz51_0 := blk_frozen BK142.out 0
                            have hfz51_1 := blk_frozen BK142.out 1
                            have hnb52 := NB130_131.out
                            have hnc52 := NB131_130.out
                            have hnb53 := NB130_133.out
                            have hnc53 := NB133_130.out
                            have hcz54_0 : w36.cell? ⟨gb130, 0, none⟩ = some (.int .i64 a0_0) := (blk_cell BK130.out 0).trans rfl
                            have hcz54_1 : w36.cell? ⟨gb130, 1, none⟩ = some (.int .i64 a0_1) := (blk_cell BK130.out 1).trans rfl
                            have hcz54_2 : w36.cell? ⟨gb130, 2, none⟩ = some (.int .i64 a0_2) := (blk_cell BK130.out 2).trans rfl
                            have hcz54_3 : w36.cell? ⟨gb130, 3, none⟩ = some (.bool a0_3) := (blk_cell BK130.out 3).trans rfl
                            have hcz54_4 : w36.cell? ⟨gb130, 4, none⟩ = some (.slice (some ad141) l0_4.length co4) := (blk_cell BK130.out 4).trans rfl
                            have hfz54_0 := blk_frozen BK130.out 0
                            have hfz54_1 := blk_frozen BK130.out 1
                            have hfz54_2 := blk_frozen BK130.out 2
                            have hfz54_3 := blk_frozen BK130.out 3
                            have hfz54_4 := blk_frozen BK130.out 4
                            go_wp2
                            repeat (go_quiet (fail); try go_wp2)
                            go_meet
                            case rel => exact ⟨_, (decide (((rd_T81 l0_4 x7_3).f1) ≤ x5_16)), (by first | rfl | (simp; done) | (simp [*]; done)), H', ⟨by have := HJ2.out; have := HJ16.out; have := HK3.out; first | omega | exact Nat.le_refl _⟩, ⟨by (with_reducible repeat (first | apply Kd.R_alloc | apply Kd.R_drewN | apply Kd.R_drew)); exact Kd.R_mono (Kd.R_far (p := ⟨gb142, 1, none⟩) (Kd.R_far (p := ⟨gb142, 0, none⟩) (Kd.R_mono HO_131004.out (fun k_ hk => (⟨hk, hk.2⟩ : _ ∧ k_ ≠ gb142))) (fun _ hk => hk.2) (.int .i64 ((rd_T81 l0_4 x7_3).f0))) (fun _ hk => hk.2) (.int .i64 ((rd_T81 l0_4 x7_3).f1))) (fun _ hk => ⟨hk.1.1.1, ⟨hk.1.1.2, hk.1.2⟩⟩)⟩, ⟨by (with_reducible repeat (first | apply Kd.R_alloc | apply Kd.R_drewN | apply Kd.R_drew)); exact Kd.R_mono (Kd.R_far (p := ⟨gb142, 1, none⟩) (Kd.R_far (p := ⟨gb142, 0, none⟩) (Kd.R_mono HO_134004.out (fun k_ hk => (⟨hk, hk.2⟩ : _ ∧ k_ ≠ gb142))) (fun _ hk => hk.2) (.int .i64 ((rd_T81 l0_4 x7_3).f0))) (fun _ hk => hk.2) (.int .i64 ((rd_T81 l0_4 x7_3).f1))) (fun _ hk => ⟨hk.1.1.1, ⟨hk.1.1.2, hk.1.2⟩⟩)⟩, ⟨by (with_reducible repeat (first | refine blk_drewN ?_ _ | refine blk_drew ?_ | refine blk_alloc ?_ _)); refine blk_far ?_ NB130_142.out _; (with_reducible repeat (first | refine blk_drewN ?_ _ | refine blk_drew ?_ | refine blk_alloc ?_ _)); refine blk_far ?_ NB130_142.out _; (with_reducible repeat (first | refine blk_drewN ?_ _ | refine blk_drew ?_ | refine blk_alloc ?_ _)); exact BK130.out⟩, ⟨by (with_reducible repeat (first | refine blk_drewN ?_ _ | refine blk_drew ?_ | refine blk_alloc ?_ _)); refine blk_far ?_ NB131_142.out _; (with_reducible repeat (first | refine blk_drewN ?_ _ | refine blk_drew ?_ | refine blk_alloc ?_ _)); refine blk_far ?_ NB131_142.out _; (with_reducible repeat (first | refine blk_drewN ?_ _ | refine blk_drew ?_ | refine blk_alloc ?_ _)); exact BK131.out⟩, ⟨by (with_reducible repeat (first | refine blk_drewN ?_ _ | refine blk_drew ?_ | refine blk_alloc ?_ _)); refine blk_far ?_ NB133_142.out _; (with_reducible repeat (first | refine blk_drewN ?_ _ | refine blk_drew ?_ | refine blk_alloc ?_ _)); refine blk_far ?_ NB133_142.out _; (with_reducible repeat (first | refine blk_drewN ?_ _ | refine blk_drew ?_ | refine blk_alloc ?_ _)); exact BK133.out⟩, ⟨by (with_reducible repeat (first | refine blk_drewN ?_ _ | refine blk_drew ?_ | refine blk_alloc ?_ _)); refine blk_put (cs := #[.int .i64 ((rd_T81 l0_4 x7_3).f0), .int .i64 0]) ?_ 1 _ rfl; (with_reducible repeat (first | refine blk_drewN ?_ _ | refine blk_drew ?_ | refine blk_alloc ?_ _)); refine blk_put (cs := #[.int .i64 0, .int .i64 0]) ?_ 0 _ rfl; (with_reducible repeat (first | refine blk_drewN ?_ _ | refine blk_drew ?_ | refine blk_alloc ?_ _)); exact BK142.out⟩, ⟨by repeat (first | (with_reducible first | exact HK.out | apply Kept.alloc | apply Kept.drewN | apply Kept.drew | refine Kept.setCell ?_ (.inr GW130.out) _ | refine Kept.setCell ?_ (.inr GW131.out) _ | refine Kept.setCell ?_ (.inr GW133.out) _ | refine Kept.setCell ?_ (.inr GW142.out) _) | exact HK.out)⟩, ⟨by repeat (first | (with_reducible first | exact HB.out | apply below_alloc | apply pw_below_drewN | apply below_drew1 | refine below_set ?_ GE130.out | refine below_set ?_ GE131.out | refine below_set ?_ GE133.out | refine below_set ?_ GE142.out) | exact HB.out)⟩⟩
                          · rw [if_neg c47] at H
                            have c47b0 : ((Int.tmod ((rd_T81 l0_4 x7_3).f0) a0_0) == (Int.tmod a1 a0_0)) = false := beq_eq_false_iff_ne.mpr c47
                            have c47b1 : ((Int.tmod ((rd_T81 l0_4 x7_3).f0) a0_0) != (Int.tmod a1 a0_0)) = true := bne_iff_ne.mpr c47
                            have H' := Aside0.mk H
                            clear H
                            have hnb55 := NB142_130.out
                            have hnc55 := NB130_142.out
                            have hnb56 := NB142_131.out
                            have hnc56 := NB131_142.out
                            have hnb57 := NB142_133.out
                            have hnc57 := NB133_142.out
                            have hcz58_0 : w36.cell? ⟨gb142, 0, none⟩ = some (.int .i64 0) := (blk_cell BK142.out 0).trans rfl
                            have hcz58_1 : w36.cell? ⟨gb142, 1, none⟩ = some (.int .i64 0) := (blk_cell BK142.out 1).trans rfl
                            have hfz58_0 := blk_frozen BK142.out 0
                            have hfz58_1 := blk_frozen BK142.out 1
                            have hnb59 := NB130_131.out
                            have hnc59 := NB131_130.out
                            have hnb60 := NB130_133.out
                            have hnc60 := NB133_130.out
                            have hcz61_0 : w36.cell? ⟨gb130, 0, none⟩ = some (.int .i64 a0_0) := (blk_cell BK130.out 0).trans rfl
                            have hcz61_1 : w36.cell? ⟨gb130, 1, none⟩ = some (.int .i64 a0_1) := (blk_cell BK130.out 1).trans rfl
                            have hcz61_2 : w36.cell? ⟨gb130, 2, none⟩ = some (.int .i64 a0_2) := (blk_cell BK130.out 2).trans rfl
                            have hcz61_3 : w36.cell? ⟨gb130, 3, none⟩ = some (.bool a0_3) := (blk_cell BK130.out 3).trans rfl
                            have hcz61_4 : w36.cell? ⟨gb130, 4, none⟩ = some (.slice (some ad141) l0_4.length co4) := (blk_cell BK130.out 4).trans rfl
                            have hfz61_0 := blk_frozen BK130.out 0
                            have hfz61_1 := blk_frozen BK130.out 1
                            have hfz61_2 := blk_frozen BK130.out 2
                            have hfz61_3 := blk_frozen BK130.out 3
                            have hfz61_4 := blk_frozen BK130.out 4
                            go_wp2
                            repeat (go_quiet (fail); try go_wp2)
                            go_meet
                            case rel => exact ⟨_, (false), (by first | rfl | (simp; done) | (simp [*]; done)), H', ⟨by have := HJ2.out; have := HJ16.out; have := HK3.out; first | omega | exact Nat.le_refl _⟩, ⟨by (with_reducible repeat (first | apply Kd.R_alloc | apply Kd.R_drewN | apply Kd.R_drew)); exact Kd.R_mono (Kd.R_far (p := ⟨gb142, 1, none⟩) (Kd.R_far (p := ⟨gb142, 0, none⟩) (Kd.R_mono HO_131004.out (fun k_ hk => (⟨hk, hk.2⟩ : _ ∧ k_ ≠ gb142))) (fun _ hk => hk.2) (.int .i64 ((rd_T81 l0_4 x7_3).f0))) (fun _ hk => hk.2) (.int .i64 ((rd_T81 l0_4 x7_3).f1))) (fun _ hk => ⟨hk.1.1.1, ⟨hk.1.1.2, hk.1.2⟩⟩)⟩, ⟨by (with_reducible repeat (first | apply Kd.R_alloc | apply Kd.R_drewN | apply Kd.R_drew)); exact Kd.R_mono (Kd.R_far (p := ⟨gb142, 1, none⟩) (Kd.R_far (p := ⟨gb142, 0, none⟩) (Kd.R_mono HO_134004.out (fun k_ hk => (⟨hk, hk.2⟩ : _ ∧ k_ ≠ gb142))) (fun _ hk => hk.2) (.int .i64 ((rd_T81 l0_4 x7_3).f0))) (fun _ hk => hk.2) (.int .i64 ((rd_T81 l0_4 x7_3).f1))) (fun _ hk => ⟨hk.1.1.1, ⟨hk.1.1.2, hk.1.2⟩⟩)⟩, ⟨by (with_reducible repeat (first | refine blk_drewN ?_ _ | refine blk_drew ?_ | refine blk_alloc ?_ _)); refine blk_far ?_ NB130_142.out _; (with_reducible repeat (first | refine blk_drewN ?_ _ | refine blk_drew ?_ | refine blk_alloc ?_ _)); refine blk_far ?_ NB130_142.out _; (with_reducible repeat (first | refine blk_drewN ?_ _ | refine blk_drew ?_ | refine blk_alloc ?_ _)); exact BK130.out⟩, ⟨by (with_reducible repeat (first | refine blk_drewN ?_ _ | refine blk_drew ?_ | refine blk_alloc ?_ _)); refine blk_far ?_ NB131_142.out _; (with_reducible repeat (first | refine blk_drewN ?_ _ | refine blk_drew ?_ | refine blk_alloc ?_ _)); refine blk_far ?_ NB131_142.out _; (with_reducible repeat (first | refine blk_drewN ?_ _ | refine blk_drew ?_ | refine blk_alloc ?_ _)); exact BK131.out⟩, ⟨by (with_reducible repeat (first | refine blk_drewN ?_ _ | refine blk_drew ?_ | refine blk_alloc ?_ _)); refine blk_far ?_ NB133_142.out _; (with_reducible repeat (first | refine blk_drewN ?_ _ | refine blk_drew ?_ | refine blk_alloc ?_ _)); refine blk_far ?_ NB133_142.out _; (with_reducible repeat (first | refine blk_drewN ?_ _ | refine blk_drew ?_ | refine blk_alloc ?_ _)); exact BK133.out⟩, ⟨by (with_reducible repeat (first | refine blk_drewN ?_ _ | refine blk_drew ?_ | refine blk_alloc ?_ _)); refine blk_put (cs := #[.int .i64 ((rd_T81 l0_4 x7_3).f0), .int .i64 0]) ?_ 1 _ rfl; (with_reducible repeat (first | refine blk_drewN ?_ _ | refine blk_drew ?_ | refine blk_alloc ?_ _)); refine blk_put (cs := #[.int .i64 0, .int .i64 0]) ?_ 0 _ rfl; (with_reducible repeat (first | refine blk_drewN ?_ _ | refine blk_drew ?_ | refine blk_alloc ?_ _)); exact BK142.out⟩, ⟨by repeat (first | (with_reducible first | exact HK.out | apply Kept.alloc | apply Kept.drewN | apply Kept.drew | refine Kept.setCell ?_ (.inr GW130.out) _ | refine Kept.setCell ?_ (.inr GW131.out) _ | refine Kept.setCell ?_ (.inr GW133.out) _ | refine Kept.setCell ?_ (.inr GW142.out) _) | exact HK.out)⟩, ⟨by repeat (first | (with_reducible first | exact HB.out | apply below_alloc | apply pw_below_drewN | apply below_drew1 | refine below_set ?_ GE130.out | refine below_set ?_ GE131.out | refine below_set ?_ GE133.out | refine below_set ?_ GE142.out) | exact HB.out)⟩⟩
                    case rest =>
                      clear HC32
                      try clear c1
                      try clear p1
                      try clear q1
                      try clear hx1
                      try clear c2
                      try clear p2
                      try clear c3
                      try clear c4
                      try clear c5
                      try clear c6
                      try clear c7
                      try clear c8
                      try clear c10
                      try clear c12
                      try clear c13
                      try clear p14
                      try clear q14
                      try clear hx14
                      try clear c18
                      try clear c21
                      try clear c21b0
                      try clear c22
                      try clear c24
                      try clear c27
                      try clear c28
                      try clear c30
                      try clear c30b0
                      try clear c31
                      try clear c31b0
                      try clear c33
                      try clear c34
                      try clear c37
                      try clear c38
                      try clear c39
                      try clear c41
                      try clear c41b0
                      try clear c41b1
                      try clear c42
                      try clear c43
                      try clear c44
                      try clear c46
                      try clear c46b0
                      try clear c46b1
                      try clear c47
                      try clear c47b0
                      try clear c47b1
                      try clear c48
                      try clear c49
                      try clear c50
                      try clear c52
                      try clear c53
                      try clear c55
                      try clear c56
                      try clear c57
                      try clear c59
                      try clear c60
                      try clear hcz11_0
                      try clear hcz11_1
                      try clear hcz11_2
                      try clear hcz11_3
                      try clear hcz11_4
                      try clear hcz14_0
                      try clear hcz14_1
                      try clear hcz14_2
                      try clear hcz14_3
                      try clear hcz14_4
                      try clear hcz15_0
                      try clear hcz15_1
                      try clear hcz15_2
                      try clear hcz15_3
                      try clear hcz15_4
                      try clear hcz19_0
                      try clear hcz19_1
                      try clear hcz19_2
                      try clear hcz19_3
                      try clear hcz19_4
                      try clear hcz23_0
                      try clear hcz23_1
                      try clear hcz23_2
                      try clear hcz23_3
                      try clear hcz23_4
                      try clear hcz25_0
                      try clear hcz25_1
                      try clear hcz25_2
                      try clear hcz25_3
                      try clear hcz25_4
                      try clear hcz29_0
                      try clear hcz29_1
                      try clear hcz29_2
                      try clear hcz29_3
                      try clear hcz29_4
                      try clear hcz35_0
                      try clear hcz35_1
                      try clear hcz35_2
                      try clear hcz35_3
                      try clear hcz35_4
                      try clear hcz40_0
                      try clear hcz40_1
                      try clear hcz45_0
                      try clear hcz45_1
                      try clear hcz51_0
                      try clear hcz51_1
                      try clear hcz54_0
                      try clear hcz54_1
                      try clear hcz54_2
                      try clear hcz54_3
                      try clear hcz54_4
                      try clear hcz58_0
                      try clear hcz58_1
                      try clear hcz61_0
                      try clear hcz61_1
                      try clear hcz61_2
                      try clear hcz61_3
                      try clear hcz61_4
                      try clear hcz9_0
                      try clear hcz9_1
                      try clear hcz9_2
                      try clear hcz9_3
                      try clear hcz9_4
                      try clear hfz11_0
                      try clear hfz11_1
                      try clear hfz11_2
                      try clear hfz11_3
                      try clear hfz11_4
                      try clear hfz14_0
                      try clear hfz14_1
                      try clear hfz14_2
                      try clear hfz14_3
                      try clear hfz14_4
                      try clear hfz15_0
                      try clear hfz15_1
                      try clear hfz15_2
                      try clear hfz15_3
                      try clear hfz15_4
                      try clear hfz19_0
                      try clear hfz19_1
                      try clear hfz19_2
                      try clear hfz19_3
                      try clear hfz19_4
                      try clear hfz23_0
                      try clear hfz23_1
                      try clear hfz23_2
                      try clear hfz23_3
                      try clear hfz23_4
                      try clear hfz25_0
                      try clear hfz25_1
                      try clear hfz25_2
                      try clear hfz25_3
                      try clear hfz25_4
                      try clear hfz29_0
                      try clear hfz29_1
                      try clear hfz29_2
                      try clear hfz29_3
                      try clear hfz29_4
                      try clear hfz35_0
                      try clear hfz35_1
                      try clear hfz35_2
                      try clear hfz35_3
                      try clear hfz35_4
                      try clear hfz40_0
                      try clear hfz40_1
                      try clear hfz45_0
                      try clear hfz45_1
                      try clear hfz51_0
                      try clear hfz51_1
                      try clear hfz54_0
                      try clear hfz54_1
                      try clear hfz54_2
                      try clear hfz54_3
                      try clear hfz54_4
                      try clear hfz58_0
                      try clear hfz58_1
                      try clear hfz61_0
                      try clear hfz61_1
                      try clear hfz61_2
                      try clear hfz61_3
                      try clear hfz61_4
                      try clear hfz9_0
                      try clear hfz9_1
                      try clear hfz9_2
                      try clear hfz9_3
                      try clear hfz9_4
                      try clear hx141_0
                      try clear hx141_1
                      try clear p141
                      try clear p2
                      try clear q141
                      obtain ⟨kq, x62_31, rfl, HA, HJ31, HO_131004, HO_134004, BK130, BK131, BK133, BK142, HK, HB⟩ := hcut
                      cases kq with
                      | zero => exact absurd HA.out (by simp [ontimeref31_State_Access.j3])
                      | succ kj31 =>
                        have H := HA.out
                        clear HA
                        simp only [ontimeref31_State_Access.j3] at H
                        by_cases c62 : x62_31 = true
                        · subst c62
                          have H1 : (if (wrap64 (((rd_T81 l0_4 x7_3).f1) + 1)) < a0_1 then (if x134004_3.length < 8796093022208 then (ontimeref31_State_Access.l0 kj31 a1 x5_16 (wrap64 (x7_3 + 1)) a0_0 a0_1 a0_2 a0_3 l0_4 a0_0 a0_1 a0_2 false (x134004_3 ++ [(⟨((rd_T81 l0_4 x7_3).f0), wrap64 (((rd_T81 l0_4 x7_3).f1) + 1)⟩ : S81)])) else (none)) else (ontimeref31_State_Access.l0 kj31 a1 x5_16 (wrap64 (x7_3 + 1)) a0_0 a0_1 a0_2 a0_3 l0_4 a0_0 a0_1 a0_2 false x134004_3)) = some (r1, r2, r3, r4, r5) := by rw [if_pos rfl] at H; exact H
                          clear H
                          have H := H1
                          clear H1
                          by_cases c63 : (wrap64 (((rd_T81 l0_4 x7_3).f1) + 1)) < a0_1
                          · rw [if_pos c63] at H
                            have c63b0 : decide ((wrap64 (((rd_T81 l0_4 x7_3).f1) + 1)) < a0_1) = true := decide_eq_true c63
                            clear c63
                            by_cases c64 : x134004_3.length < 8796093022208
                            · rw [if_pos c64] at H
                              have LMc64 := Aside0.mk c64
                              clear c64
                              obtain ⟨y143, hy143⟩ : ∃ y_ : List (S81), y_ = (x134004_3 ++ [(⟨((rd_T81 l0_4 x7_3).f0), wrap64 (((rd_T81 l0_4 x7_3).f1) + 1)⟩ : S81)]) := ⟨_, rfl⟩
                              replace H : (ontimeref31_State_Access.l0 kj31 a1 x5_16 (wrap64 (x7_3 + 1)) a0_0 a0_1 a0_2 a0_3 l0_4 a0_0 a0_1 a0_2 false y143) = some (r1, r2, r3, r4, r5) := by first | (rw [hy143]; with_reducible exact H) | (have H2_ := (Option.bind_some _ _).symm.trans H; rw [hy143]; with_reducible exact H2_) | (have H2_ := (Option.bind_some _ _).symm.trans H; with_reducible exact H2_) | with_reducible exact H | (rw [hy143]; exact H) | exact H
                              have Ny143 := Aside0.mk hy143
                              clear hy143
                              have H' := Aside0.mk H
                              clear H
                              have hnb65 := NB142_130.out
                              have hnc65 := NB130_142.out
                              have hnb66 := NB142_131.out
                              have hnc66 := NB131_142.out
                              have hnb67 := NB142_133.out
                              have hnc67 := NB133_142.out
                              have hcz68_0 : wc.cell? ⟨gb142, 0, none⟩ = some (.int .i64 ((rd_T81 l0_4 x7_3).f0)) := (blk_cell BK142.out 0).trans rfl
                              have hcz68_1 : wc.cell? ⟨gb142, 1, none⟩ = some (.int .i64 ((rd_T81 l0_4 x7_3).f1)) := (blk_cell BK142.out 1).trans rfl
                              have hfz68_0 := blk_frozen BK142.out 0
                              have hfz68_1 := blk_frozen BK142.out 1
                              have hnb69 := NB130_131.out
                              have hnc69 := NB131_130.out
                              have hnb70 := NB130_133.out
                              have hnc70 := NB133_130.out
                              have hcz71_0 : wc.cell? ⟨gb130, 0, none⟩ = some (.int .i64 a0_0) := (blk_cell BK130.out 0).trans rfl
                              have hcz71_1 : wc.cell? ⟨gb130, 1, none⟩ = some (.int .i64 a0_1) := (blk_cell BK130.out 1).trans rfl
                              have hcz71_2 : wc.cell? ⟨gb130, 2, none⟩ = some (.int .i64 a0_2) := (blk_cell BK130.out 2).trans rfl
                              have hcz71_3 : wc.cell? ⟨gb130, 3, none⟩ = some (.bool a0_3) := (blk_cell BK130.out 3).trans rfl
                              have hcz71_4 : wc.cell? ⟨gb130, 4, none⟩ = some (.slice (some ad141) l0_4.length co4) := (blk_cell BK130.out 4).trans rfl
                              have hfz71_0 := blk_frozen BK130.out 0
                              have hfz71_1 := blk_frozen BK130.out 1
                              have hfz71_2 := blk_frozen BK130.out 2
                              have hfz71_3 := blk_frozen BK130.out 3
                              have hfz71_4 := blk_frozen BK130.out 4
                              have hnb72 := NB133_131.out
                              have hnc72 := NB131_133.out
                              have hcz73_0 : wc.cell? ⟨gb133, 0, none⟩ = some (.int .i64 a0_0) := (blk_cell BK133.out 0).trans rfl
                              have hcz73_1 : wc.cell? ⟨gb133, 1, none⟩ = some (.int .i64 a0_1) := (blk_cell BK133.out 1).trans rfl
                              have hcz73_2 : wc.cell? ⟨gb133, 2, none⟩ = some (.int .i64 a0_2) := (blk_cell BK133.out 2).trans rfl
                              have hcz73_3 : wc.cell? ⟨gb133, 3, none⟩ = some (.bool false) := (blk_cell BK133.out 3).trans rfl
                              have hcz73_4 : wc.cell? ⟨gb133, 4, none⟩ = some (u134004) := (blk_cell BK133.out 4).trans rfl
                              have hfz73_0 := blk_frozen BK133.out 0
                              have hfz73_1 := blk_frozen BK133.out 1
                              have hfz73_2 := blk_frozen BK133.out 2
                              have hfz73_3 := blk_frozen BK133.out 3
                              have hfz73_4 := blk_frozen BK133.out 4
                              go_wp2_with (first | ((with_reducible refine gate_builtin (b := .append) (xs := #[.tmp 74, .tmp 76]) rfl ?_); at_builtin; refine Kd.R_append k81 (w0 := w0) w0.heap.size rfl (.tmp 74) (.tmp 76) 32 81 (.agg #[(.int .i64 0), (.int .i64 0)]) 16 rfl Try.underlying32 info81 rfl (by decide) (by omega) u134004 x134004_3 (⟨((rd_T81 l0_4 x7_3).f0), wrap64 (((rd_T81 l0_4 x7_3).f1) + 1)⟩ : S81) [.int .i64 ((rd_T81 l0_4 x7_3).f0), .int .i64 (wrap64 (((rd_T81 l0_4 x7_3).f1) + 1))] (fun k_ => (P0_4_ k_ ∨ w.heap.size ≤ k_) ∧ some k_ ≠ (.slice (some ad141) l0_4.length co4 : Value).ownBlock ∧ k_ ≠ gb142) (fun _ => False) rfl (by first | (go_simp; done) | (go_simp; rfl)) ?aP (fun _ hk => hk.elim) ?aF ?aO ?aB ?aS ?aL ?_; (case aP => exact k81_mkM _ _ _ (⟨((rd_T81 l0_4 x7_3).f0), wrap64 (((rd_T81 l0_4 x7_3).f1) + 1)⟩ : S81)); (case aB => exact (by repeat (first | (with_reducible first | exact HB.out | apply below_alloc | apply pw_below_drewN | apply below_drew1 | refine below_set ?_ GE130.out | refine below_set ?_ GE131.out | refine below_set ?_ GE133.out | refine below_set ?_ GE142.out) | exact HB.out))); (case aF => exact (fun k_ hk => ⟨(.inr (Nat.le_trans (show Kept w _ (fun k_ => P0_4_ k_) from by repeat (first | (with_reducible first | exact HK.out | apply Kept.alloc | apply Kept.drewN | apply Kept.drew | refine Kept.setCell ?_ (.inr GW130.out) _ | refine Kept.setCell ?_ (.inr GW131.out) _ | refine Kept.setCell ?_ (.inr GW133.out) _ | refine Kept.setCell ?_ (.inr GW142.out) _) | exact HK.out)).1 hk)), Kd.fresh' (Kd.R_lt (by (with_reducible repeat (first | apply Kd.R_alloc | apply Kd.R_drewN | apply Kd.R_drew)); exact (Kd.R_mono (Kd.R_far (p := ⟨gb142, 1, none⟩) (Kd.R_mono HO_131004.out (fun k_ hk => (⟨hk, hk.2.2⟩ : _ ∧ k_ ≠ gb142))) (fun _ hk => hk.2) (.int .i64 (wrap64 (((rd_T81 l0_4 x7_3).f1) + 1)))) (fun _ h_ => h_.1)))) k_ hk, Kd.freshB (g := gb142) (o := .cells #[.int .i64 ((rd_T81 l0_4 x7_3).f0), .int .i64 (wrap64 (((rd_T81 l0_4 x7_3).f1) + 1))] 81 (0, 0)) (by (with_reducible repeat (first | refine blk_drewN ?_ _ | refine blk_drew ?_ | refine blk_alloc ?_ _)); refine blk_put (cs := #[.int .i64 ((rd_T81 l0_4 x7_3).f0), .int .i64 ((rd_T81 l0_4 x7_3).f1)]) ?_ 1 _ rfl; (with_reducible repeat (first | refine blk_drewN ?_ _ | refine blk_drew ?_ | refine blk_alloc ?_ _)); exact BK142.out) k_ hk⟩)); (case aO => exact (by (with_reducible repeat (first | apply Kd.R_alloc | apply Kd.R_drewN | apply Kd.R_drew)); exact Kd.R_mono (Kd.R_far (p := ⟨gb142, 1, none⟩) (Kd.R_mono HO_134004.out (fun k_ hk => (⟨hk, hk.2.2⟩ : _ ∧ k_ ≠ gb142))) (fun _ hk => hk.2) (.int .i64 (wrap64 (((rd_T81 l0_4 x7_3).f1) + 1)))) (fun _ hk => ⟨hk.1.1, ⟨hk.1.2.1, hk.1.2.2⟩⟩))); (case aS => exact (below_size (by repeat (first | (with_reducible first | exact HB.out | apply below_alloc | apply pw_below_drewN | apply below_drew1 | refine below_set ?_ GE130.out | refine below_set ?_ GE131.out | refine below_set ?_ GE133.out | refine below_set ?_ GE142.out) | exact HB.out)))); (case aL => have := LMc64.out; omega); intro v144 w74 ho hb hg hat; rw [← Ny143.out] at ho; have n0_ := Aside0.mk (Kd.R_after (ok := (fun k_ => (P0_4_ k_ ∨ w.heap.size ≤ k_) ∧ k_ ≠ gb142)) (by (with_reducible repeat (first | apply Kd.R_alloc | apply Kd.R_drewN | apply Kd.R_drew)); exact Kd.R_mono (Kd.R_far (p := ⟨gb142, 1, none⟩) (Kd.R_mono HO_131004.out (fun k_ hk => (⟨hk, hk.2.2⟩ : _ ∧ k_ ≠ gb142))) (fun _ hk => hk.2) (.int .i64 (wrap64 (((rd_T81 l0_4 x7_3).f1) + 1)))) (fun _ hk => ⟨⟨hk.1.1, hk.1.2.2⟩, hk.1.2.1⟩)) hg hat); have n1_ := Aside0.mk (blk_grown (g := gb130) (o := .cells #[.int .i64 a0_0, .int .i64 a0_1, .int .i64 a0_2, .bool a0_3, .slice (some ad141) l0_4.length co4] 34 (0, 0)) (by (with_reducible repeat (first | refine blk_drewN ?_ _ | refine blk_drew ?_ | refine blk_alloc ?_ _)); refine blk_far ?_ NB130_142.out _; (with_reducible repeat (first | refine blk_drewN ?_ _ | refine blk_drew ?_ | refine blk_alloc ?_ _)); exact BK130.out) hg (Kd.R_ne HO_134004.out BK130.out (by decide))); have n2_ := Aside0.mk (blk_grown (g := gb131) (o := .cells #[.int .i64 0, .int .i64 0, .int .i64 0, .bool false, .slice none 0 0] 34 (0, 0)) (by (with_reducible repeat (first | refine blk_drewN ?_ _ | refine blk_drew ?_ | refine blk_alloc ?_ _)); refine blk_far ?_ NB131_142.out _; (with_reducible repeat (first | refine blk_drewN ?_ _ | refine blk_drew ?_ | refine blk_alloc ?_ _)); exact BK131.out) hg (Kd.R_ne HO_134004.out BK131.out (by decide))); have n3_ := Aside0.mk (blk_grown (g := gb133) (o := .cells #[.int .i64 a0_0, .int .i64 a0_1, .int .i64 a0_2, .bool false, u134004] 34 (0, 0)) (by (with_reducible repeat (first | refine blk_drewN ?_ _ | refine blk_drew ?_ | refine blk_alloc ?_ _)); refine blk_far ?_ NB133_142.out _; (with_reducible repeat (first | refine blk_drewN ?_ _ | refine blk_drew ?_ | refine blk_alloc ?_ _)); exact BK133.out) hg (Kd.R_ne HO_134004.out BK133.out (by decide))); have n4_ := Aside0.mk (blk_grown (g := gb142) (o := .cells #[.int .i64 ((rd_T81 l0_4 x7_3).f0), .int .i64 (wrap64 (((rd_T81 l0_4 x7_3).f1) + 1))] 81 (0, 0)) (by (with_reducible repeat (first | refine blk_drewN ?_ _ | refine blk_drew ?_ | refine blk_alloc ?_ _)); refine blk_put (cs := #[.int .i64 ((rd_T81 l0_4 x7_3).f0), .int .i64 ((rd_T81 l0_4 x7_3).f1)]) ?_ 1 _ rfl; (with_reducible repeat (first | refine blk_drewN ?_ _ | refine blk_drew ?_ | refine blk_alloc ?_ _)); exact BK142.out) hg (Kd.R_away HO_134004.out (fun _ hk => hk.2.2))); have n5_ := Aside0.mk (hb); have n6_ := Aside0.mk (Kept.of_grown (S := (fun k_ => P0_4_ k_)) hg (by repeat (first | (with_reducible first | exact HK.out | apply Kept.alloc | apply Kept.drewN | apply Kept.drew | refine Kept.setCell ?_ (.inr GW130.out) _ | refine Kept.setCell ?_ (.inr GW131.out) _ | refine Kept.setCell ?_ (.inr GW133.out) _ | refine Kept.setCell ?_ (.inr GW142.out) _) | exact HK.out)) (fun k_ e_ => (HO_134004.out.1 k_ e_).1)); have n7_ := Aside0.mk (ho); clear HO_131004; clear BK130; clear BK131; clear BK133; clear BK142; clear HB; clear HK; clear HO_134004; have HO_131004 := n0_; have BK130 := n1_; have BK131 := n2_; have BK133 := n3_; have BK142 := n4_; have HB := n5_; have HK := n6_; have HO145 := n7_; clear n0_ n1_ n2_ n3_ n4_ n5_ n6_ n7_; clear ho hb hg hat; obtain ⟨Ao75, co75, eo75⟩ := Kd.R_slice HO145.out; subst eo75; have hcz76_0 : w74.cell? ⟨gb133, 0, none⟩ = some (.int .i64 a0_0) := (blk_cell BK133.out 0).trans rfl; have hcz76_1 : w74.cell? ⟨gb133, 1, none⟩ = some (.int .i64 a0_1) := (blk_cell BK133.out 1).trans rfl; have hcz76_2 : w74.cell? ⟨gb133, 2, none⟩ = some (.int .i64 a0_2) := (blk_cell BK133.out 2).trans rfl; have hcz76_3 : w74.cell? ⟨gb133, 3, none⟩ = some (.bool false) := (blk_cell BK133.out 3).trans rfl; have hcz76_4 : w74.cell? ⟨gb133, 4, none⟩ = some (u134004) := (blk_cell BK133.out 4).trans rfl; have hfz76_0 := blk_frozen BK133.out 0; have hfz76_1 := blk_frozen BK133.out 1; have hfz76_2 := blk_frozen BK133.out 2; have hfz76_3 := blk_frozen BK133.out 3; have hfz76_4 := blk_frozen BK133.out 4))
                              repeat (go_quiet (first | ((with_reducible refine gate_builtin (b := .append) (xs := #[.tmp 74, .tmp 76]) rfl ?_); at_builtin; refine Kd.R_append k81 (w0 := w0) w0.heap.size rfl (.tmp 74) (.tmp 76) 32 81 (.agg #[(.int .i64 0), (.int .i64 0)]) 16 rfl Try.underlying32 info81 rfl (by decide) (by omega) u134004 x134004_3 (⟨((rd_T81 l0_4 x7_3).f0), wrap64 (((rd_T81 l0_4 x7_3).f1) + 1)⟩ : S81) [.int .i64 ((rd_T81 l0_4 x7_3).f0), .int .i64 (wrap64 (((rd_T81 l0_4 x7_3).f1) + 1))] (fun k_ => (P0_4_ k_ ∨ w.heap.size ≤ k_) ∧ some k_ ≠ (.slice (some ad141) l0_4.length co4 : Value).ownBlock ∧ k_ ≠ gb142) (fun _ => False) rfl (by first | (go_simp; done) | (go_simp; rfl)) ?aP (fun _ hk => hk.elim) ?aF ?aO ?aB ?aS ?aL ?_; (case aP => exact k81_mkM _ _ _ (⟨((rd_T81 l0_4 x7_3).f0), wrap64 (((rd_T81 l0_4 x7_3).f1) + 1)⟩ : S81)); (case aB => exact (by repeat (first | (with_reducible first | exact HB.out | apply below_alloc | apply pw_below_drewN | apply below_drew1 | refine below_set ?_ GE130.out | refine below_set ?_ GE131.out | refine below_set ?_ GE133.out | refine below_set ?_ GE142.out) | exact HB.out))); (case aF => exact (fun k_ hk => ⟨(.inr (Nat.le_trans (show Kept w _ (fun k_ => P0_4_ k_) from by repeat (first | (with_reducible first | exact HK.out | apply Kept.alloc | apply Kept.drewN | apply Kept.drew | refine Kept.setCell ?_ (.inr GW130.out) _ | refine Kept.setCell ?_ (.inr GW131.out) _ | refine Kept.setCell ?_ (.inr GW133.out) _ | refine Kept.setCell ?_ (.inr GW142.out) _) | exact HK.out)).1 hk)), Kd.fresh' (Kd.R_lt (by (with_reducible repeat (first | apply Kd.R_alloc | apply Kd.R_drewN | apply Kd.R_drew)); exact (Kd.R_mono (Kd.R_far (p := ⟨gb142, 1, none⟩) (Kd.R_mono HO_131004.out (fun k_ hk => (⟨hk, hk.2.2⟩ : _ ∧ k_ ≠ gb142))) (fun _ hk => hk.2) (.int .i64 (wrap64 (((rd_T81 l0_4 x7_3).f1) + 1)))) (fun _ h_ => h_.1)))) k_ hk, Kd.freshB (g := gb142) (o := .cells #[.int .i64 ((rd_T81 l0_4 x7_3).f0), .int .i64 (wrap64 (((rd_T81 l0_4 x7_3).f1) + 1))] 81 (0, 0)) (by (with_reducible repeat (first | refine blk_drewN ?_ _ | refine blk_drew ?_ | refine blk_alloc ?_ _)); refine blk_put (cs := #[.int .i64 ((rd_T81 l0_4 x7_3).f0), .int .i64 ((rd_T81 l0_4 x7_3).f1)]) ?_ 1 _ rfl; (with_reducible repeat (first | refine blk_drewN ?_ _ | refine blk_drew ?_ | refine blk_alloc ?_ _)); exact BK142.out) k_ hk⟩)); (case aO => exact (by (with_reducible repeat (first | apply Kd.R_alloc | apply Kd.R_drewN | apply Kd.R_drew)); exact Kd.R_mono (Kd.R_far (p := ⟨gb142, 1, none⟩) (Kd.R_mono HO_134004.out (fun k_ hk => (⟨hk, hk.2.2⟩ : _ ∧ k_ ≠ gb142))) (fun _ hk => hk.2) (.int .i64 (wrap64 (((rd_T81 l0_4 x7_3).f1) + 1)))) (fun _ hk => ⟨hk.1.1, ⟨hk.1.2.1, hk.1.2.2⟩⟩))); (case aS => exact (below_size (by repeat (first | (with_reducible first | exact HB.out | apply below_alloc | apply pw_below_drewN | apply below_drew1 | refine below_set ?_ GE130.out | refine below_set ?_ GE131.out | refine below_set ?_ GE133.out | refine below_set ?_ GE142.out) | exact HB.out)))); (case aL => have := LMc64.out; omega); intro v144 w74 ho hb hg hat; rw [← Ny143.out] at ho; have n0_ := Aside0.mk (Kd.R_after (ok := (fun k_ => (P0_4_ k_ ∨ w.heap.size ≤ k_) ∧ k_ ≠ gb142)) (by (with_reducible repeat (first | apply Kd.R_alloc | apply Kd.R_drewN | apply Kd.R_drew)); exact Kd.R_mono (Kd.R_far (p := ⟨gb142, 1, none⟩) (Kd.R_mono HO_131004.out (fun k_ hk => (⟨hk, hk.2.2⟩ : _ ∧ k_ ≠ gb142))) (fun _ hk => hk.2) (.int .i64 (wrap64 (((rd_T81 l0_4 x7_3).f1) + 1)))) (fun _ hk => ⟨⟨hk.1.1, hk.1.2.2⟩, hk.1.2.1⟩)) hg hat); have n1_ := Aside0.mk (blk_grown (g := gb130) (o := .cells #[.int .i64 a0_0, .int .i64 a0_1, .int .i64 a0_2, .bool a0_3, .slice (some ad141) l0_4.length co4] 34 (0, 0)) (by (with_reducible repeat (first | refine blk_drewN ?_ _ | refine blk_drew ?_ | refine blk_alloc ?_ _)); refine blk_far ?_ NB130_142.out _; (with_reducible repeat (first | refine blk_drewN ?_ _ | refine blk_drew ?_ | refine blk_alloc ?_ _)); exact BK130.out) hg (Kd.R_ne HO_134004.out BK130.out (by decide))); have n2_ := Aside0.mk (blk_grown (g := gb131) (o := .cells #[.int .i64 0, .int .i64 0, .int .i64 0, .bool false, .slice none 0 0] 34 (0, 0)) (by (with_reducible repeat (first | refine blk_drewN ?_ _ | refine blk_drew ?_ | refine blk_alloc ?_ _)); refine blk_far ?_ NB131_142.out _; (with_reducible repeat (first | refine blk_drewN ?_ _ | refine blk_drew ?_ | refine blk_alloc ?_ _)); exact BK131.out) hg (Kd.R_ne HO_134004.out BK131.out (by decide))); have n3_ := Aside0.mk (blk_grown (g := gb133) (o := .cells #[.int .i64 a0_0, .int .i64 a0_1, .int .i64 a0_2, .bool false, u134004] 34 (0, 0)) (by (with_reducible repeat (first | refine blk_drewN ?_ _ | refine blk_drew ?_ | refine blk_alloc ?_ _)); refine blk_far ?_ NB133_142.out _; (with_reducible repeat (first | refine blk_drewN ?_ _ | refine blk_drew ?_ | refine blk_alloc ?_ _)); exact BK133.out) hg (Kd.R_ne HO_134004.out BK133.out (by decide))); have n4_ := Aside0.mk (blk_grown (g := gb142) (o := .cells #[.int .i64 ((rd_T81 l0_4 x7_3).f0), .int .i64 (wrap64 (((rd_T81 l0_4 x7_3).f1) + 1))] 81 (0, 0)) (by (with_reducible repeat (first | refine blk_drewN ?_ _ | refine blk_drew ?_ | refine blk_alloc ?_ _)); refine blk_put (cs := #[.int .i64 ((rd_T81 l0_4 x7_3).f0), .int .i64 ((rd_T81 l0_4 x7_3).f1)]) ?_ 1 _ rfl; (with_reducible repeat (first | refine blk_drewN ?_ _ | refine blk_drew ?_ | refine blk_alloc ?_ _)); exact BK142.out) hg (Kd.R_away HO_134004.out (fun _ hk => hk.2.2))); have n5_ := Aside0.mk (hb); have n6_ := Aside0.mk (Kept.of_grown (S := (fun k_ => P0_4_ k_)) hg (by repeat (first | (with_reducible first | exact HK.out | apply Kept.alloc | apply Kept.drewN | apply Kept.drew | refine Kept.setCell ?_ (.inr GW130.out) _ | refine Kept.setCell ?_ (.inr GW131.out) _ | refine Kept.setCell ?_ (.inr GW133.out) _ | refine Kept.setCell ?_ (.inr GW142.out) _) | exact HK.out)) (fun k_ e_ => (HO_134004.out.1 k_ e_).1)); have n7_ := Aside0.mk (ho); clear HO_131004; clear BK130; clear BK131; clear BK133; clear BK142; clear HB; clear HK; clear HO_134004; have HO_131004 := n0_; have BK130 := n1_; have BK131 := n2_; have BK133 := n3_; have BK142 := n4_; have HB := n5_; have HK := n6_; have HO145 := n7_; clear n0_ n1_ n2_ n3_ n4_ n5_ n6_ n7_; clear ho hb hg hat; obtain ⟨Ao75, co75, eo75⟩ := Kd.R_slice HO145.out; subst eo75; have hcz76_0 : w74.cell? ⟨gb133, 0, none⟩ = some (.int .i64 a0_0) := (blk_cell BK133.out 0).trans rfl; have hcz76_1 : w74.cell? ⟨gb133, 1, none⟩ = some (.int .i64 a0_1) := (blk_cell BK133.out 1).trans rfl; have hcz76_2 : w74.cell? ⟨gb133, 2, none⟩ = some (.int .i64 a0_2) := (blk_cell BK133.out 2).trans rfl; have hcz76_3 : w74.cell? ⟨gb133, 3, none⟩ = some (.bool false) := (blk_cell BK133.out 3).trans rfl; have hcz76_4 : w74.cell? ⟨gb133, 4, none⟩ = some (u134004) := (blk_cell BK133.out 4).trans rfl; have hfz76_0 := blk_frozen BK133.out 0; have hfz76_1 := blk_frozen BK133.out 1; have hfz76_2 := blk_frozen BK133.out 2; have hfz76_3 := blk_frozen BK133.out 3; have hfz76_4 := blk_frozen BK133.out 4)); try go_wp2_with (first | ((with_reducible refine gate_builtin (b := .append) (xs := #[.tmp 74, .tmp 76]) rfl ?_); at_builtin; refine Kd.R_append k81 (w0 := w0) w0.heap.size rfl (.tmp 74) (.tmp 76) 32 81 (.agg #[(.int .i64 0), (.int .i64 0)]) 16 rfl Try.underlying32 info81 rfl (by decide) (by omega) u134004 x134004_3 (⟨((rd_T81 l0_4 x7_3).f0), wrap64 (((rd_T81 l0_4 x7_3).f1) + 1)⟩ : S81) [.int .i64 ((rd_T81 l0_4 x7_3).f0), .int .i64 (wrap64 (((rd_T81 l0_4 x7_3).f1) + 1))] (fun k_ => (P0_4_ k_ ∨ w.heap.size ≤ k_) ∧ some k_ ≠ (.slice (some ad141) l0_4.length co4 : Value).ownBlock ∧ k_ ≠ gb142) (fun _ => False) rfl (by first | (go_simp; done) | (go_simp; rfl)) ?aP (fun _ hk => hk.elim) ?aF ?aO ?aB ?aS ?aL ?_; (case aP => exact k81_mkM _ _ _ (⟨((rd_T81 l0_4 x7_3).f0), wrap64 (((rd_T81 l0_4 x7_3).f1) + 1)⟩ : S81)); (case aB => exact (by repeat (first | (with_reducible first | exact HB.out | apply below_alloc | apply pw_below_drewN | apply below_drew1 | refine below_set ?_ GE130.out | refine below_set ?_ GE131.out | refine below_set ?_ GE133.out | refine below_set ?_ GE142.out) | exact HB.out))); (case aF => exact (fun k_ hk => ⟨(.inr (Nat.le_trans (show Kept w _ (fun k_ => P0_4_ k_) from by repeat (first | (with_reducible first | exact HK.out | apply Kept.alloc | apply Kept.drewN | apply Kept.drew | refine Kept.setCell ?_ (.inr GW130.out) _ | refine Kept.setCell ?_ (.inr GW131.out) _ | refine Kept.setCell ?_ (.inr GW133.out) _ | refine Kept.setCell ?_ (.inr GW142.out) _) | exact HK.out)).1 hk)), Kd.fresh' (Kd.R_lt (by (with_reducible repeat (first | apply Kd.R_alloc | apply Kd.R_drewN | apply Kd.R_drew)); exact (Kd.R_mono (Kd.R_far (p := ⟨gb142, 1, none⟩) (Kd.R_mono HO_131004.out (fun k_ hk => (⟨hk, hk.2.2⟩ : _ ∧ k_ ≠ gb142))) (fun _ hk => hk.2) (.int .i64 (wrap64 (((rd_T81 l0_4 x7_3).f1) + 1)))) (fun _ h_ => h_.1)))) k_ hk, Kd.freshB (g := gb142) (o := .cells #[.int .i64 ((rd_T81 l0_4 x7_3).f0), .int .i64 (wrap64 (((rd_T81 l0_4 x7_3).f1) + 1))] 81 (0, 0)) (by (with_reducible repeat (first | refine blk_drewN ?_ _ | refine blk_drew ?_ | refine blk_alloc ?_ _)); refine blk_put (cs := #[.int .i64 ((rd_T81 l0_4 x7_3).f0), .int .i64 ((rd_T81 l0_4 x7_3).f1)]) ?_ 1 _ rfl; (with_reducible repeat (first | refine blk_drewN ?_ _ | refine blk_drew ?_ | refine blk_alloc ?_ _)); exact BK142.out) k_ hk⟩)); (case aO => exact (by (with_reducible repeat (first | apply Kd.R_alloc | apply Kd.R_drewN | apply Kd.R_drew)); exact Kd.R_mono (Kd.R_far (p := ⟨gb142, 1, none⟩) (Kd.R_mono HO_134004.out (fun k_ hk => (⟨hk, hk.2.2⟩ : _ ∧ k_ ≠ gb142))) (fun _ hk => hk.2) (.int .i64 (wrap64 (((rd_T81 l0_4 x7_3).f1) + 1)))) (fun _ hk => ⟨hk.1.1, ⟨hk.1.2.1, hk.1.2.2⟩⟩))); (case aS => exact (below_size (by repeat (first | (with_reducible first | exact HB.out | apply below_alloc | apply pw_below_drewN | apply below_drew1 | refine below_set ?_ GE130.out | refine below_set ?_ GE131.out | refine below_set ?_ GE133.out | refine below_set ?_ GE142.out) | exact HB.out)))); (case aL => have := LMc64.out; omega); intro v144 w74 ho hb hg hat; rw [← Ny143.out] at ho; have n0_ := Aside0.mk (Kd.R_after (ok := (fun k_ => (P0_4_ k_ ∨ w.heap.size ≤ k_) ∧ k_ ≠ gb142)) (by (with_reducible repeat (first | apply Kd.R_alloc | apply Kd.R_drewN | apply Kd.R_drew)); exact Kd.R_mono (Kd.R_far (p := ⟨gb142, 1, none⟩) (Kd.R_mono HO_131004.out (fun k_ hk => (⟨hk, hk.2.2⟩ : _ ∧ k_ ≠ gb142))) (fun _ hk => hk.2) (.int .i64 (wrap64 (((rd_T81 l0_4 x7_3).f1) + 1)))) (fun _ hk => ⟨⟨hk.1.1, hk.1.2.2⟩, hk.1.2.1⟩)) hg hat); have n1_ := Aside0.mk (blk_grown (g := gb130) (o := .cells #[.int .i64 a0_0, .int .i64 a0_1, .int .i64 a0_2, .bool a0_3, .slice (some ad141) l0_4.length co4] 34 (0, 0)) (by (with_reducible repeat (first | refine blk_drewN ?_ _ | refine blk_drew ?_ | refine blk_alloc ?_ _)); refine blk_far ?_ NB130_142.out _; (with_reducible repeat (first | refine blk_drewN ?_ _ | refine blk_drew ?_ | refine blk_alloc ?_ _)); exact BK130.out) hg (Kd.R_ne HO_134004.out BK130.out (by decide))); have n2_ := Aside0.mk (blk_grown (g := gb131) (o := .cells #[.int .i64 0, .int .i64 0, .int .i64 0, .bool false, .slice none 0 0] 34 (0, 0)) (by (with_reducible repeat (first | refine blk_drewN ?_ _ | refine blk_drew ?_ | refine blk_alloc ?_ _)); refine blk_far ?_ NB131_142.out _; (with_reducible repeat (first | refine blk_drewN ?_ _ | refine blk_drew ?_ | refine blk_alloc ?_ _)); exact BK131.out) hg (Kd.R_ne HO_134004.out BK131.out (by decide))); have n3_ := Aside0.mk (blk_grown (g := gb133) (o := .cells #[.int .i64 a0_0, .int .i64 a0_1, .int .i64 a0_2, .bool false, u134004] 34 (0, 0)) (by (with_reducible repeat (first | refine blk_drewN ?_ _ | refine blk_drew ?_ | refine blk_alloc ?_ _)); refine blk_far ?_ NB133_142.out _; (with_reducible repeat (first | refine blk_drewN ?_ _ | refine blk_drew ?_ | refine blk_alloc ?_ _)); exact BK133.out) hg (Kd.R_ne HO_134004.out BK133.out (by decide))); have n4_ := Aside0.mk (blk_grown (g := gb142) (o := .cells #[.int .i64 ((rd_T81 l0_4 x7_3).f0), .int .i64 (wrap64 (((rd_T81 l0_4 x7_3).f1) + 1))] 81 (0, 0)) (by (with_reducible repeat (first | refine blk_drewN ?_ _ | refine blk_drew ?_ | refine blk_alloc ?_ _)); refine blk_put (cs := #[.int .i64 ((rd_T81 l0_4 x7_3).f0), .int .i64 ((rd_T81 l0_4 x7_3).f1)]) ?_ 1 _ rfl; (with_reducible repeat (first | refine blk_drewN ?_ _ | refine blk_drew ?_ | refine blk_alloc ?_ _)); exact BK142.out) hg (Kd.R_away HO_134004.out (fun _ hk => hk.2.2))); have n5_ := Aside0.mk (hb); have n6_ := Aside0.mk (Kept.of_grown (S := (fun k_ => P0_4_ k_)) hg (by repeat (first | (with_reducible first | exact HK.out | apply Kept.alloc | apply Kept.drewN | apply Kept.drew | refine Kept.setCell ?_ (.inr GW130.out) _ | refine Kept.setCell ?_ (.inr GW131.out) _ | refine Kept.setCell ?_ (.inr GW133.out) _ | refine Kept.setCell ?_ (.inr GW142.out) _) | exact HK.out)) (fun k_ e_ => (HO_134004.out.1 k_ e_).1)); have n7_ := Aside0.mk (ho); clear HO_131004; clear BK130; clear BK131; clear BK133; clear BK142; clear HB; clear HK; clear HO_134004; have HO_131004 := n0_; have BK130 := n1_; have BK131 := n2_; have BK133 := n3_; have BK142 := n4_; have HB := n5_; have HK := n6_; have HO145 := n7_; clear n0_ n1_ n2_ n3_ n4_ n5_ n6_ n7_; clear ho hb hg hat; obtain ⟨Ao75, co75, eo75⟩ := Kd.R_slice HO145.out; subst eo75; have hcz76_0 : w74.cell? ⟨gb133, 0, none⟩ = some (.int .i64 a0_0) := (blk_cell BK133.out 0).trans rfl; have hcz76_1 : w74.cell? ⟨gb133, 1, none⟩ = some (.int .i64 a0_1) := (blk_cell BK133.out 1).trans rfl; have hcz76_2 : w74.cell? ⟨gb133, 2, none⟩ = some (.int .i64 a0_2) := (blk_cell BK133.out 2).trans rfl; have hcz76_3 : w74.cell? ⟨gb133, 3, none⟩ = some (.bool false) := (blk_cell BK133.out 3).trans rfl; have hcz76_4 : w74.cell? ⟨gb133, 4, none⟩ = some (u134004) := (blk_cell BK133.out 4).trans rfl; have hfz76_0 := blk_frozen BK133.out 0; have hfz76_1 := blk_frozen BK133.out 1; have hfz76_2 := blk_frozen BK133.out 2; have hfz76_3 := blk_frozen BK133.out 3; have hfz76_4 := blk_frozen BK133.out 4)))
                              go_roundg kj31
                              case measure => have := HJ2.out; have := HJ16.out; have := HK3.out; have := HJ31.out; omega
                              case rel => exact ⟨(wrap64 (x7_3 + 1)), (y143), (.slice Ao75 y143.length co75), (by first | rfl | (simp; done) | (simp [*]; done)), H', ⟨by have := HJ2.out; have := HJ16.out; have := HK3.out; have := HJ31.out; omega⟩, ⟨by (with_reducible repeat (first | apply Kd.R_alloc | apply Kd.R_drewN | apply Kd.R_drew)); exact Kd.R_mono (Kd.R_far (p := ⟨gb133, 4, none⟩) (Kd.R_types HO_131004.out BK133.out (by decide)) (fun _ hk => hk.2) (.slice Ao75 y143.length co75)) (fun _ hk => ⟨hk.1.1.1, hk.1.2⟩)⟩, ⟨by (with_reducible repeat (first | apply Kd.R_alloc | apply Kd.R_drewN | apply Kd.R_drew)); exact Kd.R_mono (Kd.R_far (p := ⟨gb133, 4, none⟩) (Kd.R_types HO145.out BK133.out (by decide)) (fun _ hk => hk.2) (.slice Ao75 y143.length co75)) (fun _ hk => ⟨hk.1.1, hk.1.2.1⟩)⟩, ⟨by (with_reducible repeat (first | refine blk_drewN ?_ _ | refine blk_drew ?_ | refine blk_alloc ?_ _)); refine blk_far ?_ NB130_133.out _; (with_reducible repeat (first | refine blk_drewN ?_ _ | refine blk_drew ?_ | refine blk_alloc ?_ _)); exact BK130.out⟩, ⟨by (with_reducible repeat (first | refine blk_drewN ?_ _ | refine blk_drew ?_ | refine blk_alloc ?_ _)); refine blk_far ?_ NB131_133.out _; (with_reducible repeat (first | refine blk_drewN ?_ _ | refine blk_drew ?_ | refine blk_alloc ?_ _)); exact BK131.out⟩, ⟨by (with_reducible repeat (first | refine blk_drewN ?_ _ | refine blk_drew ?_ | refine blk_alloc ?_ _)); refine blk_put (cs := #[.int .i64 a0_0, .int .i64 a0_1, .int .i64 a0_2, .bool false, u134004]) ?_ 4 _ rfl; (with_reducible repeat (first | refine blk_drewN ?_ _ | refine blk_drew ?_ | refine blk_alloc ?_ _)); exact BK133.out⟩, ⟨by repeat (first | (with_reducible first | exact HK.out | apply Kept.alloc | apply Kept.drewN | apply Kept.drew | refine Kept.setCell ?_ (.inr GW130.out) _ | refine Kept.setCell ?_ (.inr GW131.out) _ | refine Kept.setCell ?_ (.inr GW133.out) _ | refine Kept.setCell ?_ (.inr GW142.out) _) | exact HK.out)⟩, ⟨by repeat (first | (with_reducible first | exact HB.out | apply below_alloc | apply pw_below_drewN | apply below_drew1 | refine below_set ?_ GE130.out | refine below_set ?_ GE131.out | refine below_set ?_ GE133.out | refine below_set ?_ GE142.out) | exact HB.out)⟩⟩
                            · rw [if_neg c64] at H
                              exact absurd H (by simp)
                          · rw [if_neg c63] at H
                            have c63b0 : decide ((wrap64 (((rd_T81 l0_4 x7_3).f1) + 1)) < a0_1) = false := decide_eq_false c63
                            clear c63
                            have H' := Aside0.mk H
                            clear H
                            have hnb77 := NB142_130.out
                            have hnc77 := NB130_142.out
                            have hnb78 := NB142_131.out
                            have hnc78 := NB131_142.out
                            have hnb79 := NB142_133.out
                            have hnc79 := NB133_142.out
                            have hcz80_0 : wc.cell? ⟨gb142, 0, none⟩ = some (.int .i64 ((rd_T81 l0_4 x7_3).f0)) := (blk_cell BK142.out 0).trans rfl
                            have hcz80_1 : wc.cell? ⟨gb142, 1, none⟩ = some (.int .i64 ((rd_T81 l0_4 x7_3).f1)) := (blk_cell BK142.out 1).trans rfl
                            have hfz80_0 := blk_frozen BK142.out 0
                            have hfz80_1 := blk_frozen BK142.out 1
                            have hnb81 := NB130_131.out
                            have hnc81 := NB131_130.out
                            have hnb82 := NB130_133.out
                            have hnc82 := NB133_130.out
                            have hcz83_0 : wc.cell? ⟨gb130, 0, none⟩ = some (.int .i64 a0_0) := (blk_cell BK130.out 0).trans rfl
                            have hcz83_1 : wc.cell? ⟨gb130, 1, none⟩ = some (.int .i64 a0_1) := (blk_cell BK130.out 1).trans rfl
                            have hcz83_2 : wc.cell? ⟨gb130, 2, none⟩ = some (.int .i64 a0_2) := (blk_cell BK130.out 2).trans rfl
                            have hcz83_3 : wc.cell? ⟨gb130, 3, none⟩ = some (.bool a0_3) := (blk_cell BK130.out 3).trans rfl
                            have hcz83_4 : wc.cell? ⟨gb130, 4, none⟩ = some (.slice (some ad141) l0_4.length co4) := (blk_cell BK130.out 4).trans rfl
                            have hfz83_0 := blk_frozen BK130.out 0
                            have hfz83_1 := blk_frozen BK130.out 1
                            have hfz83_2 := blk_frozen BK130.out 2
                            have hfz83_3 := blk_frozen BK130.out 3
                            have hfz83_4 := blk_frozen BK130.out 4
                            go_wp2
                            repeat (go_quiet (fail); try go_wp2)
                            go_roundg kj31
                            case measure => have := HJ2.out; have := HJ16.out; have := HK3.out; have := HJ31.out; omega
                            case rel => exact ⟨(wrap64 (x7_3 + 1)), (x134004_3), (u134004), (by first | rfl | (simp; done) | (simp [*]; done)), H', ⟨by have := HJ2.out; have := HJ16.out; have := HK3.out; have := HJ31.out; omega⟩, ⟨by (with_reducible repeat (first | apply Kd.R_alloc | apply Kd.R_drewN | apply Kd.R_drew)); exact Kd.R_mono (Kd.R_far (p := ⟨gb142, 1, none⟩) (Kd.R_mono HO_131004.out (fun k_ hk => (⟨hk, hk.2.2⟩ : _ ∧ k_ ≠ gb142))) (fun _ hk => hk.2) (.int .i64 (wrap64 (((rd_T81 l0_4 x7_3).f1) + 1)))) (fun _ hk => ⟨hk.1.1, hk.1.2.1⟩)⟩, ⟨by (with_reducible repeat (first | apply Kd.R_alloc | apply Kd.R_drewN | apply Kd.R_drew)); exact Kd.R_mono (Kd.R_far (p := ⟨gb142, 1, none⟩) (Kd.R_mono HO_134004.out (fun k_ hk => (⟨hk, hk.2.2⟩ : _ ∧ k_ ≠ gb142))) (fun _ hk => hk.2) (.int .i64 (wrap64 (((rd_T81 l0_4 x7_3).f1) + 1)))) (fun _ hk => ⟨hk.1.1, hk.1.2.1⟩)⟩, ⟨by (with_reducible repeat (first | refine blk_drewN ?_ _ | refine blk_drew ?_ | refine blk_alloc ?_ _)); refine blk_far ?_ NB130_142.out _; (with_reducible repeat (first | refine blk_drewN ?_ _ | refine blk_drew ?_ | refine blk_alloc ?_ _)); exact BK130.out⟩, ⟨by (with_reducible repeat (first | refine blk_drewN ?_ _ | refine blk_drew ?_ | refine blk_alloc ?_ _)); refine blk_far ?_ NB131_142.out _; (with_reducible repeat (first | refine blk_drewN ?_ _ | refine blk_drew ?_ | refine blk_alloc ?_ _)); exact BK131.out⟩, ⟨by (with_reducible repeat (first | refine blk_drewN ?_ _ | refine blk_drew ?_ | refine blk_alloc ?_ _)); refine blk_far ?_ NB133_142.out _; (with_reducible repeat (first | refine blk_drewN ?_ _ | refine blk_drew ?_ | refine blk_alloc ?_ _)); exact BK133.out⟩, ⟨by repeat (first | (with_reducible first | exact HK.out | apply Kept.alloc | apply Kept.drewN | apply Kept.drew | refine Kept.setCell ?_ (.inr GW130.out) _ | refine Kept.setCell ?_ (.inr GW131.out) _ | refine Kept.setCell ?_ (.inr GW133.out) _ | refine Kept.setCell ?_ (.inr GW142.out) _) | exact HK.out)⟩, ⟨by repeat (first | (with_reducible first | exact HB.out | apply below_alloc | apply pw_below_drewN | apply below_drew1 | refine below_set ?_ GE130.out | refine below_set ?_ GE131.out | refine below_set ?_ GE133.out | refine below_set ?_ GE142.out) | exact HB.out)⟩⟩
                        · replace c62 := Bool.eq_false_iff.mpr c62
                          subst c62
                          have H1 : (if ((rd_T81 l0_4 x7_3).f1) < a0_1 then (if x134004_3.length < 8796093022208 then (ontimeref31_State_Access.l0 kj31 a1 x5_16 (wrap64 (x7_3 + 1)) a0_0 a0_1 a0_2 a0_3 l0_4 a0_0 a0_1 a0_2 false (x134004_3 ++ [(⟨((rd_T81 l0_4 x7_3).f0), ((rd_T81 l0_4 x7_3).f1)⟩ : S81)])) else (none)) else (ontimeref31_State_Access.l0 kj31 a1 x5_16 (wrap64 (x7_3 + 1)) a0_0 a0_1 a0_2 a0_3 l0_4 a0_0 a0_1 a0_2 false x134004_3)) = some (r1, r2, r3, r4, r5) := by rw [if_neg (show ¬ (false = true) by decide)] at H; exact H
                          clear H
                          have H := H1
                          clear H1
                          by_cases c84 : ((rd_T81 l0_4 x7_3).f1) < a0_1
                          · rw [if_pos c84] at H
                            have c84b0 : decide (((rd_T81 l0_4 x7_3).f1) < a0_1) = true := decide_eq_true c84
                            clear c84
                            by_cases c85 : x134004_3.length < 8796093022208
                            · rw [if_pos c85] at H
                              have LMc85 := Aside0.mk c85
                              clear c85
                              obtain ⟨y146, hy146⟩ : ∃ y_ : List (S81), y_ = (x134004_3 ++ [(⟨((rd_T81 l0_4 x7_3).f0), ((rd_T81 l0_4 x7_3).f1)⟩ : S81)]) := ⟨_, rfl⟩
                              replace H : (ontimeref31_State_Access.l0 kj31 a1 x5_16 (wrap64 (x7_3 + 1)) a0_0 a0_1 a0_2 a0_3 l0_4 a0_0 a0_1 a0_2 false y146) = some (r1, r2, r3, r4, r5) := by first | (rw [hy146]; with_reducible exact H) | (have H2_ := (Option.bind_some _ _).symm.trans H; rw [hy146]; with_reducible exact H2_) | (have H2_ := (Option.bind_some _ _).symm.trans H; with_reducible exact H2_) | with_reducible exact H | (rw [hy146]; exact H) | exact H
                              have Ny146 := Aside0.mk hy146
                              clear hy146
                              have H' := Aside0.mk H
                              clear H
                              have hnb86 := NB142_130.out
                              have hnc86 := NB130_142.out
                              have hnb87 := NB142_131.out
                              have hnc87 := NB131_142.out
                              have hnb88 := NB142_133.out
                              have hnc88 := NB133_142.out
                              have hcz89_0 : wc.cell? ⟨gb142, 0, none⟩ = some (.int .i64 ((rd_T81 l0_4 x7_3).f0)) := (blk_cell BK142.out 0).trans rfl
                              have hcz89_1 : wc.cell? ⟨gb142, 1, none⟩ = some (.int .i64 ((rd_T81 l0_4 x7_3).f1)) := (blk_cell BK142.out 1).trans rfl
                              have hfz89_0 := blk_frozen BK142.out 0
                              have hfz89_1 := blk_frozen BK142.out 1
                              have hnb90 := NB130_131.out
                              have hnc90 := NB131_130.out
                              have hnb91 := NB130_133.out
                              have hnc91 := NB133_130.out
                              have hcz92_0 : wc.cell? ⟨gb130, 0, none⟩ = some (.int .i64 a0_0) := (blk_cell BK130.out 0).trans rfl
                              have hcz92_1 : wc.cell? ⟨gb130, 1, none⟩ = some (.int .i64 a0_1) := (blk_cell BK130.out 1).trans rfl
                              have hcz92_2 : wc.cell? ⟨gb130, 2, none⟩ = some (.int .i64 a0_2) := (blk_cell BK130.out 2).trans rfl
                              have hcz92_3 : wc.cell? ⟨gb130, 3, none⟩ = some (.bool a0_3) := (blk_cell BK130.out 3).trans rfl
                              have hcz92_4 : wc.cell? ⟨gb130, 4, none⟩ = some (.slice (some ad141) l0_4.length co4) := (blk_cell BK130.out 4).trans rfl
                              have hfz92_0 := blk_frozen BK130.out 0
                              have hfz92_1 := blk_frozen BK130.out 1
                              have hfz92_2 := blk_frozen BK130.out 2
                              have hfz92_3 := blk_frozen BK130.out 3
                              have hfz92_4 := blk_frozen BK130.out 4
                              have hnb93 := NB133_131.out
                              have hnc93 := NB131_133.out
                              have hcz94_0 : wc.cell? ⟨gb133, 0, none⟩ = some (.int .i64 a0_0) := (blk_cell BK133.out 0).trans rfl
                              have hcz94_1 : wc.cell? ⟨gb133, 1, none⟩ = some (.int .i64 a0_1) := (blk_cell BK133.out 1).trans rfl
                              have hcz94_2 : wc.cell? ⟨gb133, 2, none⟩ = some (.int .i64 a0_2) := (blk_cell BK133.out 2).trans rfl
                              have hcz94_3 : wc.cell? ⟨gb133, 3, none⟩ = some (.bool false) := (blk_cell BK133.out 3).trans rfl
                              have hcz94_4 : wc.cell? ⟨gb133, 4, none⟩ = some (u134004) := (blk_cell BK133.out 4).trans rfl
                              have hfz94_0 := blk_frozen BK133.out 0
                              have hfz94_1 := blk_frozen BK133.out 1
                              have hfz94_2 := blk_frozen BK133.out 2
                              have hfz94_3 := blk_frozen BK133.out 3
                              have hfz94_4 := blk_frozen BK133.out 4
                              go_wp2_with (first | ((with_reducible refine gate_builtin (b := .append) (xs := #[.tmp 74, .tmp 76]) rfl ?_); at_builtin; refine Kd.R_append k81 (w0 := w0) w0.heap.size rfl (.tmp 74) (.tmp 76) 32 81 (.agg #[(.int .i64 0), (.int .i64 0)]) 16 rfl Try.underlying32 info81 rfl (by decide) (by omega) u134004 x134004_3 (⟨((rd_T81 l0_4 x7_3).f0), ((rd_T81 l0_4 x7_3).f1)⟩ : S81) [.int .i64 ((rd_T81 l0_4 x7_3).f0), .int .i64 ((rd_T81 l0_4 x7_3).f1)] (fun k_ => (P0_4_ k_ ∨ w.heap.size ≤ k_) ∧ some k_ ≠ (.slice (some ad141) l0_4.length co4 : Value).ownBlock ∧ k_ ≠ gb142) (fun _ => False) rfl rfl ?aP (fun _ hk => hk.elim) ?aF ?aO ?aB ?aS ?aL ?_; (case aP => exact k81_mkM _ _ _ (⟨((rd_T81 l0_4 x7_3).f0), ((rd_T81 l0_4 x7_3).f1)⟩ : S81)); (case aB => exact (by repeat (first | (with_reducible first | exact HB.out | apply below_alloc | apply pw_below_drewN | apply below_drew1 | refine below_set ?_ GE130.out | refine below_set ?_ GE131.out | refine below_set ?_ GE133.out | refine below_set ?_ GE142.out) | exact HB.out))); (case aF => exact (fun k_ hk => ⟨(.inr (Nat.le_trans (by first | exact HK.out.1 | exact (show Kept w _ (fun k_ => P0_4_ k_) from by repeat (first | (with_reducible first | exact HK.out | apply Kept.alloc | apply Kept.drewN | apply Kept.drew | refine Kept.setCell ?_ (.inr GW130.out) _ | refine Kept.setCell ?_ (.inr GW131.out) _ | refine Kept.setCell ?_ (.inr GW133.out) _ | refine Kept.setCell ?_ (.inr GW142.out) _) | exact HK.out)).1) hk)), Kd.fresh' (Kd.R_lt (by (with_reducible repeat (first | apply Kd.R_alloc | apply Kd.R_drewN | apply Kd.R_drew)); exact HO_131004.out)) k_ hk, Kd.freshB (g := gb142) (o := .cells #[.int .i64 ((rd_T81 l0_4 x7_3).f0), .int .i64 ((rd_T81 l0_4 x7_3).f1)] 81 (0, 0)) (by (with_reducible repeat (first | refine blk_drewN ?_ _ | refine blk_drew ?_ | refine blk_alloc ?_ _)); exact BK142.out) k_ hk⟩)); (case aO => exact (by (with_reducible repeat (first | apply Kd.R_alloc | apply Kd.R_drewN | apply Kd.R_drew)); exact HO_134004.out)); (case aS => exact (below_size (by repeat (first | (with_reducible first | exact HB.out | apply below_alloc | apply pw_below_drewN | apply below_drew1 | refine below_set ?_ GE130.out | refine below_set ?_ GE131.out | refine below_set ?_ GE133.out | refine below_set ?_ GE142.out) | exact HB.out)))); (case aL => have := LMc85.out; omega); intro v147 w95 ho hb hg hat; rw [← Ny146.out] at ho; have n0_ := Aside0.mk (Kd.R_after (ok := (fun k_ => (P0_4_ k_ ∨ w.heap.size ≤ k_) ∧ k_ ≠ gb142)) (by (with_reducible repeat (first | apply Kd.R_alloc | apply Kd.R_drewN | apply Kd.R_drew)); exact Kd.R_mono HO_131004.out (fun _ hk => ⟨⟨hk.1, hk.2.2⟩, hk.2.1⟩)) hg hat); have n1_ := Aside0.mk (blk_grown (g := gb130) (o := .cells #[.int .i64 a0_0, .int .i64 a0_1, .int .i64 a0_2, .bool a0_3, .slice (some ad141) l0_4.length co4] 34 (0, 0)) (by (with_reducible repeat (first | refine blk_drewN ?_ _ | refine blk_drew ?_ | refine blk_alloc ?_ _)); exact BK130.out) hg (Kd.R_ne HO_134004.out BK130.out (by decide))); have n2_ := Aside0.mk (blk_grown (g := gb131) (o := .cells #[.int .i64 0, .int .i64 0, .int .i64 0, .bool false, .slice none 0 0] 34 (0, 0)) (by (with_reducible repeat (first | refine blk_drewN ?_ _ | refine blk_drew ?_ | refine blk_alloc ?_ _)); exact BK131.out) hg (Kd.R_ne HO_134004.out BK131.out (by decide))); have n3_ := Aside0.mk (blk_grown (g := gb133) (o := .cells #[.int .i64 a0_0, .int .i64 a0_1, .int .i64 a0_2, .bool false, u134004] 34 (0, 0)) (by (with_reducible repeat (first | refine blk_drewN ?_ _ | refine blk_drew ?_ | refine blk_alloc ?_ _)); exact BK133.out) hg (Kd.R_ne HO_134004.out BK133.out (by decide))); have n4_ := Aside0.mk (blk_grown (g := gb142) (o := .cells #[.int .i64 ((rd_T81 l0_4 x7_3).f0), .int .i64 ((rd_T81 l0_4 x7_3).f1)] 81 (0, 0)) (by (with_reducible repeat (first | refine blk_drewN ?_ _ | refine blk_drew ?_ | refine blk_alloc ?_ _)); exact BK142.out) hg (Kd.R_away HO_134004.out (fun _ hk => hk.2.2))); have n5_ := Aside0.mk (hb); have n6_ := Aside0.mk (Kept.of_grown (S := (fun k_ => P0_4_ k_)) hg (by repeat (first | (with_reducible first | exact HK.out | apply Kept.alloc | apply Kept.drewN | apply Kept.drew | refine Kept.setCell ?_ (.inr GW130.out) _ | refine Kept.setCell ?_ (.inr GW131.out) _ | refine Kept.setCell ?_ (.inr GW133.out) _ | refine Kept.setCell ?_ (.inr GW142.out) _) | exact HK.out)) (fun k_ e_ => (HO_134004.out.1 k_ e_).1)); have n7_ := Aside0.mk (ho); clear HO_131004; clear BK130; clear BK131; clear BK133; clear BK142; clear HB; clear HK; clear HO_134004; have HO_131004 := n0_; have BK130 := n1_; have BK131 := n2_; have BK133 := n3_; have BK142 := n4_; have HB := n5_; have HK := n6_; have HO148 := n7_; clear n0_ n1_ n2_ n3_ n4_ n5_ n6_ n7_; clear ho hb hg hat; obtain ⟨Ao96, co96, eo96⟩ := Kd.R_slice HO148.out; subst eo96; have hcz97_0 : w95.cell? ⟨gb133, 0, none⟩ = some (.int .i64 a0_0) := (blk_cell BK133.out 0).trans rfl; have hcz97_1 : w95.cell? ⟨gb133, 1, none⟩ = some (.int .i64 a0_1) := (blk_cell BK133.out 1).trans rfl; have hcz97_2 : w95.cell? ⟨gb133, 2, none⟩ = some (.int .i64 a0_2) := (blk_cell BK133.out 2).trans rfl; have hcz97_3 : w95.cell? ⟨gb133, 3, none⟩ = some (.bool false) := (blk_cell BK133.out 3).trans rfl; have hcz97_4 : w95.cell? ⟨gb133, 4, none⟩ = some (u134004) := (blk_cell BK133.out 4).trans rfl; have hfz97_0 := blk_frozen BK133.out 0; have hfz97_1 := blk_frozen BK133.out 1; have hfz97_2 := blk_frozen BK133.out 2; have hfz97_3 := blk_frozen BK133.out 3; have hfz97_4 := blk_frozen BK133.out 4))
                              repeat (go_quiet (first | ((with_reducible refine gate_builtin (b := .append) (xs := #[.tmp 74, .tmp 76]) rfl ?_); at_builtin; refine Kd.R_append k81 (w0 := w0) w0.heap.size rfl (.tmp 74) (.tmp 76) 32 81 (.agg #[(.int .i64 0), (.int .i64 0)]) 16 rfl Try.underlying32 info81 rfl (by decide) (by omega) u134004 x134004_3 (⟨((rd_T81 l0_4 x7_3).f0), ((rd_T81 l0_4 x7_3).f1)⟩ : S81) [.int .i64 ((rd_T81 l0_4 x7_3).f0), .int .i64 ((rd_T81 l0_4 x7_3).f1)] (fun k_ => (P0_4_ k_ ∨ w.heap.size ≤ k_) ∧ some k_ ≠ (.slice (some ad141) l0_4.length co4 : Value).ownBlock ∧ k_ ≠ gb142) (fun _ => False) rfl rfl ?aP (fun _ hk => hk.elim) ?aF ?aO ?aB ?aS ?aL ?_; (case aP => exact k81_mkM _ _ _ (⟨((rd_T81 l0_4 x7_3).f0), ((rd_T81 l0_4 x7_3).f1)⟩ : S81)); (case aB => exact (by repeat (first | (with_reducible first | exact HB.out | apply below_alloc | apply pw_below_drewN | apply below_drew1 | refine below_set ?_ GE130.out | refine below_set ?_ GE131.out | refine below_set ?_ GE133.out | refine below_set ?_ GE142.out) | exact HB.out))); (case aF => exact (fun k_ hk => ⟨(.inr (Nat.le_trans (by first | exact HK.out.1 | exact (show Kept w _ (fun k_ => P0_4_ k_) from by repeat (first | (with_reducible first | exact HK.out | apply Kept.alloc | apply Kept.drewN | apply Kept.drew | refine Kept.setCell ?_ (.inr GW130.out) _ | refine Kept.setCell ?_ (.inr GW131.out) _ | refine Kept.setCell ?_ (.inr GW133.out) _ | refine Kept.setCell ?_ (.inr GW142.out) _) | exact HK.out)).1) hk)), Kd.fresh' (Kd.R_lt (by (with_reducible repeat (first | apply Kd.R_alloc | apply Kd.R_drewN | apply Kd.R_drew)); exact HO_131004.out)) k_ hk, Kd.freshB (g := gb142) (o := .cells #[.int .i64 ((rd_T81 l0_4 x7_3).f0), .int .i64 ((rd_T81 l0_4 x7_3).f1)] 81 (0, 0)) (by (with_reducible repeat (first | refine blk_drewN ?_ _ | refine blk_drew ?_ | refine blk_alloc ?_ _)); exact BK142.out) k_ hk⟩)); (case aO => exact (by (with_reducible repeat (first | apply Kd.R_alloc | apply Kd.R_drewN | apply Kd.R_drew)); exact HO_134004.out)); (case aS => exact (below_size (by repeat (first | (with_reducible first | exact HB.out | apply below_alloc | apply pw_below_drewN | apply below_drew1 | refine below_set ?_ GE130.out | refine below_set ?_ GE131.out | refine below_set ?_ GE133.out | refine below_set ?_ GE142.out) | exact HB.out)))); (case aL => have := LMc85.out; omega); intro v147 w95 ho hb hg hat; rw [← Ny146.out] at ho; have n0_ := Aside0.mk (Kd.R_after (ok := (fun k_ => (P0_4_ k_ ∨ w.heap.size ≤ k_) ∧ k_ ≠ gb142)) (by (with_reducible repeat (first | apply Kd.R_alloc | apply Kd.R_drewN | apply Kd.R_drew)); exact Kd.R_mono HO_131004.out (fun _ hk => ⟨⟨hk.1, hk.2.2⟩, hk.2.1⟩)) hg hat); have n1_ := Aside0.mk (blk_grown (g := gb130) (o := .cells #[.int .i64 a0_0, .int .i64 a0_1, .int .i64 a0_2, .bool a0_3, .slice (some ad141) l0_4.length co4] 34 (0, 0)) (by (with_reducible repeat (first | refine blk_drewN ?_ _ | refine blk_drew ?_ | refine blk_alloc ?_ _)); exact BK130.out) hg (Kd.R_ne HO_134004.out BK130.out (by decide))); have n2_ := Aside0.mk (blk_grown (g := gb131) (o := .cells #[.int .i64 0, .int .i64 0, .int .i64 0, .bool false, .slice none 0 0] 34 (0, 0)) (by (with_reducible repeat (first | refine blk_drewN ?_ _ | refine blk_drew ?_ | refine blk_alloc ?_ _)); exact BK131.out) hg (Kd.R_ne HO_134004.out BK131.out (by decide))); have n3_ := Aside0.mk (blk_grown (g := gb133) (o := .cells #[.int .i64 a0_0, .int .i64 a0_1, .int .i64 a0_2, .bool false, u134004] 34 (0, 0)) (by (with_reducible repeat (first | refine blk_drewN ?_ _ | refine blk_drew ?_ | refine blk_alloc ?_ _)); exact BK133.out) hg (Kd.R_ne HO_134004.out BK133.out (by decide))); have n4_ := Aside0.mk (blk_grown (g := gb142) (o := .cells #[.int .i64 ((rd_T81 l0_4 x7_3).f0), .int .i64 ((rd_T81 l0_4 x7_3).f1)] 81 (0, 0)) (by (with_reducible repeat (first | refine blk_drewN ?_ _ | refine blk_drew ?_ | refine blk_alloc ?_ _)); exact BK142.out) hg (Kd.R_away HO_134004.out (fun _ hk => hk.2.2))); have n5_ := Aside0.mk (hb); have n6_ := Aside0.mk (Kept.of_grown (S := (fun k_ => P0_4_ k_)) hg (by repeat (first | (with_reducible first | exact HK.out | apply Kept.alloc | apply Kept.drewN | apply Kept.drew | refine Kept.setCell ?_ (.inr GW130.out) _ | refine Kept.setCell ?_ (.inr GW131.out) _ | refine Kept.setCell ?_ (.inr GW133.out) _ | refine Kept.setCell ?_ (.inr GW142.out) _) | exact HK.out)) (fun k_ e_ => (HO_134004.out.1 k_ e_).1)); have n7_ := Aside0.mk (ho); clear HO_131004; clear BK130; clear BK131; clear BK133; clear BK142; clear HB; clear HK; clear HO_134004; have HO_131004 := n0_; have BK130 := n1_; have BK131 := n2_; have BK133 := n3_; have BK142 := n4_; have HB := n5_; have HK := n6_; have HO148 := n7_; clear n0_ n1_ n2_ n3_ n4_ n5_ n6_ n7_; clear ho hb hg hat; obtain ⟨Ao96, co96, eo96⟩ := Kd.R_slice HO148.out; subst eo96; have hcz97_0 : w95.cell? ⟨gb133, 0, none⟩ = some (.int .i64 a0_0) := (blk_cell BK133.out 0).trans rfl; have hcz97_1 : w95.cell? ⟨gb133, 1, none⟩ = some (.int .i64 a0_1) := (blk_cell BK133.out 1).trans rfl; have hcz97_2 : w95.cell? ⟨gb133, 2, none⟩ = some (.int .i64 a0_2) := (blk_cell BK133.out 2).trans rfl; have hcz97_3 : w95.cell? ⟨gb133, 3, none⟩ = some (.bool false) := (blk_cell BK133.out 3).trans rfl; have hcz97_4 : w95.cell? ⟨gb133, 4, none⟩ = some (u134004) := (blk_cell BK133.out 4).trans rfl; have hfz97_0 := blk_frozen BK133.out 0; have hfz97_1 := blk_frozen BK133.out 1; have hfz97_2 := blk_frozen BK133.out 2; have hfz97_3 := blk_frozen BK133.out 3; have hfz97_4 := blk_frozen BK133.out 4)); try go_wp2_with (first | ((with_reducible refine gate_builtin (b := .append) (xs := #[.tmp 74, .tmp 76]) rfl ?_); at_builtin; refine Kd.R_append k81 (w0 := w0) w0.heap.size rfl (.tmp 74) (.tmp 76) 32 81 (.agg #[(.int .i64 0), (.int .i64 0)]) 16 rfl Try.underlying32 info81 rfl (by decide) (by omega) u134004 x134004_3 (⟨((rd_T81 l0_4 x7_3).f0), ((rd_T81 l0_4 x7_3).f1)⟩ : S81) [.int .i64 ((rd_T81 l0_4 x7_3).f0), .int .i64 ((rd_T81 l0_4 x7_3).f1)] (fun k_ => (P0_4_ k_ ∨ w.heap.size ≤ k_) ∧ some k_ ≠ (.slice (some ad141) l0_4.length co4 : Value).ownBlock ∧ k_ ≠ gb142) (fun _ => False) rfl rfl ?aP (fun _ hk => hk.elim) ?aF ?aO ?aB ?aS ?aL ?_; (case aP => exact k81_mkM _ _ _ (⟨((rd_T81 l0_4 x7_3).f0), ((rd_T81 l0_4 x7_3).f1)⟩ : S81)); (case aB => exact (by repeat (first | (with_reducible first | exact HB.out | apply below_alloc | apply pw_below_drewN | apply below_drew1 | refine below_set ?_ GE130.out | refine below_set ?_ GE131.out | refine below_set ?_ GE133.out | refine below_set ?_ GE142.out) | exact HB.out))); (case aF => exact (fun k_ hk => ⟨(.inr (Nat.le_trans (by first | exact HK.out.1 | exact (show Kept w _ (fun k_ => P0_4_ k_) from by repeat (first | (with_reducible first | exact HK.out | apply Kept.alloc | apply Kept.drewN | apply Kept.drew | refine Kept.setCell ?_ (.inr GW130.out) _ | refine Kept.setCell ?_ (.inr GW131.out) _ | refine Kept.setCell ?_ (.inr GW133.out) _ | refine Kept.setCell ?_ (.inr GW142.out) _) | exact HK.out)).1) hk)), Kd.fresh' (Kd.R_lt (by (with_reducible repeat (first | apply Kd.R_alloc | apply Kd.R_drewN | apply Kd.R_drew)); exact HO_131004.out)) k_ hk, Kd.freshB (g := gb142) (o := .cells #[.int .i64 ((rd_T81 l0_4 x7_3).f0), .int .i64 ((rd_T81 l0_4 x7_3).f1)] 81 (0, 0)) (by (with_reducible repeat (first | refine blk_drewN ?_ _ | refine blk_drew ?_ | refine blk_alloc ?_ _)); exact BK142.out) k_ hk⟩)); (case aO => exact (by (with_reducible repeat (first | apply Kd.R_alloc | apply Kd.R_drewN | apply Kd.R_drew)); exact HO_134004.out)); (case aS => exact (below_size (by repeat (first | (with_reducible first | exact HB.out | apply below_alloc | apply pw_below_drewN | apply below_drew1 | refine below_set ?_ GE130.out | refine below_set ?_ GE131.out | refine below_set ?_ GE133.out | refine below_set ?_ GE142.out) | exact HB.out)))); (case aL => have := LMc85.out; omega); intro v147 w95 ho hb hg hat; rw [← Ny146.out] at ho; have n0_ := Aside0.mk (Kd.R_after (ok := (fun k_ => (P0_4_ k_ ∨ w.heap.size ≤ k_) ∧ k_ ≠ gb142)) (by (with_reducible repeat (first | apply Kd.R_alloc | apply Kd.R_drewN | apply Kd.R_drew)); exact Kd.R_mono HO_131004.out (fun _ hk => ⟨⟨hk.1, hk.2.2⟩, hk.2.1⟩)) hg hat); have n1_ := Aside0.mk (blk_grown (g := gb130) (o := .cells #[.int .i64 a0_0, .int .i64 a0_1, .int .i64 a0_2, .bool a0_3, .slice (some ad141) l0_4.length co4] 34 (0, 0)) (by (with_reducible repeat (first | refine blk_drewN ?_ _ | refine blk_drew ?_ | refine blk_alloc ?_ _)); exact BK130.out) hg (Kd.R_ne HO_134004.out BK130.out (by decide))); have n2_ := Aside0.mk (blk_grown (g := gb131) (o := .cells #[.int .i64 0, .int .i64 0, .int .i64 0, .bool false, .slice none 0 0] 34 (0, 0)) (by (with_reducible repeat (first | refine blk_drewN ?_ _ | refine blk_drew ?_ | refine blk_alloc ?_ _)); exact BK131.out) hg (Kd.R_ne HO_134004.out BK131.out (by decide))); have n3_ := Aside0.mk (blk_grown (g := gb133) (o := .cells #[.int .i64 a0_0, .int .i64 a0_1, .int .i64 a0_2, .bool false, u134004] 34 (0, 0)) (by (with_reducible repeat (first | refine blk_drewN ?_ _ | refine blk_drew ?_ | refine blk_alloc ?_ _)); exact BK133.out) hg (Kd.R_ne HO_134004.out BK133.out (by decide))); have n4_ := Aside0.mk (blk_grown (g := gb142) (o := .cells #[.int .i64 ((rd_T81 l0_4 x7_3).f0), .int .i64 ((rd_T81 l0_4 x7_3).f1)] 81 (0, 0)) (by (with_reducible repeat (first | refine blk_drewN ?_ _ | refine blk_drew ?_ | refine blk_alloc ?_ _)); exact BK142.out) hg (Kd.R_away HO_134004.out (fun _ hk => hk.2.2))); have n5_ := Aside0.mk (hb); have n6_ := Aside0.mk (Kept.of_grown (S := (fun k_ => P0_4_ k_)) hg (by repeat (first | (with_reducible first | exact HK.out | apply Kept.alloc | apply Kept.drewN | apply Kept.drew | refine Kept.setCell ?_ (.inr GW130.out) _ | refine Kept.setCell ?_ (.inr GW131.out) _ | refine Kept.setCell ?_ (.inr GW133.out) _ | refine Kept.setCell ?_ (.inr GW142.out) _) | exact HK.out)) (fun k_ e_ => (HO_134004.out.1 k_ e_).1)); have n7_ := Aside0.mk (ho); clear HO_131004; clear BK130; clear BK131; clear BK133; clear BK142; clear HB; clear HK; clear HO_134004; have HO_131004 := n0_; have BK130 := n1_; have BK131 := n2_; have BK133 := n3_; have BK142 := n4_; have HB := n5_; have HK := n6_; have HO148 := n7_; clear n0_ n1_ n2_ n3_ n4_ n5_ n6_ n7_; clear ho hb hg hat; obtain ⟨Ao96, co96, eo96⟩ := Kd.R_slice HO148.out; subst eo96; have hcz97_0 : w95.cell? ⟨gb133, 0, none⟩ = some (.int .i64 a0_0) := (blk_cell BK133.out 0).trans rfl; have hcz97_1 : w95.cell? ⟨gb133, 1, none⟩ = some (.int .i64 a0_1) := (blk_cell BK133.out 1).trans rfl; have hcz97_2 : w95.cell? ⟨gb133, 2, none⟩ = some (.int .i64 a0_2) := (blk_cell BK133.out 2).trans rfl; have hcz97_3 : w95.cell? ⟨gb133, 3, none⟩ = some (.bool false) := (blk_cell BK133.out 3).trans rfl; have hcz97_4 : w95.cell? ⟨gb133, 4, none⟩ = some (u134004) := (blk_cell BK133.out 4).trans rfl; have hfz97_0 := blk_frozen BK133.out 0; have hfz97_1 := blk_frozen BK133.out 1; have hfz97_2 := blk_frozen BK133.out 2; have hfz97_3 := blk_frozen BK133.out 3; have hfz97_4 := blk_frozen BK133.out 4)))
                              go_roundg kj31
                              case measure => have := HJ2.out; have := HJ16.out; have := HK3.out; have := HJ31.out; omega
                              case rel => exact ⟨(wrap64 (x7_3 + 1)), (y146), (.slice Ao96 y146.length co96), (by first | rfl | (simp; done) | (simp [*]; done)), H', ⟨by have := HJ2.out; have := HJ16.out; have := HK3.out; have := HJ31.out; omega⟩, ⟨by (with_reducible repeat (first | apply Kd.R_alloc | apply Kd.R_drewN | apply Kd.R_drew)); exact Kd.R_mono (Kd.R_far (p := ⟨gb133, 4, none⟩) (Kd.R_types HO_131004.out BK133.out (by decide)) (fun _ hk => hk.2) (.slice Ao96 y146.length co96)) (fun _ hk => ⟨hk.1.1.1, hk.1.2⟩)⟩, ⟨by (with_reducible repeat (first | apply Kd.R_alloc | apply Kd.R_drewN | apply Kd.R_drew)); exact Kd.R_mono (Kd.R_far (p := ⟨gb133, 4, none⟩) (Kd.R_types HO148.out BK133.out (by decide)) (fun _ hk => hk.2) (.slice Ao96 y146.length co96)) (fun _ hk => ⟨hk.1.1, hk.1.2.1⟩)⟩, ⟨by (with_reducible repeat (first | refine blk_drewN ?_ _ | refine blk_drew ?_ | refine blk_alloc ?_ _)); refine blk_far ?_ NB130_133.out _; (with_reducible repeat (first | refine blk_drewN ?_ _ | refine blk_drew ?_ | refine blk_alloc ?_ _)); exact BK130.out⟩, ⟨by (with_reducible repeat (first | refine blk_drewN ?_ _ | refine blk_drew ?_ | refine blk_alloc ?_ _)); refine blk_far ?_ NB131_133.out _; (with_reducible repeat (first | refine blk_drewN ?_ _ | refine blk_drew ?_ | refine blk_alloc ?_ _)); exact BK131.out⟩, ⟨by (with_reducible repeat (first | refine blk_drewN ?_ _ | refine blk_drew ?_ | refine blk_alloc ?_ _)); refine blk_put (cs := #[.int .i64 a0_0, .int .i64 a0_1, .int .i64 a0_2, .bool false, u134004]) ?_ 4 _ rfl; (with_reducible repeat (first | refine blk_drewN ?_ _ | refine blk_drew ?_ | refine blk_alloc ?_ _)); exact BK133.out⟩, ⟨by repeat (first | (with_reducible first | exact HK.out | apply Kept.alloc | apply Kept.drewN | apply Kept.drew | refine Kept.setCell ?_ (.inr GW130.out) _ | refine Kept.setCell ?_ (.inr GW131.out) _ | refine Kept.setCell ?_ (.inr GW133.out) _ | refine Kept.setCell ?_ (.inr GW142.out) _) | exact HK.out)⟩, ⟨by repeat (first | (with_reducible first | exact HB.out | apply below_alloc | apply pw_below_drewN | apply below_drew1 | refine below_set ?_ GE130.out | refine below_set ?_ GE131.out | refine below_set ?_ GE133.out | refine below_set ?_ GE142.out) | exact HB.out)⟩⟩
                            · rw [if_neg c85] at H
                              exact absurd H (by simp)
                          · rw [if_neg c84] at H
                            have c84b0 : decide (((rd_T81 l0_4 x7_3).f1) < a0_1) = false := decide_eq_false c84
                            clear c84
                            have H' := Aside0.mk H
                            clear H
                            have hnb98 := NB142_130.out
                            have hnc98 := NB130_142.out
                            have hnb99 := NB142_131.out
                            have hnc99 := NB131_142.out
                            have hnb100 := NB142_133.out
                            have hnc100 := NB133_142.out
                            have hcz101_0 : wc.cell? ⟨gb142, 0, none⟩ = some (.int .i64 ((rd_T81 l0_4 x7_3).f0)) := (blk_cell BK142.out 0).trans rfl
                            have hcz101_1 : wc.cell? ⟨gb142, 1, none⟩ = some (.int .i64 ((rd_T81 l0_4 x7_3).f1)) := (blk_cell BK142.out 1).trans rfl
                            have hfz101_0 := blk_frozen BK142.out 0
                            have hfz101_1 := blk_frozen BK142.out 1
                            have hnb102 := NB130_131.out
                            have hnc102 := NB131_130.out
                            have hnb103 := NB130_133.out
                            have hnc103 := NB133_130.out
                            have hcz104_0 : wc.cell? ⟨gb130, 0, none⟩ = some (.int .i64 a0_0) := (blk_cell BK130.out 0).trans rfl
                            have hcz104_1 : wc.cell? ⟨gb130, 1, none⟩ = some (.int .i64 a0_1) := (blk_cell BK130.out 1).trans rfl
                            have hcz104_2 : wc.cell? ⟨gb130, 2, none⟩ = some (.int .i64 a0_2) := (blk_cell BK130.out 2).trans rfl
                            have hcz104_3 : wc.cell? ⟨gb130, 3, none⟩ = some (.bool a0_3) := (blk_cell BK130.out 3).trans rfl
                            have hcz104_4 : wc.cell? ⟨gb130, 4, none⟩ = some (.slice (some ad141) l0_4.length co4) := (blk_cell BK130.out 4).trans rfl
                            have hfz104_0 := blk_frozen BK130.out 0
                            have hfz104_1 := blk_frozen BK130.out 1
                            have hfz104_2 := blk_frozen BK130.out 2
                            have hfz104_3 := blk_frozen BK130.out 3
                            have hfz104_4 := blk_frozen BK130.out 4
                            go_wp2
                            repeat (go_quiet (fail); try go_wp2)
                            go_roundg kj31
                            case measure => have := HJ2.out; have := HJ16.out; have := HK3.out; have := HJ31.out; omega
                            case rel => exact ⟨(wrap64 (x7_3 + 1)), (x134004_3), (u134004), (by first | rfl | (simp; done) | (simp [*]; done)), H', ⟨by have := HJ2.out; have := HJ16.out; have := HK3.out; have := HJ31.out; omega⟩, ⟨by (with_reducible repeat (first | apply Kd.R_alloc | apply Kd.R_drewN | apply Kd.R_drew)); exact Kd.R_mono HO_131004.out (fun _ hk => ⟨hk.1, hk.2.1⟩)⟩, ⟨by (with_reducible repeat (first | apply Kd.R_alloc | apply Kd.R_drewN | apply Kd.R_drew)); exact Kd.R_mono HO_134004.out (fun _ hk => ⟨hk.1, hk.2.1⟩)⟩, ⟨by (with_reducible repeat (first | refine blk_drewN ?_ _ | refine blk_drew ?_ | refine blk_alloc ?_ _)); exact BK130.out⟩, ⟨by (with_reducible repeat (first | refine blk_drewN ?_ _ | refine blk_drew ?_ | refine blk_alloc ?_ _)); exact BK131.out⟩, ⟨by (with_reducible repeat (first | refine blk_drewN ?_ _ | refine blk_drew ?_ | refine blk_alloc ?_ _)); exact BK133.out⟩, ⟨by repeat (first | (with_reducible first | exact HK.out | apply Kept.alloc | apply Kept.drewN | apply Kept.drew | refine Kept.setCell ?_ (.inr GW130.out) _ | refine Kept.setCell ?_ (.inr GW131.out) _ | refine Kept.setCell ?_ (.inr GW133.out) _ | refine Kept.setCell ?_ (.inr GW142.out) _) | exact HK.out)⟩, ⟨by repeat (first | (with_reducible first | exact HB.out | apply below_alloc | apply pw_below_drewN | apply below_drew1 | refine below_set ?_ GE130.out | refine below_set ?_ GE131.out | refine below_set ?_ GE133.out | refine below_set ?_ GE142.out) | exact HB.out)⟩⟩
                  · rw [if_neg c31] at H
                    exact absurd H (by simp)
                · rw [if_neg c30] at H
                  have c30b0 : decide (x7_3 < (l0_4.length : Int)) = false := decide_eq_false c30
                  clear c30
                  replace H := Option.bind_eq_some_iff.mp H
                  obtain ⟨⟨t134, t135, t136, t137, t138⟩, A1050, H⟩ := H
                  replace H : (some (t134, t135, t136, t137, t138)) = some (r1, r2, r3, r4, r5) := H
                  have A105 := Aside0.mk A1050
                  clear A1050
                  simp only [Option.some.injEq, Prod.mk.injEq] at H
                  obtain ⟨rfl, rfl, rfl, rfl, rfl⟩ := H
                  have hnb106 := NB130_131.out
                  have hnc106 := NB131_130.out
                  have hnb107 := NB130_133.out
                  have hnc107 := NB133_130.out
                  have hcz108_0 : wr.cell? ⟨gb130, 0, none⟩ = some (.int .i64 a0_0) := (blk_cell BK130.out 0).trans rfl
                  have hcz108_1 : wr.cell? ⟨gb130, 1, none⟩ = some (.int .i64 a0_1) := (blk_cell BK130.out 1).trans rfl
                  have hcz108_2 : wr.cell? ⟨gb130, 2, none⟩ = some (.int .i64 a0_2) := (blk_cell BK130.out 2).trans rfl
                  have hcz108_3 : wr.cell? ⟨gb130, 3, none⟩ = some (.bool a0_3) := (blk_cell BK130.out 3).trans rfl
                  have hcz108_4 : wr.cell? ⟨gb130, 4, none⟩ = some (.slice Ao4 l0_4.length co4) := (blk_cell BK130.out 4).trans rfl
                  have hfz108_0 := blk_frozen BK130.out 0
                  have hfz108_1 := blk_frozen BK130.out 1
                  have hfz108_2 := blk_frozen BK130.out 2
                  have hfz108_3 := blk_frozen BK130.out 3
                  have hfz108_4 := blk_frozen BK130.out 4
                  have hnb109 := NB133_131.out
                  have hnc109 := NB131_133.out
                  have hcz110_0 : wr.cell? ⟨gb133, 0, none⟩ = some (.int .i64 a0_0) := (blk_cell BK133.out 0).trans rfl
                  have hcz110_1 : wr.cell? ⟨gb133, 1, none⟩ = some (.int .i64 a0_1) := (blk_cell BK133.out 1).trans rfl
                  have hcz110_2 : wr.cell? ⟨gb133, 2, none⟩ = some (.int .i64 a0_2) := (blk_cell BK133.out 2).trans rfl
                  have hcz110_3 : wr.cell? ⟨gb133, 3, none⟩ = some (.bool false) := (blk_cell BK133.out 3).trans rfl
                  have hcz110_4 : wr.cell? ⟨gb133, 4, none⟩ = some (u134004) := (blk_cell BK133.out 4).trans rfl
                  have hfz110_0 := blk_frozen BK133.out 0
                  have hfz110_1 := blk_frozen BK133.out 1
                  have hfz110_2 := blk_frozen BK133.out 2
                  have hfz110_3 := blk_frozen BK133.out 3
                  have hfz110_4 := blk_frozen BK133.out 4
                  obtain ⟨Ao111, co111, eo111⟩ := Kd.R_slice HO_134004.out
                  subst eo111
                  go_wp2_with (first | (go_at_call 42; (with_reducible refine (ontimeref31_State_Put.calls k3 a0_0 a0_1 a0_2 false _ _ x134004_3 a1 0 t134 t135 t136 t137 t138 _ ?side1 ?side2 A105.out).mono ?_); (case side1 => repeat (first | exact (Kd.R_reads' HO_134004.out).2.2 | (with_reducible refine Kd.C_alloc ?_ _) | (with_reducible refine Kd.C_drewN ?_ _) | (with_reducible refine Kd.C_drew ?_))); (case side2 => exact (Kd.R_reads' HO_134004.out).2.1); rintro e w112 ⟨v139, rfl, ho0, hb⟩; have n0_ := Aside0.mk (Kd.R_elder' (by (with_reducible repeat (first | apply Kd.R_alloc | apply Kd.R_drewN | apply Kd.R_drew)); exact HO_131004.out) (Kd.R_base ho0) hb); have n1_ := Aside0.mk (Kd.R_elder' (by (with_reducible repeat (first | apply Kd.R_alloc | apply Kd.R_drewN | apply Kd.R_drew)); exact HO_134004.out) (Kd.R_base ho0) hb); have n2_ := Aside0.mk (Kd.R_lower (Kd.R_new' (Kd.R_new' (Kd.R_newM (M := fun k_ => (P0_4_ k_ ∨ w.heap.size ≤ k_)) ho0 (by first | exact HK.out.1 | exact (show Kept w _ (fun k_ => P0_4_ k_) from by repeat (first | (with_reducible first | exact HK.out | apply Kept.alloc | apply Kept.drewN | apply Kept.drew | refine Kept.setCell ?_ (.inr GW130.out) _ | refine Kept.setCell ?_ (.inr GW131.out) _ | refine Kept.setCell ?_ (.inr GW133.out) _) | exact HK.out)).1) (fun k_ h_ => .inr h_)) (Kd.R_lt (by (with_reducible repeat (first | apply Kd.R_alloc | apply Kd.R_drewN | apply Kd.R_drew)); exact HO_131004.out))) (Kd.R_lt (by (with_reducible repeat (first | apply Kd.R_alloc | apply Kd.R_drewN | apply Kd.R_drew)); exact HO_134004.out))) (below_size (by repeat (first | (with_reducible first | exact HB.out | apply below_alloc | apply pw_below_drewN | apply below_drew1 | refine below_set ?_ GE130.out | refine below_set ?_ GE131.out | refine below_set ?_ GE133.out) | exact HB.out)))); have n3_ := Aside0.mk (blk_below (g := gb130) (o := .cells #[.int .i64 a0_0, .int .i64 a0_1, .int .i64 a0_2, .bool a0_3, .slice Ao4 l0_4.length co4] 34 (0, 0)) (by (with_reducible repeat (first | refine blk_drewN ?_ _ | refine blk_drew ?_ | refine blk_alloc ?_ _)); exact BK130.out) hb); have n4_ := Aside0.mk (blk_below (g := gb131) (o := .cells #[.int .i64 0, .int .i64 0, .int .i64 0, .bool false, .slice none 0 0] 34 (0, 0)) (by (with_reducible repeat (first | refine blk_drewN ?_ _ | refine blk_drew ?_ | refine blk_alloc ?_ _)); exact BK131.out) hb); have n5_ := Aside0.mk (blk_below (g := gb133) (o := .cells #[.int .i64 a0_0, .int .i64 a0_1, .int .i64 a0_2, .bool false, .slice Ao111 x134004_3.length co111] 34 (0, 0)) (by (with_reducible repeat (first | refine blk_drewN ?_ _ | refine blk_drew ?_ | refine blk_alloc ?_ _)); exact BK133.out) hb); have n6_ := Aside0.mk (Kept.below (S := (fun k_ => P0_4_ k_)) (by repeat (first | (with_reducible first | exact HK.out | apply Kept.alloc | apply Kept.drewN | apply Kept.drew | refine Kept.setCell ?_ (.inr GW130.out) _ | refine Kept.setCell ?_ (.inr GW131.out) _ | refine Kept.setCell ?_ (.inr GW133.out) _) | exact HK.out)) hb); have n7_ := Aside0.mk (below_step (by repeat (first | (with_reducible first | exact HB.out | apply below_alloc | apply pw_below_drewN | apply below_drew1 | refine below_set ?_ GE130.out | refine below_set ?_ GE131.out | refine below_set ?_ GE133.out) | exact HB.out)) hb); clear HO_131004; clear HO_134004; clear BK130; clear BK131; clear BK133; clear HK; clear HB; have HO_131004 := n0_; have HO_134004 := n1_; have HO140 := n2_; have BK130 := n3_; have BK131 := n4_; have BK133 := n5_; have HK := n6_; have HB := n7_; clear n0_ n1_ n2_ n3_ n4_ n5_ n6_ n7_; (try clear hb); (try clear hb2); (try clear hk); (try clear hi); (try clear ho0); have hcz113_0 : w112.cell? ⟨gb131, 0, none⟩ = some (.int .i64 0) := (blk_cell BK131.out 0).trans rfl; have hcz113_1 : w112.cell? ⟨gb131, 1, none⟩ = some (.int .i64 0) := (blk_cell BK131.out 1).trans rfl; have hcz113_2 : w112.cell? ⟨gb131, 2, none⟩ = some (.int .i64 0) := (blk_cell BK131.out 2).trans rfl; have hcz113_3 : w112.cell? ⟨gb131, 3, none⟩ = some (.bool false) := (blk_cell BK131.out 3).trans rfl; have hcz113_4 : w112.cell? ⟨gb131, 4, none⟩ = some (.slice none 0 0) := (blk_cell BK131.out 4).trans rfl; have hfz113_0 := blk_frozen BK131.out 0; have hfz113_1 := blk_frozen BK131.out 1; have hfz113_2 := blk_frozen BK131.out 2; have hfz113_3 := blk_frozen BK131.out 3; have hfz113_4 := blk_frozen BK131.out 4; obtain ⟨Ao114, co114, eo114⟩ := Kd.R_slice HO140.out; subst eo114))
                  repeat (go_quiet (first | (go_at_call 42; (with_reducible refine (ontimeref31_State_Put.calls k3 a0_0 a0_1 a0_2 false _ _ x134004_3 a1 0 t134 t135 t136 t137 t138 _ ?side1 ?side2 A105.out).mono ?_); (case side1 => repeat (first | exact (Kd.R_reads' HO_134004.out).2.2 | (with_reducible refine Kd.C_alloc ?_ _) | (with_reducible refine Kd.C_drewN ?_ _) | (with_reducible refine Kd.C_drew ?_))); (case side2 => exact (Kd.R_reads' HO_134004.out).2.1); rintro e w112 ⟨v139, rfl, ho0, hb⟩; have n0_ := Aside0.mk (Kd.R_elder' (by (with_reducible repeat (first | apply Kd.R_alloc | apply Kd.R_drewN | apply Kd.R_drew)); exact HO_131004.out) (Kd.R_base ho0) hb); have n1_ := Aside0.mk (Kd.R_elder' (by (with_reducible repeat (first | apply Kd.R_alloc | apply Kd.R_drewN | apply Kd.R_drew)); exact HO_134004.out) (Kd.R_base ho0) hb); have n2_ := Aside0.mk (Kd.R_lower (Kd.R_new' (Kd.R_new' (Kd.R_newM (M := fun k_ => (P0_4_ k_ ∨ w.heap.size ≤ k_)) ho0 (by first | exact HK.out.1 | exact (show Kept w _ (fun k_ => P0_4_ k_) from by repeat (first | (with_reducible first | exact HK.out | apply Kept.alloc | apply Kept.drewN | apply Kept.drew | refine Kept.setCell ?_ (.inr GW130.out) _ | refine Kept.setCell ?_ (.inr GW131.out) _ | refine Kept.setCell ?_ (.inr GW133.out) _) | exact HK.out)).1) (fun k_ h_ => .inr h_)) (Kd.R_lt (by (with_reducible repeat (first | apply Kd.R_alloc | apply Kd.R_drewN | apply Kd.R_drew)); exact HO_131004.out))) (Kd.R_lt (by (with_reducible repeat (first | apply Kd.R_alloc | apply Kd.R_drewN | apply Kd.R_drew)); exact HO_134004.out))) (below_size (by repeat (first | (with_reducible first | exact HB.out | apply below_alloc | apply pw_below_drewN | apply below_drew1 | refine below_set ?_ GE130.out | refine below_set ?_ GE131.out | refine below_set ?_ GE133.out) | exact HB.out)))); have n3_ := Aside0.mk (blk_below (g := gb130) (o := .cells #[.int .i64 a0_0, .int .i64 a0_1, .int .i64 a0_2, .bool a0_3, .slice Ao4 l0_4.length co4] 34 (0, 0)) (by (with_reducible repeat (first | refine blk_drewN ?_ _ | refine blk_drew ?_ | refine blk_alloc ?_ _)); exact BK130.out) hb); have n4_ := Aside0.mk (blk_below (g := gb131) (o := .cells #[.int .i64 0, .int .i64 0, .int .i64 0, .bool false, .slice none 0 0] 34 (0, 0)) (by (with_reducible repeat (first | refine blk_drewN ?_ _ | refine blk_drew ?_ | refine blk_alloc ?_ _)); exact BK131.out) hb); have n5_ := Aside0.mk (blk_below (g := gb133) (o := .cells #[.int .i64 a0_0, .int .i64 a0_1, .int .i64 a0_2, .bool false, .slice Ao111 x134004_3.length co111] 34 (0, 0)) (by (with_reducible repeat (first | refine blk_drewN ?_ _ | refine blk_drew ?_ | refine blk_alloc ?_ _)); exact BK133.out) hb); have n6_ := Aside0.mk (Kept.below (S := (fun k_ => P0_4_ k_)) (by repeat (first | (with_reducible first | exact HK.out | apply Kept.alloc | apply Kept.drewN | apply Kept.drew | refine Kept.setCell ?_ (.inr GW130.out) _ | refine Kept.setCell ?_ (.inr GW131.out) _ | refine Kept.setCell ?_ (.inr GW133.out) _) | exact HK.out)) hb); have n7_ := Aside0.mk (below_step (by repeat (first | (with_reducible first | exact HB.out | apply below_alloc | apply pw_below_drewN | apply below_drew1 | refine below_set ?_ GE130.out | refine below_set ?_ GE131.out | refine below_set ?_ GE133.out) | exact HB.out)) hb); clear HO_131004; clear HO_134004; clear BK130; clear BK131; clear BK133; clear HK; clear HB; have HO_131004 := n0_; have HO_134004 := n1_; have HO140 := n2_; have BK130 := n3_; have BK131 := n4_; have BK133 := n5_; have HK := n6_; have HB := n7_; clear n0_ n1_ n2_ n3_ n4_ n5_ n6_ n7_; (try clear hb); (try clear hb2); (try clear hk); (try clear hi); (try clear ho0); have hcz113_0 : w112.cell? ⟨gb131, 0, none⟩ = some (.int .i64 0) := (blk_cell BK131.out 0).trans rfl; have hcz113_1 : w112.cell? ⟨gb131, 1, none⟩ = some (.int .i64 0) := (blk_cell BK131.out 1).trans rfl; have hcz113_2 : w112.cell? ⟨gb131, 2, none⟩ = some (.int .i64 0) := (blk_cell BK131.out 2).trans rfl; have hcz113_3 : w112.cell? ⟨gb131, 3, none⟩ = some (.bool false) := (blk_cell BK131.out 3).trans rfl; have hcz113_4 : w112.cell? ⟨gb131, 4, none⟩ = some (.slice none 0 0) := (blk_cell BK131.out 4).trans rfl; have hfz113_0 := blk_frozen BK131.out 0; have hfz113_1 := blk_frozen BK131.out 1; have hfz113_2 := blk_frozen BK131.out 2; have hfz113_3 := blk_frozen BK131.out 3; have hfz113_4 := blk_frozen BK131.out 4; obtain ⟨Ao114, co114, eo114⟩ := Kd.R_slice HO140.out; subst eo114)); try go_wp2_with (first | (go_at_call 42; (with_reducible refine (ontimeref31_State_Put.calls k3 a0_0 a0_1 a0_2 false _ _ x134004_3 a1 0 t134 t135 t136 t137 t138 _ ?side1 ?side2 A105.out).mono ?_); (case side1 => repeat (first | exact (Kd.R_reads' HO_134004.out).2.2 | (with_reducible refine Kd.C_alloc ?_ _) | (with_reducible refine Kd.C_drewN ?_ _) | (with_reducible refine Kd.C_drew ?_))); (case side2 => exact (Kd.R_reads' HO_134004.out).2.1); rintro e w112 ⟨v139, rfl, ho0, hb⟩; have n0_ := Aside0.mk (Kd.R_elder' (by (with_reducible repeat (first | apply Kd.R_alloc | apply Kd.R_drewN | apply Kd.R_drew)); exact HO_131004.out) (Kd.R_base ho0) hb); have n1_ := Aside0.mk (Kd.R_elder' (by (with_reducible repeat (first | apply Kd.R_alloc | apply Kd.R_drewN | apply Kd.R_drew)); exact HO_134004.out) (Kd.R_base ho0) hb); have n2_ := Aside0.mk (Kd.R_lower (Kd.R_new' (Kd.R_new' (Kd.R_newM (M := fun k_ => (P0_4_ k_ ∨ w.heap.size ≤ k_)) ho0 (by first | exact HK.out.1 | exact (show Kept w _ (fun k_ => P0_4_ k_) from by repeat (first | (with_reducible first | exact HK.out | apply Kept.alloc | apply Kept.drewN | apply Kept.drew | refine Kept.setCell ?_ (.inr GW130.out) _ | refine Kept.setCell ?_ (.inr GW131.out) _ | refine Kept.setCell ?_ (.inr GW133.out) _) | exact HK.out)).1) (fun k_ h_ => .inr h_)) (Kd.R_lt (by (with_reducible repeat (first | apply Kd.R_alloc | apply Kd.R_drewN | apply Kd.R_drew)); exact HO_131004.out))) (Kd.R_lt (by (with_reducible repeat (first | apply Kd.R_alloc | apply Kd.R_drewN | apply Kd.R_drew)); exact HO_134004.out))) (below_size (by repeat (first | (with_reducible first | exact HB.out | apply below_alloc | apply pw_below_drewN | apply below_drew1 | refine below_set ?_ GE130.out | refine below_set ?_ GE131.out | refine below_set ?_ GE133.out) | exact HB.out)))); have n3_ := Aside0.mk (blk_below (g := gb130) (o := .cells #[.int .i64 a0_0, .int .i64 a0_1, .int .i64 a0_2, .bool a0_3, .slice Ao4 l0_4.length co4] 34 (0, 0)) (by (with_reducible repeat (first | refine blk_drewN ?_ _ | refine blk_drew ?_ | refine blk_alloc ?_ _)); exact BK130.out) hb); have n4_ := Aside0.mk (blk_below (g := gb131) (o := .cells #[.int .i64 0, .int .i64 0, .int .i64 0, .bool false, .slice none 0 0] 34 (0, 0)) (by (with_reducible repeat (first | refine blk_drewN ?_ _ | refine blk_drew ?_ | refine blk_alloc ?_ _)); exact BK131.out) hb); have n5_ := Aside0.mk (blk_below (g := gb133) (o := .cells #[.int .i64 a0_0, .int .i64 a0_1, .int .i64 a0_2, .bool false, .slice Ao111 x134004_3.length co111] 34 (0, 0)) (by (with_reducible repeat (first | refine blk_drewN ?_ _ | refine blk_drew ?_ | refine blk_alloc ?_ _)); exact BK133.out) hb); have n6_ := Aside0.mk (Kept.below (S := (fun k_ => P0_4_ k_)) (by repeat (first | (with_reducible first | exact HK.out | apply Kept.alloc | apply Kept.drewN | apply Kept.drew | refine Kept.setCell ?_ (.inr GW130.out) _ | refine Kept.setCell ?_ (.inr GW131.out) _ | refine Kept.setCell ?_ (.inr GW133.out) _) | exact HK.out)) hb); have n7_ := Aside0.mk (below_step (by repeat (first | (with_reducible first | exact HB.out | apply below_alloc | apply pw_below_drewN | apply below_drew1 | refine below_set ?_ GE130.out | refine below_set ?_ GE131.out | refine below_set ?_ GE133.out) | exact HB.out)) hb); clear HO_131004; clear HO_134004; clear BK130; clear BK131; clear BK133; clear HK; clear HB; have HO_131004 := n0_; have HO_134004 := n1_; have HO140 := n2_; have BK130 := n3_; have BK131 := n4_; have BK133 := n5_; have HK := n6_; have HB := n7_; clear n0_ n1_ n2_ n3_ n4_ n5_ n6_ n7_; (try clear hb); (try clear hb2); (try clear hk); (try clear hi); (try clear ho0); have hcz113_0 : w112.cell? ⟨gb131, 0, none⟩ = some (.int .i64 0) := (blk_cell BK131.out 0).trans rfl; have hcz113_1 : w112.cell? ⟨gb131, 1, none⟩ = some (.int .i64 0) := (blk_cell BK131.out 1).trans rfl; have hcz113_2 : w112.cell? ⟨gb131, 2, none⟩ = some (.int .i64 0) := (blk_cell BK131.out 2).trans rfl; have hcz113_3 : w112.cell? ⟨gb131, 3, none⟩ = some (.bool false) := (blk_cell BK131.out 3).trans rfl; have hcz113_4 : w112.cell? ⟨gb131, 4, none⟩ = some (.slice none 0 0) := (blk_cell BK131.out 4).trans rfl; have hfz113_0 := blk_frozen BK131.out 0; have hfz113_1 := blk_frozen BK131.out 1; have hfz113_2 := blk_frozen BK131.out 2; have hfz113_3 := blk_frozen BK131.out 3; have hfz113_4 := blk_frozen BK131.out 4; obtain ⟨Ao114, co114, eo114⟩ := Kd.R_slice HO140.out; subst eo114)))
                  refine bodyPost_ret (results_cell_row rfl _ _ gb131 34 #[.int .i64 t134, .int .i64 t135, .int .i64 t136, .bool t137, .slice Ao114 t138.length co114] (0, 0) _ rfl (by (with_reducible repeat (first | refine blk_drewN ?_ _ | refine blk_drew ?_ | refine blk_alloc ?_ _)); refine blk_put (cs := #[.int .i64 t134, .int .i64 t135, .int .i64 t136, .bool t137, .slice none 0 0]) ?_ 4 _ rfl; (with_reducible repeat (first | refine blk_drewN ?_ _ | refine blk_drew ?_ | refine blk_alloc ?_ _)); refine blk_put (cs := #[.int .i64 t134, .int .i64 t135, .int .i64 t136, .bool false, .slice none 0 0]) ?_ 3 _ rfl; (with_reducible repeat (first | refine blk_drewN ?_ _ | refine blk_drew ?_ | refine blk_alloc ?_ _)); refine blk_put (cs := #[.int .i64 t134, .int .i64 t135, .int .i64 0, .bool false, .slice none 0 0]) ?_ 2 _ rfl; (with_reducible repeat (first | refine blk_drewN ?_ _ | refine blk_drew ?_ | refine blk_alloc ?_ _)); refine blk_put (cs := #[.int .i64 t134, .int .i64 0, .int .i64 0, .bool false, .slice none 0 0]) ?_ 1 _ rfl; (with_reducible repeat (first | refine blk_drewN ?_ _ | refine blk_drew ?_ | refine blk_alloc ?_ _)); refine blk_put (cs := #[.int .i64 0, .int .i64 0, .int .i64 0, .bool false, .slice none 0 0]) ?_ 0 _ rfl; (with_reducible repeat (first | refine blk_drewN ?_ _ | refine blk_drew ?_ | refine blk_alloc ?_ _)); exact BK131.out) Try.underlying34 rfl (by kernel_rfl)) rfl ?_
                  exact ⟨_, by first | rfl | (simp [errW_none, errW_some] <;> rfl) | (simp [*, errW_none, errW_some] <;> rfl), by (with_reducible repeat (first | apply Kd.R_alloc | apply Kd.R_drewN | apply Kd.R_drew)); exact Kd.R_mono (Kd.R_far (p := ⟨gb131, 4, none⟩) (Kd.R_far (p := ⟨gb131, 3, none⟩) (Kd.R_far (p := ⟨gb131, 2, none⟩) (Kd.R_far (p := ⟨gb131, 1, none⟩) (Kd.R_far (p := ⟨gb131, 0, none⟩) (Kd.R_types HO140.out BK131.out (by decide)) (fun _ hk => hk.2) (.int .i64 t134)) (fun _ hk => hk.2) (.int .i64 t135)) (fun _ hk => hk.2) (.int .i64 t136)) (fun _ hk => hk.2) (.bool t137)) (fun _ hk => hk.2) (.slice Ao114 t138.length co114)) (fun _ hk => hk.1.1.1.1), by repeat (first | (with_reducible first | exact HB.out | apply below_alloc | apply pw_below_drewN | apply below_drew1 | refine below_set ?_ GE130.out | refine below_set ?_ GE131.out | refine below_set ?_ GE133.out) | exact HB.out), by repeat (first | (with_reducible first | exact HK.out | apply Kept.alloc | apply Kept.drewN | apply Kept.drew | refine Kept.setCell ?_ (.inr GW130.out) _ | refine Kept.setCell ?_ (.inr GW131.out) _ | refine Kept.setCell ?_ (.inr GW133.out) _) | exact HK.out)⟩

end Go.Proofs.Ytacpfcneihlcnaa.PMayDescribes
