/- must: the zero state; the law's awake. -/
import Derived.Test.YtihmiokejhnicaaUf
import Derived.Test.YtihmiokejhnicaaUb
set_option linter.unusedVariables false
set_option linter.unusedSimpArgs false
namespace Go.Proofs.Ytihmiokejhnicaa
open Go.RowKit Go.Maps

set_option maxRecDepth 100000 in
set_option maxHeartbeats 1000000 in
theorem z_access (line : Int) (w : World) :
    Calls Try.prog 27 #[.agg #[.int .i64 0, .int .i64 0, .int .i64 0, .map none], .int .i64 line] w fun e w' => e = .returned (.agg #[.int .i64 0, .int .i64 0, .int .i64 0, .map none]) ∧ Below w.heap.size w w' := by
  have ZA := fun w => zero_any 0 0 0 none w
  rw [show zB 0 0 0 = true from rfl] at ZA
  go_enter Try.func27, Try.ntmps27
  go_wp2_with fail
  refine at_world ?_
  intro W1 hW
  have HB1 := hide (below_at hW (below_at2 rfl (Below.refl _ _)))
  have b2 := Blk.newAt hW
  simp only [World.size_alloc] at b2
  obtain ⟨b0, b1⟩ := Blk.new2 w _ _ _ _
  have b0 := Blk.at_ hW b0
  clear hW b1
  refine (ZA _).mono ?_; rintro e w1 ⟨rfl, hb⟩
  have b0 := b0.on hb
  have b2 := b2.on hb
  have HB := hide (below_then HB1.out hb)
  have C0 := b0.c4
  have C2 := b2.c4
  have F2 := b2.fz
  clear hb HB1 ZA b0 b2
  go_wp2_with fail
  refine bodyPost_ret (v := .agg #[.int .i64 0, .int .i64 0, .int .i64 0, .map none]) (by simp [results, Try.results27, go_sem, C2]) rfl ⟨rfl, ?_⟩
  have hb := HB.out
  (repeat (first | with_reducible exact Below.refl _ _ | with_reducible assumption | refine below_set ?_ (by first | exact Nat.le_refl _ | (simp; omega) | simp) _ | refine below_alloc ?_ _ | refine below_drewN ?_ _ | refine below_drew ?_))

set_option maxRecDepth 100000 in
set_option maxHeartbeats 1000000 in
theorem z_range (lo hi : Int) (w : World) :
    Calls Try.prog 32 #[.agg #[.int .i64 0, .int .i64 0, .int .i64 0, .map none], .int .i64 lo, .int .i64 hi] w fun e w' => e = .returned (.agg #[.int .i64 0, .int .i64 0, .int .i64 0, .map none]) ∧ Below w.heap.size w w' := by
  have ZA := fun w => zero_any 0 0 0 none w
  rw [show zB 0 0 0 = true from rfl] at ZA
  go_enter Try.func32, Try.ntmps32
  go_wp2_with fail
  refine at_world ?_
  intro W1 hW
  have HB1 := hide (below_at hW (below_alloc (below_at2 rfl (Below.refl _ _)) _))
  have b2 := Blk.newAt hW
  simp only [World.size_alloc] at b2
  obtain ⟨b0, b1⟩ := Blk.new2 w _ _ _ _
  have b0 := Blk.at_ hW (b0.alloc _)
  clear hW b1
  refine (ZA _).mono ?_; rintro e w1 ⟨rfl, hb⟩
  have b0 := b0.on hb
  have b2 := b2.on hb
  have HB := hide (below_then HB1.out hb)
  have C0 := b0.c4
  have C2 := b2.c4
  have F2 := b2.fz
  clear hb HB1 ZA b0 b2
  go_wp2_with fail
  refine bodyPost_ret (v := .agg #[.int .i64 0, .int .i64 0, .int .i64 0, .map none]) (by simp [results, Try.results32, go_sem, C2]) rfl ⟨rfl, ?_⟩
  have hb := HB.out
  (repeat (first | with_reducible exact Below.refl _ _ | with_reducible assumption | refine below_set ?_ (by first | exact Nat.le_refl _ | (simp; omega) | simp) _ | refine below_alloc ?_ _ | refine below_drewN ?_ _ | refine below_drew ?_))

set_option maxRecDepth 100000 in
set_option maxHeartbeats 1000000 in
theorem z_describes (A : Option Addr) (n c : Nat) (w : World) :
    Calls Try.prog 18 #[.agg #[.int .i64 0, .int .i64 0, .int .i64 0, .map none], .slice A n c] w fun e w' => e = .returned (.bool false) ∧ Below w.heap.size w w' := by
  have ZA := fun w => zero_any 0 0 0 none w
  rw [show zB 0 0 0 = true from rfl] at ZA
  go_enter Try.func18, Try.ntmps18
  go_wp2_with fail
  refine at_world ?_
  intro W1 hW
  have HB1 := hide (below_at hW (Below.refl _ _))
  clear hW
  refine (ZA _).mono ?_; rintro e w1 ⟨rfl, hb⟩
  have HB := hide (below_then HB1.out hb)
  clear hb HB1 ZA
  go_wp2_with fail
  go_ret
  exact ⟨rfl, HB.out⟩

theorem aw_v : vldB 1 2 1 = true := by decide
theorem aw_1 : accU 1 2 [] 1 = [(1, 0)] := by decide
theorem aw_2 : accU 1 2 [(1, 0)] 2 = [(1, 1), (2, 0)] := by decide
theorem aw_3 : oldL 2 (fRng 1 5 6) [(1, 1), (2, 0)] = [(2, 1)] := by decide
theorem aw_g1 : Good 2 [(1, 0)] := ⟨by unfold Asc; decide, by decide⟩
theorem aw_g2 : Good 2 [(1, 1), (2, 0)] := ⟨by unfold Asc; decide, by decide⟩
theorem at_is {w : World} {b : Nat} {es : AL} (h : MapAt w b es) : MapIs w (some b) es := .inr ⟨b, rfl, h⟩

set_option maxRecDepth 100000 in
set_option maxHeartbeats 1000000 in
theorem uawake_any (w : World) : Calls Try.prog 11 #[] w fun e w' => e = .returned (.bool true) ∧ Below w.heap.size w w' := by
  go_enter Try.func11, Try.ntmps11
  go_wp2_with fail
  refine (must_new aw_v _).mono ?_; rintro e w1 ⟨rfl, hb1⟩
  have HB1 := hide hb1
  clear hb1
  go_wp2_with fail
  refine at_world ?_
  intro W2 hW
  have HB2 := hide (below_at hW HB1.out)
  clear hW HB1
  have A1 := u_access (L := 1) aw_v (p := none) (es := []) (line := 1) (by decide) (by decide) (w := W2) (.nil_ _) (good_nil _) (by decide)
  rw [aw_1] at A1
  refine A1.mono ?_; rintro e w3 ⟨b, rfl, hm, hb⟩
  have HM := hide hm
  have HB3 := hide (below_then HB2.out hb)
  clear hm hb A1 HB2
  go_wp2_with fail
  have A2 := u_access (L := 1) aw_v (p := some b) (es := [(1, 0)]) (line := 2) (by decide) (by decide) (w := w3) (at_is HM.out) aw_g1 (by decide)
  rw [aw_2] at A2
  refine A2.mono ?_; rintro e w4 ⟨b2, rfl, hm, hb⟩
  have HM := hide (at_is hm)
  have HB4 := hide (below_then HB3.out hb)
  clear hm hb A2 HB3
  go_wp2_with fail
  refine at_world ?_
  intro W5 hW
  have B3 := Blk.newAt hW
  have HM5 := hide (HM.out.at_ hW)
  have HB5 := hide (below_at hW HB4.out)
  clear hW HM HB4
  have A3 := u_range_many (L := 1) aw_v (p := some b2) (es := [(1, 1), (2, 0)]) (lo := 5) (hi := 6) (by decide) (by decide) (by decide) (w := W5) HM5.out aw_g2 (by decide)
  rw [aw_3] at A3
  refine A3.mono ?_; rintro e w6 ⟨b3, rfl, hm, hb⟩
  have B3 := B3.on hb
  have HM6 := hide (HM5.out.below hb)
  have HU6 := hide (at_is hm)
  have HB6 := hide (below_then HB5.out hb)
  have C3 := B3.c4
  have hz3 : w4.heap.size < w6.heap.size := B3.lt
  clear hm hb A3 HM5 HB5
  go_wp2_with fail
  refine at_world ?_
  intro W7 hW
  have B3 := Blk.at_ hW B3
  have B4 := Blk.newAt hW
  have HM7 := hide (HM6.out.at_ hW)
  have HU7 := hide (HU6.out.at_ hW)
  have HB7 := hide (below_at hW HB6.out)
  clear hW HM6 HU6 HB6 C3
  refine (u_age (k := 1) (by decide) HM7.out).mono ?_; rintro e w8 ⟨rfl, hb⟩
  have B3 := B3.on hb
  have B4 := B4.on hb
  have HM8 := hide (HM7.out.below hb)
  have HU8 := hide (HU7.out.below hb)
  have HB8 := hide (below_then HB7.out hb)
  have C4 := B4.c4
  clear hb HM7 HU7 HB7
  go_wp2_with fail
  refine (u_age (k := 2) (by decide) HU8.out).mono ?_; rintro e w9 ⟨rfl, hb⟩
  have B3 := B3.on hb
  have B4 := B4.on hb
  have HM9 := hide (HM8.out.below hb)
  have HU9 := hide (HU8.out.below hb)
  have HB9 := hide (below_then HB8.out hb)
  clear hb HM8 HU8 HB8 C4
  have C4 := B4.c4
  go_wp2_with fail
  refine (u_age (k := 1) (by decide) HU9.out).mono ?_; rintro e w10 ⟨rfl, hb⟩
  have B3 := B3.on hb
  have B4 := B4.on hb
  have HM10 := hide (HM9.out.below hb)
  have HU10 := hide (HU9.out.below hb)
  have HB10 := hide (below_then HB9.out hb)
  clear hb HM9 HU9 HB9 C4
  have C3 := B3.c4
  have e1 : aget [(1, 1), (2, 0)] 1 = some 1 := by decide
  have e2 : aget [(2, 1)] 2 = some 1 := by decide
  have e3 : aget [(2, 1)] 1 = none := by decide
  rw [e1, e2, e3]
  go_wp2_with fail
  refine (u_lines HM10.out (by decide)).mono ?_; rintro e w11 ⟨A, c, rfl, _, hb⟩
  have B4 := B4.on hb
  have HU11 := hide (HU10.out.below hb)
  have HB11 := hide (below_then HB10.out hb)
  clear hb HM10 HU10 HB10 C3
  have C4 := B4.c4
  go_wp2_with fail
  refine (u_lines HU11.out (by decide)).mono ?_; rintro e w12 ⟨A2, c2, rfl, _, hb⟩
  have HB12 := hide (below_then HB11.out hb)
  clear hb HU11 HB11 C4
  go_wp2_with fail
  go_ret
  exact ⟨rfl, HB12.out⟩
end Go.Proofs.Ytihmiokejhnicaa
