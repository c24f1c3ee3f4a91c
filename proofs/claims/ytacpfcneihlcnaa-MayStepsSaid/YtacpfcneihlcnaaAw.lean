/- awake: the example of the chapter holds. -/
import Derived.Test.YtacpfcneihlcnaaSm
set_option linter.unusedVariables false
set_option linter.unusedSimpArgs false
namespace Go.Proofs.Ytacpfcneihlcnaa
open Go.RowKit Go.Maps Go.Proofs.YtacpfcneihlcnaaW.PrintWords

theorem aw_v : vldB 1 2 1 = true := by kernel_rfl
theorem aw1 {w : World} : Calls Try.prog 32 #[.agg #[.int .i64 1, .int .i64 2, .int .i64 1, .bool false, .map none], .int .i64 4] w fun e w' => ∃ q, e = .returned (.agg #[.int .i64 1, .int .i64 2, .int .i64 1, .bool false, .map q]) ∧ MapIs w' q [(4, 0)] ∧ Below w.heap.size w w' :=
  ma_access_any aw_v (u := false) (es := []) (line := 4) (by omega) (.nil_ w) (good_nil _) (by simp)
theorem aw2 {q : Option Nat} {w : World} (h : MapIs w q [(4, 0)]) : Calls Try.prog 32 #[.agg #[.int .i64 1, .int .i64 2, .int .i64 1, .bool false, .map q], .int .i64 7] w fun e w' => ∃ q, e = .returned (.agg #[.int .i64 1, .int .i64 2, .int .i64 1, .bool false, .map q]) ∧ MapIs w' q [(4, 1), (7, 0)] ∧ Below w.heap.size w w' :=
  ma_access_any aw_v (u := false) (line := 7) (by omega) h ⟨by simp [Asc], by simp⟩ (by simp)
theorem aw3 {q : Option Nat} {w : World} (h : MapIs w q [(4, 1), (7, 0)]) : Calls Try.prog 32 #[.agg #[.int .i64 1, .int .i64 2, .int .i64 1, .bool false, .map q], .int .i64 9] w fun e w' => ∃ q, e = .returned (.agg #[.int .i64 1, .int .i64 2, .int .i64 1, .bool false, .map q]) ∧ MapIs w' q [(7, 1), (9, 0)] ∧ Below w.heap.size w w' :=
  ma_access_any aw_v (u := false) (line := 9) (by omega) h ⟨by simp [Asc], by simp⟩ (by simp)

set_option maxRecDepth 100000 in
set_option maxHeartbeats 1000000 in
theorem awake_any (w : World) : Calls Try.prog 11 #[] w fun e w' => e = .returned (.bool true) ∧ Below w.heap.size w w' := by
  go_enter Try.func11, Try.ntmps11
  go_wp2_with fail
  refine (may_new aw_v _).mono ?_; rintro e w1 ⟨rfl, hb1⟩
  have HB1 := hide hb1
  clear hb1
  go_wp2_with fail
  refine at_world ?_
  intro W2 hW
  have b0 := Blk.newAt hW
  have HB2 := hide (below_at hW HB1.out)
  clear hW HB1
  refine aw1.mono ?_; rintro e w3 ⟨q, rfl, hm, hb⟩
  have b0 := b0.on hb
  have HM := hide hm
  have HB3 := hide (below_then HB2.out hb)
  clear hm hb
  go_wp2_with fail
  refine (aw2 HM.out).mono ?_; rintro e w4 ⟨q4, rfl, hm, hb⟩
  have b0 := b0.on hb
  have HM := hide hm
  have HB4 := hide (below_then HB3.out hb)
  clear hm hb
  go_wp2_with fail
  refine at_world ?_
  intro W5 hW
  have b1 := Blk.newAt hW
  have HM5 := hide (HM.out.at_ hW)
  have HB5 := hide (below_at hW HB4.out)
  clear hW
  refine (ma_age (by decide) HM5.out).mono ?_; rintro e w6 ⟨rfl, hb⟩
  have b1 := b1.on hb
  have HM6 := hide (HM5.out.below hb)
  have HB6 := hide (below_then HB5.out hb)
  have C1 := b1.c5
  clear hb
  go_wp2_with fail
  refine (ma_age (by decide) HM6.out).mono ?_; rintro e w7 ⟨rfl, hb⟩
  have b1 := b1.on hb
  have HM7 := hide (HM6.out.below hb)
  have HB7 := hide (below_then HB6.out hb)
  clear hb C1
  have C1 := b1.c5
  go_wp2_with fail
  refine (aw3 HM7.out).mono ?_; rintro e w8 ⟨q8, rfl, hm, hb⟩
  have HM8 := hide hm
  have HB8 := hide (below_then HB7.out hb)
  clear hb hm C1
  go_wp2_with fail
  refine (ma_age (by decide) HM8.out).mono ?_; rintro e w9 ⟨rfl, hb⟩
  have HB9 := hide (below_then HB8.out hb)
  clear hb
  have e1 : (ageS (false, [(4, 1), (7, 0)]) 4) = (1, true) := by decide
  have e2 : (ageS (false, [(4, 1), (7, 0)]) 7) = (0, true) := by decide
  have e3 : (ageS (false, [(7, 1), (9, 0)]) 4) = (0, false) := by decide
  go_wp2_with fail
  go_ret
  exact ⟨rfl, HB9.out⟩

end Go.Proofs.Ytacpfcneihlcnaa
