/- must: Access. -/
import Derived.Test.YtihmiokejhnicaaUd
set_option linter.unusedVariables false
set_option linter.unusedSimpArgs false
namespace Go.Proofs.Ytihmiokejhnicaa
open Go.RowKit Go.Maps

def accU (S W : Int) (es : AL) (line : Int) : AL := aput (oldL W (fAcc S line ((aget es line).getD W)) es) line 0
theorem good_accU {S W line : Int} {es : AL} (hW : 1 ≤ W) (h : Good W es) (h0 : 0 ≤ line) (h1 : line ≤ 1000000) : Good W (accU S W es line) := (good_oldL h).put h0 h1 (Int.le_refl _) hW
theorem length_accU (S W line : Int) (es : AL) : (accU S W es line).length ≤ es.length + 1 := Nat.le_trans (length_put_le _ _ _) (by have := length_oldL W (fAcc S line ((aget es line).getD W)) es; omega)

set_option maxRecDepth 100000 in
set_option maxHeartbeats 2000000 in
theorem u_access {S W L : Int} (hv : vldB S W L = true) {p : Option Nat} {es : AL} {line : Int} (h0 : 0 ≤ line) (h1 : line ≤ 1000000) {w : World} (hes : MapIs w p es) (hg : Good W es) (hn : es.length ≤ 100000) :
    Calls Try.prog 27 #[.agg #[.int .i64 S, .int .i64 W, .int .i64 L, .map p], .int .i64 line] w fun e w' => ∃ b, e = .returned (.agg #[.int .i64 S, .int .i64 W, .int .i64 L, .map (some b)]) ∧ MapAt w' b (accU S W es line) ∧ Below w.heap.size w w' := by
  have ZA := fun w => zero_any S W L p w
  have ST := fun w' => set_any hv line h0 (by omega) w'
  obtain ⟨s0, s1, w0, w8, _⟩ := vldB_bd hv
  have hz : zB S W L = false := by
    unfold zB
    have : (S == 0) = false := by simp; omega
    rw [this]
    rfl
  rw [hz] at ZA
  have HG := hide hg
  have HE := hide hes
  have HV := hide hv
  clear hv hg hes hz
  have tl : decide (line < 0) = false := by simp; omega
  go_enter Try.func27, Try.ntmps27
  go_wp2_with fail
  refine at_world ?_
  intro W1 hW
  have HB1 := hide (below_at hW (below_at2 rfl (Below.refl _ _)))
  have hs1 : w.heap.size + 3 ≤ W1.heap.size := by have := size_at hW; simp at this; omega
  have b2 := Blk.newAt hW
  simp only [World.size_alloc] at b2
  obtain ⟨b0, b1⟩ := Blk.new2 w _ _ _ _
  have b0 := Blk.at_ hW b0
  have b1 := Blk.at_ hW b1
  have HE1 := hide (MapIs.at_ hW (MapIs.at2 rfl HE.out))
  clear hW HE
  refine (ZA _).mono ?_; rintro e w1 ⟨rfl, hb⟩
  have b0 := b0.on hb
  have b1 := b1.on hb
  have b2 := b2.on hb
  have HM := hide (HE1.out.below hb)
  have HB := hide (below_then HB1.out hb)
  have hz2 : w.heap.size + 1 + 1 < w1.heap.size := b2.lt
  have hz1 : w.heap.size + 1 < w1.heap.size := by omega
  have hz0 : w.heap.size < w1.heap.size := by omega
  clear hb HE1 HB1 ZA
  have C0 := b0.c4
  have C1 : w1.cell? ⟨w.heap.size + 1, 0, none⟩ = some (.int .i64 line) := b1.cell 0
  obtain ⟨h, hh⟩ : ∃ h, (aget es line).getD W = h := ⟨_, rfl⟩
  have HD := hide (show accU S W es line = aput (oldL W (fAcc S line h) es) line 0 by rw [accU, hh])
  have hhb : 0 ≤ h ∧ h ≤ 8 := by
    cases hge : aget es line with
    | none => rw [hge] at hh; simp at hh; omega
    | some c => rw [hge] at hh; simp at hh; have := HG.out.get hge; omega
  obtain ⟨hh0, hh8⟩ := hhb
  rcases hge : aget es line with _ | c
  · obtain rfl : W = h := by rw [hge] at hh; simpa using hh
    have HQ := hide hge
    clear hge hh
    go_wp2_with (first
      | (at_lookup; refine wp_look _ rfl _ _ 26 rfl Try.underlying26 rfl HM.out line rfl (wf_small (by omega) (by omega)) ?_; rw [HQ.out])
      | fail)
    refine at_world ?_
    intro W3 hW
    have B0 := b0.at_ hW
    have B1 := b1.at_ hW
    have B2 := b2.at_ hW
    have BO := Blk.newAt hW
    have HM := hide (HM.out.at_ hW)
    have HB := hide (below_at hW HB.out)
    clear hW b0 b1 b2 C0 C1
    refine (ST _).mono ?_; rintro e w3 ⟨rfl, hb⟩
    have B0 := B0.on hb
    have B1 := B1.on hb
    have B2 := B2.on hb
    have BO := BO.on hb
    have HM := hide (HM.out.below hb)
    have HB := hide (below_then HB.out hb)
    have hz3 : w.heap.size + 1 + 1 < w3.heap.size := B2.lt
    have hz4 : w.heap.size < w3.heap.size := by omega
    clear hb ST hz0 hz1 hz2
    have C0 := B0.c4
    go_wp2_with fail
    refine at_world ?_
    intro W4 hW
    have B0 := B0.at_ hW
    have B1 := B1.at_ hW
    have B2 := B2.at_ hW
    have BO := BO.at_ hW
    have BT := Blk.newAt hW
    have HM := hide (HM.out.at_ hW)
    have HB := hide (below_at hW HB.out)
    clear hW C0
    have CL : ∀ (W' : World) (k a : Int), Below W4.heap.size W4 W' → aget es k = some a → Calls Try.prog 47 #[.int .i64 k, .int .i64 a, .pointer (some ⟨w.heap.size + 1, 0, none⟩), .pointer (some ⟨w.heap.size, 0, none⟩), .pointer (some ⟨w3.heap.size, 0, none⟩), .pointer (some ⟨w1.heap.size, 0, none⟩)] W' fun e w' => e = .returned (.bool (fAcc S line W k a)) ∧ Below W'.heap.size W' w' := fun W' k a hb hk =>
      clo_acc HV.out (HG.out.get hk).1 (HG.out.get hk).2.1 ⟨B1.on hb, B0.on hb, BT.on hb, BO.on hb, Below.refl _ _⟩
    refine (older_a w0 w8 HM.out HG.out hn CL).mono ?_; rintro e w5 ⟨b, rfl, hmb, hwb, hb⟩
    have hwb2 : w.heap.size ≤ b := Nat.le_trans HB.out.size hwb
    have B1 := B1.on hb
    have B2 := B2.on hb
    have HB := hide (below_then HB.out hb)
    have hz5 : w.heap.size + 1 + 1 < w5.heap.size := B2.lt
    have hz6 : w.heap.size + 1 < w5.heap.size := by omega
    have hbl := hmb.lt
    have HMB := hide hmb
    have HB2 := hide (hmb.ne B2)
    have hlen := length_oldL W (fAcc S line W) es
    clear hb hmb CL BT BO B0 HM
    have C1 : w5.cell? ⟨w.heap.size + 1, 0, none⟩ = some (.int .i64 line) := B1.cell 0
    have HMA := fun o => hide (HMB.out.alloc o)
    go_wp2_with (first
      | (at_mapUpdate; refine wp_store _ rfl _ _ _ 26 rfl Try.underlying26 rfl (HMA _).out (by omega) line 0 rfl rfl (wf_small (by omega) (by omega)) (by decide) ?_; intro w6 hm6 hg6; have D8 := (Blk.new w5 _ _).grown hg6 (fun e => by have := Option.some.inj e; omega); have D2 := (B2.alloc _).grown hg6 (fun e => HB2.out (Option.some.inj e).symm); have C8 := D8.c4; have C2 := D2.c4; have F2 := D2.fz; have hz8 := D2.lt; have HM6 := hide hm6; have HB6 := hide (below_grown (below_alloc HB.out _) hg6 hwb2); clear hm6 hg6 D8 D2)
      | fail)
    refine bodyPost_ret (v := .agg #[.int .i64 S, .int .i64 W, .int .i64 L, .map (some b)]) (by simp [results, Try.results27, go_sem, C2, C8]) rfl ?_
    have hm := HM6.out
    have hb := HB6.out
    rw [← HD.out] at hm
    exact ⟨b, rfl, by (repeat (first | with_reducible assumption | refine MapAt.far ?_ ?_ _ | refine MapAt.alloc ?_ _)); all_goals (first | exact fun e => HB2.out e.symm | omega | (simp; omega)), by (repeat (first | with_reducible exact Below.refl _ _ | with_reducible assumption | refine below_set ?_ (by first | exact Nat.le_refl _ | (simp; omega) | simp) _ | refine below_alloc ?_ _ | refine below_drewN ?_ _ | refine below_drew ?_))⟩
  · obtain rfl : c = h := by rw [hge] at hh; simpa using hh
    have HQ := hide hge
    clear hge hh
    go_wp2_with (first
      | (at_lookup; refine wp_look _ rfl _ _ 26 rfl Try.underlying26 rfl HM.out line rfl (wf_small (by omega) (by omega)) ?_; rw [HQ.out])
      | fail)
    refine at_world ?_
    intro W3 hW
    have B0 := b0.at_ hW
    have B1 := b1.at_ hW
    have B2 := b2.at_ hW
    have BO := Blk.newAt hW
    have HM := hide (HM.out.at_ hW)
    have HB := hide (below_at hW HB.out)
    clear hW b0 b1 b2 C0 C1
    refine (ST _).mono ?_; rintro e w3 ⟨rfl, hb⟩
    have B0 := B0.on hb
    have B1 := B1.on hb
    have B2 := B2.on hb
    have BO := BO.on hb
    have HM := hide (HM.out.below hb)
    have HB := hide (below_then HB.out hb)
    have hz3 : w.heap.size + 1 + 1 < w3.heap.size := B2.lt
    have hz4 : w.heap.size < w3.heap.size := by omega
    clear hb ST hz0 hz1 hz2
    have C0 := B0.c4
    go_wp2_with fail
    refine at_world ?_
    intro W4 hW
    have B0 := B0.at_ hW
    have B1 := B1.at_ hW
    have B2 := B2.at_ hW
    have BO := BO.at_ hW
    have BT := Blk.newAt hW
    have HM := hide (HM.out.at_ hW)
    have HB := hide (below_at hW HB.out)
    clear hW C0
    have CL : ∀ (W' : World) (k a : Int), Below W4.heap.size W4 W' → aget es k = some a → Calls Try.prog 47 #[.int .i64 k, .int .i64 a, .pointer (some ⟨w.heap.size + 1, 0, none⟩), .pointer (some ⟨w.heap.size, 0, none⟩), .pointer (some ⟨w3.heap.size, 0, none⟩), .pointer (some ⟨w1.heap.size, 0, none⟩)] W' fun e w' => e = .returned (.bool (fAcc S line c k a)) ∧ Below W'.heap.size W' w' := fun W' k a hb hk =>
      clo_acc HV.out (HG.out.get hk).1 (HG.out.get hk).2.1 ⟨B1.on hb, B0.on hb, BT.on hb, BO.on hb, Below.refl _ _⟩
    refine (older_a w0 w8 HM.out HG.out hn CL).mono ?_; rintro e w5 ⟨b, rfl, hmb, hwb, hb⟩
    have hwb2 : w.heap.size ≤ b := Nat.le_trans HB.out.size hwb
    have B1 := B1.on hb
    have B2 := B2.on hb
    have HB := hide (below_then HB.out hb)
    have hz5 : w.heap.size + 1 + 1 < w5.heap.size := B2.lt
    have hz6 : w.heap.size + 1 < w5.heap.size := by omega
    have hbl := hmb.lt
    have HMB := hide hmb
    have HB2 := hide (hmb.ne B2)
    have hlen := length_oldL W (fAcc S line c) es
    clear hb hmb CL BT BO B0 HM
    have C1 : w5.cell? ⟨w.heap.size + 1, 0, none⟩ = some (.int .i64 line) := B1.cell 0
    have HMA := fun o => hide (HMB.out.alloc o)
    go_wp2_with (first
      | (at_mapUpdate; refine wp_store _ rfl _ _ _ 26 rfl Try.underlying26 rfl (HMA _).out (by omega) line 0 rfl rfl (wf_small (by omega) (by omega)) (by decide) ?_; intro w6 hm6 hg6; have D8 := (Blk.new w5 _ _).grown hg6 (fun e => by have := Option.some.inj e; omega); have D2 := (B2.alloc _).grown hg6 (fun e => HB2.out (Option.some.inj e).symm); have C8 := D8.c4; have C2 := D2.c4; have F2 := D2.fz; have hz8 := D2.lt; have HM6 := hide hm6; have HB6 := hide (below_grown (below_alloc HB.out _) hg6 hwb2); clear hm6 hg6 D8 D2)
      | fail)
    refine bodyPost_ret (v := .agg #[.int .i64 S, .int .i64 W, .int .i64 L, .map (some b)]) (by simp [results, Try.results27, go_sem, C2, C8]) rfl ?_
    have hm := HM6.out
    have hb := HB6.out
    rw [← HD.out] at hm
    exact ⟨b, rfl, by (repeat (first | with_reducible assumption | refine MapAt.far ?_ ?_ _ | refine MapAt.alloc ?_ _)); all_goals (first | exact fun e => HB2.out e.symm | omega | (simp; omega)), by (repeat (first | with_reducible exact Below.refl _ _ | with_reducible assumption | refine below_set ?_ (by first | exact Nat.le_refl _ | (simp; omega) | simp) _ | refine below_alloc ?_ _ | refine below_drewN ?_ _ | refine below_drew ?_))⟩

end Go.Proofs.Ytihmiokejhnicaa
