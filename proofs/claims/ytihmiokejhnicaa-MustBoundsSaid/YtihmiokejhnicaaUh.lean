/- must: Access and AccessRange at any line, any range; the law's do. -/
import Derived.Test.YtihmiokejhnicaaUg
set_option linter.unusedVariables false
set_option linter.unusedSimpArgs false
namespace Go.Proofs.Ytihmiokejhnicaa
open Go.RowKit Go.Maps Go.Proofs.YtihmiokejhnicaaW.PrintLast

def accA (S W : Int) (es : AL) (line : Int) : AL := if line < 0 then es else accU S W es line
def rngU (S W : Int) (es : AL) (lo hi : Int) : AL := if hi < max lo 0 then es else if max lo 0 = hi then accU S W es (max lo 0) else oldL W (fRng S (max lo 0) hi) es
def doU (S W : Int) (es : AL) (lo hi : Int) : AL := if lo = -1 ∧ hi = -1 then [] else if lo = hi then accA S W es lo else rngU S W es lo hi

theorem vz {S W L : Int} (hv : vldB S W L = true) : zB S W L = false := by
  obtain ⟨s0, _, _, _, _⟩ := vldB_bd hv
  unfold zB
  have : (S == 0) = false := by simp; omega
  rw [this]
  rfl

set_option maxRecDepth 100000 in
set_option maxHeartbeats 1000000 in
theorem u_access_neg {S W L : Int} (hv : vldB S W L = true) {p : Option Nat} {line : Int} (h0 : line < 0) {w : World} (hp : ∀ b, p = some b → b < w.heap.size) :
    Calls Try.prog 27 #[.agg #[.int .i64 S, .int .i64 W, .int .i64 L, .map p], .int .i64 line] w fun e w' => e = .returned (.agg #[.int .i64 S, .int .i64 W, .int .i64 L, .map p]) ∧ Below w.heap.size w w' := by
  have ZA := fun w => zero_any S W L p w
  rw [vz hv] at ZA
  clear hv
  go_enter Try.func27, Try.ntmps27
  go_wp2_with fail
  refine at_world ?_
  intro W1 hW
  have HB1 := hide (below_at hW (below_at2 rfl (Below.refl _ _)))
  have b2 := Blk.newAt hW
  simp only [World.size_alloc] at b2
  obtain ⟨b0, b1⟩ := Blk.new2 w _ _ _ _
  have b0 := Blk.at_ hW b0
  have b1 := Blk.at_ hW b1
  clear hW
  refine (ZA _).mono ?_; rintro e w1 ⟨rfl, hb⟩
  have b0 := b0.on hb
  have b1 := b1.on hb
  have b2 := b2.on hb
  have HB := hide (below_then HB1.out hb)
  have C0 := b0.c4
  have C1 : w1.cell? ⟨w.heap.size + 1, 0, none⟩ = some (.int .i64 line) := b1.cell 0
  have C2 := b2.c4
  have F2 := b2.fz
  clear hb HB1 ZA b0 b1 b2 hp
  go_wp2_with fail
  refine bodyPost_ret (v := .agg #[.int .i64 S, .int .i64 W, .int .i64 L, .map p]) (by simp [results, Try.results27, go_sem, C2]) rfl ⟨rfl, ?_⟩
  have hb := HB.out
  (repeat (first | with_reducible exact Below.refl _ _ | with_reducible assumption | refine below_set ?_ (by first | exact Nat.le_refl _ | (simp; omega) | simp) _ | refine below_alloc ?_ _ | refine below_drewN ?_ _ | refine below_drew ?_))

theorem u_access_any {S W L : Int} (hv : vldB S W L = true) {p : Option Nat} {es : AL} {line : Int} (h1 : line ≤ 1000000) {w : World} (hes : MapIs w p es) (hg : Good W es) (hn : es.length ≤ 100000) :
    Calls Try.prog 27 #[.agg #[.int .i64 S, .int .i64 W, .int .i64 L, .map p], .int .i64 line] w fun e w' => ∃ q, e = .returned (.agg #[.int .i64 S, .int .i64 W, .int .i64 L, .map q]) ∧ MapIs w' q (accA S W es line) ∧ Below w.heap.size w w' := by
  unfold accA
  split
  · rename_i h0
    exact (u_access_neg hv h0 hes.lt).mono fun e w' ⟨he, hb⟩ => ⟨p, he, hes.below hb, hb⟩
  · rename_i h0
    exact (u_access hv (by omega) h1 hes hg hn).mono fun e w' ⟨b, he, hm, hb⟩ => ⟨some b, he, at_is hm, hb⟩

set_option maxRecDepth 100000 in
set_option maxHeartbeats 2000000 in
/-- A range of more than one line. -/
theorem u_range_gen {S W L : Int} (hv : vldB S W L = true) {p : Option Nat} {es : AL} {lo0 lo hi : Int} (hl : max lo0 (0 : Int) = lo) (h0 : lo < hi) (h1 : hi ≤ 1000000) {w : World} (hes : MapIs w p es) (hg : Good W es) (hn : es.length ≤ 100000) :
    Calls Try.prog 32 #[.agg #[.int .i64 S, .int .i64 W, .int .i64 L, .map p], .int .i64 lo0, .int .i64 hi] w fun e w' => ∃ b, e = .returned (.agg #[.int .i64 S, .int .i64 W, .int .i64 L, .map (some b)]) ∧ MapAt w' b (oldL W (fRng S lo hi) es) ∧ Below w.heap.size w w' := by
  have ZA := fun w => zero_any S W L p w
  obtain ⟨s0, s1, w0, w8, _⟩ := vldB_bd hv
  have hz : zB S W L = false := by
    unfold zB
    have : (S == 0) = false := by simp; omega
    rw [this]
    rfl
  rw [hz] at ZA
  have l0 : 0 ≤ lo := by omega
  have hmx2 := hl
  clear hl
  have HG := hide hg
  have HE := hide hes
  clear hg hes hz hv
  have tl : decide (hi < lo) = false := by simp; omega
  have te : (lo == hi) = false := by simp; omega
  go_enter Try.func32, Try.ntmps32
  go_wp2_with fail
  refine at_world ?_
  intro W1 hW
  have HB1 := hide (below_at hW (below_alloc (below_at2 rfl (Below.refl _ _)) _))
  have b3 := Blk.newAt hW
  simp only [World.size_alloc] at b3
  have b2 := Blk.at_ hW (Blk.new _ _ _)
  simp only [World.size_alloc] at b2
  obtain ⟨b0, b1⟩ := Blk.new2 w _ _ _ _
  have b0 := Blk.at_ hW (b0.alloc _)
  have b1 := Blk.at_ hW (b1.alloc _)
  have HE1 := hide (MapIs.at_ hW ((MapIs.at2 rfl HE.out).alloc _))
  clear hW HE
  refine (ZA _).mono ?_; rintro e w1 ⟨rfl, hb⟩
  have b0 := b0.on hb
  have b1 := b1.on hb
  have b2 := b2.on hb
  have b3 := b3.on hb
  have HM := hide (HE1.out.below hb)
  have HB := hide (below_then HB1.out hb)
  clear hb HE1 HB1 ZA
  have C0 := b0.c4
  have C1 : w1.cell? ⟨w.heap.size + 1, 0, none⟩ = some (.int .i64 lo) := b1.cell 0
  have C2 : w1.cell? ⟨w.heap.size + 1 + 1, 0, none⟩ = some (.int .i64 hi) := b2.cell 0
  go_wp2_with fail
  have CL : ∀ (W' : World) (k a : Int), Below w1.heap.size w1 W' → aget es k = some a → Calls Try.prog 51 #[.int .i64 k, .int .i64 a, .pointer (some ⟨w.heap.size + 1, 0, none⟩), .pointer (some ⟨w.heap.size, 0, none⟩), .pointer (some ⟨w.heap.size + 1 + 1, 0, none⟩)] W' fun e w' => e = .returned (.bool (fRng S lo hi k a)) ∧ Below W'.heap.size W' w' := fun W' k a hb hk =>
    clo_rng s0 (by omega) (HG.out.get hk).1 (HG.out.get hk).2.1 l0 (by omega) (by omega) h1 ⟨b1.on hb, b0.on hb, b2.on hb⟩
  refine (older_r w0 w8 HM.out HG.out hn CL).mono ?_; rintro e w5 ⟨b, rfl, hmb, hwb, hb⟩
  have B3 := b3.on hb
  have hwb2 : w.heap.size ≤ b := Nat.le_trans HB.out.size hwb
  have HB2 := hide (hmb.ne B3)
  have HMB := hide hmb
  have HB5 := hide (below_then HB.out hb)
  have C3 := B3.c4
  have F3 := B3.fz
  clear hmb hb CL HM HB b0 b1 b2 b3 C0 C1 C2
  go_wp2_with fail
  refine bodyPost_ret (v := .agg #[.int .i64 S, .int .i64 W, .int .i64 L, .map (some b)]) (by simp [results, Try.results32, go_sem, C3]) rfl ?_
  have hm := HMB.out
  have hb := HB5.out
  exact ⟨b, rfl, by (repeat (first | with_reducible assumption | refine MapAt.far ?_ ?_ _ | refine MapAt.alloc ?_ _)); all_goals (first | exact fun e => HB2.out e.symm | omega | (simp; omega)), by (repeat (first | with_reducible exact Below.refl _ _ | with_reducible assumption | refine below_set ?_ (by first | exact Nat.le_refl _ | (simp; omega) | simp) _ | refine below_alloc ?_ _ | refine below_drewN ?_ _ | refine below_drew ?_))⟩

set_option maxRecDepth 100000 in
set_option maxHeartbeats 1000000 in
theorem u_range_id {S W L : Int} (hv : vldB S W L = true) {p : Option Nat} {lo0 lo hi : Int} (hl : max lo0 (0 : Int) = lo) (h0 : hi < lo) (w : World) :
    Calls Try.prog 32 #[.agg #[.int .i64 S, .int .i64 W, .int .i64 L, .map p], .int .i64 lo0, .int .i64 hi] w fun e w' => e = .returned (.agg #[.int .i64 S, .int .i64 W, .int .i64 L, .map p]) ∧ Below w.heap.size w w' := by
  have ZA := fun w => zero_any S W L p w
  rw [vz hv] at ZA
  have tl : decide (hi < lo) = true := by simp; omega
  clear hv
  go_enter Try.func32, Try.ntmps32
  go_wp2_with fail
  refine at_world ?_
  intro W1 hW
  have HB1 := hide (below_at hW (below_alloc (below_at2 rfl (Below.refl _ _)) _))
  have b3 := Blk.newAt hW
  simp only [World.size_alloc] at b3
  have b2 := Blk.at_ hW (Blk.new _ _ _)
  simp only [World.size_alloc] at b2
  obtain ⟨b0, b1⟩ := Blk.new2 w _ _ _ _
  have b0 := Blk.at_ hW (b0.alloc _)
  have b1 := Blk.at_ hW (b1.alloc _)
  clear hW hl
  refine (ZA _).mono ?_; rintro e w1 ⟨rfl, hb⟩
  have b0 := b0.on hb
  have b1 := b1.on hb
  have b2 := b2.on hb
  have b3 := b3.on hb
  have HB := hide (below_then HB1.out hb)
  have C0 := b0.c4
  have C1 : w1.cell? ⟨w.heap.size + 1, 0, none⟩ = some (.int .i64 lo) := b1.cell 0
  have C2 : w1.cell? ⟨w.heap.size + 1 + 1, 0, none⟩ = some (.int .i64 hi) := b2.cell 0
  have C3 := b3.c4
  have F3 := b3.fz
  clear hb HB1 ZA b0 b1 b2 b3
  go_wp2_with fail
  refine bodyPost_ret (v := .agg #[.int .i64 S, .int .i64 W, .int .i64 L, .map p]) (by simp [results, Try.results32, go_sem, C3]) rfl ⟨rfl, ?_⟩
  have hb := HB.out
  (repeat (first | with_reducible exact Below.refl _ _ | with_reducible assumption | refine below_set ?_ (by first | exact Nat.le_refl _ | (simp; omega) | simp) _ | refine below_alloc ?_ _ | refine below_drewN ?_ _ | refine below_drew ?_))

set_option maxRecDepth 100000 in
set_option maxHeartbeats 1000000 in
theorem u_range_one {S W L : Int} (hv : vldB S W L = true) {p : Option Nat} {es : AL} {lo0 hi : Int} (hl : max lo0 (0 : Int) = hi) (h1 : hi ≤ 1000000) {w : World} (hes : MapIs w p es) (hg : Good W es) (hn : es.length ≤ 100000) :
    Calls Try.prog 32 #[.agg #[.int .i64 S, .int .i64 W, .int .i64 L, .map p], .int .i64 lo0, .int .i64 hi] w fun e w' => ∃ b, e = .returned (.agg #[.int .i64 S, .int .i64 W, .int .i64 L, .map (some b)]) ∧ MapAt w' b (accU S W es hi) ∧ Below w.heap.size w w' := by
  have ZA := fun w => zero_any S W L p w
  rw [vz hv] at ZA
  have h0 : 0 ≤ hi := by omega
  have AC := fun (w' : World) (h : MapIs w' p es) => u_access (L := L) hv h0 h1 h hg hn
  have tl : decide (hi < hi) = false := by simp
  have HE := hide hes
  clear hv hes hg
  go_enter Try.func32, Try.ntmps32
  go_wp2_with fail
  refine at_world ?_
  intro W1 hW
  have HB1 := hide (below_at hW (below_alloc (below_at2 rfl (Below.refl _ _)) _))
  have b3 := Blk.newAt hW
  simp only [World.size_alloc] at b3
  have b2 := Blk.at_ hW (Blk.new _ _ _)
  simp only [World.size_alloc] at b2
  obtain ⟨b0, b1⟩ := Blk.new2 w _ _ _ _
  have b0 := Blk.at_ hW (b0.alloc _)
  have b1 := Blk.at_ hW (b1.alloc _)
  have HE1 := hide (MapIs.at_ hW ((MapIs.at2 rfl HE.out).alloc _))
  clear hW hl HE
  refine (ZA _).mono ?_; rintro e w1 ⟨rfl, hb⟩
  have b0 := b0.on hb
  have b1 := b1.on hb
  have b2 := b2.on hb
  have b3 := b3.on hb
  have HM := hide (HE1.out.below hb)
  have HB := hide (below_then HB1.out hb)
  have C0 := b0.c4
  have C1 : w1.cell? ⟨w.heap.size + 1, 0, none⟩ = some (.int .i64 hi) := b1.cell 0
  have C2 : w1.cell? ⟨w.heap.size + 1 + 1, 0, none⟩ = some (.int .i64 hi) := b2.cell 0
  clear hb HB1 ZA b0 b1 b2 HE1
  go_wp2_with fail
  refine (AC _ HM.out).mono ?_; rintro e w5 ⟨b, rfl, hmb, hb⟩
  have B3 := b3.on hb
  have HB2 := hide (hmb.ne B3)
  have HMB := hide hmb
  have HB5 := hide (below_then HB.out hb)
  have C3 := B3.c4
  have F3 := B3.fz
  clear hmb hb AC HM HB b3 C0 C1 C2
  go_wp2_with fail
  refine bodyPost_ret (v := .agg #[.int .i64 S, .int .i64 W, .int .i64 L, .map (some b)]) (by simp [results, Try.results32, go_sem, C3]) rfl ?_
  have hm := HMB.out
  have hb := HB5.out
  exact ⟨b, rfl, by (repeat (first | with_reducible assumption | refine MapAt.far ?_ ?_ _ | refine MapAt.alloc ?_ _)); all_goals (first | exact fun e => HB2.out e.symm | omega | (simp; omega)), by (repeat (first | with_reducible exact Below.refl _ _ | with_reducible assumption | refine below_set ?_ (by first | exact Nat.le_refl _ | (simp; omega) | simp) _ | refine below_alloc ?_ _ | refine below_drewN ?_ _ | refine below_drew ?_))⟩

theorem u_range_any {S W L : Int} (hv : vldB S W L = true) {p : Option Nat} {es : AL} {lo hi : Int} (h1 : hi ≤ 1000000) {w : World} (hes : MapIs w p es) (hg : Good W es) (hn : es.length ≤ 100000) :
    Calls Try.prog 32 #[.agg #[.int .i64 S, .int .i64 W, .int .i64 L, .map p], .int .i64 lo, .int .i64 hi] w fun e w' => ∃ q, e = .returned (.agg #[.int .i64 S, .int .i64 W, .int .i64 L, .map q]) ∧ MapIs w' q (rngU S W es lo hi) ∧ Below w.heap.size w w' := by
  obtain ⟨l, hl⟩ : ∃ l, max lo (0 : Int) = l := ⟨_, rfl⟩
  unfold rngU
  rw [hl]
  by_cases a1 : hi < l
  · rw [if_pos a1]
    exact (u_range_id hv hl a1 w).mono fun e w' ⟨he, hb⟩ => ⟨p, he, hes.below hb, hb⟩
  · rw [if_neg a1]
    by_cases a2 : l = hi
    · rw [if_pos a2]
      subst a2
      exact (u_range_one hv hl h1 hes hg hn).mono fun e w' ⟨b, he, hm, hb⟩ => ⟨some b, he, at_is hm, hb⟩
    · rw [if_neg a2]
      exact (u_range_gen hv hl (by omega) h1 hes hg hn).mono fun e w' ⟨b, he, hm, hb⟩ => ⟨some b, he, at_is hm, hb⟩
end Go.Proofs.Ytihmiokejhnicaa
