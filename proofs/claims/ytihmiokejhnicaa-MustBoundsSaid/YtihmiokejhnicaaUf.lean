/- must: AccessRange. -/
import Derived.Test.YtihmiokejhnicaaUe
set_option linter.unusedVariables false
set_option linter.unusedSimpArgs false
namespace Go.Proofs.Ytihmiokejhnicaa
open Go.RowKit Go.Maps Go.Proofs.YtihmiokejhnicaaW.PrintLast

/-- How far is the first line from lo on that lies in the set of x? -/
def dst (S lo x : Int) : Int := Int.tmod (Int.tmod (x - lo) S + S) S
def fRng (S lo hi x a : Int) : Bool := decide (dst S lo x ≤ hi - lo)
theorem tmod_bd {a S : Int} (h : 1 ≤ S) : -S < Int.tmod a S ∧ Int.tmod a S < S := by
  rcases Int.lt_or_le a 0 with h0 | h0
  · have h1 : Int.tmod a S = -(Int.tmod (-a) S) := by rw [Int.neg_tmod, Int.neg_neg]
    have h2 := Int.tmod_lt_of_pos (-a) (show 0 < S by omega)
    have h3 := Int.tmod_nonneg S (show 0 ≤ -a by omega)
    omega
  · have h2 := Int.tmod_lt_of_pos a (show 0 < S by omega)
    have h3 := Int.tmod_nonneg S h0
    omega
structure DInv (w0 w : World) (S W L lo hi : Int) (p : Option Nat) (gl gs gh : Nat) : Prop where
  bl : Blk w gl 3 #[.int .i64 lo]
  bs : Blk w gs 28 #[.int .i64 S, .int .i64 W, .int .i64 L, .map p]
  bh : Blk w gh 3 #[.int .i64 hi]

set_option maxRecDepth 100000 in
set_option maxHeartbeats 2000000 in
theorem clo_rng {S W L lo hi : Int} (s0 : 1 ≤ S) (s1 : S ≤ 64) {p : Option Nat} {gl gs gh : Nat} {x a : Int} (x0 : 0 ≤ x) (x1 : x ≤ 1000000) (l0 : 0 ≤ lo) (l1 : lo ≤ 1000000) (h0 : 0 ≤ hi) (h1 : hi ≤ 1000000) {w : World} (h : DInv w w S W L lo hi p gl gs gh) :
    Calls Try.prog 51 #[.int .i64 x, .int .i64 a, .pointer (some ⟨gl, 0, none⟩), .pointer (some ⟨gs, 0, none⟩), .pointer (some ⟨gh, 0, none⟩)] w fun e w' => e = .returned (.bool (fRng S lo hi x a)) ∧ Below w.heap.size w w' := by
  have C1 : w.cell? ⟨gl, 0, none⟩ = some (.int .i64 lo) := h.bl.cell 0
  have C2 : w.cell? ⟨gs, 0, none⟩ = some (.int .i64 S) := h.bs.cell 0
  have C3 : w.cell? ⟨gh, 0, none⟩ = some (.int .i64 hi) := h.bh.cell 0
  clear h
  have w1 : IntKind.i64.wrap (x - lo) = x - lo := by rw [IntKind.wrap_i64]; omega
  obtain ⟨t0, t1⟩ := tmod_bd (a := x - lo) s0
  have w2 : IntKind.i64.wrap (Int.tmod (x - lo) S) = Int.tmod (x - lo) S := by rw [IntKind.wrap_i64]; omega
  have w3 : IntKind.i64.wrap (Int.tmod (x - lo) S + S) = Int.tmod (x - lo) S + S := by rw [IntKind.wrap_i64]; omega
  obtain ⟨t2, t3⟩ := tmod_bd (a := Int.tmod (x - lo) S + S) s0
  have w4 : IntKind.i64.wrap (Int.tmod (Int.tmod (x - lo) S + S) S) = Int.tmod (Int.tmod (x - lo) S + S) S := by rw [IntKind.wrap_i64]; omega
  have w5 : IntKind.i64.wrap (hi - lo) = hi - lo := by rw [IntKind.wrap_i64]; omega
  have n0 : ¬ S = 0 := by omega
  have n1 : ¬ S = -1 := by omega
  have FACTS : (w.drew.cell? ⟨gl, 0, none⟩ = some (.int .i64 lo) ∧ w.drew.cell? ⟨gs, 0, none⟩ = some (.int .i64 S) ∧ w.drew.cell? ⟨gh, 0, none⟩ = some (.int .i64 hi)) := ⟨C1, C2, C3⟩
  go_enter Try.func51, Try.ntmps51
  go_wp2_with fail
  go_region_held3 (fun w' : World => w'.cell? ⟨gl, 0, none⟩ = some (.int .i64 lo) ∧ w'.cell? ⟨gs, 0, none⟩ = some (.int .i64 S) ∧ w'.cell? ⟨gh, 0, none⟩ = some (.int .i64 hi))
    (with_reducible assumption) (fail)
  go_wp2_with fail
  go_ret
  have e1 : Int.tmod (Int.tmod (x - lo) S + S) S = (Int.tmod (x - lo) S + S) % S := Int.tmod_eq_emod_of_nonneg (by omega)
  exact ⟨by simp [fRng, dst, e1], by (repeat (first | with_reducible exact Below.refl _ _ | with_reducible assumption | refine below_set ?_ (by first | exact Nat.le_refl _ | (simp; omega) | simp) _ | refine below_alloc ?_ _ | refine below_drewN ?_ _ | refine below_drew ?_))⟩

set_option maxRecDepth 100000 in
set_option maxHeartbeats 2000000 in
/-- A range of more than one line. -/
theorem u_range_many {S W L : Int} (hv : vldB S W L = true) {p : Option Nat} {es : AL} {lo hi : Int} (l0 : 0 ≤ lo) (h0 : lo < hi) (h1 : hi ≤ 1000000) {w : World} (hes : MapIs w p es) (hg : Good W es) (hn : es.length ≤ 100000) :
    Calls Try.prog 32 #[.agg #[.int .i64 S, .int .i64 W, .int .i64 L, .map p], .int .i64 lo, .int .i64 hi] w fun e w' => ∃ b, e = .returned (.agg #[.int .i64 S, .int .i64 W, .int .i64 L, .map (some b)]) ∧ MapAt w' b (oldL W (fRng S lo hi) es) ∧ Below w.heap.size w w' := by
  have ZA := fun w => zero_any S W L p w
  obtain ⟨s0, s1, w0, w8, _⟩ := vldB_bd hv
  have hz : zB S W L = false := by
    unfold zB
    have : (S == 0) = false := by simp; omega
    rw [this]
    rfl
  rw [hz] at ZA
  have hmx : Builtin.max2 (.int .i64 lo) (.int .i64 0) = pure (.int .i64 lo) := by rw [bmax2, if_neg (by omega)]
  have hmx2 : max lo (0 : Int) = lo := by omega
  have HG := hide hg
  have HE := hide hes
  clear hg hes hz hv
  have tl : decide (hi < lo) = false := by simp; omega
  have te : (lo == hi) = false := by simp; omega
  go_enter Try.func32, Try.ntmps32
  go_wp2_with fail
  refine at_world ?_
  intro W1 hW
  have HB1 := hide (below_at hW (below_alloc (below_at2 rfl (Below.refl _ _)) _))
  have b3 := Blk.newAt hW
  simp only [World.size_alloc] at b3
  have b2 := Blk.at_ hW (Blk.new _ _ _)
  simp only [World.size_alloc] at b2
  obtain ⟨b0, b1⟩ := Blk.new2 w _ _ _ _
  have b0 := Blk.at_ hW (b0.alloc _)
  have b1 := Blk.at_ hW (b1.alloc _)
  have HE1 := hide (MapIs.at_ hW ((MapIs.at2 rfl HE.out).alloc _))
  clear hW HE
  refine (ZA _).mono ?_; rintro e w1 ⟨rfl, hb⟩
  have b0 := b0.on hb
  have b1 := b1.on hb
  have b2 := b2.on hb
  have b3 := b3.on hb
  have HM := hide (HE1.out.below hb)
  have HB := hide (below_then HB1.out hb)
  clear hb HE1 HB1 ZA
  have C0 := b0.c4
  have C1 : w1.cell? ⟨w.heap.size + 1, 0, none⟩ = some (.int .i64 lo) := b1.cell 0
  have C2 : w1.cell? ⟨w.heap.size + 1 + 1, 0, none⟩ = some (.int .i64 hi) := b2.cell 0
  go_wp2_with fail
  have CL : ∀ (W' : World) (k a : Int), Below w1.heap.size w1 W' → aget es k = some a → Calls Try.prog 51 #[.int .i64 k, .int .i64 a, .pointer (some ⟨w.heap.size + 1, 0, none⟩), .pointer (some ⟨w.heap.size, 0, none⟩), .pointer (some ⟨w.heap.size + 1 + 1, 0, none⟩)] W' fun e w' => e = .returned (.bool (fRng S lo hi k a)) ∧ Below W'.heap.size W' w' := fun W' k a hb hk =>
    clo_rng s0 (by omega) (HG.out.get hk).1 (HG.out.get hk).2.1 l0 (by omega) (by omega) h1 ⟨b1.on hb, b0.on hb, b2.on hb⟩
  refine (older_r w0 w8 HM.out HG.out hn CL).mono ?_; rintro e w5 ⟨b, rfl, hmb, hwb, hb⟩
  have B3 := b3.on hb
  have hwb2 : w.heap.size ≤ b := Nat.le_trans HB.out.size hwb
  have HB2 := hide (hmb.ne B3)
  have HMB := hide hmb
  have HB5 := hide (below_then HB.out hb)
  have C3 := B3.c4
  have F3 := B3.fz
  clear hmb hb CL HM HB b0 b1 b2 b3 C0 C1 C2
  go_wp2_with fail
  refine bodyPost_ret (v := .agg #[.int .i64 S, .int .i64 W, .int .i64 L, .map (some b)]) (by simp [results, Try.results32, go_sem, C3]) rfl ?_
  have hm := HMB.out
  have hb := HB5.out
  exact ⟨b, rfl, by (repeat (first | with_reducible assumption | refine MapAt.far ?_ ?_ _ | refine MapAt.alloc ?_ _)); all_goals (first | exact fun e => HB2.out e.symm | omega | (simp; omega)), by (repeat (first | with_reducible exact Below.refl _ _ | with_reducible assumption | refine below_set ?_ (by first | exact Nat.le_refl _ | (simp; omega) | simp) _ | refine below_alloc ?_ _ | refine below_drewN ?_ _ | refine below_drew ?_))⟩
end Go.Proofs.Ytihmiokejhnicaa
