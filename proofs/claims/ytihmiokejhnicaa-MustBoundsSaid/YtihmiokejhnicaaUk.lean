/- The law's states. -/
import Derived.Test.YtihmiokejhnicaaUj
import Derived.RegionTactic
import Derived.ChangeAlike
set_option linter.unusedVariables false
set_option linter.unusedSimpArgs false
namespace Go.Proofs.Ytihmiokejhnicaa
open Go.RowKit Go.Maps Go.Proofs.YtihmiokejhnicaaW.PrintWords

abbrev set4 (w : World) (g : Nat) (a b c d : Value) : World := (((w.setCell ⟨g, 0, none⟩ a).setCell ⟨g, 1, none⟩ b).setCell ⟨g, 2, none⟩ c).setCell ⟨g, 3, none⟩ d
theorem store4 {w W : World} {g t : Nat} {a0 b0 c0 d0 a b c d : Value} (hb : Blk w g t #[a0, b0, c0, d0]) (hW : W = set4 w g a b c d) :
    w.grownBy W (some g) ∧ Blk W g t #[a, b, c, d] := by
  subst hW
  refine ⟨grown_then (grown_then (grown_then (grown_set w ⟨g, 0, none⟩ a) (grown_set _ ⟨g, 1, none⟩ b)) (grown_set _ ⟨g, 2, none⟩ c)) (grown_set _ ⟨g, 3, none⟩ d), ?_⟩
  have := (((hb.set_ 0 a).set_ 1 b).set_ 2 c).set_ 3 d
  simpa using this
theorem set4_is {w : World} {g t : Nat} {a0 b0 c0 d0 : Value} (hb : Blk w g t #[a0, b0, c0, d0]) (a b c d : Value) : w.grownBy (set4 w g a b c d) (some g) ∧ Blk (set4 w g a b c d) g t #[a, b, c, d] := store4 hb rfl

theorem two_stores {w : World} {g1 g2 t : Nat} {a1 b1 c1 d1 a2 b2 c2 d2 : Value} (h1 : Blk w g1 t #[a1, b1, c1, d1]) (h2 : Blk w g2 t #[a2, b2, c2, d2]) (hne : g1 ≠ g2) (a b c d a' b' c' d' : Value) :
    Blk (set4 (set4 w g1 a b c d) g2 a' b' c' d') g1 t #[a, b, c, d] ∧ Blk (set4 (set4 w g1 a b c d) g2 a' b' c' d') g2 t #[a', b', c', d'] := by
  obtain ⟨k1, e1⟩ := set4_is h1 a b c d
  have h2' := h2.grown k1 (fun e => hne (Option.some.inj e).symm)
  obtain ⟨k2, e2⟩ := set4_is h2' a' b' c' d'
  exact ⟨e1.grown k2 (fun e => hne (Option.some.inj e)), e2⟩
def sS (S W : Int) (l : List Stp) : AL := l.foldl (fun es x => doU S W es x.1 x.2.1) []
theorem sS_succ (S W : Int) (l : List Stp) (i : Nat) (h : i < l.length) : sS S W (l.take (i + 1)) = doU S W (sS S W (l.take i)) (l.getD i (0, 0, 0)).1 (l.getD i (0, 0, 0)).2.1 := by
  rw [List.take_succ_eq_append_getElem h]
  simp only [sS, List.foldl_append, List.foldl_cons, List.foldl_nil]
  rw [List.getD_eq_getElem?_getD, List.getElem?_eq_getElem h]
  rfl
theorem sS_good {S W : Int} (hW : 1 ≤ W) {l : List Stp} (h : ∀ x ∈ l, lowB x = true) (i : Nat) (hi : i ≤ l.length) : Good W (sS S W (l.take i)) ∧ (sS S W (l.take i)).length ≤ i := by
  induction i with
  | zero => exact ⟨good_nil W, Nat.zero_le _⟩
  | succ i ih =>
    obtain ⟨h1, h2⟩ := ih (by omega)
    rw [sS_succ S W l i (by omega)]
    have hb := low_bd (h (l.getD i (0, 0, 0)) (by rw [List.getD_eq_getElem?_getD, List.getElem?_eq_getElem (by omega)]; exact List.getElem_mem _))
    exact ⟨good_doU hW h1 (by omega) (by omega), Nat.le_trans (length_doU _ _ _ _ _) (by omega)⟩

def StatesPost (S W L : Int) (a b : List Stp) (w : World) (e : Ending) (w' : World) : Prop :=
  ∃ (x y z : Int) (p q : Option Nat) (ok : Bool), e = .returned (.tuple #[.agg #[.int .i64 x, .int .i64 y, .int .i64 z, .map p], .agg #[.int .i64 x, .int .i64 y, .int .i64 z, .map q], .bool ok]) ∧
    (ok = true → x = S ∧ y = W ∧ z = L ∧ vldB S W L = true ∧ GreatP a ∧ GreatP b ∧ MapIs w' p (sS S W a) ∧ MapIs w' q (sS S W b)) ∧ Below w.heap.size w w'

set_option maxRecDepth 100000 in
set_option maxHeartbeats 4000000 in
theorem states_any {S W L : Int} {w : World} {A1 A2 : Option Addr} {c1 c2 : Nat} {a b : List Stp} (h1 : Kd.C kSt w A1 a.length a) (hc1 : a.length ≤ c1) (h2 : Kd.C kSt w A2 b.length b) (hc2 : b.length ≤ c2) :
    Calls Try.prog 12 #[.agg #[.int .i64 S, .int .i64 W, .int .i64 L], .slice A1 a.length c1, .slice A2 b.length c2] w (StatesPost S W L a b w) := by
  have H1 := hide h1
  have H2 := hide h2
  have m1 := Kd.C_max h1
  have m2 := Kd.C_max h2
  clear h1 h2
  cases hv : vldB S W L with
  | false =>
    have HV := hide hv
    clear hv
    go_enter Try.func12, Try.ntmps12
    go_wp2_with fail
    refine at_world ?_
    intro W1 hW
    have HB1 := hide (below_at hW (below_at2 rfl (Below.refl _ _)))
    have b2 := Blk.newAt hW
    simp only [World.size_alloc] at b2
    obtain ⟨b0, b1⟩ := Blk.new2 w _ _ _ _
    have b1 := Blk.at_ hW b1
    clear hW b0
    refine (must_new_bad HV.out _).mono ?_; rintro e w1 ⟨rfl, hb⟩
    have b1 := b1.on hb
    have b2 := b2.on hb
    have HB := hide (below_then HB1.out hb)
    have hz1 : w.heap.size + 1 < w1.heap.size := b1.lt
    have hz2 : w.heap.size + 1 + 1 < w1.heap.size := b2.lt
    have C1 := b1.c4
    have F1 := b1.fz
    have C2 := b2.c4
    have F2 := b2.fz
    obtain ⟨k0, b1'⟩ := set4_is b1 (.int .i64 0) (.int .i64 0) (.int .i64 0) (.map none)
    obtain ⟨X1, X2⟩ := two_stores b1' (b2.grown k0 (by simp)) (by omega) (.int .i64 0) (.int .i64 0) (.int .i64 0) (.map none) (.int .i64 0) (.int .i64 0) (.int .i64 0) (.map none)
    have Y1 := X1.c4
    have Y2 := X2.c4
    have HY1 := hide Y1
    have HY2 := hide Y2
    clear hb HB1 b1 b2 k0 b1' X1 X2 Y1 Y2
    go_wp2_with fail
    have Y1 := HY1.out
    have Y2 := HY2.out
    simp only [set4] at Y1 Y2
    refine bodyPost_ret (v := .tuple #[.agg #[.int .i64 0, .int .i64 0, .int .i64 0, .map none], .agg #[.int .i64 0, .int .i64 0, .int .i64 0, .map none], .bool false]) (by simp [results, Try.results12, go_sem, Y1, Y2]) rfl ?_
    exact ⟨0, 0, 0, none, none, false, rfl, (fun h => by cases h), by have hb := HB.out; (repeat (first | with_reducible exact Below.refl _ _ | with_reducible assumption | refine below_set ?_ (by first | exact Nat.le_refl _ | (simp; omega) | simp) _ | refine below_alloc ?_ _ | refine below_drewN ?_ _ | refine below_drew ?_))⟩
  | true =>
  have HV := hide hv
  clear hv
  go_enter Try.func12, Try.ntmps12
  go_wp2_with fail
  refine at_world ?_
  intro W1 hW
  have HB1 := hide (below_at hW (below_at2 rfl (Below.refl _ _)))
  have b2 := Blk.newAt hW
  simp only [World.size_alloc] at b2
  obtain ⟨b0, b1⟩ := Blk.new2 w _ _ _ _
  have b1 := Blk.at_ hW b1
  clear hW b0
  refine (must_new HV.out _).mono ?_; rintro e w1 ⟨rfl, hb⟩
  have b1 := b1.on hb
  have b2 := b2.on hb
  have HB := hide (below_then HB1.out hb)
  have hz1 : w.heap.size + 1 < w1.heap.size := b1.lt
  have hz2 : w.heap.size + 1 + 1 < w1.heap.size := b2.lt
  have C1 := b1.c4
  have F1 := b1.fz
  clear hb HB1
  go_wp2_with fail
  refine at_world ?_
  intro W2 hW
  obtain ⟨hg, b1⟩ := store4 b1 hW
  have b2 := b2.grown hg (by simp)
  have HB := hide (below_grown HB.out hg (by omega))
  clear hW hg C1 F1
  refine (great_any (Kd.C_below H1.out HB.out) hc1).mono ?_; rintro e w3 ⟨r, rfl, hr, hb⟩
  have b1 := b1.on hb
  have b2 := b2.on hb
  have HB := hide (below_then HB.out hb)
  have HR := hide hr
  clear hb hr
  cases r with
  | true =>
    have C1 := b1.c4
    have F1 := b1.fz
    have C2 := b2.c4
    have F2 := b2.fz
    obtain ⟨X1, X2⟩ := two_stores b1 b2 (by omega) (.int .i64 S) (.int .i64 W) (.int .i64 L) (.map none) (.int .i64 S) (.int .i64 W) (.int .i64 L) (.map none)
    have HY1 := hide X1.c4
    have HY2 := hide X2.c4
    clear b1 b2 X1 X2
    go_wp2_with fail
    have Y1 := HY1.out
    have Y2 := HY2.out
    simp only [set4] at Y1 Y2
    refine bodyPost_ret (v := .tuple #[.agg #[.int .i64 S, .int .i64 W, .int .i64 L, .map none], .agg #[.int .i64 S, .int .i64 W, .int .i64 L, .map none], .bool false]) (by simp [results, Try.results12, go_sem, Y1, Y2]) rfl ?_
    exact ⟨S, W, L, none, none, false, rfl, (fun h => by cases h), by have hb := HB.out; (repeat (first | with_reducible exact Below.refl _ _ | with_reducible assumption | refine below_set ?_ (by first | exact Nat.le_refl _ | (simp; omega) | simp) _ | refine below_alloc ?_ _ | refine below_drewN ?_ _ | refine below_drew ?_))⟩
  | false =>
  have G1 := hide (HR.out rfl)
  clear HR
  go_wp2_with fail
  refine (great_any (Kd.C_below H2.out HB.out) hc2).mono ?_; rintro e w4 ⟨r, rfl, hr, hb⟩
  have b1 := b1.on hb
  have b2 := b2.on hb
  have HB := hide (below_then HB.out hb)
  have HR := hide hr
  clear hb hr
  have C1 := b1.c4
  have F1 := b1.fz
  have C2 := b2.c4
  have F2 := b2.fz
  cases r with
  | true =>
    obtain ⟨X1, X2⟩ := two_stores b1 b2 (by omega) (.int .i64 S) (.int .i64 W) (.int .i64 L) (.map none) (.int .i64 S) (.int .i64 W) (.int .i64 L) (.map none)
    have HY1 := hide X1.c4
    have HY2 := hide X2.c4
    clear b1 b2 X1 X2
    go_wp2_with fail
    have Y1 := HY1.out
    have Y2 := HY2.out
    simp only [set4] at Y1 Y2
    refine bodyPost_ret (v := .tuple #[.agg #[.int .i64 S, .int .i64 W, .int .i64 L, .map none], .agg #[.int .i64 S, .int .i64 W, .int .i64 L, .map none], .bool false]) (by simp [results, Try.results12, go_sem, Y1, Y2]) rfl ?_
    exact ⟨S, W, L, none, none, false, rfl, (fun h => by cases h), by have hb := HB.out; (repeat (first | with_reducible exact Below.refl _ _ | with_reducible assumption | refine below_set ?_ (by first | exact Nat.le_refl _ | (simp; omega) | simp) _ | refine below_alloc ?_ _ | refine below_drewN ?_ _ | refine below_drew ?_))⟩
  | false =>
  have G2 := hide (HR.out rfl)
  clear HR
  go_wp2_with fail
  refine at_wp ?_
  intro W5 hW
  obtain ⟨hg, b2⟩ := store4 b2 hW
  have b1 := b1.grown hg (by simp)
  have HB := hide (below_grown HB.out hg (by omega))
  obtain ⟨_, _, w0, w8', _⟩ := vldB_bd HV.out
  have ka := G1.out.1
  have kb := G2.out.1
  clear hW hg C1 F1 C2 F2
  go_loopw [34] (fun v wr => ∃ (i : Nat) (es : AL) (p : Option Nat), v = .int .i64 i ∧ i ≤ a.length ∧ Hid (es = sS S W (a.take i)) ∧ Blk wr (w.heap.size + 1) 28 #[.int .i64 S, .int .i64 W, .int .i64 L, .map p] ∧ Blk wr (w.heap.size + 1 + 1) 28 #[.int .i64 S, .int .i64 W, .int .i64 L, .map none] ∧
      Hid (MapIs wr p es) ∧ Hid (MapIs wr none []) ∧ Hid (Below w.heap.size w wr)) (fun v _ => a.length - (intOf v).toNat)
  case atStart => exact ⟨0, [], none, rfl, Nat.zero_le _, hide rfl, b1, b2, hide (.nil_ _), hide (.nil_ _), HB⟩
  case round =>
    clear b1 b2 HB hz1 hz2
    obtain ⟨i, es, p, rfl, hi, HS, B1, B2, HM, HQ, HB⟩ := hrel
    by_cases hlt : i < a.length
    · obtain ⟨ad, rfl, hx, hy, hz⟩ := stp_at (Kd.C_below H1.out HB.out) i hlt
      have HI := hide (sS_succ S W a i hlt)
      have HNR := hide (G1.out.2 (a.getD i (0, 0, 0)) (by rw [List.getD_eq_getElem?_getD, List.getElem?_eq_getElem hlt]; exact List.getElem_mem _))
      have GD := hide (sS_good (S := S) w0 G1.out.2 i hi)
      rw [← HS.out] at GD HI
      generalize a.getD i (0, 0, 0) = r at hx hy hz HI HNR
      obtain ⟨lo, hi', pk⟩ := r
      simp only at hx hy hz
      have hnb := low_bd HNR.out
      simp only at hnb
      obtain ⟨n1, n2⟩ := hnb
      have gl := GD.out.2
      have hzz1 : w.heap.size + 1 < wr.heap.size := B1.lt
      have hzz2 : w.heap.size + 1 + 1 < wr.heap.size := B2.lt
      have CM := B1.c4
      go_wp2_with fail
      refine at_world ?_
      intro W7 hW
      have B1 := Blk.at_ hW B1
      have B2 := Blk.at_ hW B2
      have HM := hide (MapIs.at_ hW HM.out)
      have HQ := hide (MapIs.at_ hW HQ.out)
      have HB := hide (below_at hW HB.out)
      clear hW hx hy hz CM
      have DC := do_any (pk := pk) HV.out (show lo ≤ 1000000 by omega) (show hi' ≤ 1000000 by omega) HM.out GD.out.1 (by omega)
      have HI : Hid (sS S W (a.take (i + 1)) = doU S W es lo hi') := HI
      generalize doU S W es lo hi' = es2 at DC HI
      refine DC.mono ?_; rintro e w8 ⟨p2, rfl, hm, hb⟩
      have B1 := B1.on hb
      have B2 := B2.on hb
      have HM := hide (HM.out.below hb)
      have HQ := hide (HQ.out.below hb)
      have HN := hide hm
      have HB := hide (below_then HB.out hb)
      have hzz1 : w.heap.size + 1 < w8.heap.size := B1.lt
      have hzz2 : w.heap.size + 1 + 1 < w8.heap.size := B2.lt
      have CM := B1.c4
      have FM := B1.fz
      obtain ⟨hg, E⟩ := set4_is B1 (.int .i64 S) (.int .i64 W) (.int .i64 L) (.map p2)
      have R := hide (And.intro E (And.intro (B2.grown hg (by simp)) (And.intro (hide (HN.out.store hg B1)) (hide (below_grown HB.out hg (by omega))))))
      clear hg E DC
      go_wp2_with fail
      go_roundw
      case rel => exact ⟨i + 1, es2, p2, by go_num, by omega, hide HI.out.symm, R.out.1, R.out.2.1, R.out.2.2.1, hide (.nil_ _), R.out.2.2.2⟩
      case measure => simp [intOf]; omega
    · have hie : i = a.length := by omega
      have HS1 := hide (show es = sS S W a by rw [HS.out, hie, List.take_length])
      clear hie HS
      go_wp2_with fail
      go_loopw [44] (fun v wr => ∃ (i : Nat) (fs : AL) (q : Option Nat), v = .int .i64 i ∧ i ≤ b.length ∧ Hid (fs = sS S W (b.take i)) ∧ Blk wr (w.heap.size + 1) 28 #[.int .i64 S, .int .i64 W, .int .i64 L, .map p] ∧ Blk wr (w.heap.size + 1 + 1) 28 #[.int .i64 S, .int .i64 W, .int .i64 L, .map q] ∧
          Hid (MapIs wr p es) ∧ Hid (MapIs wr q fs) ∧ Hid (Below w.heap.size w wr)) (fun v _ => b.length - (intOf v).toNat)
      case atStart => exact ⟨0, [], none, rfl, Nat.zero_le _, hide rfl, B1, B2, HM, HQ, HB⟩
      case round =>
        clear B1 B2 HM HQ HB hi hlt
        obtain ⟨i, fs, q, rfl, hi, HS, B1, B2, HM, HQ, HB⟩ := hrel
        by_cases hlt : i < b.length
        · obtain ⟨ad, rfl, hx, hy, hz⟩ := stp_at (Kd.C_below H2.out HB.out) i hlt
          have HI := hide (sS_succ S W b i hlt)
          have HNR := hide (G2.out.2 (b.getD i (0, 0, 0)) (by rw [List.getD_eq_getElem?_getD, List.getElem?_eq_getElem hlt]; exact List.getElem_mem _))
          have GD := hide (sS_good (S := S) w0 G2.out.2 i hi)
          rw [← HS.out] at GD HI
          generalize b.getD i (0, 0, 0) = r at hx hy hz HI HNR
          obtain ⟨lo, hi', pk⟩ := r
          simp only at hx hy hz
          have hnb := low_bd HNR.out
          simp only at hnb
          obtain ⟨n1, n2⟩ := hnb
          have gl := GD.out.2
          have hzz1 : w.heap.size + 1 < wr.heap.size := B1.lt
          have hzz2 : w.heap.size + 1 + 1 < wr.heap.size := B2.lt
          have CM := B2.c4
          go_wp2_with fail
          refine at_world ?_
          intro W7 hW
          have B1 := Blk.at_ hW B1
          have B2 := Blk.at_ hW B2
          have HM := hide (MapIs.at_ hW HM.out)
          have HQ := hide (MapIs.at_ hW HQ.out)
          have HB := hide (below_at hW HB.out)
          clear hW hx hy hz CM
          have DC := do_any (pk := pk) HV.out (show lo ≤ 1000000 by omega) (show hi' ≤ 1000000 by omega) HQ.out GD.out.1 (by omega)
          have HI : Hid (sS S W (b.take (i + 1)) = doU S W fs lo hi') := HI
          generalize doU S W fs lo hi' = es2 at DC HI
          refine DC.mono ?_; rintro e w8 ⟨p2, rfl, hm, hb⟩
          have B1 := B1.on hb
          have B2 := B2.on hb
          have HM := hide (HM.out.below hb)
          have HQ := hide (HQ.out.below hb)
          have HN := hide hm
          have HB := hide (below_then HB.out hb)
          have hzz1 : w.heap.size + 1 < w8.heap.size := B1.lt
          have hzz2 : w.heap.size + 1 + 1 < w8.heap.size := B2.lt
          have CM := B2.c4
          have FM := B2.fz
          obtain ⟨hg, E⟩ := set4_is B2 (.int .i64 S) (.int .i64 W) (.int .i64 L) (.map p2)
          have R := hide (And.intro (B1.grown hg (by simp)) (And.intro E (And.intro (hide (HM.out.store hg B2)) (And.intro (hide (HN.out.store hg B2)) (hide (below_grown HB.out hg (by omega)))))))
          clear hg E DC
          go_wp2_with fail
          go_roundw
          case rel => exact ⟨i + 1, es2, p2, by go_num, by omega, hide HI.out.symm, R.out⟩
          case measure => simp [intOf]; omega
        · have hie : i = b.length := by omega
          have HS2 := hide (show fs = sS S W b by rw [HS.out, hie, List.take_length])
          clear hie HS
          have C1 := B1.c4
          have F1 := B1.fz
          have C2 := B2.c4
          have F2 := B2.fz
          have N1 : w.heap.size + 1 ≠ w.heap.size + 1 + 1 := by omega
          obtain ⟨k1, E1⟩ := set4_is B1 (.int .i64 S) (.int .i64 W) (.int .i64 L) (.map p)
          have B2' := B2.grown k1 (by simp)
          obtain ⟨k2, E2⟩ := set4_is B2' (.int .i64 S) (.int .i64 W) (.int .i64 L) (.map q)
          have HY1 := hide (E1.grown k2 (by simp)).c4
          have HY2 := hide E2.c4
          have HMF := hide (((HM.out.store k1 B1).store k2 B2').drew)
          have HQF := hide (((HQ.out.store k1 B1).store k2 B2').drew)
          have HBF := hide (below_drew (below_grown (below_grown HB.out k1 (by omega)) k2 (by omega)))
          clear k1 E1 B2' k2 E2
          go_wp2_with fail
          go_region
          go_wp2_with fail
          have Y1 := HY1.out
          have Y2 := HY2.out
          simp only [set4] at Y1 Y2
          refine bodyPost_ret (v := .tuple #[.agg #[.int .i64 S, .int .i64 W, .int .i64 L, .map p], .agg #[.int .i64 S, .int .i64 W, .int .i64 L, .map q], .bool true]) (by simp [results, Try.results12, go_sem, Y1, Y2]) rfl ?_
          rw [HS1.out] at HMF
          rw [HS2.out] at HQF
          exact ⟨S, W, L, p, q, true, rfl, fun _ => ⟨rfl, rfl, rfl, HV.out, G1.out, G2.out, HMF.out, HQF.out⟩, HBF.out⟩
end Go.Proofs.Ytihmiokejhnicaa
