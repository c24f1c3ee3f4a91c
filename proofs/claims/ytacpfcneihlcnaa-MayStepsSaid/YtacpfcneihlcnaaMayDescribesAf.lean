/- after: the state and the reference's behind the steps. -/
import Derived.Test.YtacpfcneihlcnaaMayDescribesRf
import Derived.Test.YtacpfcneihlcnaaAw
import Derived.RegionTactic
import Derived.ChangeAlike
set_option linter.unusedVariables false
set_option linter.unusedSimpArgs false
namespace Go.Proofs.Ytacpfcneihlcnaa.MayDescribesu
open Go.RowKit Go.Maps Go.Proofs.Ytacpfcneihlcnaa.PMayDescribes Go.Proofs.YtacpfcneihlcnaaW.PrintWords

def stps (l : List Stp) : List (Int × Int) := l.map fun x => (x.1, x.2.1)
def aft (S W : Int) (l : List Stp) : MS := walkS S W (false, []) (stps l)
theorem aft_zero (S W : Int) (l : List Stp) : aft S W (l.take 0) = (false, []) := by simp [aft, stps, walkS]
theorem aft_succ (S W : Int) (l : List Stp) (i : Nat) (h : i < l.length) : aft S W (l.take (i + 1)) = stepS S W (aft S W (l.take i)) (l.getD i (0, 0, 0)).1 (l.getD i (0, 0, 0)).2.1 := by
  rw [List.take_succ_eq_append_getElem h]
  simp only [aft, stps, List.map_append, List.map_cons, List.map_nil]
  rw [walkS_snoc, List.getD_eq_getElem?_getD, List.getElem?_eq_getElem h]
  rfl
theorem aft_good {S W : Int} (hW : 1 ≤ W) {l : List Stp} (h : ∀ x ∈ l, nearB x = true) (i : Nat) : Good W (aft S W (l.take i)).2 ∧ (aft S W (l.take i)).2.length ≤ 64 * i := by
  have := walkS_good (S := S) hW (stps (l.take i)) (false, []) (good_nil W) (fun x hx => by
    obtain ⟨y, hy, rfl⟩ := List.mem_map.1 hx
    have := near_bd (h y (List.mem_of_mem_take hy))
    simp only
    omega)
  refine ⟨this.1, Nat.le_trans this.2 ?_⟩
  simp [stps]
  omega

set_option maxRecDepth 100000 in
set_option maxHeartbeats 2000000 in
theorem after_any {S W L : Int} {l : List Stp} (hp : SmallP S W L l) {w : World} {A : Option Addr} {c : Nat} (hC : Kd.C kSt w A l.length l) (hc : l.length ≤ c) :
    Calls Try.prog 13 #[.agg #[.int .i64 S, .int .i64 W, .int .i64 L], .slice A l.length c] w fun e w' => ∃ p v, e = .returned (.tuple #[.agg #[.int .i64 S, .int .i64 W, .int .i64 L, .bool (aft S W l).1, .map p], .agg #[.int .i64 S, .int .i64 W, .int .i64 L, .bool (aft S W l).1, v]]) ∧
      MapIs w' p (aft S W l).2 ∧ LinesOwn w' w.heap.size v (aft S W l).2 ∧ Below w.heap.size w w' := by
  obtain ⟨hv, hs16, hn40, hnear⟩ := hp
  obtain ⟨s0, s1, w0, w8, _⟩ := vldB_bd hv
  have NEW := fun w => may_new hv w
  have HV := hide hv
  have HN := hide hnear
  have HC := hide hC
  have hmx := Kd.C_max hC
  clear hv hnear hC
  go_enter Try.func13, Try.ntmps13
  go_wp2_with fail
  refine at_world ?_
  intro W1 hW
  have HB1 := hide (below_at hW (below_at2 rfl (Below.refl _ _)))
  have hs1 : W1.heap.size = w.heap.size + 3 := by have := size_at hW; simpa using this
  have b2 := Blk.newAt hW
  simp only [World.size_alloc] at b2
  obtain ⟨b0, b1⟩ := Blk.new2 w _ _ _ _
  have b0 := Blk.at_ hW b0
  have b1 := Blk.at_ hW b1
  clear hW
  refine (NEW _).mono ?_; rintro e w1 ⟨rfl, hb⟩
  have hs2 : w.heap.size + 3 ≤ w1.heap.size := by have := hb.size; omega
  have b0 := b0.on hb
  have b1 := b1.on hb
  have b2 := b2.on hb
  have HB2 := hide (below_then HB1.out hb)
  have C0 := b0.c3
  clear hb HB1 hs1
  have hz0 : w.heap.size < w1.heap.size := by omega
  have hz1 : w.heap.size + 1 < w1.heap.size := by omega
  have hz2 : w.heap.size + 1 + 1 < w1.heap.size := by omega
  go_wp2_with fail
  refine at_wp ?_
  intro W2 hW
  obtain ⟨b3, b4⟩ := Blk.new2At hW
  have hsz := size_at2 hW
  have b0 : Blk W2 w.heap.size _ _ := Blk.at_ hW (b0.alloc _)
  have b1 : Blk W2 (w.heap.size + 1) _ _ := Blk.at_ hW (b1.alloc _)
  have b2 : Blk W2 (w.heap.size + 1 + 1) _ _ := Blk.at_ hW (b2.alloc _)
  have HB := hide (below_at2 hW HB2.out)
  clear hW C0 HB2
  go_loopw [20] (fun v20 wr => ∃ (i : Nat) (p : Option Nat) (u : Bool) (es : AL) (Av : Option Addr) (cv : Nat), v20 = .int .i64 i ∧ i ≤ l.length ∧ Hid ((u, es) = aft S W (l.take i)) ∧
      Blk wr w.heap.size 23 #[.int .i64 S, .int .i64 W, .int .i64 L] ∧ Blk wr (w.heap.size + 1) 31 #[.int .i64 0, .int .i64 0, .int .i64 0, .bool false, .map none] ∧ Blk wr (w.heap.size + 1 + 1) 34 #[.int .i64 0, .int .i64 0, .int .i64 0, .bool false, .slice none 0 0] ∧
      Blk wr w1.heap.size 31 #[.int .i64 S, .int .i64 W, .int .i64 L, .bool u, .map p] ∧ Blk wr (w1.heap.size + 1) 34 #[.int .i64 S, .int .i64 W, .int .i64 L, .bool u, .slice Av es.length cv] ∧
      Hid (MapIs wr p es) ∧ Hid (LinesOwn wr w.heap.size (.slice Av es.length cv) es) ∧ Hid (Below w.heap.size w wr)) (fun v20 _ => l.length - (intOf v20).toNat)
  case atStart => exact ⟨0, none, false, [], none, 0, rfl, Nat.zero_le _, hide (aft_zero S W l).symm, b0, b1, b2, b3, b4, hide (.nil_ _), hide (.nil_ _ _), HB⟩
  case round =>
    clear b0 b1 b2 b3 b4 HB hsz
    obtain ⟨i, p, u, es, Av, cv, rfl, hi, HS, B0, B1, B2, B3, B4, HM, HL, HB⟩ := hrel
    have hy1 : w1.heap.size + 1 < wr.heap.size := B4.lt
    have hy0 : w1.heap.size < wr.heap.size := by omega
    by_cases hlt : i < l.length
    · obtain ⟨ad, rfl, hx, hy, hz⟩ := stp_at (Kd.C_below HC.out HB.out) i hlt
      have HI := hide (aft_succ S W l i hlt)
      have HNR := hide (HN.out (l.getD i (0, 0, 0)) (by rw [List.getD_eq_getElem?_getD, List.getElem?_eq_getElem hlt]; exact List.getElem_mem _))
      have GD := hide (aft_good (S := S) w0 HN.out i)
      rw [← HS.out] at GD
      generalize l.getD i (0, 0, 0) = r at hx hy hz HI HNR
      obtain ⟨lo, hi', pk⟩ := r
      simp only at hx hy hz
      have hnb := near_bd HNR.out
      simp only at hnb
      obtain ⟨n1, n2, n3, n4⟩ := hnb
      have gl := GD.out.2
      simp only at gl
      have C3 := B3.c5
      obtain ⟨u', es', hst⟩ : ∃ u' es', stepS S W (u, es) lo hi' = (u', es') := ⟨_, _, rfl⟩
      have SC := fun (W3 : World) (h : MapIs W3 p es) => step_any (u := u) (pk := pk) HV.out (show lo ≤ 1000000 by omega) (show hi' ≤ 1000000 by omega) h GD.out.1 (by omega)
      have HSN := hide (show aft S W (l.take (i + 1)) = (u', es') by rw [HI.out, ← HS.out, hst])
      simp only [hst] at SC
      have HST := hide hst
      clear hst HI HS
      go_wp2_with fail
      refine at_world ?_
      intro W3 hW
      have D0 := Blk.at_ hW B0
      have D1 := Blk.at_ hW B1
      have D2 := Blk.at_ hW B2
      have D3 := Blk.at_ hW B3
      have D4 := Blk.at_ hW B4
      have D5 := Blk.newAt hW
      have HM3 := hide (MapIs.at_ hW HM.out)
      have HL3 := hide (LinesOwn.at_ hW HL.out)
      have HB3 := hide (below_at hW HB.out)
      clear hW B0 B1 B2 B3 B4 HM HL HB C3 hx hy hz
      refine (SC _ HM3.out).mono ?_; rintro e w4 ⟨q, rfl, hm, hb⟩
      have D0 := D0.on hb
      have D1 := D1.on hb
      have D2 := D2.on hb
      have D3 := D3.on hb
      have D4 := D4.on hb
      have D5 := D5.on hb
      have HL4 := hide (HL3.out.below hb)
      have HB4 := hide (below_then HB3.out hb)
      have HM4 := hide hm
      clear HM3 HL3 HB3 hm hb SC
      have hy4 : wr.heap.size < w4.heap.size := D5.lt
      have hy3 : w1.heap.size + 1 < w4.heap.size := D4.lt
      have hy2 : w1.heap.size < w4.heap.size := D3.lt
      have C3 := D3.c5
      have F3 := D3.fz
      have C4 := D4.c5
      have C5 := D5.c3
      have HQ := hide (HM4.out.ne D3)
      have E3 := D3
      by_cases he : lo = hi'
      · have te : (lo == hi') = true := by simpa using he
        have HA := hide (show accS S W (u, es) lo = (u', es') by rw [← HST.out, stepS, if_pos he])
        clear he
        have RC := fun (W5 : World) (hB : Below w.heap.size w W5) (hR : LinesOwn W5 w.heap.size (.slice Av es.length cv) es) => r_access (u := u) (L := L) (line := lo) s0 w0 w8 GD.out.1 (by omega) (by omega) hB hR
        simp only [HA.out] at RC
        go_wp2_with fail
        refine at_world ?_
        intro W5 hW
        obtain ⟨hg5, D3⟩ := store5 D3 hW
        have D0 := D0.grown hg5 (by simp; omega)
        have D1 := D1.grown hg5 (by simp; omega)
        have D2 := D2.grown hg5 (by simp; omega)
        have D4 := D4.grown hg5 (by simp)
        have HM5 := hide (HM4.out.kept hg5 (.inr HQ.out))
        have HL5 := hide (HL4.out.store hg5 E3 (by decide))
        have HB5 := hide (below_grown HB4.out hg5 (by omega))
        clear hW hg5 HM4 HL4 HB4 C3 F3 C4 C5 D5 E3 HQ
        refine (RC _ HB5.out HL5.out).mono ?_; rintro e w6 ⟨v', rfl, hl, hb, hk⟩
        have D0 := hk.blk D0 (by decide)
        have D1 := hk.blk D1 (by decide)
        have D2 := hk.blk D2 (by decide)
        have D3 := hk.blk D3 (by decide)
        have D4 := hk.blk D4 (by decide)
        have HM6 := hide (hk.mapIs HM5.out)
        obtain ⟨Aw, cw, rfl, _, _⟩ := hl.reads
        have HL6 := hide hl
        have HB6 := hide hb
        have hy3 : w1.heap.size + 1 < w6.heap.size := D4.lt
        clear HM5 HL5 HB5 hl hb hk
        have F4 := D4.fz
        have C4 := D4.c5
        obtain ⟨hg7, E4⟩ := set5_is D4 (.int .i64 S) (.int .i64 W) (.int .i64 L) (.bool u') (.slice Aw es'.length cw)
        have NM := HM6.out.ne D4
        have R := And.intro (D0.grown hg7 (by simp; omega)) (And.intro (D1.grown hg7 (by simp; omega)) (And.intro (D2.grown hg7 (by simp; omega)) (And.intro (D3.grown hg7 (by simp)) (And.intro E4 (And.intro (hide (HM6.out.store hg7 D4)) (And.intro (hide (HL6.out.store hg7 D4 (by decide))) (hide (below_grown HB6.out hg7 (by omega)))))))))
        have HRR := hide R
        clear R hg7 E4 NM D0 D1 D2 D3 D4 HM6 HL6 HB6
        go_wp2_with fail
        go_roundw
        case rel => exact ⟨i + 1, q, u', es', Aw, cw, by go_num, by omega, hide HSN.out.symm, HRR.out⟩
        case measure => simp [intOf]; omega
      · have te : (lo == hi') = false := by simpa using he
        have HA := hide (show rngS S W (u, es) lo hi' = (u', es') by rw [← HST.out, stepS, if_neg he])
        clear he
        have RC := fun (W5 : World) (hB : Below w.heap.size w W5) (hR : LinesOwn W5 w.heap.size (.slice Av es.length cv) es) => r_range (u := u) (L := L) (lo := lo) (hi := hi') s0 w0 w8 GD.out.1 (by omega) (by omega) (by omega) hB hR
        simp only [HA.out] at RC
        go_wp2_with fail
        refine at_world ?_
        intro W5 hW
        obtain ⟨hg5, D3⟩ := store5 D3 hW
        have D0 := D0.grown hg5 (by simp; omega)
        have D1 := D1.grown hg5 (by simp; omega)
        have D2 := D2.grown hg5 (by simp; omega)
        have D4 := D4.grown hg5 (by simp)
        have HM5 := hide (HM4.out.kept hg5 (.inr HQ.out))
        have HL5 := hide (HL4.out.store hg5 E3 (by decide))
        have HB5 := hide (below_grown HB4.out hg5 (by omega))
        clear hW hg5 HM4 HL4 HB4 C3 F3 C4 C5 D5 E3 HQ
        refine (RC _ HB5.out HL5.out).mono ?_; rintro e w6 ⟨v', rfl, hl, hb, hk⟩
        have D0 := hk.blk D0 (by decide)
        have D1 := hk.blk D1 (by decide)
        have D2 := hk.blk D2 (by decide)
        have D3 := hk.blk D3 (by decide)
        have D4 := hk.blk D4 (by decide)
        have HM6 := hide (hk.mapIs HM5.out)
        obtain ⟨Aw, cw, rfl, _, _⟩ := hl.reads
        have HL6 := hide hl
        have HB6 := hide hb
        have hy3 : w1.heap.size + 1 < w6.heap.size := D4.lt
        clear HM5 HL5 HB5 hl hb hk
        have F4 := D4.fz
        have C4 := D4.c5
        obtain ⟨hg7, E4⟩ := set5_is D4 (.int .i64 S) (.int .i64 W) (.int .i64 L) (.bool u') (.slice Aw es'.length cw)
        have NM := HM6.out.ne D4
        have R := And.intro (D0.grown hg7 (by simp; omega)) (And.intro (D1.grown hg7 (by simp; omega)) (And.intro (D2.grown hg7 (by simp; omega)) (And.intro (D3.grown hg7 (by simp)) (And.intro E4 (And.intro (hide (HM6.out.store hg7 D4)) (And.intro (hide (HL6.out.store hg7 D4 (by decide))) (hide (below_grown HB6.out hg7 (by omega)))))))))
        have HRR := hide R
        clear R hg7 E4 NM D0 D1 D2 D3 D4 HM6 HL6 HB6
        go_wp2_with fail
        go_roundw
        case rel => exact ⟨i + 1, q, u', es', Aw, cw, by go_num, by omega, hide HSN.out.symm, HRR.out⟩
        case measure => simp [intOf]; omega
    · have hie : i = l.length := by omega
      have C3 := B3.c5
      have C4 := B4.c5
      have C1 := B1.c5
      have C2 := B2.c5
      have HS' := hide (show (u, es) = aft S W l by rw [HS.out, hie, List.take_length])
      have F1 := B1.fz
      have F2 := B2.fz
      have N1 : w.heap.size + 1 ≠ w1.heap.size := by omega
      have N2 : w.heap.size + 1 ≠ w1.heap.size + 1 := by omega
      have N3 : w.heap.size + 1 + 1 ≠ w1.heap.size := by omega
      have N4 : w.heap.size + 1 + 1 ≠ w1.heap.size + 1 := by omega
      clear hie
      go_wp2_with fail
      go_region
      go_wp2_with fail
      refine bodyPost_ret (v := .tuple #[.agg #[.int .i64 S, .int .i64 W, .int .i64 L, .bool u, .map p], .agg #[.int .i64 S, .int .i64 W, .int .i64 L, .bool u, .slice Av es.length cv]]) (by simp [results, Try.results13, go_sem, C1, C2, N1, N2, N3, N4]) rfl ?_
      rw [← HS'.out]
      refine ⟨p, .slice Av es.length cv, rfl, ?_⟩
      obtain ⟨g1, E1⟩ := set5_is B1 (.int .i64 S) (.int .i64 W) (.int .i64 L) (.bool u) (.map p)
      have B2' := B2.grown g1 (by simp)
      obtain ⟨g2, E2⟩ := set5_is B2' (.int .i64 S) (.int .i64 W) (.int .i64 L) (.bool u) (.slice Av es.length cv)
      exact ⟨((HM.out.store g1 B1).store g2 B2').drew, ((HL.out.store g1 B1 (by decide)).store g2 B2' (by decide)).below (below_drew (Below.refl _ _)), below_drew (below_grown (below_grown HB.out g1 (by omega)) g2 (by omega))⟩
end Go.Proofs.Ytacpfcneihlcnaa.MayDescribesu
