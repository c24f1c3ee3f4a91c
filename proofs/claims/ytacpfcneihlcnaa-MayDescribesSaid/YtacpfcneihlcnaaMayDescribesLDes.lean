/- The walk of the law MayDescribes. -/
import Derived.Test.YtacpfcneihlcnaaMayDescribesDs
import Derived.Deep.RegionHeld3
import Derived.Deep.DrawnRows
set_option linter.unusedVariables false
set_option linter.unusedSimpArgs false
namespace Go.Proofs.Ytacpfcneihlcnaa.MayDescribesu
open Go.RowKit Go.Maps Go.Proofs.Ytacpfcneihlcnaa.PMayDescribes Go.Proofs.YtacpfcneihlcnaaW.PrintWords

attribute [local go_sem ↓] Go.wp_at_zero Go.wp_at_succ

/-- Whether the lines fit, as a truth value. -/
noncomputable def descB (S : Int) (s : MS) (ls : List (List Int)) : Bool := @decide (DescP S s ls) (Classical.propDecidable _)
theorem desc_post {S : Int} {s : MS} {ls : List (List Int)} {w w' : World} {e : Ending} (h : DescPost S s ls w e w') : e = .returned (.bool (descB S s ls)) ∧ Below w.heap.size w w' := by
  obtain ⟨r, he, hr, hb⟩ := h
  refine ⟨?_, hb⟩
  rw [he]
  have : r = descB S s ls := by
    cases hrr : r with
    | true => exact (@decide_eq_true _ (Classical.propDecidable _) (hr.1 hrr)).symm
    | false => exact (@decide_eq_false _ (Classical.propDecidable _) (fun hd => by rw [hr.2 hd] at hrr; cases hrr)).symm
  rw [this]
theorem descB_unknown (S : Int) (ls : List (List Int)) : descB S (true, []) ls = ((ls.length : Int) == S) := by
  unfold descB DescP
  by_cases h : (ls.length : Int) = S <;> simp [h]
structure Inv (w0 w : World) (S W L : Int) (u : Bool) (p : Option Nat) (Av : Option Addr) (cv : Nat) (es : AL) (base g3 g6 : Nat) : Prop where
  b0 : Blk w w0.heap.size 23 #[.int .i64 S, .int .i64 W, .int .i64 L]
  b3 : Blk w g3 31 #[.int .i64 S, .int .i64 W, .int .i64 L, .bool u, .map p]
  b4 : Blk w (g3 + 1) 34 #[.int .i64 S, .int .i64 W, .int .i64 L, .bool u, .slice Av es.length cv]
  b6 : Blk w g6 31 #[.int .i64 S, .int .i64 W, .int .i64 L, .bool true, .map none]
  m : MapIs w p es
  l : LinesOwn w base (.slice Av es.length cv) es
  b : Below w0.heap.size w0 w
section
variable {w0 w w' : World} {S W L : Int} {u : Bool} {p : Option Nat} {Av : Option Addr} {cv : Nat} {es : AL} {base g3 g6 : Nat}
theorem Inv.on (h : Inv w0 w S W L u p Av cv es base g3 g6) (hb : Below w.heap.size w w') : Inv w0 w' S W L u p Av cv es base g3 g6 :=
  ⟨h.b0.on hb, h.b3.on hb, h.b4.on hb, h.b6.on hb, h.m.below hb, h.l.below hb, below_then h.b hb⟩
theorem Inv.drew (h : Inv w0 w S W L u p Av cv es base g3 g6) : Inv w0 w.drew S W L u p Av cv es base g3 g6 := h.on (below_drew (Below.refl _ _))
end

set_option maxRecDepth 100000 in
set_option maxHeartbeats 2000000 in
theorem law_walk {S W L : Int} {w : World} {A : Option Addr} {c : Nat} {l : List Stp} (hC : Kd.C kSt w A l.length l) (hc : l.length ≤ c)
    {A1 : Option Addr} {c1 : Nat} {ls : List (List Int)} (hC1 : Kd.C (Kd.slice 3 (Kd.int .i64)) w A1 ls.length ls) (hc1 : ls.length ≤ c1) (hwf : ∀ r ∈ ls, ∀ x ∈ r, (Lit.int .i64 x).wf = true) :
    Calls Try.prog 3 #[.agg #[.int .i64 S, .int .i64 W, .int .i64 L], .slice A l.length c, .slice A1 ls.length c1] w fun e w' => e = .returned (.bool true) ∧ Below w.heap.size w w' := by
  have HC := hide hC
  have HC1 := hide hC1
  have HWF := hide hwf
  have m0 := Kd.C_max hC
  have m1 := Kd.C_max hC1
  clear hC hC1 hwf
  go_enter Try.func3, Try.ntmps3
  go_wp2_with fail
  refine at_world ?_
  intro W1 hW
  have b0 := Blk.newAt hW
  have HB1 := hide (below_at hW (Below.refl _ _))
  clear hW
  refine (awake_any _).mono ?_; rintro e w1 ⟨rfl, hb⟩
  have b0 := b0.on hb
  have HB := hide (below_then HB1.out hb)
  clear hb HB1
  have C0 := b0.c3
  go_wp2_with fail
  refine (small_any S W L (Kd.C_below HC.out HB.out) hc).mono ?_; rintro e w2 ⟨r, rfl, hr, hb⟩
  have b0 := b0.on hb
  have HB2 := hide (below_then HB.out hb)
  have HR := hide hr
  clear hb HB C0 hr
  have C0 := b0.c3
  cases r with
  | false =>
    go_wp2_with fail
    refine (awake_any _).mono ?_; rintro e w3 ⟨rfl, hb⟩
    have HB3 := hide (below_then HB2.out hb)
    clear hb
    go_wp2_with fail
    go_ret
    exact ⟨rfl, HB3.out⟩
  | true =>
    have HP := hide (HR.out rfl)
    clear HR
    by_cases h32 : ls.length ≤ 32
    · have t3 : decide ((32 : Int) < ls.length) = false := by simp; omega
      go_wp2_with fail
      go_loop [29] (fun v => ∃ i : Nat, v = .int .i64 i ∧ i ≤ ls.length ∧ Hid (∀ j, j < i → (ls.getD j []).length ≤ 32)) (fun v => ls.length - (intOf v).toNat)
      case atStart => exact ⟨0, rfl, Nat.zero_le _, hide (fun j hj => absurd hj (Nat.not_lt_zero _))⟩
      case round =>
        obtain ⟨i, rfl, hi, HR⟩ := hrel
        by_cases hlt : i < ls.length
        · obtain ⟨ad, A0, c0, rfl, hc1, hle, hr⟩ := row_at (Kd.C_below HC1.out HB2.out) i hlt
          generalize hrow : ls.getD i [] = row at hc1 hr hle
          have HROW := hide hrow
          have hmr := Kd.C_max hr
          clear hr hrow
          by_cases hrl : row.length ≤ 32
          · have t4 : decide ((32 : Int) < (row.length : Int)) = false := by simp; omega
            go_wp2_with fail
            go_round
            case rel =>
              refine ⟨i + 1, by go_num, by omega, hide (fun j hj => ?_)⟩
              rcases Nat.lt_or_ge j i with h1 | h1
              · exact HR.out j h1
              · obtain rfl : j = i := by omega
                rw [HROW.out]; exact hrl
            case measure => simp [intOf]; omega
          · have t4 : (32 : Int) < (row.length : Int) := by omega
            go_wp2_with fail
            go_ret
            exact ⟨rfl, HB2.out⟩
        · have hie : i = ls.length := by omega
          have HR' := hide (hie ▸ HR.out)
          clear HR hie
          go_wp2_with fail
          clear hi hlt
          have GD := hide (aft_good (S := S) (vldB_bd HP.out.1).2.2.1 HP.out.2.2.2 l.length)
          have AF := after_any HP.out (Kd.C_below HC.out HB2.out) hc
          have hl40 := HP.out.2.2.1
          rw [List.take_length] at GD
          generalize aft S W l = st at AF GD
          obtain ⟨u, es⟩ := st
          refine AF.mono ?_; rintro e w3 ⟨p, v, rfl, hm, hl, hb⟩
          simp only at hm hl
          clear AF
          have b0 := b0.on hb
          have HB3 := hide (below_then HB2.out hb)
          have hs3 : w2.heap.size ≤ w3.heap.size := hb.size
          have hz0 : w.heap.size < w3.heap.size := b0.lt
          obtain ⟨Av, cv, rfl, hRK, hRc⟩ := hl.reads
          have HM := hide hm
          have HL := hide hl
          clear hm hl hb HB2 C0 hs3
          have C0 := b0.c3
          go_wp2_with fail
          refine at_world ?_
          intro W4 hW
          obtain ⟨b3, b4⟩ := Blk.new2At hW
          have b0 := Blk.at_ hW (b0.alloc _)
          have HM4 := hide (MapIs.at2 hW HM.out)
          have HL4 := hide (show LinesOwn W4 w2.heap.size (.slice Av _ cv) _ from hW ▸ HL.out.below (below_alloc (below_alloc (Below.refl _ _) _) _))
          have HB4 := hide (below_at2 hW HB3.out)
          have hs4 := size_at2 hW
          clear hW HM HL HB3 C0 hz0
          refine (may_unknown HP.out.1 _).mono ?_; rintro e w5 ⟨rfl, hb⟩
          have b0 := b0.on hb
          have b3 := b3.on hb
          have b4 := b4.on hb
          have HM5 := hide (HM4.out.below hb)
          have HL5 := hide (HL4.out.below hb)
          have HB5 := hide (below_then HB4.out hb)
          have hs5 : W4.heap.size ≤ w5.heap.size := hb.size
          clear hb HM4 HL4 HB4
          go_wp2_with fail
          refine at_wp ?_
          intro W6 hW
          have b6 := Blk.newAt hW
          have b0 := Blk.at_ hW b0
          have b3 := Blk.at_ hW b3
          have b4 := Blk.at_ hW b4
          have HM6 := hide (HM5.out.at_ hW)
          have HL6 := hide (HL5.out.at_ hW)
          have HB6 := hide (below_at hW HB5.out)
          clear hW HM5 HL5 HB5
          have INV := hide (Inv.drew ⟨b0, b3, b4, b6, HM6.out, HL6.out, HB6.out⟩)
          clear b0 b3 b4 b6 HM6 HL6 HB6 hs4 hs5
          generalize w3.heap.size = g3 at INV
          generalize w5.heap.size = g6 at INV
          have D1 : ∀ w', Hid (Inv w w' S W L u p Av cv es w2.heap.size g3 g6) → Calls Try.prog 15 #[.agg #[.int .i64 S, .int .i64 W, .int .i64 L, .bool u, .map p], .slice A1 ls.length c1] w' fun e w'' => e = .returned (.bool (descB S (u, es) ls)) ∧ Hid (Inv w w'' S W L u p Av cv es w2.heap.size g3 g6) := fun w' h =>
            (ma_describes (have := vldB_bd HP.out.1; have := HP.out.2.1; by omega) h.out.m (Kd.C_below HC1.out h.out.b) hc1 HWF.out).mono fun e w'' hd => ⟨(desc_post hd).1, hide (h.out.on (desc_post hd).2)⟩
          have D2 : ∀ w', Hid (Inv w w' S W L u p Av cv es w2.heap.size g3 g6) → Calls Try.prog 16 #[.agg #[.int .i64 S, .int .i64 W, .int .i64 L, .bool u, .slice Av es.length cv], .slice A1 ls.length c1] w' fun e w'' => e = .returned (.bool (descB S (u, es) ls)) ∧ Hid (Inv w w'' S W L u p Av cv es w2.heap.size g3 g6) := fun w' h => by
            obtain ⟨Ax, cx, hx, hRc, hRK⟩ := h.out.l.reads
            cases hx
            have hn := GD.out.2
            try simp only at hn
            refine (r_describes GD.out.1 (by omega) hRK hRc (by omega) (fun i => ?_) (Kd.C_below HC1.out h.out.b) hc1).mono fun e w'' hd => ⟨(desc_post hd).1, hide (h.out.on (desc_post hd).2)⟩
            rcases Nat.lt_or_ge i ls.length with hi | hi
            · exact HR'.out i hi
            · rw [List.getD_eq_getElem?_getD, List.getElem?_eq_none hi]; simp
          have D3 : ∀ w', Hid (Inv w w' S W L u p Av cv es w2.heap.size g3 g6) → Calls Try.prog 15 #[.agg #[.int .i64 S, .int .i64 W, .int .i64 L, .bool true, .map none], .slice A1 ls.length c1] w' fun e w'' => e = .returned (.bool (descB S (true, []) ls)) ∧ Hid (Inv w w'' S W L u p Av cv es w2.heap.size g3 g6) := fun w' h =>
            (ma_describes (have := vldB_bd HP.out.1; have := HP.out.2.1; by omega) (.nil_ _) (Kd.C_below HC1.out h.out.b) hc1 HWF.out).mono fun e w'' hd => ⟨(desc_post hd).1, hide (h.out.on (desc_post hd).2)⟩
          rw [descB_unknown] at D3
          generalize descB S (u, es) ls = d at D1 D2
          generalize hd2 : ((ls.length : Int) == S) = d2 at D3
          have FACTS : ∀ w', Hid (Inv w w' S W L u p Av cv es w2.heap.size g3 g6) → (w'.cell? ⟨w.heap.size, 0, none⟩ = some (.int .i64 S) ∧ w'.cell? ⟨w.heap.size, 1, none⟩ = some (.int .i64 W) ∧ w'.cell? ⟨w.heap.size, 2, none⟩ = some (.int .i64 L)) ∧ (w'.cell? ⟨g3, 0, none⟩ = some (.int .i64 S) ∧ w'.cell? ⟨g3, 1, none⟩ = some (.int .i64 W) ∧ w'.cell? ⟨g3, 2, none⟩ = some (.int .i64 L) ∧ w'.cell? ⟨g3, 3, none⟩ = some (.bool u) ∧ w'.cell? ⟨g3, 4, none⟩ = some (.map p)) ∧
              (w'.cell? ⟨g3 + 1, 0, none⟩ = some (.int .i64 S) ∧ w'.cell? ⟨g3 + 1, 1, none⟩ = some (.int .i64 W) ∧ w'.cell? ⟨g3 + 1, 2, none⟩ = some (.int .i64 L) ∧ w'.cell? ⟨g3 + 1, 3, none⟩ = some (.bool u) ∧ w'.cell? ⟨g3 + 1, 4, none⟩ = some (.slice Av es.length cv)) ∧
              (w'.cell? ⟨g6, 0, none⟩ = some (.int .i64 S) ∧ w'.cell? ⟨g6, 1, none⟩ = some (.int .i64 W) ∧ w'.cell? ⟨g6, 2, none⟩ = some (.int .i64 L) ∧ w'.cell? ⟨g6, 3, none⟩ = some (.bool true) ∧ w'.cell? ⟨g6, 4, none⟩ = some (.map none)) ∧ Hid (Inv w w' S W L u p Av cv es w2.heap.size g3 g6) :=
            fun w' h => ⟨h.out.b0.c3, h.out.b3.c5, h.out.b4.c5, h.out.b6.c5, h⟩
          have INVOF : ∀ w', ((w'.cell? ⟨w.heap.size, 0, none⟩ = some (.int .i64 S) ∧ w'.cell? ⟨w.heap.size, 1, none⟩ = some (.int .i64 W) ∧ w'.cell? ⟨w.heap.size, 2, none⟩ = some (.int .i64 L)) ∧ (w'.cell? ⟨g3, 0, none⟩ = some (.int .i64 S) ∧ w'.cell? ⟨g3, 1, none⟩ = some (.int .i64 W) ∧ w'.cell? ⟨g3, 2, none⟩ = some (.int .i64 L) ∧ w'.cell? ⟨g3, 3, none⟩ = some (.bool u) ∧ w'.cell? ⟨g3, 4, none⟩ = some (.map p)) ∧
              (w'.cell? ⟨g3 + 1, 0, none⟩ = some (.int .i64 S) ∧ w'.cell? ⟨g3 + 1, 1, none⟩ = some (.int .i64 W) ∧ w'.cell? ⟨g3 + 1, 2, none⟩ = some (.int .i64 L) ∧ w'.cell? ⟨g3 + 1, 3, none⟩ = some (.bool u) ∧ w'.cell? ⟨g3 + 1, 4, none⟩ = some (.slice Av es.length cv)) ∧
              (w'.cell? ⟨g6, 0, none⟩ = some (.int .i64 S) ∧ w'.cell? ⟨g6, 1, none⟩ = some (.int .i64 W) ∧ w'.cell? ⟨g6, 2, none⟩ = some (.int .i64 L) ∧ w'.cell? ⟨g6, 3, none⟩ = some (.bool true) ∧ w'.cell? ⟨g6, 4, none⟩ = some (.map none)) ∧ Hid (Inv w w' S W L u p Av cv es w2.heap.size g3 g6)) → Hid (Inv w w' S W L u p Av cv es w2.heap.size g3 g6) := fun w' h => h.2.2.2.2
          have ed : (d == d) = true := by simp
          have ed2 : (d2 == ((ls.length : Int) == S)) = true := by rw [hd2]; simp
          clear h32 t3 HC HC1 HWF HP GD HR' hRK hRc hl40 m0 m1 hd2 hc hc1
          go_region_held3 (fun w' => (w'.cell? ⟨w.heap.size, 0, none⟩ = some (.int .i64 S) ∧ w'.cell? ⟨w.heap.size, 1, none⟩ = some (.int .i64 W) ∧ w'.cell? ⟨w.heap.size, 2, none⟩ = some (.int .i64 L)) ∧ (w'.cell? ⟨g3, 0, none⟩ = some (.int .i64 S) ∧ w'.cell? ⟨g3, 1, none⟩ = some (.int .i64 W) ∧ w'.cell? ⟨g3, 2, none⟩ = some (.int .i64 L) ∧ w'.cell? ⟨g3, 3, none⟩ = some (.bool u) ∧ w'.cell? ⟨g3, 4, none⟩ = some (.map p)) ∧
              (w'.cell? ⟨g3 + 1, 0, none⟩ = some (.int .i64 S) ∧ w'.cell? ⟨g3 + 1, 1, none⟩ = some (.int .i64 W) ∧ w'.cell? ⟨g3 + 1, 2, none⟩ = some (.int .i64 L) ∧ w'.cell? ⟨g3 + 1, 3, none⟩ = some (.bool u) ∧ w'.cell? ⟨g3 + 1, 4, none⟩ = some (.slice Av es.length cv)) ∧
              (w'.cell? ⟨g6, 0, none⟩ = some (.int .i64 S) ∧ w'.cell? ⟨g6, 1, none⟩ = some (.int .i64 W) ∧ w'.cell? ⟨g6, 2, none⟩ = some (.int .i64 L) ∧ w'.cell? ⟨g6, 3, none⟩ = some (.bool true) ∧ w'.cell? ⟨g6, 4, none⟩ = some (.map none)) ∧ Hid (Inv w w' S W L u p Av cv es w2.heap.size g3 g6))
            (first | with_reducible assumption | exact FACTS _ (by with_reducible assumption))
            (first
              | (go_at_call 15; with_reducible refine (D1 _ (INVOF _ (by with_reducible assumption))).mono ?_; rintro e w' ⟨rfl, hi⟩)
              | (go_at_call 15; with_reducible refine (D3 _ (INVOF _ (by with_reducible assumption))).mono ?_; rintro e w' ⟨rfl, hi⟩)
              | (go_at_call 16; with_reducible refine (D2 _ (INVOF _ (by with_reducible assumption))).mono ?_; rintro e w' ⟨rfl, hi⟩))
          go_wp2_with fail
          go_ret
          exact ⟨rfl, (INVOF _ (by with_reducible assumption)).out.b⟩
    · have t3 : (32 : Int) < ls.length := by omega
      go_wp2_with fail
      refine (awake_any _).mono ?_; rintro e w3 ⟨rfl, hb⟩
      have HB3 := hide (below_then HB2.out hb)
      clear hb
      go_wp2_with fail
      go_ret
      exact ⟨rfl, HB3.out⟩
end Go.Proofs.Ytacpfcneihlcnaa.MayDescribesu
