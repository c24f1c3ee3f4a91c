/- The walk of the law MayMonotone. -/
import Derived.Test.YtacpfcneihlcnaaMayDescribesAf
import Derived.Test.YtacpfcneihlcnaaEq
import Derived.Test.YtacpfcneihlcnaaLe
import Derived.Deep.RegionHeld3
import Derived.Deep.DrawnRows
set_option linter.unusedVariables false
set_option linter.unusedSimpArgs false
namespace Go.Proofs.Ytacpfcneihlcnaa.MayDescribesu
open Go.RowKit Go.Maps Go.Proofs.Ytacpfcneihlcnaa.PMayDescribes Go.Proofs.YtacpfcneihlcnaaW.PrintWords Go.Proofs.YtacpfcneihlcnaaW.PrintLast

theorem aft_nrm {S W : Int} (l : List Stp) : Nrm (aft S W l) := nrm_walk _ _ (fun h => by cases h)

structure RInv (w0 w : World) (S W L lo hi pk : Int) (u : Bool) (p : Option Nat) (es : AL) (uz : Bool) (q : Option Nat) (zs : AL) (g9 g13 g15 : Nat) : Prop where
  b0 : Blk w w0.heap.size 23 #[.int .i64 S, .int .i64 W, .int .i64 L]
  b9 : Blk w g9 31 #[.int .i64 S, .int .i64 W, .int .i64 L, .bool u, .map p]
  b13 : Blk w g13 31 #[.int .i64 S, .int .i64 W, .int .i64 L, .bool uz, .map q]
  b15 : Blk w g15 45 #[.int .i64 lo, .int .i64 hi, .int .u8 pk]
  m : MapIs w p es
  z : MapIs w q zs
  b : Below w0.heap.size w0 w
section
variable {w0 w w' : World} {S W L lo hi pk : Int} {u : Bool} {p : Option Nat} {es : AL} {uz : Bool} {q : Option Nat} {zs : AL} {g9 g13 g15 : Nat}
theorem RInv.on (h : RInv w0 w S W L lo hi pk u p es uz q zs g9 g13 g15) (hb : Below w.heap.size w w') : RInv w0 w' S W L lo hi pk u p es uz q zs g9 g13 g15 :=
  ⟨h.b0.on hb, h.b9.on hb, h.b13.on hb, h.b15.on hb, h.m.below hb, h.z.below hb, below_then h.b hb⟩
theorem RInv.drew (h : RInv w0 w S W L lo hi pk u p es uz q zs g9 g13 g15) : RInv w0 w.drew S W L lo hi pk u p es uz q zs g9 g13 g15 := h.on (below_drew (Below.refl _ _))
end
def RS (w0 : World) (S W L lo hi pk : Int) (u : Bool) (p : Option Nat) (es : AL) (uz : Bool) (q : Option Nat) (zs : AL) (g9 g13 g15 : Nat) (w' : World) : Prop :=
  (w'.cell? ⟨g9, 0, none⟩ = some (.int .i64 S) ∧ w'.cell? ⟨g9, 1, none⟩ = some (.int .i64 W) ∧ w'.cell? ⟨g9, 2, none⟩ = some (.int .i64 L) ∧ w'.cell? ⟨g9, 3, none⟩ = some (.bool u) ∧ w'.cell? ⟨g9, 4, none⟩ = some (.map p)) ∧
  (w'.cell? ⟨g13, 0, none⟩ = some (.int .i64 S) ∧ w'.cell? ⟨g13, 1, none⟩ = some (.int .i64 W) ∧ w'.cell? ⟨g13, 2, none⟩ = some (.int .i64 L) ∧ w'.cell? ⟨g13, 3, none⟩ = some (.bool uz) ∧ w'.cell? ⟨g13, 4, none⟩ = some (.map q)) ∧
  (w'.cell? ⟨g15, 0, none⟩ = some (.int .i64 lo) ∧ w'.cell? ⟨g15, 1, none⟩ = some (.int .i64 hi) ∧ w'.cell? ⟨g15, 2, none⟩ = some (.int .u8 pk)) ∧ Hid (RInv w0 w' S W L lo hi pk u p es uz q zs g9 g13 g15)
theorem RS.of {w0 : World} {S W L lo hi pk : Int} {u : Bool} {p : Option Nat} {es : AL} {uz : Bool} {q : Option Nat} {zs : AL} {g9 g13 g15 : Nat} {w' : World} (h : RInv w0 w' S W L lo hi pk u p es uz q zs g9 g13 g15) : RS w0 S W L lo hi pk u p es uz q zs g9 g13 g15 w' := ⟨h.b9.c5, h.b13.c5, h.b15.c3, h⟩
section
variable {P : Program} {md : Region.Mode} {ops : Array Oper} {Q : Exit → Act → World → Prop} {T : World → Prop} {ds : List Nat}
theorem at_last {fuel : Nat} {l : Array Bool} {a : Act} {w : World} (h : ∀ W, W = w → wpAnyLast P md ops Q T ds fuel l a W) : wpAnyLast P md ops Q T ds fuel l a w := h w rfl
end

structure QInv (w0 w : World) (S W L : Int) (u : Bool) (p : Option Nat) (es : AL) (uz : Bool) (q : Option Nat) (zs : AL) (g9 g13 : Nat) : Prop where
  b0 : Blk w w0.heap.size 23 #[.int .i64 S, .int .i64 W, .int .i64 L]
  b9 : Blk w g9 31 #[.int .i64 S, .int .i64 W, .int .i64 L, .bool u, .map p]
  b13 : Blk w g13 31 #[.int .i64 S, .int .i64 W, .int .i64 L, .bool uz, .map q]
  m : MapIs w p es
  z : MapIs w q zs
  b : Below w0.heap.size w0 w
section
variable {w0 w w' : World} {S W L : Int} {u : Bool} {p : Option Nat} {es : AL} {uz : Bool} {q : Option Nat} {zs : AL} {g9 g13 : Nat}
theorem QInv.on (h : QInv w0 w S W L u p es uz q zs g9 g13) (hb : Below w.heap.size w w') : QInv w0 w' S W L u p es uz q zs g9 g13 :=
  ⟨h.b0.on hb, h.b9.on hb, h.b13.on hb, h.m.below hb, h.z.below hb, below_then h.b hb⟩
theorem QInv.drew (h : QInv w0 w S W L u p es uz q zs g9 g13) : QInv w0 w.drew S W L u p es uz q zs g9 g13 := h.on (below_drew (Below.refl _ _))
end
theorem eq_self {S W L : Int} {u : Bool} {p q : Option Nat} {es : AL} {w : World} (h : Hid (MapIs w p es)) (h' : MapIs w q es) :
    Calls Try.prog 19 #[.agg #[.int .i64 S, .int .i64 W, .int .i64 L, .bool u, .map p], .agg #[.int .i64 S, .int .i64 W, .int .i64 L, .bool u, .map q]] w fun e w' => e = .returned (.bool true) ∧ Below w.heap.size w w' := eq_same h.out h'

structure MInv (W : Int) (x z : MS) (i : Nat) : Prop where
  gx : Good W x.2
  gz : Good W z.2
  lx : x.2.length ≤ 2560 + 64 * i
  lz : z.2.length ≤ 5120 + 64 * i
  le : LeS z x
  nz : Nrm z
theorem MInv.step {S W lo hi : Int} {x z : MS} {i : Nat} (hW : 1 ≤ W) (h : MInv W x z i) (h0 : lo ≤ 1000000) (h1 : hi ≤ 1000000) : MInv W (stepS S W x lo hi) (stepS S W z lo hi) (i + 1) :=
  ⟨good_stepS hW h.gx h0 h1, good_stepS hW h.gz h0 h1, by have := length_stepS S W x lo hi; have := h.lx; omega, by have := length_stepS S W z lo hi; have := h.lz; omega, le_step h.gx h.gz h.le, nrm_step h.nz⟩

set_option maxRecDepth 100000 in
set_option maxHeartbeats 2000000 in
theorem mono_walk {S W L : Int} {w : World} {A1 A2 A3 : Option Addr} {c1 c2 c3 : Nat} {l1 l2 l3 : List Stp} (h1 : Kd.C kSt w A1 l1.length l1) (hc1 : l1.length ≤ c1) (h2 : Kd.C kSt w A2 l2.length l2) (hc2 : l2.length ≤ c2) (h3 : Kd.C kSt w A3 l3.length l3) (hc3 : l3.length ≤ c3) :
    Calls Try.prog 4 #[.agg #[.int .i64 S, .int .i64 W, .int .i64 L], .slice A1 l1.length c1, .slice A2 l2.length c2, .slice A3 l3.length c3] w fun e w' => e = .returned (.bool true) ∧ Below w.heap.size w w' := by
  have H1 := hide h1
  have H2 := hide h2
  have H3 := hide h3
  have m1 := Kd.C_max h1
  have m2 := Kd.C_max h2
  have m3 := Kd.C_max h3
  clear h1 h2 h3
  go_enter Try.func4, Try.ntmps4
  go_wp2_with fail
  refine at_world ?_
  intro W1 hW
  have b0 := Blk.newAt hW
  have HB1 := hide (below_at hW (Below.refl _ _))
  clear hW
  refine (awake_any _).mono ?_; rintro e w1 ⟨rfl, hb⟩
  have b0 := b0.on hb
  have HB := hide (below_then HB1.out hb)
  clear hb HB1
  have C0 := b0.c3
  go_wp2_with fail
  refine (small_any S W L (Kd.C_below H1.out HB.out) hc1).mono ?_; rintro e w2 ⟨r, rfl, hr, hb⟩
  have b0 := b0.on hb
  have HB2 := hide (below_then HB.out hb)
  have HR1 := hide hr
  clear hb HB C0 hr
  have C0 := b0.c3
  cases r with
  | false =>
    go_wp2_with fail
    refine (awake_any _).mono ?_; rintro e w3 ⟨rfl, hb⟩
    have HB3 := hide (below_then HB2.out hb)
    clear hb
    go_wp2_with fail
    go_ret
    exact ⟨rfl, HB3.out⟩
  | true =>
  have P1 := hide (HR1.out rfl)
  clear HR1
  go_wp2_with fail
  refine (small_any S W L (Kd.C_below H2.out HB2.out) hc2).mono ?_; rintro e w3 ⟨r, rfl, hr, hb⟩
  have b0 := b0.on hb
  have HB := hide (below_then HB2.out hb)
  have HR1 := hide hr
  clear hb HB2 C0 hr
  have C0 := b0.c3
  cases r with
  | false =>
    go_wp2_with fail
    refine (awake_any _).mono ?_; rintro e w3 ⟨rfl, hb⟩
    have HB3 := hide (below_then HB.out hb)
    clear hb
    go_wp2_with fail
    go_ret
    exact ⟨rfl, HB3.out⟩
  | true =>
  have P2 := hide (HR1.out rfl)
  clear HR1
  go_wp2_with fail
  refine (small_any S W L (Kd.C_below H3.out HB.out) hc3).mono ?_; rintro e w4 ⟨r, rfl, hr, hb⟩
  have b0 := b0.on hb
  have HB4 := hide (below_then HB.out hb)
  have HR1 := hide hr
  clear hb HB C0 hr
  have C0 := b0.c3
  cases r with
  | false =>
    go_wp2_with fail
    refine (awake_any _).mono ?_; rintro e w3 ⟨rfl, hb⟩
    have HB3 := hide (below_then HB4.out hb)
    clear hb
    go_wp2_with fail
    go_ret
    exact ⟨rfl, HB3.out⟩
  | true =>
  have P3 := hide (HR1.out rfl)
  clear HR1
  have AF1 := fun w' (h : Below w.heap.size w w') => after_any P1.out (Kd.C_below H1.out h) hc1
  have AF2 := fun w' (h : Below w.heap.size w w') => after_any P2.out (Kd.C_below H2.out h) hc2
  have G1 := hide (aft_good (S := S) (vldB_bd P1.out.1).2.2.1 P1.out.2.2.2 l1.length)
  have G2 := hide (aft_good (S := S) (vldB_bd P1.out.1).2.2.1 P2.out.2.2.2 l2.length)
  have N1 := hide (aft_nrm (S := S) (W := W) l1)
  have k1 := P1.out.2.2.1
  have k2 := P2.out.2.2.1
  have k3 := P3.out.2.2.1
  rw [List.take_length] at G1 G2
  generalize aft S W l1 = st1 at AF1 G1 N1
  generalize aft S W l2 = st2 at AF2 G2
  obtain ⟨u1, es1⟩ := st1
  obtain ⟨u2, es2⟩ := st2
  go_wp2_with fail
  refine (AF1 _ HB4.out).mono ?_; rintro e w5 ⟨p1, v1, rfl, hm, hl, hb⟩
  have b0 := b0.on hb
  have HB5 := hide (below_then HB4.out hb)
  have hs5 : w.heap.size < w5.heap.size := b0.lt
  obtain ⟨Av1, cv1, rfl, _, _⟩ := hl.reads
  have HM := hide hm
  clear hm hl hb HB4 C0 AF1
  have C0 := b0.c3
  go_wp2_with fail
  refine at_world ?_
  intro W6 hW
  obtain ⟨b9, b10⟩ := Blk.new2At hW
  have b0 := Blk.at_ hW (b0.alloc _)
  have HM6 := hide (MapIs.at2 hW HM.out)
  have HB6 := hide (below_at2 hW HB5.out)
  have hs6 := size_at2 hW
  clear hW HM HB5 C0 b10
  refine (AF2 _ HB6.out).mono ?_; rintro e w7 ⟨p2, v2, rfl, hm, hl, hb⟩
  have b0 := b0.on hb
  have b9 := b9.on hb
  have HB7 := hide (below_then HB6.out hb)
  have HM7 := hide (HM6.out.below hb)
  have hs7 : w.heap.size < w7.heap.size := b0.lt
  have hs9 : w5.heap.size < w7.heap.size := b9.lt
  obtain ⟨Av2, cv2, rfl, _, _⟩ := hl.reads
  have HN := hide hm
  clear hm hl hb HB6 HM6 AF2 hs6
  have C9 := b9.c5
  go_wp2_with fail
  refine at_world ?_
  intro W8 hW
  obtain ⟨b11, b12⟩ := Blk.new2At hW
  have b0 := Blk.at_ hW (b0.alloc _)
  have b9 := Blk.at_ hW (b9.alloc _)
  have HM8 := hide (MapIs.at2 hW HM7.out)
  have HN8 := hide (MapIs.at2 hW HN.out)
  have HB8 := hide (below_at2 hW HB7.out)
  clear hW HM7 HN HB7 C9 hs7 b12 b11
  refine (join_any HM8.out HN8.out G2.out.1 (by have := G1.out.2; omega) (by have := G2.out.2; omega)).mono ?_; rintro e w9 ⟨pz, rfl, hm, hb⟩
  have b0 := b0.on hb
  have b9 := b9.on hb
  have HM9 := hide (HM8.out.below hb)
  have HZ9 := hide hm
  have HB9 := hide (below_then HB8.out hb)
  have hs9' : w5.heap.size < w9.heap.size := b9.lt
  clear hm hb HM8 HN8 HB8
  have INV0 : MInv W (u1, es1) (joinS (u1, es1) (u2, es2)) 0 := ⟨G1.out.1, good_joinS G1.out.1 G2.out.1, by have := G1.out.2; show es1.length ≤ _; omega, by have := length_joinS (u1, es1) (u2, es2); have := G1.out.2; have := G2.out.2; simp only at *; omega, le_join G1.out.1.1 G2.out.1.1, nrm_join _ _⟩
  generalize joinS (u1, es1) (u2, es2) = z at HZ9 INV0
  obtain ⟨uz, zs⟩ := z
  have HI0 := hide INV0
  clear INV0 G1 G2 N1 k1 k2
  go_wp2_with fail
  refine at_wp ?_
  intro W10 hW
  have B13 := Blk.newAt hW
  have B0 := Blk.at_ hW b0
  have B9 := Blk.at_ hW b9
  have HM10 := hide (MapIs.at_ hW HM9.out)
  have HZ10 := hide (MapIs.at_ hW HZ9.out)
  have HB10 := hide (below_at hW HB9.out)
  clear hW b0 b9 HM9 HZ9 HB9
  generalize w5.heap.size = g9 at *
  generalize w9.heap.size = g13 at *
  go_loopw [54] (fun v wr => ∃ (i : Nat) (u uz : Bool) (es zs : AL) (p q : Option Nat), v = .int .i64 i ∧ i ≤ l3.length ∧ Hid (MInv W (u, es) (uz, zs) i) ∧
      Blk wr w.heap.size 23 #[.int .i64 S, .int .i64 W, .int .i64 L] ∧ Blk wr g9 31 #[.int .i64 S, .int .i64 W, .int .i64 L, .bool u, .map p] ∧ Blk wr g13 31 #[.int .i64 S, .int .i64 W, .int .i64 L, .bool uz, .map q] ∧
      Hid (MapIs wr p es) ∧ Hid (MapIs wr q zs) ∧ Hid (Below w.heap.size w wr)) (fun v _ => l3.length - (intOf v).toNat)
  case atStart => exact ⟨0, u1, uz, es1, zs, p1, pz, rfl, Nat.zero_le _, HI0, B0, B9, B13, HM10, HZ10, HB10⟩
  case round =>
    clear B0 B9 B13 HM10 HZ10 HB10 HI0
    obtain ⟨i, u, uz, es, zs, p, q, rfl, hi, HI, B0, B9, B13, HM, HZ, HB⟩ := hrel
    by_cases hlt : i < l3.length
    · obtain ⟨ad, rfl, hx, hy, hz⟩ := stp_at (Kd.C_below H3.out HB.out) i hlt
      have HNR := hide (P3.out.2.2.2 (l3.getD i (0, 0, 0)) (by rw [List.getD_eq_getElem?_getD, List.getElem?_eq_getElem hlt]; exact List.getElem_mem _))
      generalize l3.getD i (0, 0, 0) = r at hx hy hz HNR
      obtain ⟨lo, hi', pk⟩ := r
      simp only at hx hy hz
      have hnb := near_bd HNR.out
      simp only at hnb
      obtain ⟨n1, n2, n3, n4⟩ := hnb
      go_wp2_with fail
      refine at_wp ?_
      intro W11 hW
      have B15 := Blk.newAt hW
      have B0 := Blk.at_ hW B0
      have B9 := Blk.at_ hW B9
      have B13 := Blk.at_ hW B13
      have HM := hide (MapIs.at_ hW HM.out)
      have HZ := hide (MapIs.at_ hW HZ.out)
      have HB := hide (below_at hW HB.out)
      clear hW hx hy hz
      generalize wr.heap.size = g15 at *
      have HRI := hide (RInv.drew ⟨B0, B9, B13, B15, HM.out, HZ.out, HB.out⟩)
      clear B0 B9 B13 B15 HM HZ HB
      refine wp_region_noPanic ?_
      refine start_ (n := 8) (S := RS w S W L lo hi' pk u p es uz q zs g9 g13 g15) (ds := [6, 7]) #[false, false, false, false, false, false, false, false] (by kernel_rfl) rfl rfl (RS.of HRI.out) (fun hHeld => ?_)
      generalize W11.drew = w12 at HRI hHeld ⊢
      refine take_ (i := 0) (N := some 58) (v := ?_) (a' := ?_) #[true, false, false, false, false, false, false, false] rfl rfl (by kernel_rfl) (fun _ _ _ h => h) (Or.inl ⟨by rfl, ?_⟩) hHeld ?_ ?_
      rotate_left
      · rintro w' ⟨⟨s0, s1, s2, s3, s4⟩, ⟨t0, t1, t2, t3, t4⟩, ⟨r0, r1, r2⟩, _⟩
        go_simp
        with_reducible rfl
      rotate_left
      · simp only [Act.put, List.setIfInBounds_toArray, List.set_cons_zero, List.set_cons_succ]
        rfl
      refine take_ (i := 1) (N := some 59) (v := ?_) (a' := ?_) #[true, true, false, false, false, false, false, false] rfl rfl (by kernel_rfl) (fun _ _ _ h => h) (Or.inl ⟨by rfl, ?_⟩) hHeld ?_ ?_
      rotate_left
      · rintro w' ⟨⟨s0, s1, s2, s3, s4⟩, ⟨t0, t1, t2, t3, t4⟩, ⟨r0, r1, r2⟩, _⟩
        go_simp
        with_reducible rfl
      rotate_left
      · simp only [Act.put, List.setIfInBounds_toArray, List.set_cons_zero, List.set_cons_succ]
        rfl
      refine take_ (i := 3) (N := some 61) (v := ?_) (a' := ?_) #[true, true, false, true, false, false, false, false] rfl rfl (by kernel_rfl) (fun _ _ _ h => h) (Or.inl ⟨by rfl, ?_⟩) hHeld ?_ ?_
      rotate_left
      · rintro w' ⟨⟨s0, s1, s2, s3, s4⟩, ⟨t0, t1, t2, t3, t4⟩, ⟨r0, r1, r2⟩, _⟩
        go_simp
        with_reducible rfl
      rotate_left
      · simp only [Act.put, List.setIfInBounds_toArray, List.set_cons_zero, List.set_cons_succ]
        rfl
      refine take_ (i := 4) (N := some 62) (v := ?_) (a' := ?_) #[true, true, false, true, true, false, false, false] rfl rfl (by kernel_rfl) (fun _ _ _ h => h) (Or.inl ⟨by rfl, ?_⟩) hHeld ?_ ?_
      rotate_left
      · rintro w' ⟨⟨s0, s1, s2, s3, s4⟩, ⟨t0, t1, t2, t3, t4⟩, ⟨r0, r1, r2⟩, _⟩
        go_simp
        with_reducible rfl
      rotate_left
      · simp only [Act.put, List.setIfInBounds_toArray, List.set_cons_zero, List.set_cons_succ]
        rfl
      refine one_ (i := 2) (N := some 60) #[true, true, true, true, true, false, false, false] rfl rfl (by kernel_rfl) (by decide) (fun K hK => ?_)
      refine goes_ Try.func18 (by kernel_rfl) rfl #[.agg #[.int .i64 S, .int .i64 W, .int .i64 L, .bool u, .map p], .agg #[.int .i64 lo, .int .i64 hi', .int .u8 pk]] (by rfl) rfl rfl (by (try simp only [List.map_toArray, List.map_cons, List.map_nil]); first | done | rfl) ?_
      refine (step_any P1.out.1 (by omega) (by omega) HRI.out.m HI.out.gx (Nat.le_trans HI.out.lx (by omega))).mono ?_; rintro e w13 ⟨p', rfl, hm1, hb⟩
      refine ⟨_, rfl, ?_⟩
      have HRI := hide (HRI.out.on hb)
      have HM1 := hide hm1
      clear hHeld hm1 hb
      refine hK.out _ _ (RS.of HRI.out) (fun hHeld => ?_)
      clear hK K
      refine norm_ (a' := ?_) ?_ ?_
      rotate_left
      · show Act.put _ (some 60) _ = _
        simp only [Act.put, List.setIfInBounds_toArray, List.set_cons_zero, List.set_cons_succ]
        rfl
      refine one_ (i := 5) (N := some 63) #[true, true, true, true, true, true, false, false] rfl rfl (by kernel_rfl) (by decide) (fun K hK => ?_)
      refine goes_ Try.func18 (by kernel_rfl) rfl #[.agg #[.int .i64 S, .int .i64 W, .int .i64 L, .bool uz, .map q], .agg #[.int .i64 lo, .int .i64 hi', .int .u8 pk]] (by rfl) rfl rfl (by (try simp only [List.map_toArray, List.map_cons, List.map_nil]); first | done | rfl) ?_
      refine (step_any P1.out.1 (by omega) (by omega) HRI.out.z HI.out.gz (Nat.le_trans HI.out.lz (by omega))).mono ?_; rintro e w14 ⟨q', rfl, hm2, hb⟩
      refine ⟨_, rfl, ?_⟩
      have HRI := hide (HRI.out.on hb)
      have HM1 := hide (HM1.out.below hb)
      have HM2 := hide hm2
      clear hHeld hm2 hb
      refine hK.out _ _ (RS.of HRI.out) (fun hHeld => ?_)
      clear hK K hHeld
      refine norm_ (a' := ?_) ?_ ?_
      rotate_left
      · show Act.put _ (some 63) _ = _
        simp only [Act.put, List.setIfInBounds_toArray, List.set_cons_zero, List.set_cons_succ]
        rfl
      obtain ⟨B0, B9, B13, B15, _, _, hbb⟩ := HRI.out
      have HB := hide hbb
      clear hbb HRI
      have HI' := hide (HI.out.step (S := S) (vldB_bd P1.out.1).2.2.1 (show lo ≤ 1000000 by omega) (show hi' ≤ 1000000 by omega))
      generalize stepS S W (u, es) lo hi' = s1 at HM1 HI' ⊢
      generalize stepS S W (uz, zs) lo hi' = s2 at HM2 HI' ⊢
      obtain ⟨u', es'⟩ := s1
      obtain ⟨uz', zs'⟩ := s2
      have C9 := B9.c5
      have F9 := B9.fz
      refine last_ (i := 6) (N := none) #[true, true, true, true, true, true, true, false] rfl rfl (by kernel_rfl) (by decide) (fun K hK => ?_)
      go_simp
      refine hK.out _ _ ?_
      refine at_last ?_
      intro W15 hW
      obtain ⟨hg, D9⟩ := store5 B9 hW
      have D0 := B0.grown hg (by simp; omega)
      have D13 := B13.grown hg (by simp; omega)
      have HM3 := hide (HM1.out.store hg B9)
      have HZ3 := hide (HM2.out.store hg B9)
      have HB3 := hide (below_grown HB.out hg (by omega))
      clear hW hg B0 B9 B13 B15 HM1 HM2 HB C9 F9
      have C13 := D13.c5
      have F13 := D13.fz
      clear hK K
      refine last_ (i := 7) (N := none) #[true, true, true, true, true, true, true, true] rfl rfl (by kernel_rfl) (by decide) (fun K hK => ?_)
      go_simp
      refine hK.out _ _ ?_
      refine at_last ?_
      intro W16 hW
      obtain ⟨hg, D13'⟩ := store5 D13 hW
      have E0 := D0.grown hg (by simp; omega)
      have E9 := D9.grown hg (by simp; omega)
      have HM4 := hide (HM3.out.store hg D13)
      have HZ4 := hide (HZ3.out.store hg D13)
      have HB4 := hide (below_grown HB3.out hg (by omega))
      clear hW hg D0 D9 D13 HM3 HZ3 HB3 C13 F13
      clear hK K
      refine done_ (by kernel_rfl) ?_
      refine NoPanic.normal ?_
      go_wp2_with fail
      have INV := hide (QInv.drew ⟨E0, E9, D13', HM4.out, HZ4.out, HB4.out⟩)
      clear E0 E9 D13' HM4 HZ4 HB4 HRI HB
      have D1 : ∀ w', Hid (QInv w w' S W L u' p' es' uz' q' zs' g9 g13) → Calls Try.prog 17 #[.agg #[.int .i64 S, .int .i64 W, .int .i64 L, .bool u', .map p'], .agg #[.int .i64 S, .int .i64 W, .int .i64 L, .bool uz', .map q']] w' fun e w'' => ∃ q2, e = .returned (.agg #[.int .i64 S, .int .i64 W, .int .i64 L, .bool uz', .map q2]) ∧ Hid (MapIs w'' q2 zs') ∧ Hid (QInv w w'' S W L u' p' es' uz' q' zs' g9 g13) := fun w' h => by
        have J := join_any (S := S) (W := W) (L := L) (u := u') (u2 := uz') h.out.m h.out.z HI'.out.gz (Nat.le_trans HI'.out.lx (by omega)) (Nat.le_trans HI'.out.lz (by omega))
        rw [join_le HI'.out.le HI'.out.nz HI'.out.gx.1 HI'.out.gz.1] at J
        exact J.mono fun e w'' ⟨q2, he, hm, hb⟩ => ⟨q2, he, hm, hide (h.out.on hb)⟩
      have D2 : ∀ w' q2, Hid (QInv w w' S W L u' p' es' uz' q' zs' g9 g13) → Hid (MapIs w' q2 zs') → Calls Try.prog 19 #[.agg #[.int .i64 S, .int .i64 W, .int .i64 L, .bool uz', .map q2], .agg #[.int .i64 S, .int .i64 W, .int .i64 L, .bool uz', .map q']] w' fun e w'' => e = .returned (.bool true) ∧ Hid (QInv w w'' S W L u' p' es' uz' q' zs' g9 g13) := fun w' q2 h hm =>
        (eq_same hm.out h.out.z).mono fun e w'' ⟨he, hb⟩ => ⟨he, hide (h.out.on hb)⟩
      have FACTS : ∀ w', Hid (QInv w w' S W L u' p' es' uz' q' zs' g9 g13) → ((w'.cell? ⟨g9, 0, none⟩ = some (.int .i64 S) ∧ w'.cell? ⟨g9, 1, none⟩ = some (.int .i64 W) ∧ w'.cell? ⟨g9, 2, none⟩ = some (.int .i64 L) ∧ w'.cell? ⟨g9, 3, none⟩ = some (.bool u') ∧ w'.cell? ⟨g9, 4, none⟩ = some (.map p')) ∧ (w'.cell? ⟨g13, 0, none⟩ = some (.int .i64 S) ∧ w'.cell? ⟨g13, 1, none⟩ = some (.int .i64 W) ∧ w'.cell? ⟨g13, 2, none⟩ = some (.int .i64 L) ∧ w'.cell? ⟨g13, 3, none⟩ = some (.bool uz') ∧ w'.cell? ⟨g13, 4, none⟩ = some (.map q')) ∧ Hid (QInv w w' S W L u' p' es' uz' q' zs' g9 g13)) := fun w' h => ⟨h.out.b9.c5, h.out.b13.c5, h⟩
      have INVOF : ∀ w', ((w'.cell? ⟨g9, 0, none⟩ = some (.int .i64 S) ∧ w'.cell? ⟨g9, 1, none⟩ = some (.int .i64 W) ∧ w'.cell? ⟨g9, 2, none⟩ = some (.int .i64 L) ∧ w'.cell? ⟨g9, 3, none⟩ = some (.bool u') ∧ w'.cell? ⟨g9, 4, none⟩ = some (.map p')) ∧ (w'.cell? ⟨g13, 0, none⟩ = some (.int .i64 S) ∧ w'.cell? ⟨g13, 1, none⟩ = some (.int .i64 W) ∧ w'.cell? ⟨g13, 2, none⟩ = some (.int .i64 L) ∧ w'.cell? ⟨g13, 3, none⟩ = some (.bool uz') ∧ w'.cell? ⟨g13, 4, none⟩ = some (.map q')) ∧ Hid (QInv w w' S W L u' p' es' uz' q' zs' g9 g13)) → Hid (QInv w w' S W L u' p' es' uz' q' zs' g9 g13) := fun w' h => h.2.2
      clear H1 H2 H3 P2 P3 HI hc1 hc2 hc3 m1 m2 m3
      go_region_held3 (fun w' => (w'.cell? ⟨g9, 0, none⟩ = some (.int .i64 S) ∧ w'.cell? ⟨g9, 1, none⟩ = some (.int .i64 W) ∧ w'.cell? ⟨g9, 2, none⟩ = some (.int .i64 L) ∧ w'.cell? ⟨g9, 3, none⟩ = some (.bool u') ∧ w'.cell? ⟨g9, 4, none⟩ = some (.map p')) ∧ (w'.cell? ⟨g13, 0, none⟩ = some (.int .i64 S) ∧ w'.cell? ⟨g13, 1, none⟩ = some (.int .i64 W) ∧ w'.cell? ⟨g13, 2, none⟩ = some (.int .i64 L) ∧ w'.cell? ⟨g13, 3, none⟩ = some (.bool uz') ∧ w'.cell? ⟨g13, 4, none⟩ = some (.map q')) ∧ Hid (QInv w w' S W L u' p' es' uz' q' zs' g9 g13))
        (first | with_reducible assumption | exact FACTS _ (by with_reducible assumption))
        (first
          | (go_at_call 17; with_reducible refine (D1 _ (INVOF _ (by with_reducible assumption))).mono ?_; rintro e w' ⟨q2, rfl, hm, hi⟩)
          | (go_at_call 19; with_reducible refine (D2 _ _ (INVOF _ (by with_reducible assumption)) (by with_reducible assumption)).mono ?_; rintro e w' ⟨rfl, hi⟩))
      go_wp2_with fail
      have HF := hide (INVOF _ (by with_reducible assumption)).out
      go_roundw
      case rel => exact ⟨i + 1, u', uz', es', zs', p', q', by go_num, by omega, HI', HF.out.b0, HF.out.b9, HF.out.b13, hide HF.out.m, hide HF.out.z, hide HF.out.b⟩
      case measure => simp [intOf]; omega
    · have hie : i = l3.length := by omega
      clear hie
      go_wp2_with fail
      go_ret
      exact ⟨rfl, HB.out⟩
end Go.Proofs.Ytacpfcneihlcnaa.MayDescribesu
