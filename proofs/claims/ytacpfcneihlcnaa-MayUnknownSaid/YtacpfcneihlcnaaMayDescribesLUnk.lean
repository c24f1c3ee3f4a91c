/- The walk of the law MayUnknown. -/
import Derived.Test.YtacpfcneihlcnaaMayDescribesAf
import Derived.Test.YtacpfcneihlcnaaLi
import Derived.Test.YtacpfcneihlcnaaLe
import Derived.Deep.RegionHeld3
import Derived.Deep.DrawnRows
set_option linter.unusedVariables false
set_option linter.unusedSimpArgs false
namespace Go.Proofs.Ytacpfcneihlcnaa.MayDescribesu
open Go.RowKit Go.Maps Go.Proofs.Ytacpfcneihlcnaa.PMayDescribes Go.Proofs.YtacpfcneihlcnaaW.PrintWords Go.Proofs.YtacpfcneihlcnaaW.PrintLast

theorem u16_bd {n : Int} (h : (Lit.int .u16 n).wf = true) : 0 ≤ n ∧ n ≤ 65535 := by
  simp only [Lit.wf, Bool.and_eq_true, decide_eq_true_eq] at h
  have h1 : IntKind.min .u16 = 0 := by decide
  have h2 : IntKind.max .u16 = 65535 := by decide
  omega
theorem aft_nrmU {S W : Int} (l : List Stp) : Nrm (aft S W l) := nrm_walk _ _ (fun h => by cases h)
theorem lines_any {S W L : Int} {u : Bool} {p : Option Nat} {es : AL} {w : World} (h : MapIs w p es) (hn : es.length ≤ 1000000) :
    Calls Try.prog 29 #[.agg #[.int .i64 S, .int .i64 W, .int .i64 L, .bool u, .map p]] w fun e w' => ∃ A c n, e = .returned (.tuple #[.slice A n c, .bool (!u)]) ∧ (u = true → n = 0 ∧ A = none ∧ c = 0) ∧ Below w.heap.size w w' := by
  cases u with
  | true => exact (ma_lines_unknown w).mono fun e w' ⟨he, hb⟩ => ⟨none, 0, 0, he, fun _ => ⟨rfl, rfl, rfl⟩, hb⟩
  | false => exact (ma_lines h hn).mono fun e w' ⟨A, c, he, _, hb⟩ => ⟨A, c, es.length, he, (fun h => by cases h), hb⟩
theorem rng_wide {S W lo : Int} {s : MS} (hn : Nrm s) (h0 : 0 ≤ lo) : rngS S W s lo (lo + 64) = (true, []) := by
  obtain ⟨u, es⟩ := s
  unfold rngS rngS0
  rw [if_neg (show ¬ lo < 0 by omega)]
  cases u with
  | true =>
    rw [if_pos (.inl rfl)]
    rw [show es = [] from hn rfl]
  | false => rw [if_neg (by simp; omega), if_neg (by omega), if_pos (by omega)]
theorem rng_near {S W lo : Int} {s : MS} (h0 : 0 ≤ lo) : (rngS S W s lo (lo + 64 - 1)).1 = s.1 := by
  obtain ⟨u, es⟩ := s
  unfold rngS rngS0
  rw [if_neg (show ¬ lo < 0 by omega)]
  cases u with
  | true => rw [if_pos (.inl rfl)]
  | false => rw [if_neg (by simp; omega), if_neg (by omega), if_neg (by omega)]
theorem step_unknown {S W lo hi : Int} : stepS S W (true, []) lo hi = (true, []) := by simp [stepS, accS, rngS, rngS0]

structure UInv (w0 w : World) (S W L : Int) (u : Bool) (p : Option Nat) (es : AL) (q : Option Nat) (g7 g9 g11 : Nat) : Prop where
  b0 : Blk w w0.heap.size 23 #[.int .i64 S, .int .i64 W, .int .i64 L]
  b7 : Blk w g7 31 #[.int .i64 S, .int .i64 W, .int .i64 L, .bool true, .map none]
  b9 : Blk w g9 31 #[.int .i64 S, .int .i64 W, .int .i64 L, .bool u, .map p]
  b11 : Blk w g11 31 #[.int .i64 S, .int .i64 W, .int .i64 L, .bool true, .map q]
  m : MapIs w p es
  z : MapIs w q []
  b : Below w0.heap.size w0 w
section
variable {w0 w w' : World} {S W L : Int} {u : Bool} {p : Option Nat} {es : AL} {q : Option Nat} {g7 g9 g11 : Nat}
theorem UInv.on (h : UInv w0 w S W L u p es q g7 g9 g11) (hb : Below w.heap.size w w') : UInv w0 w' S W L u p es q g7 g9 g11 :=
  ⟨h.b0.on hb, h.b7.on hb, h.b9.on hb, h.b11.on hb, h.m.below hb, h.z.below hb, below_then h.b hb⟩
theorem UInv.drew (h : UInv w0 w S W L u p es q g7 g9 g11) : UInv w0 w.drew S W L u p es q g7 g9 g11 := h.on (below_drew (Below.refl _ _))
end

set_option maxRecDepth 100000 in
set_option maxHeartbeats 2000000 in
theorem unk_walk {S W L : Int} {w : World} {A1 : Option Addr} {c1 : Nat} {l1 : List Stp} {lo : Int} (h1 : Kd.C kSt w A1 l1.length l1) (hc1 : l1.length ≤ c1) (hlo : (Lit.int .u16 lo).wf = true) :
    Calls Try.prog 9 #[.agg #[.int .i64 S, .int .i64 W, .int .i64 L], .slice A1 l1.length c1, .int .u16 lo] w fun e w' => e = .returned (.bool true) ∧ Below w.heap.size w w' := by
  obtain ⟨lo0, lo1⟩ := u16_bd hlo
  have H1 := hide h1
  have m1 := Kd.C_max h1
  clear h1 hlo
  go_enter Try.func9, Try.ntmps9
  go_wp2_with fail
  refine at_world ?_
  intro W1 hW
  have b0 := Blk.newAt hW
  have HB1 := hide (below_at hW (Below.refl _ _))
  clear hW
  refine (awake_any _).mono ?_; rintro e w1 ⟨rfl, hb⟩
  have b0 := b0.on hb
  have HB := hide (below_then HB1.out hb)
  clear hb HB1
  have C0 := b0.c3
  go_wp2_with fail
  refine (small_any S W L (Kd.C_below H1.out HB.out) hc1).mono ?_; rintro e w2 ⟨r, rfl, hr, hb⟩
  have b0 := b0.on hb
  have HB2 := hide (below_then HB.out hb)
  have HR1 := hide hr
  clear hb HB C0 hr
  have C0 := b0.c3
  cases r with
  | false =>
    go_wp2_with fail
    refine (awake_any _).mono ?_; rintro e w3 ⟨rfl, hb⟩
    have HB3 := hide (below_then HB2.out hb)
    clear hb
    go_wp2_with fail
    go_ret
    exact ⟨rfl, HB3.out⟩
  | true =>
  have P1 := hide (HR1.out rfl)
  clear HR1
  go_wp2_with fail
  refine (may_unknown P1.out.1 _).mono ?_; rintro e w3 ⟨rfl, hb⟩
  have b0 := b0.on hb
  have HB3 := hide (below_then HB2.out hb)
  have hz0 : w.heap.size < w3.heap.size := b0.lt
  clear hb HB2 C0
  have C0 := b0.c3
  go_wp2_with fail
  refine at_world ?_
  intro W4 hW
  have b7 := Blk.newAt hW
  have b0 := Blk.at_ hW b0
  have HB4 := hide (below_at hW HB3.out)
  clear hW HB3 C0
  have AF1 := after_any P1.out (Kd.C_below H1.out HB4.out) hc1
  have G1 := hide (aft_good (S := S) (vldB_bd P1.out.1).2.2.1 P1.out.2.2.2 l1.length)
  have N1 := hide (aft_nrmU (S := S) (W := W) l1)
  have k1 := P1.out.2.2.1
  rw [List.take_length] at G1
  generalize aft S W l1 = st1 at AF1 G1 N1
  obtain ⟨u1, es1⟩ := st1
  refine AF1.mono ?_; rintro e w5 ⟨p1, v1, rfl, hm, hl, hb⟩
  have b0 := b0.on hb
  have b7 := b7.on hb
  have HB5 := hide (below_then HB4.out hb)
  obtain ⟨Av1, cv1, rfl, _, _⟩ := hl.reads
  have HM := hide hm
  have hg7 : w3.heap.size < w5.heap.size := b7.lt
  have hle : es1.length ≤ 2560 := Nat.le_trans G1.out.2 (by omega)
  clear hm hl hb HB4 AF1
  go_wp2_with fail
  refine at_world ?_
  intro W6 hW
  obtain ⟨b9, b10⟩ := Blk.new2At hW
  have b0 := Blk.at_ hW (b0.alloc _)
  have b7 := Blk.at_ hW (b7.alloc _)
  have HM6 := hide (MapIs.at2 hW HM.out)
  have HB6 := hide (below_at2 hW HB5.out)
  clear hW HM HB5 b10
  have RW := ma_range P1.out.1 (u := u1) (lo := lo) (hi := lo + 64) (by omega) HM6.out G1.out.1 (Nat.le_trans hle (by omega))
  rw [rng_wide N1.out lo0] at RW
  refine RW.mono ?_; rintro e w7 ⟨pw, rfl, hm, hb⟩
  have b0 := b0.on hb
  have b7 := b7.on hb
  have b9 := b9.on hb
  have HM7 := hide (HM6.out.below hb)
  have HW7 := hide hm
  have HB7 := hide (below_then HB6.out hb)
  have hg9 : w5.heap.size < w7.heap.size := b9.lt
  clear RW hm hb HM6 HB6
  have C9 := b9.c5
  go_wp2_with fail
  refine at_world ?_
  intro W8 hW
  have b11 := Blk.newAt hW
  have b0 := Blk.at_ hW b0
  have b7 := Blk.at_ hW b7
  have b9 := Blk.at_ hW b9
  have HM8 := hide (MapIs.at_ hW HM7.out)
  have HW8 := hide (MapIs.at_ hW HW7.out)
  have HB8 := hide (below_at hW HB7.out)
  clear hW HM7 HW7 HB7 C9
  have RN := ma_range P1.out.1 (u := u1) (lo := lo) (hi := lo + 64 - 1) (by omega) HM8.out G1.out.1 (Nat.le_trans hle (by omega))
  have hun : (rngS S W (u1, es1) lo (lo + 64 - 1)).1 = u1 := rng_near lo0
  have hnl := length_rngS S W (u1, es1) lo (lo + 64 - 1)
  generalize rngS S W (u1, es1) lo (lo + 64 - 1) = sn at RN hun hnl
  obtain ⟨un, esn⟩ := sn
  simp only at hun
  subst hun
  have hnl2 : esn.length ≤ 3000 := Nat.le_trans hnl (by show es1.length + 64 ≤ 3000; omega)
  clear hnl
  refine RN.mono ?_; rintro e w9 ⟨pn, rfl, hm, hb⟩
  have b0 := b0.on hb
  have b7 := b7.on hb
  have b9 := b9.on hb
  have b11 := b11.on hb
  have HM9 := hide (HM8.out.below hb)
  have HW9 := hide (HW8.out.below hb)
  have HN9 := hide hm
  have HB9 := hide (below_then HB8.out hb)
  clear RN hm hb HM8 HW8 HB8
  go_wp2_with fail
  refine at_world ?_
  intro W10 hW
  have b12 := Blk.newAt hW
  have b0 := Blk.at_ hW b0
  have b7 := Blk.at_ hW b7
  have b9 := Blk.at_ hW b9
  have b11 := Blk.at_ hW b11
  have HM10 := hide (MapIs.at_ hW HM9.out)
  have HW10 := hide (MapIs.at_ hW HW9.out)
  have HN10 := hide (MapIs.at_ hW HN9.out)
  have HB10 := hide (below_at hW HB9.out)
  clear hW HM9 HW9 HN9 HB9
  refine (lines_any HN10.out (by omega)).mono ?_; rintro e w11 ⟨An, cn, nn, rfl, _, hb⟩
  have b0 := b0.on hb
  have b7 := b7.on hb
  have b9 := b9.on hb
  have b11 := b11.on hb
  have HM11 := hide (HM10.out.below hb)
  have HW11 := hide (HW10.out.below hb)
  have HB11 := hide (below_then HB10.out hb)
  have C9 := b9.c5
  clear hb HM10 HW10 HB10 HN10 b12
  go_wp2_with fail
  refine (lines_any HM11.out (by omega)).mono ?_; rintro e w12 ⟨As, cs, ns, rfl, _, hb⟩
  have b0 := b0.on hb
  have b7 := b7.on hb
  have b9 := b9.on hb
  have b11 := b11.on hb
  have HM12 := hide (HM11.out.below hb)
  have HW12 := hide (HW11.out.below hb)
  have HB12 := hide (below_then HB11.out hb)
  clear hb HM11 HW11 HB11 C9
  go_wp2_with fail
  have INV := hide (UInv.drew ⟨b0, b7, b9, b11, HM12.out, HW12.out, HB12.out⟩)
  clear b0 b7 b9 b11 HM12 HW12 HB12
  generalize w3.heap.size = g7 at *
  generalize w5.heap.size = g9 at *
  generalize w7.heap.size = g11 at *
  generalize (!un) = kk
  have ek : (kk != kk) = false := by simp
  have D1 : ∀ w', Hid (UInv w w' S W L un p1 es1 pw g7 g9 g11) → Calls Try.prog 19 #[.agg #[.int .i64 S, .int .i64 W, .int .i64 L, .bool true, .map pw], .agg #[.int .i64 S, .int .i64 W, .int .i64 L, .bool true, .map none]] w' fun e w'' => e = .returned (.bool true) ∧ Hid (UInv w w'' S W L un p1 es1 pw g7 g9 g11) := fun w' h =>
    (eq_same h.out.z (.nil_ _)).mono fun e w'' ⟨he, hb⟩ => ⟨he, hide (h.out.on hb)⟩
  have D2 : ∀ w', Hid (UInv w w' S W L un p1 es1 pw g7 g9 g11) → Calls Try.prog 19 #[.agg #[.int .i64 S, .int .i64 W, .int .i64 L, .bool true, .map none], .agg #[.int .i64 S, .int .i64 W, .int .i64 L, .bool true, .map none]] w' fun e w'' => e = .returned (.bool true) ∧ Hid (UInv w w'' S W L un p1 es1 pw g7 g9 g11) := fun w' h =>
    (eq_same (.nil_ _) (.nil_ _)).mono fun e w'' ⟨he, hb⟩ => ⟨he, hide (h.out.on hb)⟩
  have D3 : ∀ w', Hid (UInv w w' S W L un p1 es1 pw g7 g9 g11) → Calls Try.prog 17 #[.agg #[.int .i64 S, .int .i64 W, .int .i64 L, .bool un, .map p1], .agg #[.int .i64 S, .int .i64 W, .int .i64 L, .bool true, .map none]] w' fun e w'' => e = .returned (.agg #[.int .i64 S, .int .i64 W, .int .i64 L, .bool true, .map none]) ∧ Hid (UInv w w'' S W L un p1 es1 pw g7 g9 g11) := fun w' h =>
    (join_unknown (.inr rfl) w').mono fun e w'' ⟨he, hb⟩ => ⟨he, hide (h.out.on hb)⟩
  have D4 : ∀ w', Hid (UInv w w' S W L un p1 es1 pw g7 g9 g11) → Calls Try.prog 17 #[.agg #[.int .i64 S, .int .i64 W, .int .i64 L, .bool true, .map none], .agg #[.int .i64 S, .int .i64 W, .int .i64 L, .bool un, .map p1]] w' fun e w'' => e = .returned (.agg #[.int .i64 S, .int .i64 W, .int .i64 L, .bool true, .map none]) ∧ Hid (UInv w w'' S W L un p1 es1 pw g7 g9 g11) := fun w' h =>
    (join_unknown (.inl rfl) w').mono fun e w'' ⟨he, hb⟩ => ⟨he, hide (h.out.on hb)⟩
  have FACTS : ∀ w', Hid (UInv w w' S W L un p1 es1 pw g7 g9 g11) → (w'.cell? ⟨g7, 0, none⟩ = some (.int .i64 S) ∧ w'.cell? ⟨g7, 1, none⟩ = some (.int .i64 W) ∧ w'.cell? ⟨g7, 2, none⟩ = some (.int .i64 L) ∧ w'.cell? ⟨g7, 3, none⟩ = some (.bool true) ∧ w'.cell? ⟨g7, 4, none⟩ = some (.map none)) ∧ (w'.cell? ⟨g9, 0, none⟩ = some (.int .i64 S) ∧ w'.cell? ⟨g9, 1, none⟩ = some (.int .i64 W) ∧ w'.cell? ⟨g9, 2, none⟩ = some (.int .i64 L) ∧ w'.cell? ⟨g9, 3, none⟩ = some (.bool un) ∧ w'.cell? ⟨g9, 4, none⟩ = some (.map p1)) ∧ (w'.cell? ⟨g11, 0, none⟩ = some (.int .i64 S) ∧ w'.cell? ⟨g11, 1, none⟩ = some (.int .i64 W) ∧ w'.cell? ⟨g11, 2, none⟩ = some (.int .i64 L) ∧ w'.cell? ⟨g11, 3, none⟩ = some (.bool true) ∧ w'.cell? ⟨g11, 4, none⟩ = some (.map pw)) ∧ Hid (UInv w w' S W L un p1 es1 pw g7 g9 g11) := fun w' h => ⟨h.out.b7.c5, h.out.b9.c5, h.out.b11.c5, h⟩
  have INVOF : ∀ w', (w'.cell? ⟨g7, 0, none⟩ = some (.int .i64 S) ∧ w'.cell? ⟨g7, 1, none⟩ = some (.int .i64 W) ∧ w'.cell? ⟨g7, 2, none⟩ = some (.int .i64 L) ∧ w'.cell? ⟨g7, 3, none⟩ = some (.bool true) ∧ w'.cell? ⟨g7, 4, none⟩ = some (.map none)) ∧ (w'.cell? ⟨g9, 0, none⟩ = some (.int .i64 S) ∧ w'.cell? ⟨g9, 1, none⟩ = some (.int .i64 W) ∧ w'.cell? ⟨g9, 2, none⟩ = some (.int .i64 L) ∧ w'.cell? ⟨g9, 3, none⟩ = some (.bool un) ∧ w'.cell? ⟨g9, 4, none⟩ = some (.map p1)) ∧ (w'.cell? ⟨g11, 0, none⟩ = some (.int .i64 S) ∧ w'.cell? ⟨g11, 1, none⟩ = some (.int .i64 W) ∧ w'.cell? ⟨g11, 2, none⟩ = some (.int .i64 L) ∧ w'.cell? ⟨g11, 3, none⟩ = some (.bool true) ∧ w'.cell? ⟨g11, 4, none⟩ = some (.map pw)) ∧ Hid (UInv w w' S W L un p1 es1 pw g7 g9 g11) → Hid (UInv w w' S W L un p1 es1 pw g7 g9 g11) := fun w' h => h.2.2.2
  have H1' := H1
  have P1' := P1
  clear H1 P1 G1 N1 hg7 hg9
  go_region_held3 (fun w' => (w'.cell? ⟨g7, 0, none⟩ = some (.int .i64 S) ∧ w'.cell? ⟨g7, 1, none⟩ = some (.int .i64 W) ∧ w'.cell? ⟨g7, 2, none⟩ = some (.int .i64 L) ∧ w'.cell? ⟨g7, 3, none⟩ = some (.bool true) ∧ w'.cell? ⟨g7, 4, none⟩ = some (.map none)) ∧ (w'.cell? ⟨g9, 0, none⟩ = some (.int .i64 S) ∧ w'.cell? ⟨g9, 1, none⟩ = some (.int .i64 W) ∧ w'.cell? ⟨g9, 2, none⟩ = some (.int .i64 L) ∧ w'.cell? ⟨g9, 3, none⟩ = some (.bool un) ∧ w'.cell? ⟨g9, 4, none⟩ = some (.map p1)) ∧ (w'.cell? ⟨g11, 0, none⟩ = some (.int .i64 S) ∧ w'.cell? ⟨g11, 1, none⟩ = some (.int .i64 W) ∧ w'.cell? ⟨g11, 2, none⟩ = some (.int .i64 L) ∧ w'.cell? ⟨g11, 3, none⟩ = some (.bool true) ∧ w'.cell? ⟨g11, 4, none⟩ = some (.map pw)) ∧ Hid (UInv w w' S W L un p1 es1 pw g7 g9 g11))
    (first | with_reducible assumption | exact FACTS _ (by with_reducible assumption))
    (first
      | (go_at_call 19; with_reducible refine (D1 _ (INVOF _ (by with_reducible assumption))).mono ?_; rintro e w' ⟨rfl, hi⟩)
      | (go_at_call 19; with_reducible refine (D2 _ (INVOF _ (by with_reducible assumption))).mono ?_; rintro e w' ⟨rfl, hi⟩)
      | (go_at_call 17; with_reducible refine (D3 _ (INVOF _ (by with_reducible assumption))).mono ?_; rintro e w' ⟨rfl, hi⟩)
      | (go_at_call 17; with_reducible refine (D4 _ (INVOF _ (by with_reducible assumption))).mono ?_; rintro e w' ⟨rfl, hi⟩))
  go_wp2_with fail
  refine at_wp ?_
  intro W13 hW
  have HF := hide (hW ▸ (INVOF _ (by with_reducible assumption)).out : UInv w W13 S W L un p1 es1 pw g7 g9 g11)
  clear hW
  clear FACTS INVOF D1 D2 D3 D4 INV
  go_loopw [99] (fun v wr => ∃ (i : Nat) (q : Option Nat), v = .int .i64 i ∧ i ≤ l1.length ∧ Blk wr g7 31 #[.int .i64 S, .int .i64 W, .int .i64 L, .bool true, .map q] ∧ Hid (MapIs wr q []) ∧ Hid (Below w.heap.size w wr)) (fun v _ => l1.length - (intOf v).toNat)
  case atStart => exact ⟨0, none, rfl, Nat.zero_le _, HF.out.b7, hide (.nil_ _), hide HF.out.b⟩
  case round =>
    obtain ⟨i, q, rfl, hi, B7, HQ, HB⟩ := hrel
    by_cases hlt : i < l1.length
    · obtain ⟨ad, rfl, hx, hy, hz⟩ := stp_at (Kd.C_below H1'.out HB.out) i hlt
      have HNR := hide (P1'.out.2.2.2 (l1.getD i (0, 0, 0)) (by rw [List.getD_eq_getElem?_getD, List.getElem?_eq_getElem hlt]; exact List.getElem_mem _))
      generalize l1.getD i (0, 0, 0) = r at hx hy hz HNR
      obtain ⟨lo', hi', pk⟩ := r
      simp only at hx hy hz
      have hnb := near_bd HNR.out
      simp only at hnb
      obtain ⟨n1, n2, n3, n4⟩ := hnb
      have C7 := B7.c5
      have hg7 : g7 < wr.heap.size := B7.lt
      go_wp2_with fail
      refine at_world ?_
      intro W14 hW
      have D7 := Blk.at_ hW B7
      have HQ1 := hide (MapIs.at_ hW HQ.out)
      have HB1 := hide (below_at hW HB.out)
      clear hW B7 HQ HB C7 hx hy hz
      have SC := step_any (S := S) (W := W) (L := L) (u := true) (pk := pk) P1'.out.1 (show lo' ≤ 1000000 by omega) (show hi' ≤ 1000000 by omega) HQ1.out (good_nil W) (by simp)
      rw [step_unknown] at SC
      refine SC.mono ?_; rintro e w15 ⟨q', rfl, hm, hb⟩
      have D7 := D7.on hb
      have HQ2 := hide hm
      have HB2 := hide (below_then HB1.out hb)
      have C7 := D7.c5
      have F7 := D7.fz
      clear SC hm hb HQ1 HB1
      obtain ⟨hg, E7⟩ := set5_is D7 (.int .i64 S) (.int .i64 W) (.int .i64 L) (.bool true) (.map q')
      have HR := hide (And.intro E7 (And.intro (hide (HQ2.out.store hg D7)) (hide (below_grown HB2.out hg (by omega)))))
      clear hg E7
      go_wp2_with fail
      go_roundw
      case rel => exact ⟨i + 1, q', by go_num, by omega, HR.out⟩
      case measure => simp [intOf]; omega
    · have hie : i = l1.length := by omega
      clear hie
      have C7 := B7.c5
      go_wp2_with fail
      refine (ma_lines_unknown _).mono ?_; rintro e w16 ⟨rfl, hb⟩
      have B7 := B7.on hb
      have HQ := hide (HQ.out.below hb)
      have HB := hide (below_then HB.out hb)
      clear hb C7
      have C7 := B7.c5
      go_wp2_with fail
      have AG := fun (W3 : World) (h : MapIs W3 q []) => ma_age (S := S) (W := W) (L := L) (u := true) (k := lo) (wf_small (by omega) (by omega)) h
      have ea : ageS (true, []) lo = (0, true) := by simp [ageS, lo0]
      rw [ea] at AG
      refine (AG _ HQ.out).mono ?_; rintro e w17 ⟨rfl, hb⟩
      have HB := hide (below_then HB.out hb)
      clear hb
      go_wp2_with fail
      go_ret
      exact ⟨rfl, HB.out⟩
end Go.Proofs.Ytacpfcneihlcnaa.MayDescribesu
