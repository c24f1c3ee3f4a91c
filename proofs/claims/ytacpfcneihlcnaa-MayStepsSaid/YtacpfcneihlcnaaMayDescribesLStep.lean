/- The walk of the law MaySteps. -/
import Derived.Test.YtacpfcneihlcnaaMayDescribesAf
import Derived.Test.YtacpfcneihlcnaaMayDescribesSa
import Derived.Test.YtacpfcneihlcnaaNb
import Derived.Deep.RegionHeld3
import Derived.Deep.DrawnRows
set_option linter.unusedVariables false
set_option linter.unusedSimpArgs false
namespace Go.Proofs.Ytacpfcneihlcnaa.MayDescribesu
open Go.RowKit Go.Maps Go.Proofs.Ytacpfcneihlcnaa.PMayDescribes Go.Proofs.YtacpfcneihlcnaaW.PrintWords Go.Proofs.YtacpfcneihlcnaaW.PrintLast

theorem small_take {S W L : Int} {l : List Stp} (h : SmallP S W L l) (n : Nat) : SmallP S W L (l.take n) := ⟨h.1, h.2.1, by have := h.2.2.1; simp; omega, fun x hx => h.2.2.2 x (List.mem_of_mem_take hx)⟩
theorem c_take {w : World} {A : Option Addr} {l : List Stp} (h : Kd.C kSt w A l.length l) (n : Nat) (hn : n ≤ l.length) : Kd.C kSt w A n (l.take n) := by
  refine ⟨by simp; omega, by have := h.2.1; omega, fun h0 => ?_⟩
  obtain ⟨ad, e, hc⟩ := h.2.2 (by omega)
  refine ⟨ad, e, fun j p hj => hc j p ?_⟩
  rw [List.getElem?_take] at hj
  split at hj
  · exact hj
  · cases hj
section
variable {P : Program} {md : Region.Mode} {ops : Array Oper} {Q : Exit → Act → World → Prop} {T : World → Prop} {ds : List Nat}
theorem at_lastS {fuel : Nat} {l : Array Bool} {a : Act} {w : World} (h : ∀ W, W = w → wpAnyLast P md ops Q T ds fuel l a W) : wpAnyLast P md ops Q T ds fuel l a w := h w rfl
end
structure AInv (w0 w : World) (S W L : Int) (u : Bool) (p : Option Nat) (es : AL) (g9 : Nat) : Prop where
  b0 : Blk w w0.heap.size 23 #[.int .i64 S, .int .i64 W, .int .i64 L]
  b9 : Blk w g9 31 #[.int .i64 S, .int .i64 W, .int .i64 L, .bool u, .map p]
  m : MapIs w p es
  b : Below w0.heap.size w0 w
section
variable {w0 w w' : World} {S W L : Int} {u : Bool} {p : Option Nat} {es : AL} {g9 : Nat}
theorem AInv.on (h : AInv w0 w S W L u p es g9) (hb : Below w.heap.size w w') : AInv w0 w' S W L u p es g9 := ⟨h.b0.on hb, h.b9.on hb, h.m.below hb, below_then h.b hb⟩
theorem AInv.at_ {o : Obj} (e : w' = w.alloc o) (h : AInv w0 w S W L u p es g9) : AInv w0 w' S W L u p es g9 := h.on (e ▸ below_alloc (Below.refl _ _) o)
theorem AInv.drew (h : AInv w0 w S W L u p es g9) : AInv w0 w.drew S W L u p es g9 := h.on (below_drew (Below.refl _ _))
end
def AS (w0 : World) (S W L : Int) (u : Bool) (p : Option Nat) (es : AL) (g9 : Nat) (w' : World) : Prop :=
  (w'.cell? ⟨w0.heap.size, 0, none⟩ = some (.int .i64 S) ∧ w'.cell? ⟨w0.heap.size, 1, none⟩ = some (.int .i64 W) ∧ w'.cell? ⟨w0.heap.size, 2, none⟩ = some (.int .i64 L)) ∧ Hid (AInv w0 w' S W L u p es g9)
theorem AS.of {w0 w' : World} {S W L : Int} {u : Bool} {p : Option Nat} {es : AL} {g9 : Nat} (h : AInv w0 w' S W L u p es g9) : AS w0 S W L u p es g9 w' := ⟨h.b0.c3, h⟩
theorem lines_lower {w : World} {base base' : Nat} {v : Value} {es : AL} (h : LinesOwn w base v es) (hb : base' ≤ base) : LinesOwn w base' v es := Kd.R_lower h hb
/-- What the two boxes and the call have left, in whatever order they came. -/
structure FInv (w0 w : World) (S W L : Int) (u : Bool) (p : Option Nat) (es : AL) (g9 : Nat) (s2 : MS) (g12 g13 : Nat) (p' : Option Nat) (Av : Option Addr) (cv : Nat) : Prop where
  a : AInv w0 w S W L u p es g9
  b12 : Blk w g12 31 #[.int .i64 0, .int .i64 0, .int .i64 0, .bool false, .map none]
  b13 : Blk w g13 34 #[.int .i64 0, .int .i64 0, .int .i64 0, .bool false, .slice none 0 0]
  m : MapIs w p' s2.2
  l : LinesOwn w w0.heap.size (.slice Av s2.2.length cv) s2.2
  d : g9 < g12 ∧ g9 < g13 ∧ g12 ≠ g13

section
variable {w0 w w' : World} {S W L : Int} {u : Bool} {p : Option Nat} {es : AL} {g9 : Nat}
theorem AInv.store {g t : Nat} {cs : Array Value} (h : AInv w0 w S W L u p es g9) (hg : w.grownBy w' (some g)) (hb : Blk w g t cs) (h9 : g9 ≠ g) (h0 : w0.heap.size < g) : AInv w0 w' S W L u p es g9 :=
  ⟨h.b0.grown hg (fun e => by have := Option.some.inj e; omega), h.b9.grown hg (fun e => h9 (Option.some.inj e)), h.m.store hg hb, below_grown h.b hg (Nat.le_of_lt h0)⟩
end
structure GInv (w0 w : World) (S W L : Int) (u : Bool) (p : Option Nat) (es : AL) (g9 : Nat) (u2 : Bool) (es2 : AL) (g12 g13 : Nat) (p' : Option Nat) (Av : Option Addr) (cv : Nat) : Prop where
  a : AInv w0 w S W L u p es g9
  b12 : Blk w g12 31 #[.int .i64 S, .int .i64 W, .int .i64 L, .bool u2, .map p']
  b13 : Blk w g13 34 #[.int .i64 S, .int .i64 W, .int .i64 L, .bool u2, .slice Av es2.length cv]
  m : MapIs w p' es2
  l : LinesOwn w w0.heap.size (.slice Av es2.length cv) es2
section
variable {w0 w w' : World} {S W L : Int} {u : Bool} {p : Option Nat} {es : AL} {g9 : Nat} {u2 : Bool} {es2 : AL} {g12 g13 : Nat} {p' : Option Nat} {Av : Option Addr} {cv : Nat}
theorem GInv.on (h : GInv w0 w S W L u p es g9 u2 es2 g12 g13 p' Av cv) (hb : Below w.heap.size w w') : GInv w0 w' S W L u p es g9 u2 es2 g12 g13 p' Av cv :=
  ⟨h.a.on hb, h.b12.on hb, h.b13.on hb, h.m.below hb, h.l.below hb⟩
theorem GInv.drew (h : GInv w0 w S W L u p es g9 u2 es2 g12 g13 p' Av cv) : GInv w0 w.drew S W L u p es g9 u2 es2 g12 g13 p' Av cv := h.on (below_drew (Below.refl _ _))
end
def GS (w0 : World) (S W L : Int) (u : Bool) (p : Option Nat) (es : AL) (g9 : Nat) (u2 : Bool) (es2 : AL) (g12 g13 : Nat) (p' : Option Nat) (Av : Option Addr) (cv : Nat) (ad : Addr) (i : Nat) (lo hi pk : Int) (w' : World) : Prop :=
  (w'.cell? ⟨g9, 0, none⟩ = some (.int .i64 S) ∧ w'.cell? ⟨g9, 1, none⟩ = some (.int .i64 W) ∧ w'.cell? ⟨g9, 2, none⟩ = some (.int .i64 L) ∧ w'.cell? ⟨g9, 3, none⟩ = some (.bool u) ∧ w'.cell? ⟨g9, 4, none⟩ = some (.map p)) ∧
  (w'.cell? (ad.add (i * 3)) = some (.int .i64 lo) ∧ w'.cell? ⟨(ad.add (i * 3)).block, (ad.add (i * 3)).off + 1, none⟩ = some (.int .i64 hi) ∧ w'.cell? ⟨(ad.add (i * 3)).block, (ad.add (i * 3)).off + 2, none⟩ = some (.int .u8 pk)) ∧
  Hid (GInv w0 w' S W L u p es g9 u2 es2 g12 g13 p' Av cv)

set_option maxRecDepth 100000 in
set_option maxHeartbeats 4000000 in
theorem step_walk {S W L : Int} {w : World} {A1 : Option Addr} {c1 : Nat} {l1 : List Stp} (h1 : Kd.C kSt w A1 l1.length l1) (hc1 : l1.length ≤ c1) :
    Calls Try.prog 8 #[.agg #[.int .i64 S, .int .i64 W, .int .i64 L], .slice A1 l1.length c1] w fun e w' => e = .returned (.bool true) ∧ Below w.heap.size w w' := by
  have H1 := hide h1
  have m1 := Kd.C_max h1
  have VA := fun w => valid_any S W L w
  clear h1
  go_enter Try.func8, Try.ntmps8
  go_wp2_with fail
  refine at_world ?_
  intro W1 hW
  have b0 := Blk.newAt hW
  have HB1 := hide (below_at hW (Below.refl _ _))
  clear hW
  refine (awake_any _).mono ?_; rintro e w1 ⟨rfl, hb⟩
  have b0 := b0.on hb
  have HB := hide (below_then HB1.out hb)
  clear hb HB1
  have C0 := b0.c3
  go_wp2_with fail
  refine (VA _).mono ?_; rintro e w2 ⟨rfl, hb⟩
  have b0 := b0.on hb
  have HB2 := hide (below_then HB.out hb)
  clear hb HB C0
  have C0 := b0.c3
  cases hv : vldB S W L with
  | false =>
    have HV := hide hv
    clear hv
    go_wp2_with fail
    refine (may_new_bad HV.out _).mono ?_; rintro e w3 ⟨rfl, hb⟩
    have b0 := b0.on hb
    have HB3 := hide (below_then HB2.out hb)
    have hz0 : w.heap.size < w3.heap.size := b0.lt
    clear hb C0
    have C0 := b0.c3
    go_wp2_with fail
    refine at_world ?_
    intro W4 hW
    have HB4 := hide (below_at hW HB3.out)
    clear hW
    refine (may_unknown_bad HV.out _).mono ?_; rintro e w5 ⟨rfl, hb⟩
    have HB5 := hide (below_then HB4.out hb)
    clear hb
    go_wp2_with fail
    go_ret
    exact ⟨rfl, by have hb := HB5.out; (repeat (first | with_reducible exact Below.refl _ _ | with_reducible assumption | refine below_set ?_ (by first | exact Nat.le_refl _ | (simp; omega) | simp) _ | refine below_alloc ?_ _ | refine below_drewN ?_ _ | refine below_drew ?_))⟩
  | true =>
  have HV := hide hv
  clear hv
  go_wp2_with fail
  refine (small_any S W L (Kd.C_below H1.out HB2.out) hc1).mono ?_; rintro e w3 ⟨r, rfl, hr, hb⟩
  have b0 := b0.on hb
  have HB3 := hide (below_then HB2.out hb)
  have HR1 := hide hr
  clear hb HB2 C0 hr
  have C0 := b0.c3
  cases r with
  | false =>
    go_wp2_with fail
    go_ret
    exact ⟨rfl, HB3.out⟩
  | true =>
  have P1 := hide (HR1.out rfl)
  clear HR1
  go_wp2_with fail
  refine (may_new HV.out _).mono ?_; rintro e w4 ⟨rfl, hb⟩
  have b0 := b0.on hb
  have HB4 := hide (below_then HB3.out hb)
  have hz0 : w.heap.size < w4.heap.size := b0.lt
  clear hb HB3 C0
  have C0 := b0.c3
  go_wp2_with fail
  refine at_world ?_
  intro W5 hW
  have b9 := Blk.newAt hW
  have b0 := Blk.at_ hW b0
  have HB5 := hide (below_at hW HB4.out)
  clear hW HB4 C0
  have SA := same_any (S := S) (W := W) (L := L) (u := false) (p := none) (es := []) (A := none) (c := 0) (w := W5) (.nil_ _) (good_nil W) (by simp) ⟨rfl, by simp, fun h => by simp at h⟩ (Nat.le_refl _)
  refine SA.mono ?_; rintro e w6 ⟨rfl, hb⟩
  have b9 := b9.on hb
  have b0 := b0.on hb
  have HB6 := hide (below_then HB5.out hb)
  clear hb HB5 SA
  have HA0 := hide (⟨b0, b9, .nil_ _, HB6.out⟩ : AInv w w6 S W L false none [] w4.heap.size)
  clear b0 b9 HB6
  generalize w4.heap.size = g9 at *
  go_wp2_with fail
  go_loopw [55] (fun v wr => ∃ (i : Nat) (u : Bool) (es : AL) (p : Option Nat), v = .int .i64 i ∧ i ≤ l1.length ∧ Hid ((u, es) = aft S W (l1.take i)) ∧ Hid (AInv w wr S W L u p es g9)) (fun v _ => l1.length - (intOf v).toNat)
  case atStart => exact ⟨0, false, [], none, rfl, Nat.zero_le _, hide (aft_zero S W l1).symm, HA0⟩
  case round =>
    clear HA0
    obtain ⟨i, u, es, p, rfl, hi, HS, HA⟩ := hrel
    have k40 := P1.out.2.2.1
    by_cases hlt : i < l1.length
    · have hlen : (l1.take (i + 1)).length = i + 1 := by simp; omega
      have AF := fun w' (h : Below w.heap.size w w') => after_any (small_take P1.out (i + 1)) (by rw [hlen]; exact c_take (Kd.C_below H1.out h) (i + 1) (by omega)) (show (l1.take (i + 1)).length ≤ c1 by omega)
      rw [hlen] at AF
      generalize hst : aft S W (l1.take (i + 1)) = st2 at AF
      obtain ⟨u2, es2⟩ := st2
      have HNX := hide hst
      have HAF := hide AF
      clear hst
      clear AF hlen
      have HAD := hide HA.out.drew
      go_wp2_with fail
      have hwr : IntKind.i64.wrap ((i : Int) + 1) = (i : Int) + 1 := by rw [i64_w, wrap_small (by omega) (by omega)]
      have hb0 : (0 : Int) ≤ (i : Int) + 1 := by omega
      have hb1 : (i : Int) + 1 ≤ (c1 : Int) := by omega
      have hbn : ((i : Int) + 1).toNat = i + 1 := by omega
      refine wp_region_noPanic ?_
      refine start_ (n := 13) (S := AS w S W L u p es g9) (ds := [11, 12]) #[false, false, false, false, false, false, false, false, false, false, false, false, false] (by kernel_rfl) rfl rfl (AS.of HAD.out) (fun hHeld => ?_)
      generalize wr.drew = w12 at HAD hHeld ⊢
      refine take_ (i := 0) (N := some 59) (v := ?_) (a' := ?_) #[true, false, false, false, false, false, false, false, false, false, false, false, false] rfl rfl (by kernel_rfl) (fun _ _ _ h => h) (Or.inl ⟨by rfl, ?_⟩) hHeld ?_ ?_
      rotate_left
      · rintro w' ⟨⟨s0, s1, s2⟩, _⟩
        go_simp
        with_reducible rfl
      rotate_left
      · simp only [Act.put, List.setIfInBounds_toArray, List.set_cons_zero, List.set_cons_succ]
        rfl
      refine pure_ (i := 1) (N := some 60) (v := ?_) (a' := ?_) #[true, true, false, false, false, false, false, false, false, false, false, false, false] rfl rfl (by kernel_rfl) (fun _ _ _ h => h) (Or.inl ⟨by rfl, ?_⟩) ?_ ?_
      rotate_left
      · intro w'
        go_simp
        with_reducible rfl
      rotate_left
      · simp only [Act.put, List.setIfInBounds_toArray, List.set_cons_zero, List.set_cons_succ]
        rfl
      refine pure_ (i := 2) (N := some 61) (v := ?_) (a' := ?_) #[true, true, true, false, false, false, false, false, false, false, false, false, false] rfl rfl (by kernel_rfl) (fun _ _ _ h => h) (Or.inl ⟨by rfl, ?_⟩) ?_ ?_
      rotate_left
      · intro w'
        go_simp
        with_reducible rfl
      rotate_left
      · simp only [Act.put, List.setIfInBounds_toArray, List.set_cons_zero, List.set_cons_succ]
        rfl
      refine pure_ (i := 3) (N := some 62) (v := ?_) (a' := ?_) #[true, true, true, true, false, false, false, false, false, false, false, false, false] rfl rfl (by kernel_rfl) (fun _ _ _ h => h) (Or.inl ⟨by rfl, ?_⟩) ?_ ?_
      rotate_left
      · intro w'
        go_simp
        with_reducible rfl
      rotate_left
      · simp only [Act.put, List.setIfInBounds_toArray, List.set_cons_zero, List.set_cons_succ]
        rfl
      refine pure_ (i := 4) (N := some 63) (v := ?_) (a' := ?_) #[true, true, true, true, true, false, false, false, false, false, false, false, false] rfl rfl (by kernel_rfl) (fun _ _ _ h => h) (Or.inl ⟨by rfl, ?_⟩) ?_ ?_
      rotate_left
      · intro w'
        go_simp
        with_reducible rfl
      rotate_left
      · simp only [Act.put, List.setIfInBounds_toArray, List.set_cons_zero, List.set_cons_succ]
        rfl
      refine join_ (σ := Nat × Nat × Option Nat × Option Addr × Nat) 2 #[true, true, true, true, true, true, true, true, true, true, true, false, false]
        (fun s => [(64, .tuple #[.agg #[.int .i64 S, .int .i64 W, .int .i64 L, .bool u2, .map s.2.2.1], .agg #[.int .i64 S, .int .i64 W, .int .i64 L, .bool u2, .slice s.2.2.2.1 es2.length s.2.2.2.2]]),
          (58, .tuple #[.agg #[.int .i64 S, .int .i64 W, .int .i64 L, .bool u2, .map s.2.2.1], .agg #[.int .i64 S, .int .i64 W, .int .i64 L, .bool u2, .slice s.2.2.2.1 es2.length s.2.2.2.2]]),
          (65, .agg #[.int .i64 S, .int .i64 W, .int .i64 L, .bool u2, .map s.2.2.1]), (66, .agg #[.int .i64 S, .int .i64 W, .int .i64 L, .bool u2, .slice s.2.2.2.1 es2.length s.2.2.2.2]),
          (12, .pointer (some ⟨s.1, 0, none⟩)), (13, .pointer (some ⟨s.2.1, 0, none⟩))])
        (fun s w' => FInv w w' S W L u p es g9 (u2, es2) s.1 s.2.1 s.2.2.1 s.2.2.2.1 s.2.2.2.2) (fun s w' hF => ?_) (fun hcont => ?_)
      rotate_left
      · refine three_ (i := 5) (j := 9) (k := 10) (Ni := some 64) (Nj := some 12) (Nk := some 13) #[true, true, true, true, true, true, false, false, false, false, false, false, false] #[true, true, true, true, true, false, false, false, false, true, false, false, false] #[true, true, true, true, true, false, false, false, false, false, true, false, false] rfl rfl rfl rfl rfl rfl (by kernel_rfl) (by decide) (by decide) (by decide) (fun K hK => ?_) (fun K hK => ?_) (fun K hK => ?_)
        · refine goes_ Try.func13 (by kernel_rfl) rfl #[.agg #[.int .i64 S, .int .i64 W, .int .i64 L], .slice A1 (i + 1) c1] (by rfl) rfl rfl (by (try simp only [List.map_toArray, List.map_cons, List.map_nil]); first | done | rfl) ?_
          refine (HAF.out _ HAD.out.b).mono ?_; rintro e wc ⟨p', v', rfl, hm, hl, hb⟩
          obtain ⟨Av', cv', rfl, _, _⟩ := hl.reads
          refine ⟨_, rfl, ?_⟩
          have HL := hide (lines_lower hl HAD.out.b.size)
          have HM := hide hm
          have HAD := hide (HAD.out.on hb)
          clear hHeld hm hl hb
          refine hK.out _ _ (AS.of HAD.out) (fun hHeld => ?_)
          clear hK K
          refine norm_ (a' := ?_) ?_ ?_
          rotate_left
          · show Act.put _ (some 64) _ = _
            simp only [Act.put, List.setIfInBounds_toArray, List.set_cons_zero, List.set_cons_succ]
            rfl
          refine pure_ (i := 6) (N := some 58) (v := ?_) (a' := ?_) #[true, true, true, true, true, true, true, false, false, false, false, false, false] rfl rfl (by kernel_rfl) (fun _ _ _ h => h) (Or.inl ⟨by rfl, ?_⟩) ?_ ?_
          rotate_left
          · intro w'
            go_simp
            with_reducible rfl
          rotate_left
          · simp only [Act.put, List.setIfInBounds_toArray, List.set_cons_zero, List.set_cons_succ]
            rfl
          refine pure_ (i := 7) (N := some 65) (v := ?_) (a' := ?_) #[true, true, true, true, true, true, true, true, false, false, false, false, false] rfl rfl (by kernel_rfl) (fun _ _ _ h => h) (Or.inl ⟨by rfl, ?_⟩) ?_ ?_
          rotate_left
          · intro w'
            go_simp
            with_reducible rfl
          rotate_left
          · simp only [Act.put, List.setIfInBounds_toArray, List.set_cons_zero, List.set_cons_succ]
            rfl
          refine pure_ (i := 8) (N := some 66) (v := ?_) (a' := ?_) #[true, true, true, true, true, true, true, true, true, false, false, false, false] rfl rfl (by kernel_rfl) (fun _ _ _ h => h) (Or.inl ⟨by rfl, ?_⟩) ?_ ?_
          rotate_left
          · intro w'
            go_simp
            with_reducible rfl
          rotate_left
          · simp only [Act.put, List.setIfInBounds_toArray, List.set_cons_zero, List.set_cons_succ]
            rfl
          refine two_ (i := 9) (j := 10) (Ni := some 12) (Nj := some 13) #[true, true, true, true, true, true, true, true, true, true, false, false, false] #[true, true, true, true, true, true, true, true, true, false, true, false, false] rfl rfl rfl rfl (by kernel_rfl) (by decide) (by decide) (fun K hK => ?_) (fun K hK => ?_)
          · go_simp
            refine hK.out _ _ (AS.of (HAD.out.at_ rfl)) (fun hHeld2 => ?_)
            clear hK K hHeld hHeld2
            refine at_lastS ?_
            intro WX hW
            have hX := HAD.out.b9.lt
            have BX := Blk.newAt hW
            have HM := hide (MapIs.at_ hW HM.out)
            have HL := hide (LinesOwn.at_ hW HL.out)
            have HAD := hide (HAD.out.at_ hW)
            have hHeld := AS.of HAD.out
            clear hW
            refine norm_ (a' := ?_) ?_ ?_
            rotate_left
            · try simp only [Act.put, List.setIfInBounds_toArray, List.set_cons_zero, List.set_cons_succ]
              rfl
            refine one_ (i := 10) (N := some 13) #[true, true, true, true, true, true, true, true, true, true, true, false, false] rfl rfl (by kernel_rfl) (by decide) (fun K hK => ?_)
            go_simp
            refine hK.out _ _ (AS.of (HAD.out.at_ rfl)) (fun hHeld2 => ?_)
            clear hK K hHeld hHeld2
            refine at_lastS ?_
            intro WY hW
            have hY := HAD.out.b9.lt
            have hxy := BX.lt
            have BX := Blk.at_ hW BX
            have BY := Blk.newAt hW
            have HM := hide (MapIs.at_ hW HM.out)
            have HL := hide (LinesOwn.at_ hW HL.out)
            have HAD := hide (HAD.out.at_ hW)
            have hHeld := AS.of HAD.out
            clear hW
            refine norm_ (a' := ?_) ?_ ?_
            rotate_left
            · try simp only [Act.put, List.setIfInBounds_toArray, List.set_cons_zero, List.set_cons_succ]
              rfl
            refine norm_ (a' := _) ?_ (hcont (wc.heap.size, WX.heap.size, p', Av', cv') _ ⟨HAD.out, BX, BY, HM.out, HL.out, by show g9 < wc.heap.size ∧ g9 < WX.heap.size ∧ wc.heap.size ≠ WX.heap.size; refine ⟨?_, ?_, ?_⟩ <;> omega⟩)
            simp only [putAll, Act.put, List.setIfInBounds_toArray, List.set_cons_zero, List.set_cons_succ]
          · go_simp
            refine hK.out _ _ (AS.of (HAD.out.at_ rfl)) (fun hHeld2 => ?_)
            clear hK K hHeld hHeld2
            refine at_lastS ?_
            intro WY hW
            have hY := HAD.out.b9.lt
            have BY := Blk.newAt hW
            have HM := hide (MapIs.at_ hW HM.out)
            have HL := hide (LinesOwn.at_ hW HL.out)
            have HAD := hide (HAD.out.at_ hW)
            have hHeld := AS.of HAD.out
            clear hW
            refine norm_ (a' := ?_) ?_ ?_
            rotate_left
            · try simp only [Act.put, List.setIfInBounds_toArray, List.set_cons_zero, List.set_cons_succ]
              rfl
            refine one_ (i := 9) (N := some 12) #[true, true, true, true, true, true, true, true, true, true, true, false, false] rfl rfl (by kernel_rfl) (by decide) (fun K hK => ?_)
            go_simp
            refine hK.out _ _ (AS.of (HAD.out.at_ rfl)) (fun hHeld2 => ?_)
            clear hK K hHeld hHeld2
            refine at_lastS ?_
            intro WX hW
            have hX := HAD.out.b9.lt
            have hxy := BY.lt
            have BY := Blk.at_ hW BY
            have BX := Blk.newAt hW
            have HM := hide (MapIs.at_ hW HM.out)
            have HL := hide (LinesOwn.at_ hW HL.out)
            have HAD := hide (HAD.out.at_ hW)
            have hHeld := AS.of HAD.out
            clear hW
            refine norm_ (a' := ?_) ?_ ?_
            rotate_left
            · try simp only [Act.put, List.setIfInBounds_toArray, List.set_cons_zero, List.set_cons_succ]
              rfl
            refine norm_ (a' := _) ?_ (hcont (WY.heap.size, wc.heap.size, p', Av', cv') _ ⟨HAD.out, BX, BY, HM.out, HL.out, by show g9 < WY.heap.size ∧ g9 < wc.heap.size ∧ WY.heap.size ≠ wc.heap.size; refine ⟨?_, ?_, ?_⟩ <;> omega⟩)
            simp only [putAll, Act.put, List.setIfInBounds_toArray, List.set_cons_zero, List.set_cons_succ]
        · go_simp
          refine hK.out _ _ (AS.of (HAD.out.at_ rfl)) (fun hHeld2 => ?_)
          clear hK K hHeld hHeld2
          refine at_lastS ?_
          intro WX hW
          have hX := HAD.out.b9.lt
          have BX := Blk.newAt hW
          have HAD := hide (HAD.out.at_ hW)
          have hHeld := AS.of HAD.out
          clear hW
          refine norm_ (a' := ?_) ?_ ?_
          rotate_left
          · try simp only [Act.put, List.setIfInBounds_toArray, List.set_cons_zero, List.set_cons_succ]
            rfl
          refine two_ (i := 5) (j := 10) (Ni := some 64) (Nj := some 13) #[true, true, true, true, true, true, false, false, false, true, false, false, false] #[true, true, true, true, true, false, false, false, false, true, true, false, false] rfl rfl rfl rfl (by kernel_rfl) (by decide) (by decide) (fun K hK => ?_) (fun K hK => ?_)
          · refine goes_ Try.func13 (by kernel_rfl) rfl #[.agg #[.int .i64 S, .int .i64 W, .int .i64 L], .slice A1 (i + 1) c1] (by rfl) rfl rfl (by (try simp only [List.map_toArray, List.map_cons, List.map_nil]); first | done | rfl) ?_
            refine (HAF.out _ HAD.out.b).mono ?_; rintro e wc ⟨p', v', rfl, hm, hl, hb⟩
            obtain ⟨Av', cv', rfl, _, _⟩ := hl.reads
            refine ⟨_, rfl, ?_⟩
            have HL := hide (lines_lower hl HAD.out.b.size)
            have HM := hide hm
            have HAD := hide (HAD.out.on hb)
            have BX := BX.on hb
            clear hHeld hm hl hb
            refine hK.out _ _ (AS.of HAD.out) (fun hHeld => ?_)
            clear hK K
            refine norm_ (a' := ?_) ?_ ?_
            rotate_left
            · show Act.put _ (some 64) _ = _
              simp only [Act.put, List.setIfInBounds_toArray, List.set_cons_zero, List.set_cons_succ]
              rfl
            refine pure_ (i := 6) (N := some 58) (v := ?_) (a' := ?_) #[true, true, true, true, true, true, true, false, false, true, false, false, false] rfl rfl (by kernel_rfl) (fun _ _ _ h => h) (Or.inl ⟨by rfl, ?_⟩) ?_ ?_
            rotate_left
            · intro w'
              go_simp
              with_reducible rfl
            rotate_left
            · simp only [Act.put, List.setIfInBounds_toArray, List.set_cons_zero, List.set_cons_succ]
              rfl
            refine pure_ (i := 7) (N := some 65) (v := ?_) (a' := ?_) #[true, true, true, true, true, true, true, true, false, true, false, false, false] rfl rfl (by kernel_rfl) (fun _ _ _ h => h) (Or.inl ⟨by rfl, ?_⟩) ?_ ?_
            rotate_left
            · intro w'
              go_simp
              with_reducible rfl
            rotate_left
            · simp only [Act.put, List.setIfInBounds_toArray, List.set_cons_zero, List.set_cons_succ]
              rfl
            refine pure_ (i := 8) (N := some 66) (v := ?_) (a' := ?_) #[true, true, true, true, true, true, true, true, true, true, false, false, false] rfl rfl (by kernel_rfl) (fun _ _ _ h => h) (Or.inl ⟨by rfl, ?_⟩) ?_ ?_
            rotate_left
            · intro w'
              go_simp
              with_reducible rfl
            rotate_left
            · simp only [Act.put, List.setIfInBounds_toArray, List.set_cons_zero, List.set_cons_succ]
              rfl
            refine one_ (i := 10) (N := some 13) #[true, true, true, true, true, true, true, true, true, true, true, false, false] rfl rfl (by kernel_rfl) (by decide) (fun K hK => ?_)
            go_simp
            refine hK.out _ _ (AS.of (HAD.out.at_ rfl)) (fun hHeld2 => ?_)
            clear hK K hHeld hHeld2
            refine at_lastS ?_
            intro WY hW
            have hY := HAD.out.b9.lt
            have hxy := BX.lt
            have BX := Blk.at_ hW BX
            have BY := Blk.newAt hW
            have HM := hide (MapIs.at_ hW HM.out)
            have HL := hide (LinesOwn.at_ hW HL.out)
            have HAD := hide (HAD.out.at_ hW)
            have hHeld := AS.of HAD.out
            clear hW
            refine norm_ (a' := ?_) ?_ ?_
            rotate_left
            · try simp only [Act.put, List.setIfInBounds_toArray, List.set_cons_zero, List.set_cons_succ]
              rfl
            refine norm_ (a' := _) ?_ (hcont (w12.heap.size, wc.heap.size, p', Av', cv') _ ⟨HAD.out, BX, BY, HM.out, HL.out, by show g9 < w12.heap.size ∧ g9 < wc.heap.size ∧ w12.heap.size ≠ wc.heap.size; refine ⟨?_, ?_, ?_⟩ <;> omega⟩)
            simp only [putAll, Act.put, List.setIfInBounds_toArray, List.set_cons_zero, List.set_cons_succ]
          · go_simp
            refine hK.out _ _ (AS.of (HAD.out.at_ rfl)) (fun hHeld2 => ?_)
            clear hK K hHeld hHeld2
            refine at_lastS ?_
            intro WY hW
            have hY := HAD.out.b9.lt
            have hxy := BX.lt
            have BX := Blk.at_ hW BX
            have BY := Blk.newAt hW
            have HAD := hide (HAD.out.at_ hW)
            have hHeld := AS.of HAD.out
            clear hW
            refine norm_ (a' := ?_) ?_ ?_
            rotate_left
            · try simp only [Act.put, List.setIfInBounds_toArray, List.set_cons_zero, List.set_cons_succ]
              rfl
            refine one_ (i := 5) (N := some 64) #[true, true, true, true, true, true, false, false, false, true, true, false, false] rfl rfl (by kernel_rfl) (by decide) (fun K hK => ?_)
            refine goes_ Try.func13 (by kernel_rfl) rfl #[.agg #[.int .i64 S, .int .i64 W, .int .i64 L], .slice A1 (i + 1) c1] (by rfl) rfl rfl (by (try simp only [List.map_toArray, List.map_cons, List.map_nil]); first | done | rfl) ?_
            refine (HAF.out _ HAD.out.b).mono ?_; rintro e wc ⟨p', v', rfl, hm, hl, hb⟩
            obtain ⟨Av', cv', rfl, _, _⟩ := hl.reads
            refine ⟨_, rfl, ?_⟩
            have HL := hide (lines_lower hl HAD.out.b.size)
            have HM := hide hm
            have HAD := hide (HAD.out.on hb)
            have BX := BX.on hb
            have BY := BY.on hb
            clear hHeld hm hl hb
            refine hK.out _ _ (AS.of HAD.out) (fun hHeld => ?_)
            clear hK K
            refine norm_ (a' := ?_) ?_ ?_
            rotate_left
            · show Act.put _ (some 64) _ = _
              simp only [Act.put, List.setIfInBounds_toArray, List.set_cons_zero, List.set_cons_succ]
              rfl
            refine pure_ (i := 6) (N := some 58) (v := ?_) (a' := ?_) #[true, true, true, true, true, true, true, false, false, true, true, false, false] rfl rfl (by kernel_rfl) (fun _ _ _ h => h) (Or.inl ⟨by rfl, ?_⟩) ?_ ?_
            rotate_left
            · intro w'
              go_simp
              with_reducible rfl
            rotate_left
            · simp only [Act.put, List.setIfInBounds_toArray, List.set_cons_zero, List.set_cons_succ]
              rfl
            refine pure_ (i := 7) (N := some 65) (v := ?_) (a' := ?_) #[true, true, true, true, true, true, true, true, false, true, true, false, false] rfl rfl (by kernel_rfl) (fun _ _ _ h => h) (Or.inl ⟨by rfl, ?_⟩) ?_ ?_
            rotate_left
            · intro w'
              go_simp
              with_reducible rfl
            rotate_left
            · simp only [Act.put, List.setIfInBounds_toArray, List.set_cons_zero, List.set_cons_succ]
              rfl
            refine pure_ (i := 8) (N := some 66) (v := ?_) (a' := ?_) #[true, true, true, true, true, true, true, true, true, true, true, false, false] rfl rfl (by kernel_rfl) (fun _ _ _ h => h) (Or.inl ⟨by rfl, ?_⟩) ?_ ?_
            rotate_left
            · intro w'
              go_simp
              with_reducible rfl
            rotate_left
            · simp only [Act.put, List.setIfInBounds_toArray, List.set_cons_zero, List.set_cons_succ]
              rfl
            refine norm_ (a' := _) ?_ (hcont (w12.heap.size, WX.heap.size, p', Av', cv') _ ⟨HAD.out, BX, BY, HM.out, HL.out, by show g9 < w12.heap.size ∧ g9 < WX.heap.size ∧ w12.heap.size ≠ WX.heap.size; refine ⟨?_, ?_, ?_⟩ <;> omega⟩)
            simp only [putAll, Act.put, List.setIfInBounds_toArray, List.set_cons_zero, List.set_cons_succ]
        · go_simp
          refine hK.out _ _ (AS.of (HAD.out.at_ rfl)) (fun hHeld2 => ?_)
          clear hK K hHeld hHeld2
          refine at_lastS ?_
          intro WY hW
          have hY := HAD.out.b9.lt
          have BY := Blk.newAt hW
          have HAD := hide (HAD.out.at_ hW)
          have hHeld := AS.of HAD.out
          clear hW
          refine norm_ (a' := ?_) ?_ ?_
          rotate_left
          · try simp only [Act.put, List.setIfInBounds_toArray, List.set_cons_zero, List.set_cons_succ]
            rfl
          refine two_ (i := 5) (j := 9) (Ni := some 64) (Nj := some 12) #[true, true, true, true, true, true, false, false, false, false, true, false, false] #[true, true, true, true, true, false, false, false, false, true, true, false, false] rfl rfl rfl rfl (by kernel_rfl) (by decide) (by decide) (fun K hK => ?_) (fun K hK => ?_)
          · refine goes_ Try.func13 (by kernel_rfl) rfl #[.agg #[.int .i64 S, .int .i64 W, .int .i64 L], .slice A1 (i + 1) c1] (by rfl) rfl rfl (by (try simp only [List.map_toArray, List.map_cons, List.map_nil]); first | done | rfl) ?_
            refine (HAF.out _ HAD.out.b).mono ?_; rintro e wc ⟨p', v', rfl, hm, hl, hb⟩
            obtain ⟨Av', cv', rfl, _, _⟩ := hl.reads
            refine ⟨_, rfl, ?_⟩
            have HL := hide (lines_lower hl HAD.out.b.size)
            have HM := hide hm
            have HAD := hide (HAD.out.on hb)
            have BY := BY.on hb
            clear hHeld hm hl hb
            refine hK.out _ _ (AS.of HAD.out) (fun hHeld => ?_)
            clear hK K
            refine norm_ (a' := ?_) ?_ ?_
            rotate_left
            · show Act.put _ (some 64) _ = _
              simp only [Act.put, List.setIfInBounds_toArray, List.set_cons_zero, List.set_cons_succ]
              rfl
            refine pure_ (i := 6) (N := some 58) (v := ?_) (a' := ?_) #[true, true, true, true, true, true, true, false, false, false, true, false, false] rfl rfl (by kernel_rfl) (fun _ _ _ h => h) (Or.inl ⟨by rfl, ?_⟩) ?_ ?_
            rotate_left
            · intro w'
              go_simp
              with_reducible rfl
            rotate_left
            · simp only [Act.put, List.setIfInBounds_toArray, List.set_cons_zero, List.set_cons_succ]
              rfl
            refine pure_ (i := 7) (N := some 65) (v := ?_) (a' := ?_) #[true, true, true, true, true, true, true, true, false, false, true, false, false] rfl rfl (by kernel_rfl) (fun _ _ _ h => h) (Or.inl ⟨by rfl, ?_⟩) ?_ ?_
            rotate_left
            · intro w'
              go_simp
              with_reducible rfl
            rotate_left
            · simp only [Act.put, List.setIfInBounds_toArray, List.set_cons_zero, List.set_cons_succ]
              rfl
            refine pure_ (i := 8) (N := some 66) (v := ?_) (a' := ?_) #[true, true, true, true, true, true, true, true, true, false, true, false, false] rfl rfl (by kernel_rfl) (fun _ _ _ h => h) (Or.inl ⟨by rfl, ?_⟩) ?_ ?_
            rotate_left
            · intro w'
              go_simp
              with_reducible rfl
            rotate_left
            · simp only [Act.put, List.setIfInBounds_toArray, List.set_cons_zero, List.set_cons_succ]
              rfl
            refine one_ (i := 9) (N := some 12) #[true, true, true, true, true, true, true, true, true, true, true, false, false] rfl rfl (by kernel_rfl) (by decide) (fun K hK => ?_)
            go_simp
            refine hK.out _ _ (AS.of (HAD.out.at_ rfl)) (fun hHeld2 => ?_)
            clear hK K hHeld hHeld2
            refine at_lastS ?_
            intro WX hW
            have hX := HAD.out.b9.lt
            have hxy := BY.lt
            have BY := Blk.at_ hW BY
            have BX := Blk.newAt hW
            have HM := hide (MapIs.at_ hW HM.out)
            have HL := hide (LinesOwn.at_ hW HL.out)
            have HAD := hide (HAD.out.at_ hW)
            have hHeld := AS.of HAD.out
            clear hW
            refine norm_ (a' := ?_) ?_ ?_
            rotate_left
            · try simp only [Act.put, List.setIfInBounds_toArray, List.set_cons_zero, List.set_cons_succ]
              rfl
            refine norm_ (a' := _) ?_ (hcont (wc.heap.size, w12.heap.size, p', Av', cv') _ ⟨HAD.out, BX, BY, HM.out, HL.out, by show g9 < wc.heap.size ∧ g9 < w12.heap.size ∧ wc.heap.size ≠ w12.heap.size; refine ⟨?_, ?_, ?_⟩ <;> omega⟩)
            simp only [putAll, Act.put, List.setIfInBounds_toArray, List.set_cons_zero, List.set_cons_succ]
          · go_simp
            refine hK.out _ _ (AS.of (HAD.out.at_ rfl)) (fun hHeld2 => ?_)
            clear hK K hHeld hHeld2
            refine at_lastS ?_
            intro WX hW
            have hX := HAD.out.b9.lt
            have hxy := BY.lt
            have BY := Blk.at_ hW BY
            have BX := Blk.newAt hW
            have HAD := hide (HAD.out.at_ hW)
            have hHeld := AS.of HAD.out
            clear hW
            refine norm_ (a' := ?_) ?_ ?_
            rotate_left
            · try simp only [Act.put, List.setIfInBounds_toArray, List.set_cons_zero, List.set_cons_succ]
              rfl
            refine one_ (i := 5) (N := some 64) #[true, true, true, true, true, true, false, false, false, true, true, false, false] rfl rfl (by kernel_rfl) (by decide) (fun K hK => ?_)
            refine goes_ Try.func13 (by kernel_rfl) rfl #[.agg #[.int .i64 S, .int .i64 W, .int .i64 L], .slice A1 (i + 1) c1] (by rfl) rfl rfl (by (try simp only [List.map_toArray, List.map_cons, List.map_nil]); first | done | rfl) ?_
            refine (HAF.out _ HAD.out.b).mono ?_; rintro e wc ⟨p', v', rfl, hm, hl, hb⟩
            obtain ⟨Av', cv', rfl, _, _⟩ := hl.reads
            refine ⟨_, rfl, ?_⟩
            have HL := hide (lines_lower hl HAD.out.b.size)
            have HM := hide hm
            have HAD := hide (HAD.out.on hb)
            have BX := BX.on hb
            have BY := BY.on hb
            clear hHeld hm hl hb
            refine hK.out _ _ (AS.of HAD.out) (fun hHeld => ?_)
            clear hK K
            refine norm_ (a' := ?_) ?_ ?_
            rotate_left
            · show Act.put _ (some 64) _ = _
              simp only [Act.put, List.setIfInBounds_toArray, List.set_cons_zero, List.set_cons_succ]
              rfl
            refine pure_ (i := 6) (N := some 58) (v := ?_) (a' := ?_) #[true, true, true, true, true, true, true, false, false, true, true, false, false] rfl rfl (by kernel_rfl) (fun _ _ _ h => h) (Or.inl ⟨by rfl, ?_⟩) ?_ ?_
            rotate_left
            · intro w'
              go_simp
              with_reducible rfl
            rotate_left
            · simp only [Act.put, List.setIfInBounds_toArray, List.set_cons_zero, List.set_cons_succ]
              rfl
            refine pure_ (i := 7) (N := some 65) (v := ?_) (a' := ?_) #[true, true, true, true, true, true, true, true, false, true, true, false, false] rfl rfl (by kernel_rfl) (fun _ _ _ h => h) (Or.inl ⟨by rfl, ?_⟩) ?_ ?_
            rotate_left
            · intro w'
              go_simp
              with_reducible rfl
            rotate_left
            · simp only [Act.put, List.setIfInBounds_toArray, List.set_cons_zero, List.set_cons_succ]
              rfl
            refine pure_ (i := 8) (N := some 66) (v := ?_) (a' := ?_) #[true, true, true, true, true, true, true, true, true, true, true, false, false] rfl rfl (by kernel_rfl) (fun _ _ _ h => h) (Or.inl ⟨by rfl, ?_⟩) ?_ ?_
            rotate_left
            · intro w'
              go_simp
              with_reducible rfl
            rotate_left
            · simp only [Act.put, List.setIfInBounds_toArray, List.set_cons_zero, List.set_cons_succ]
              rfl
            refine norm_ (a' := _) ?_ (hcont (WY.heap.size, w12.heap.size, p', Av', cv') _ ⟨HAD.out, BX, BY, HM.out, HL.out, by show g9 < WY.heap.size ∧ g9 < w12.heap.size ∧ WY.heap.size ≠ w12.heap.size; refine ⟨?_, ?_, ?_⟩ <;> omega⟩)
            simp only [putAll, Act.put, List.setIfInBounds_toArray, List.set_cons_zero, List.set_cons_succ]
      obtain ⟨g12, g13, p', Av', cv'⟩ := s
      have hF : FInv w w' S W L u p es g9 (u2, es2) g12 g13 p' Av' cv' := hF
      clear HAF HAD hHeld
      obtain ⟨ha, b12, b13, hm, hl, d1, d2, d3⟩ := hF
      have HA1 := hide ha
      have HM := hide (show MapIs w' p' es2 from hm)
      have HL := hide (show LinesOwn w' w.heap.size (.slice Av' es2.length cv') es2 from hl)
      clear ha hm hl
      have C12 := b12.c5
      have F12 := b12.fz
      refine norm_ (a' := ?_) ?_ ?_
      rotate_left
      · simp only [putAll, Act.put, List.setIfInBounds_toArray, List.set_cons_zero, List.set_cons_succ]
        rfl
      refine last_ (i := 11) (N := none) #[true, true, true, true, true, true, true, true, true, true, true, true, false] rfl rfl (by kernel_rfl) (by decide) (fun K hK => ?_)
      go_simp
      refine hK.out _ _ ?_
      refine at_lastS ?_
      intro W13 hW
      obtain ⟨hg, D12⟩ := store5 b12 hW
      have D13 := b13.grown hg (fun e => d3 (Option.some.inj e).symm)
      have HA2 := hide (HA1.out.store hg b12 (by omega) (by omega))
      have HM2 := hide (HM.out.store hg b12)
      have HL2 := hide (HL.out.store hg b12 (by decide))
      clear hW hg hK K b12 b13 HA1 HM HL C12 F12
      have C13 := D13.c5
      have F13 := D13.fz
      refine last_ (i := 12) (N := none) #[true, true, true, true, true, true, true, true, true, true, true, true, true] rfl rfl (by kernel_rfl) (by decide) (fun K hK => ?_)
      go_simp
      refine hK.out _ _ ?_
      refine at_lastS ?_
      intro W14 hW
      obtain ⟨hg, E13⟩ := store5 D13 hW
      have E12 := D12.grown hg (fun e => d3 (Option.some.inj e))
      have HG := hide (⟨HA2.out.store hg D13 (by omega) (by omega), E12, E13, HM2.out.store hg D13, HL2.out.store hg D13 (by decide)⟩ : GInv w W14 S W L u p es g9 u2 es2 g12 g13 p' Av' cv')
      clear hW hg hK K D12 D13 E12 E13 HA2 HM2 HL2 C13 F13
      refine done_ (by kernel_rfl) ?_
      refine NoPanic.normal ?_
      have STP0 : ∀ w', Below w.heap.size w w' → ∃ ad, A1 = some ad ∧ w'.cell? (ad.add (i * 3)) = some (.int .i64 (l1.getD i (0, 0, 0)).1) ∧ w'.cell? ⟨(ad.add (i * 3)).block, (ad.add (i * 3)).off + 1, none⟩ = some (.int .i64 (l1.getD i (0, 0, 0)).2.1) ∧
          w'.cell? ⟨(ad.add (i * 3)).block, (ad.add (i * 3)).off + 2, none⟩ = some (.int .u8 (l1.getD i (0, 0, 0)).2.2) := fun w' hb => stp_at (Kd.C_below H1.out hb) i hlt
      obtain ⟨ad, rfl, _⟩ := STP0 w (Below.refl _ _)
      have HNR := hide (P1.out.2.2.2 (l1.getD i (0, 0, 0)) (by rw [List.getD_eq_getElem?_getD, List.getElem?_eq_getElem hlt]; exact List.getElem_mem _))
      have HST := aft_succ S W l1 i hlt
      rw [HNX.out, ← HS.out] at HST
      generalize l1.getD i (0, 0, 0) = r at STP0 HNR HST
      obtain ⟨lo, hi', pk⟩ := r
      have hnb := near_bd HNR.out
      simp only at hnb
      obtain ⟨n1, n2, n3, n4⟩ := hnb
      have STP := hide (show ∀ w', Below w.heap.size w w' → (w'.cell? (ad.add (i * 3)) = some (.int .i64 lo) ∧ w'.cell? ⟨(ad.add (i * 3)).block, (ad.add (i * 3)).off + 1, none⟩ = some (.int .i64 hi') ∧ w'.cell? ⟨(ad.add (i * 3)).block, (ad.add (i * 3)).off + 2, none⟩ = some (.int .u8 pk)) from fun w' hb => by
        obtain ⟨ad', e, hx⟩ := STP0 w' hb
        cases e
        exact hx)
      have HST := hide (show stepS S W (u, es) lo hi' = (u2, es2) from HST.symm)
      have G1 := hide (aft_good (S := S) (vldB_bd P1.out.1).2.2.1 P1.out.2.2.2 i)
      rw [← HS.out] at G1
      have G2 := hide (aft_good (S := S) (vldB_bd P1.out.1).2.2.1 P1.out.2.2.2 (i + 1))
      rw [HNX.out] at G2
      have SC := fun (W3 : World) (h : MapIs W3 p es) => step_any (u := u) (pk := pk) HV.out (show lo ≤ 1000000 by omega) (show hi' ≤ 1000000 by omega) h G1.out.1 (Nat.le_trans G1.out.2 (by omega))
      simp only [HST.out] at SC
      have HSC := hide SC
      clear SC STP0
      have HGD := hide HG.out.drew
      have i0 : (0 : Int) ≤ (i : Int) := by omega
      have i1 : (i : Int) < (l1.length : Int) := by omega
      go_wp2_with fail
      refine wp_region_noPanic ?_
      refine start_ (n := 7) (S := GS w S W L u p es g9 u2 es2 g12 g13 p' Av' cv' ad i lo hi' pk) (ds := [6]) #[false, false, false, false, false, false, false] (by kernel_rfl) rfl rfl ⟨HGD.out.a.b9.c5, STP.out _ HGD.out.a.b, HGD⟩ (fun hHeld => ?_)
      generalize W14.drew = w15 at HGD hHeld ⊢
      refine take_ (i := 0) (N := some 67) (v := ?_) (a' := ?_) #[true, false, false, false, false, false, false] rfl rfl (by kernel_rfl) (fun _ _ _ h => h) (Or.inl ⟨by rfl, ?_⟩) hHeld ?_ ?_
      rotate_left
      · rintro w' ⟨⟨s0, s1, s2, s3, s4⟩, ⟨r0, r1, r2⟩, _⟩
        go_simp
        with_reducible rfl
      rotate_left
      · simp only [Act.put, List.setIfInBounds_toArray, List.set_cons_zero, List.set_cons_succ]
        rfl
      refine pure_ (i := 1) (N := some 68) (v := ?_) (a' := ?_) #[true, true, false, false, false, false, false] rfl rfl (by kernel_rfl) (fun _ _ _ h => h) (Or.inl ⟨by rfl, ?_⟩) ?_ ?_
      rotate_left
      · intro w'
        go_simp
        with_reducible rfl
      rotate_left
      · simp only [Act.put, List.setIfInBounds_toArray, List.set_cons_zero, List.set_cons_succ]
        rfl
      refine pure_ (i := 2) (N := some 69) (v := ?_) (a' := ?_) #[true, true, true, false, false, false, false] rfl rfl (by kernel_rfl) (fun _ _ _ h => h) (Or.inl ⟨by rfl, ?_⟩) ?_ ?_
      rotate_left
      · intro w'
        go_simp
        with_reducible rfl
      rotate_left
      · simp only [Act.put, List.setIfInBounds_toArray, List.set_cons_zero, List.set_cons_succ]
        rfl
      refine pure_ (i := 3) (N := some 70) (v := ?_) (a' := ?_) #[true, true, true, true, false, false, false] rfl rfl (by kernel_rfl) (fun _ _ _ h => h) (Or.inl ⟨by rfl, ?_⟩) ?_ ?_
      rotate_left
      · intro w'
        go_simp
        with_reducible rfl
      rotate_left
      · simp only [Act.put, List.setIfInBounds_toArray, List.set_cons_zero, List.set_cons_succ]
        rfl
      refine take_ (i := 4) (N := some 71) (v := ?_) (a' := ?_) #[true, true, true, true, true, false, false] rfl rfl (by kernel_rfl) (fun _ _ _ h => h) (Or.inl ⟨by rfl, ?_⟩) hHeld ?_ ?_
      rotate_left
      · rintro w' ⟨⟨s0, s1, s2, s3, s4⟩, ⟨r0, r1, r2⟩, _⟩
        go_simp
        with_reducible rfl
      rotate_left
      · simp only [Act.put, List.setIfInBounds_toArray, List.set_cons_zero, List.set_cons_succ]
        rfl
      refine one_ (i := 5) (N := some 72) #[true, true, true, true, true, true, false] rfl rfl (by kernel_rfl) (by decide) (fun K hK => ?_)
      refine goes_ Try.func18 (by kernel_rfl) rfl #[.agg #[.int .i64 S, .int .i64 W, .int .i64 L, .bool u, .map p], .agg #[.int .i64 lo, .int .i64 hi', .int .u8 pk]] (by rfl) rfl rfl (by (try simp only [List.map_toArray, List.map_cons, List.map_nil]); first | done | rfl) ?_
      refine (HSC.out _ HGD.out.a.m).mono ?_; rintro e w16 ⟨q, rfl, hm, hb⟩
      refine ⟨_, rfl, ?_⟩
      have HG2 := hide (HGD.out.on hb)
      have HQ := hide hm
      clear hHeld hm hb HGD HG HSC
      refine hK.out _ _ ⟨HG2.out.a.b9.c5, STP.out _ HG2.out.a.b, HG2⟩ (fun hHeld => ?_)
      clear hK K hHeld
      refine norm_ (a' := ?_) ?_ ?_
      rotate_left
      · show Act.put _ (some 72) _ = _
        simp only [Act.put, List.setIfInBounds_toArray, List.set_cons_zero, List.set_cons_succ]
        rfl
      have B9 := HG2.out.a.b9
      have C9 := B9.c5
      have F9 := B9.fz
      refine last_ (i := 6) (N := none) #[true, true, true, true, true, true, true] rfl rfl (by kernel_rfl) (by decide) (fun K hK => ?_)
      go_simp
      refine hK.out _ _ ?_
      refine at_lastS ?_
      intro W17 hW
      obtain ⟨hg, E9⟩ := store5 B9 hW
      have E12 := HG2.out.b12.grown hg (fun e => by have := Option.some.inj e; omega)
      have E13 := HG2.out.b13.grown hg (fun e => by have := Option.some.inj e; omega)
      have HN := hide (⟨⟨HG2.out.a.b0.grown hg (fun e => by have := Option.some.inj e; omega), E9, HQ.out.store hg B9, below_grown HG2.out.a.b hg (by omega)⟩, E12, E13, HG2.out.m.store hg B9, HG2.out.l.store hg B9 (by decide)⟩ : GInv w W17 S W L u2 q es2 g9 u2 es2 g12 g13 p' Av' cv')
      clear hW hg hK K B9 E9 E12 E13 HG2 HQ C9 F9
      refine done_ (by kernel_rfl) ?_
      refine NoPanic.normal ?_
      have C9 := HN.out.a.b9.c5
      have C13 := HN.out.b13.c5
      have SM := fun (W3 : World) (h : GInv w W3 S W L u2 q es2 g9 u2 es2 g12 g13 p' Av' cv') => (same_any (S := S) (W := W) (L := L) (u := u2) (c := cv') h.a.m G2.out.1 (Nat.le_trans G2.out.2 (by omega)) (by obtain ⟨A', c', hx, _, hk⟩ := h.l.reads; cases hx; exact hk) (by obtain ⟨A', c', hx, hk, _⟩ := h.l.reads; cases hx; exact hk) : Calls _ _ _ W3 _)
      have HSM := hide SM
      clear SM
      go_wp2_with fail
      refine (HSM.out _ HN.out).mono ?_; rintro e w18 ⟨rfl, hb⟩
      have HN := hide (HN.out.on hb)
      clear hb C9 C13 HSM
      have C9 := HN.out.a.b9.c5
      have C12 := HN.out.b12.c5
      go_wp2_with fail
      refine (eq_same HN.out.a.m HN.out.m).mono ?_; rintro e w19 ⟨rfl, hb⟩
      have HN := hide (HN.out.on hb)
      clear hb C9 C12
      go_wp2_with fail
      go_roundw
      case rel => exact ⟨i + 1, u2, es2, q, by go_num, by omega, hide HNX.out.symm, hide HN.out.a⟩
      case measure => simp [intOf]; omega
    · have hie : i = l1.length := by omega
      clear hie
      go_wp2_with fail
      go_ret
      exact ⟨rfl, HA.out.b⟩
end Go.Proofs.Ytacpfcneihlcnaa.MayDescribesu
