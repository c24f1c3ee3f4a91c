/- same: a state and the reference's with the same lines. -/
import Derived.Test.YtacpfcneihlcnaaMayDescribesRf
import Derived.Test.YtacpfcneihlcnaaLi
import Derived.Deep.RegionHeld3
import Derived.Deep.DrawnRows
set_option linter.unusedVariables false
set_option linter.unusedSimpArgs false
namespace Go.Proofs.Ytacpfcneihlcnaa.MayDescribesu
open Go.RowKit Go.Maps Go.Proofs.Ytacpfcneihlcnaa.PMayDescribes Go.Proofs.YtacpfcneihlcnaaW.PrintWords

theorem r_age {S W L : Int} {u : Bool} {es : AL} {A : Option Addr} {c : Nat} {x : Int} {w : World} (hn : es.length ≤ 400000) (hR : Kd.C k81 w A es.length (mkL es)) (hc : es.length ≤ c) :
    Calls Try.prog 35 #[.agg #[.int .i64 S, .int .i64 W, .int .i64 L, .bool u, .slice A es.length c], .int .i64 x] w fun e w' => e = .returned (.int .i64 ((aget es x).getD (-1))) ∧ Below w.heap.size w w' := by
  have := ontimeref31_State_Age.calls (es.length + 1) S W L u A c (mkL es) x _ w (by rw [mkL_length]; exact hR) (by rw [mkL_length]; exact hc) (age_f es x S W L u (by omega) (es.length + 1) (by omega))
  rw [mkL_length] at this
  exact this
structure SInv (w0 w : World) (S W L : Int) (p : Option Nat) (es : AL) (A : Option Addr) (c : Nat) (v : Value) : Prop where
  b2 : Blk w w0.heap.size 31 #[.int .i64 S, .int .i64 W, .int .i64 L, .bool false, .map p]
  b3 : Blk w (w0.heap.size + 1) 34 #[.int .i64 S, .int .i64 W, .int .i64 L, .bool false, .slice A es.length c]
  m : MapIs w p es
  l : Kd.C k81 w A es.length (mkL es)
  k : ∃ base, w.ownsRow base 3 1 v es.length (nums .i64 (keysL es))
  b : Below w0.heap.size w0 w
section
variable {w0 w w' : World} {S W L : Int} {p : Option Nat} {es : AL} {A : Option Addr} {c : Nat} {v : Value}
theorem SInv.on (h : SInv w0 w S W L p es A c v) (hb : Below w.heap.size w w') : SInv w0 w' S W L p es A c v :=
  ⟨h.b2.on hb, h.b3.on hb, h.m.below hb, Kd.C_below h.l hb, h.k.imp fun _ hk => pw_own_below hk hb, below_then h.b hb⟩
theorem SInv.at_ {o : Obj} (e : w' = w.alloc o) (h : SInv w0 w S W L p es A c v) : SInv w0 w' S W L p es A c v := h.on (e ▸ below_alloc (Below.refl _ _) o)
theorem SInv.drew (h : SInv w0 w S W L p es A c v) : SInv w0 w.drew S W L p es A c v := h.on (below_drew (Below.refl _ _))
end

set_option maxRecDepth 100000 in
set_option maxHeartbeats 2000000 in
theorem same_unknown {S W L : Int} {p : Option Nat} {es : AL} {A : Option Addr} {n c : Nat} {w : World} (h : MapIs w p es) :
    Calls Try.prog 27 #[.agg #[.int .i64 S, .int .i64 W, .int .i64 L, .bool true, .map p], .agg #[.int .i64 S, .int .i64 W, .int .i64 L, .bool true, .slice A n c]] w fun e w' => e = .returned (.bool true) ∧ Below w.heap.size w w' := by
  have HE := hide h
  clear h
  have e3 : ageS (true, es) 3 = (0, true) := by simp [ageS]
  have e1 : ageS (true, es) (-1) = (0, false) := by simp [ageS]
  go_enter Try.func27, Try.ntmps27
  go_wp2_with fail
  refine at_world ?_
  intro W1 hW
  obtain ⟨b0, b1⟩ := Blk.new2At hW
  have HE1 := hide (MapIs.at2 hW HE.out)
  have HB1 := hide (below_at2 hW (Below.refl _ _))
  clear hW HE
  refine (ma_lines_unknown _).mono ?_; rintro e w2 ⟨rfl, hb⟩
  have b0 := b0.on hb
  have b1 := b1.on hb
  have HE2 := hide (HE1.out.below hb)
  have HB2 := hide (below_then HB1.out hb)
  clear hb HE1 HB1
  have C0 := b0.c5
  have C1 := b1.c5
  go_wp2_with fail
  refine (ma_age (k := 3) (by decide) HE2.out).mono ?_; rintro e w3 ⟨rfl, hb⟩
  rw [e3]
  have b0 := b0.on hb
  have HE3 := hide (HE2.out.below hb)
  have HB3 := hide (below_then HB2.out hb)
  clear hb HE2 HB2 C0 C1
  have C0 := b0.c5
  go_wp2_with fail
  refine (ma_age (k := -1) (by decide) HE3.out).mono ?_; rintro e w4 ⟨rfl, hb⟩
  rw [e1]
  have HB4 := hide (below_then HB3.out hb)
  clear hb
  go_wp2_with fail
  go_ret
  exact ⟨rfl, HB4.out⟩

set_option maxRecDepth 100000 in
set_option maxHeartbeats 2000000 in
theorem same_known {S W L : Int} {p : Option Nat} {es : AL} {A : Option Addr} {c : Nat} {w : World} (h : MapIs w p es) (hg : Good W es) (hn : es.length ≤ 400000) (hR : Kd.C k81 w A es.length (mkL es)) (hc : es.length ≤ c) :
    Calls Try.prog 27 #[.agg #[.int .i64 S, .int .i64 W, .int .i64 L, .bool false, .map p], .agg #[.int .i64 S, .int .i64 W, .int .i64 L, .bool false, .slice A es.length c]] w fun e w' => e = .returned (.bool true) ∧ Below w.heap.size w w' := by
  have HE := hide h
  have HR := hide hR
  have HG := hide hg
  clear h hR hg
  go_enter Try.func27, Try.ntmps27
  go_wp2_with fail
  refine at_world ?_
  intro W1 hW
  obtain ⟨b0, b1⟩ := Blk.new2At hW
  have HE1 := hide (MapIs.at2 hW HE.out)
  have HB1 := hide (below_at2 hW (Below.refl _ _))
  have HR1 := hide (Kd.C_below HR.out HB1.out)
  clear hW HE
  refine (ma_lines HE1.out (by omega)).mono ?_; rintro e w2 ⟨As, cs, rfl, ho, hb⟩
  have HI := hide (⟨b0.on hb, b1.on hb, HE1.out.below hb, Kd.C_below HR1.out hb, ⟨_, ho⟩, below_then HB1.out hb⟩ : SInv w w2 S W L p es A c (.slice As es.length cs))
  clear hb ho HE1 HR1 HB1 b0 b1
  have C0 := HI.out.b2.c5
  have C1 := HI.out.b3.c5
  go_wp2_with fail
  clear C0 C1
  go_loopw [61] (fun v wr => ∃ i : Nat, v = .int .i64 i ∧ i ≤ es.length ∧ Hid (SInv w wr S W L p es A c (.slice As es.length cs))) (fun v _ => es.length - (intOf v).toNat)
  case atStart => exact ⟨0, rfl, Nat.zero_le _, HI⟩
  case round =>
    clear HI
    obtain ⟨i, rfl, hi, HI⟩ := hrel
    by_cases hlt : i < es.length
    · obtain ⟨ad, rfl, hx0, hx1⟩ := at_T81 HI.out.l (i : Int) (by omega) (by omega)
      obtain ⟨_, ho⟩ := HI.out.k
      obtain ⟨As', cs', hv, hri⟩ := own_reads ho
      cases hv
      obtain ⟨ads, rfl, hk⟩ := int_at (Kd.C_of_reads (d := (0 : Int)) (h1 := fun _ => rfl) hri) i hlt
      rw [rd_mkL es i hlt] at hx0 hx1
      have hkey : (keysL es).getD i 0 = (es[i]).1 := by simp [keysL, List.getD_eq_getElem?_getD, hlt]
      rw [hkey] at hk
      have HX := hide (aget_of_mem HG.out.1 (List.getElem_mem hlt))
      generalize es[i] = r at hx0 hx1 hk HX
      obtain ⟨kx, ax⟩ := r
      simp only [Int.toNat_natCast] at hx0 hx1 hk
      have HX : Hid (aget es kx = some ax) := HX
      have hbd := HG.out.get HX.out
      obtain ⟨x0, x1, a0, _⟩ := hbd
      have hkl := World.block_lt_of_cell? _ _ hk
      clear hri ho hkey
      have HKC := hide hk
      have hz1 : w.heap.size + 1 < wr.heap.size := HI.out.b3.lt
      have hz0 : w.heap.size < wr.heap.size := by omega
      have C2 := HI.out.b2.c5
      clear hk
      have ea : ageS (false, es) kx = (ax, true) := by simp [ageS, HX.out]
      have hwk : (Lit.int .i64 kx).wf = true := wf_small (by omega) (by omega)
      have AG := fun (W3 : World) (h : MapIs W3 p es) => ma_age (S := S) (W := W) (L := L) (u := false) (k := kx) hwk h
      rw [ea] at AG
      have HAG := hide AG
      clear AG ea
      go_wp2_with fail
      refine at_world ?_
      intro W3 hW
      have B12 := Blk.newAt hW
      have HI3 := hide (HI.out.at_ hW)
      have HK3 := hide (show W3.cell? (ads.add i) = some (.int .i64 kx) by rw [hW]; exact (((Below.refl _ _).alloc (Nat.le_refl _) _).cell hkl).trans HKC.out)
      clear hW HKC HI C2 hx0 hx1
      refine (HAG.out _ HI3.out.m).mono ?_; rintro e w4 ⟨rfl, hb⟩
      have B12 := B12.on hb
      have HI4 := hide (HI3.out.on hb)
      have hkl4 := World.block_lt_of_cell? _ _ HK3.out
      have HK4 := hide ((hb.cell hkl4).trans HK3.out)
      clear hb HI3 HK3 hkl4 HAG
      go_wp2_with fail
      have S0 := And.intro HK4.out (And.intro (B12.cell 0) (B12.cell 1))
      simp only [List.getElem?_toArray, List.getElem?_cons_zero, List.getElem?_cons_succ] at S0
      have t1 : (kx != kx) = false := by simp
      have t2 : (ax != ax) = false := by simp
      have i0 : (0 : Int) ≤ (i : Int) := by omega
      have i1 : (i : Int) < (es.length : Int) := by omega
      have HS0 := hide S0
      clear S0
      have FACTS : ∀ w' : World, Hid (w'.cell? (ads.add i) = some (.int .i64 kx) ∧ w'.cell? ⟨wr.heap.size, 0, none⟩ = some (.int .i64 kx) ∧ w'.cell? ⟨wr.heap.size, 1, none⟩ = some (.int .i64 ax)) → (w'.cell? (ads.add i) = some (.int .i64 kx) ∧ w'.cell? ⟨wr.heap.size, 0, none⟩ = some (.int .i64 kx) ∧ w'.cell? ⟨wr.heap.size, 1, none⟩ = some (.int .i64 ax)) := fun w' h => h.out
      have S1 := FACTS w4.drew HS0
      go_region_held3 (fun w' : World => w'.cell? (ads.add i) = some (.int .i64 kx) ∧ w'.cell? ⟨wr.heap.size, 0, none⟩ = some (.int .i64 kx) ∧ w'.cell? ⟨wr.heap.size, 1, none⟩ = some (.int .i64 ax))
        (with_reducible assumption) (fail)
      clear S1 FACTS HS0
      have HI5 := hide HI4.out.drew
      have B12 := B12.drew
      clear HI4 HK4
      generalize w4.drew = w5 at HI5 B12 ⊢
      have C2 := HI5.out.b2.c5
      have D0 : w5.cell? ⟨wr.heap.size, 0, none⟩ = some (.int .i64 kx) := B12.cell 0
      have AG := fun (W3 : World) (h : MapIs W3 p es) => ma_age (S := S) (W := W) (L := L) (u := false) (k := kx + 1) (wf_small (by omega) (by omega)) h
      have ea : ageS (false, es) (kx + 1) = ((aget es (kx + 1)).getD 0, (aget es (kx + 1)).isSome) := by simp [ageS]
      rw [ea] at AG
      have hmr : ((aget es (kx + 1)).isSome = true ∧ (0 : Int) ≤ (aget es (kx + 1)).getD (-1)) ∨ ((aget es (kx + 1)).isSome = false ∧ (aget es (kx + 1)).getD (-1) = -1) := by
        rcases hgg : aget es (kx + 1) with _ | b
        · exact .inr ⟨rfl, rfl⟩
        · have := HG.out.get hgg
          exact .inl ⟨rfl, by show (0 : Int) ≤ b; omega⟩
      have RA := fun (W3 : World) (h : Kd.C k81 W3 (some ad) es.length (mkL es)) => r_age (S := S) (W := W) (L := L) (u := false) (x := kx + 1) hn h hc
      generalize (aget es (kx + 1)).getD 0 = a2 at AG
      generalize (aget es (kx + 1)).isSome = m2 at AG hmr
      generalize (aget es (kx + 1)).getD (-1) = d2 at RA hmr
      have HAG := hide AG
      have HRA := hide RA
      clear AG RA ea
      go_wp2_with fail
      refine (HAG.out _ HI5.out.m).mono ?_; rintro e w6 ⟨rfl, hb⟩
      have B12 := B12.on hb
      have HI6 := hide (HI5.out.on hb)
      clear hb HI5 HAG D0 C2
      have D0 : w6.cell? ⟨wr.heap.size, 0, none⟩ = some (.int .i64 kx) := B12.cell 0
      have C3 := HI6.out.b3.c5
      go_wp2_with fail
      refine (HRA.out _ HI6.out.l).mono ?_; rintro e w7 ⟨rfl, hb⟩
      have HI7 := hide (HI6.out.on hb)
      clear hb HI6 HRA D0 C3 B12
      rcases hmr with ⟨rfl, hd⟩ | ⟨rfl, rfl⟩
      · go_wp2_with fail
        go_roundw
        case rel => exact ⟨i + 1, by go_num, by omega, HI7⟩
        case measure => simp [intOf]; omega
      · go_wp2_with fail
        go_roundw
        case rel => exact ⟨i + 1, by go_num, by omega, HI7⟩
        case measure => simp [intOf]; omega
    · have hie : i = es.length := by omega
      clear hie
      go_wp2_with fail
      go_ret
      exact ⟨rfl, HI.out.b⟩

/-- same, of a state and the reference's. -/
theorem same_any {S W L : Int} {u : Bool} {p : Option Nat} {es : AL} {A : Option Addr} {c : Nat} {w : World} (h : MapIs w p es) (hg : Good W es) (hn : es.length ≤ 400000) (hR : Kd.C k81 w A es.length (mkL es)) (hc : es.length ≤ c) :
    Calls Try.prog 27 #[.agg #[.int .i64 S, .int .i64 W, .int .i64 L, .bool u, .map p], .agg #[.int .i64 S, .int .i64 W, .int .i64 L, .bool u, .slice A es.length c]] w fun e w' => e = .returned (.bool true) ∧ Below w.heap.size w w' := by
  cases u with
  | true => exact same_unknown h
  | false => exact same_known h hg hn hR hc
end Go.Proofs.Ytacpfcneihlcnaa.MayDescribesu
