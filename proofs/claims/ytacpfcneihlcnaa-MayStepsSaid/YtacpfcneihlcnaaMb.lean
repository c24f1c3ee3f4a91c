/- may: Access. -/
import Derived.Test.YtacpfcneihlcnaaMa
set_option linter.unusedVariables false
set_option linter.unusedSimpArgs false
namespace Go.Proofs.Ytacpfcneihlcnaa
open Go.RowKit Go.Maps

/-- What becomes of (k, b) at an access of line, h its bound. -/
def accF (S W line h k b : Int) : Option Int := if k = line ∨ k % S ≠ line % S ∨ h < b then some b else if W ≤ b + 1 then none else some (b + 1)
/-- The state's lines behind an access. -/
def accL (S W : Int) (es : AL) (line : Int) : AL := aput (afm (accF S W line ((aget es line).getD W)) es) line 0

theorem ma_access_id {S W L : Int} {u : Bool} {p : Option Nat} {line : Int} (hu : u = true ∨ line < 0) (w : World) :
    Calls Try.prog 32 #[.agg #[.int .i64 S, .int .i64 W, .int .i64 L, .bool u, .map p], .int .i64 line] w fun e w' => e = .returned (.agg #[.int .i64 S, .int .i64 W, .int .i64 L, .bool u, .map p]) ∧ Below w.heap.size w w' := by
  cases u with
  | true =>
    clear hu
    go_enter Try.func32, Try.ntmps32
    go_wp2_with fail
    exact bodyPost_ret (v := .agg #[.int .i64 S, .int .i64 W, .int .i64 L, .bool true, .map p]) (by simp [results, Try.results32, go_sem]) rfl ⟨rfl, by (repeat (first | with_reducible exact Below.refl _ _ | with_reducible assumption | refine below_set ?_ (by first | exact Nat.le_refl _ | (simp; omega) | simp) _ | refine below_alloc ?_ _ | refine below_drewN ?_ _ | refine below_drew ?_))⟩
  | false =>
    have h : line < 0 := by simpa using hu
    clear hu
    go_enter Try.func32, Try.ntmps32
    go_wp2_with fail
    exact bodyPost_ret (v := .agg #[.int .i64 S, .int .i64 W, .int .i64 L, .bool false, .map p]) (by simp [results, Try.results32, go_sem]) rfl ⟨rfl, by (repeat (first | with_reducible exact Below.refl _ _ | with_reducible assumption | refine below_set ?_ (by first | exact Nat.le_refl _ | (simp; omega) | simp) _ | refine below_alloc ?_ _ | refine below_drewN ?_ _ | refine below_drew ?_))⟩

set_option maxRecDepth 100000 in
set_option maxHeartbeats 1000000 in
theorem ma_access {S W L : Int} (hv : vldB S W L = true) {p : Option Nat} {es : AL} {line : Int} (h0 : 0 ≤ line) (h1 : line ≤ 1000000) {w : World} (hes : MapIs w p es) (hg : Good W es) (hn : es.length ≤ 100000) :
    Calls Try.prog 32 #[.agg #[.int .i64 S, .int .i64 W, .int .i64 L, .bool false, .map p], .int .i64 line] w fun e w' => ∃ b, e = .returned (.agg #[.int .i64 S, .int .i64 W, .int .i64 L, .bool false, .map (some b)]) ∧ MapAt w' b (accL S W es line) ∧ Below w.heap.size w w' := by
  have V := fun w => valid_is hv w
  have ST := fun n a b w => set_any hv n a b w
  obtain ⟨s0, s1, w0, w1, _⟩ := vldB_bd hv
  have HG := hide hg
  have HE := hide hes
  clear hv hg hes
  go_enter Try.func32, Try.ntmps32
  go_wp2_with fail
  refine at_world ?_
  intro W1 hW
  have HB0 := below_at2 hW (Below.refl _ _)
  have hm1 := HE.out.at2 hW
  have hs1 : w.heap.size + 1 < W1.heap.size := by have := size_at2 hW; omega
  obtain ⟨b0, b1⟩ := Blk.new2At hW
  have HPL := hide HE.out.lt
  clear hW HE
  refine (V _).mono ?_; rintro e w1 ⟨rfl, hb1⟩
  have hs2 : W1.heap.size ≤ w1.heap.size := hb1.size
  have hm2 := hm1.below hb1
  have b0 := b0.on hb1
  have b1 := b1.on hb1
  have HB1 := below_then HB0 hb1
  clear HB0 hm1 hb1
  have C0 := b0.c5
  have HB1 := hide HB1
  have HM := hide hm2
  go_wp2_with fail
  refine (copied_any HM.out).mono ?_; rintro e w2 ⟨b, rfl, hmb, hbb, hb2⟩
  have hs3 : w.heap.size + 1 < w2.heap.size := by have := hb2.size; omega
  have hs3' : w.heap.size < w2.heap.size := by omega
  have hbw : w.heap.size + 1 < b := by omega
  have HP := hide (show p ≠ some b from fun e => by have := HPL.out b e; omega)
  have hm3 := HM.out.below hb2
  have b0 := b0.on hb2
  have b1 := b1.on hb2
  have HB2 := hide (below_then HB1.out hb2)
  have hbl := hmb.lt
  have HMB := hide hmb
  have HM := hide hm3
  clear hm2 hb2 HB1 C0 hmb hm3
  have C0 := b0.c5
  have MI : MapIs (w2.alloc (.cells #[.int .i64 S, .int .i64 W, .int .i64 L, .bool false, .map (some b)] 31)) p es := HM.out.alloc _
  have MH := hide MI
  clear MI
  obtain ⟨h, hh⟩ : ∃ h, (aget es line).getD W = h := ⟨_, rfl⟩
  have HD := hide (show accL S W es line = aput (afm (accF S W line h) es) line 0 by rw [accL, hh])
  have hhb : 0 ≤ h ∧ h ≤ 8 := by
    cases hge : aget es line with
    | none => rw [hge] at hh; simp at hh; omega
    | some c => rw [hge] at hh; simp at hh; have := HG.out.get hge; omega
  obtain ⟨hh0, hh8⟩ := hhb
  rcases hge : aget es line with _ | c
  · obtain rfl : W = h := by rw [hge] at hh; simpa using hh
    have HQ := hide hge
    clear hge hh
    go_wp2_with (first
      | (at_lookup; refine wp_look _ rfl _ _ 29 rfl Try.underlying29 rfl MH.out line rfl (wf_small (by omega) (by omega)) ?_; rw [HQ.out])
      | fail)
    refine at_world ?_
    intro W3 hW
    have B0 := b0.at_ hW
    have B1 := b1.at_ hW
    have B2 := Blk.newAt hW
    have HB3 := below_at hW HB2.out
    have hm3 := HM.out.at_ hW
    have hmb3 := HMB.out.at_ hW
    have hs4 := size_at hW
    clear hW MH HM HMB HB2 C0 b0 b1
    refine (ST _ (by omega) (by omega) _).mono ?_; rintro e w3 ⟨rfl, hb3⟩
    have hs5 : w2.heap.size < w3.heap.size := by have := hb3.size; omega
    have hs5' : w.heap.size < w3.heap.size := by omega
    have B0 := B0.on hb3
    have B1 := B1.on hb3
    have B2 := B2.on hb3
    have HM := hide (hm3.below hb3)
    have HMB := hide (hmb3.below hb3)
    have HB := hide (below_then HB3 hb3)
    clear HB3 hm3 hmb3 hb3 hs4
    have C0 := B0.c5
    have C2 := B2.c5
    go_wp2_with (first
      | (at_range; refine wp_range _ rfl _ 29 rfl Try.underlying29 rfl HM.out ?_; intro w4 hr4 hb4 hz4)
      | fail)
    go_frame
    have RR := hr4
    have NB := hide (hr4.neBlk (B0.on hb4))
    have HMB4 := hide (HMB.out.below hb4)
    have hb0 := B0.on hb4
    have hb1 := B1.on hb4
    have hb2 := B2.on hb4
    have HB4 := hide (below_then HB.out hb4)
    have HR4 := hide hr4
    clear RR hr4 hb4 C0 C2 B0 B1 B2 HM HMB HB
    go_loopw [9, 10] (fun _ _ wr => ∃ (left : Int → Bool) (cnt : Nat), Hid (Rng wr p w3.heap.size es left cnt) ∧ Hid (MapAt wr b (aPart (accF S W line W) left es)) ∧
        Blk wr w.heap.size 31 #[.int .i64 S, .int .i64 W, .int .i64 L, .bool false, .map p] ∧ Blk wr (w.heap.size + 1) 31 #[.int .i64 0, .int .i64 0, .int .i64 0, .bool false, .map none] ∧
        Blk wr w2.heap.size 31 #[.int .i64 S, .int .i64 W, .int .i64 L, .bool false, .map (some b)] ∧ Hid (Below w.heap.size w wr)) (fun _ _ wr => rngM p w3.heap.size wr)
    case atStart =>
      refine ⟨_, _, HR4, ?_, hb0, hb1, hb2, HB4⟩
      rw [aPart_start _ _ _ (fun q hq => by rw [aget_of_mem HG.out.1 hq]; rfl)]
      exact HMB4
    case round =>
      clear HR4 HMB4 hb0 hb1 hb2 HB4
      obtain ⟨left, cnt, HR, HM, B0, B1, B2, HB⟩ := hrel
      have C0 := B0.c5
      have C2 := B2.c5
      go_wp2_with (first
        | (at_next; refine wp_next _ rfl _ rfl rfl HR.out ?_ ?_)
        | fail)
      · intro hl
        have HL := hide hl
        have hbw2 := HM.out.lt
        clear hl C0 C2
        have C2 := B2.c5
        go_wp2_with (first
          | (at_mapUpdate; refine wp_store _ rfl _ _ _ 29 rfl Try.underlying29 rfl HM.out (Nat.le_trans (length_part_le _ _ _) (by omega)) line 0 rfl rfl (wf_small (by omega) (by omega)) (by decide) ?_; intro w6 hm6 hg6; have D1 := B1.grown hg6 (fun e => HM.out.ne B1 (Option.some.inj e).symm); have D2 := B2.grown hg6 (fun e => HM.out.ne B2 (Option.some.inj e).symm); have C1 := D1.c5; have C2 := D2.c5; have F1 := D1.fz; have HM6 := hide hm6; have HB6 := hide (below_grown HB.out hg6 (by omega)); clear hm6 hg6 D1 D2 B0 B1 B2)
          | fail)
        refine bodyPost_ret (v := .agg #[.int .i64 S, .int .i64 W, .int .i64 L, .bool false, .map (some b)]) (by simp [results, Try.results32, go_sem, C1, C2]) rfl ?_
        have hm := HM6.out
        have hb := HB6.out
        rw [aPart_end _ _ _ HL.out, ← HD.out] at hm
        exact ⟨b, rfl, by (repeat (first | with_reducible assumption | refine MapAt.far ?_ ?_ _ | refine MapAt.alloc ?_ _)); all_goals (simp; omega), by (repeat (first | with_reducible exact Below.refl _ _ | with_reducible assumption | refine below_set ?_ (by first | exact Nat.le_refl _ | (simp; omega) | simp) _ | refine below_alloc ?_ _ | refine below_drewN ?_ _ | refine below_drew ?_))⟩
      · intro x d w5 cnt' hlx hgx hwx hwc hr5 hlt hg5 hs5 hen
        have hbd := HG.out.get hgx
        obtain ⟨x0, x1, d0, d1⟩ := hbd
        have B0 := B0.grown hg5 (by simp; omega)
        have B1 := B1.grown hg5 (by simp; omega)
        have B2 := B2.grown hg5 (by simp; omega)
        have HM := hide (HM.out.kept hg5 (by simp; omega))
        have HB := hide (below_grown HB.out hg5 (by omega))
        have HR5 := hide hr5
        have HLT := hide hlt
        have HX := hide hgx
        have HLX := hide hlx
        have hz5 : w3.heap.size < w5.heap.size := hr5.lt
        clear hr5 hlt hgx hg5 hs5 C0 C2 hwx hwc hlx
        have C0 := B0.c5
        by_cases a1 : x = line
        · subst a1
          have HK := hide (show accF S W x W x d = some d by simp [accF])
          go_wp2_with fail
          go_roundw
          case rel => exact ⟨_, cnt', HR5, hide (aPart_keep HG.out.1 HX.out HLX.out HK.out ▸ HM.out), B0, B1, B2, HB⟩
          case measure => rw [HR5.out.m, HR.out.m]; exact HLT.out
        · have t1 : (x == line) = false := by simpa using a1
          go_wp2_with fail
          refine (ST _ (by omega) (by omega) _).mono ?_; rintro e w6 ⟨rfl, hb6⟩
          have B0 := B0.on hb6
          have B1 := B1.on hb6
          have B2 := B2.on hb6
          have hz6 : w3.heap.size < w6.heap.size := by have := hb6.size; omega
          have HM := hide (HM.out.below hb6)
          have HB := hide (below_then HB.out hb6)
          have HR5 := hide (HR5.out.below hb6)
          clear hb6 C0
          have C0 := B0.c5
          have C2 := B2.c5
          by_cases a2 : x % S = line % S
          · have t2 : (x % S != line % S) = false := by simpa using a2
            have HA2 := hide a2
            by_cases a3 : W < d
            · have HK := hide (show accF S W line W x d = some d by simp [accF, a3])
              clear a1 a2
              go_wp2_with fail
              go_roundw
              case rel => exact ⟨_, cnt', HR5, hide (aPart_keep HG.out.1 HX.out HLX.out HK.out ▸ HM.out), B0, B1, B2, HB⟩
              case measure => rw [HR5.out.m, HR.out.m]; exact HLT.out
            · have HA1 := hide a1
              clear a1 a2
              by_cases a4 : W ≤ d + 1
              · have HK := hide (show accF S W line W x d = none by simp [accF, HA1.out, HA2.out, a3, a4])
                go_wp2_with (first
                  | (at_mapUpdate; refine wp_store _ rfl _ _ _ 29 rfl Try.underlying29 rfl HM.out (Nat.le_trans (length_part_le _ _ _) (by omega)) x (d + 1) rfl rfl (wf_small (by omega) (by omega)) (wf_small (by omega) (by omega)) ?_; intro w7 hm7 hg7; have B0 := B0.grown hg7 (by simp; omega); have B1 := B1.grown hg7 (by simp; omega); have B2 := B2.grown hg7 (by simp; omega); have C0 := B0.c5; have C2 := B2.c5; have HM7 := hide hm7; have HB7 := hide (below_grown HB.out hg7 (by omega)); have HR7 := hide (HR5.out.kept hg7 (.inr HP.out) (by simp; omega)); clear hm7 hg7)
                  | (at_delete; refine wp_del _ rfl _ _ 29 rfl Try.underlying29 rfl HM7.out x rfl (wf_small (by omega) (by omega)) ?_; intro w8 hm8 hg8; have E0 := B0.grown hg8 (by simp; omega); have E1 := B1.grown hg8 (by simp; omega); have E2 := B2.grown hg8 (by simp; omega); have HM8 := hide hm8; have HB8 := hide (below_grown HB7.out hg8 (by omega)); have HR8 := hide (HR7.out.kept hg8 (.inr HP.out) (by simp; omega)); clear hm8 hg8)
                  | fail)
                go_roundw
                case rel => ((repeat apply Exists.intro); exact ⟨⟨_, cnt', HR8, hide (aPart_putdel HG.out.1 HX.out HK.out ▸ HM8.out), E0, E1, E2, HB8⟩, rfl⟩)
                case measure => rw [HR8.out.m, HR.out.m]; exact HLT.out
              · have HK := hide (show accF S W line W x d = some (d + 1) by simp [accF, HA1.out, HA2.out, a3, a4])
                go_wp2_with (first
                  | (at_mapUpdate; refine wp_store _ rfl _ _ _ 29 rfl Try.underlying29 rfl HM.out (Nat.le_trans (length_part_le _ _ _) (by omega)) x (d + 1) rfl rfl (wf_small (by omega) (by omega)) (wf_small (by omega) (by omega)) ?_; intro w7 hm7 hg7; have B0 := B0.grown hg7 (by simp; omega); have B1 := B1.grown hg7 (by simp; omega); have B2 := B2.grown hg7 (by simp; omega); have C0 := B0.c5; have C2 := B2.c5; have HM7 := hide hm7; have HB7 := hide (below_grown HB.out hg7 (by omega)); have HR7 := hide (HR5.out.kept hg7 (.inr HP.out) (by simp; omega)); clear hm7 hg7)
                  | fail)
                go_roundw
                case rel => exact ⟨_, cnt', HR7, hide (aPart_put HG.out.1 HX.out HK.out ▸ HM7.out), B0, B1, B2, HB7⟩
                case measure => rw [HR7.out.m, HR.out.m]; exact HLT.out
          · have t2 : (x % S != line % S) = true := by simpa using a2
            have HK := hide (show accF S W line W x d = some d by simp [accF, a2])
            clear a1 a2
            go_wp2_with fail
            go_roundw
            case rel => exact ⟨_, cnt', HR5, hide (aPart_keep HG.out.1 HX.out HLX.out HK.out ▸ HM.out), B0, B1, B2, HB⟩
            case measure => rw [HR5.out.m, HR.out.m]; exact HLT.out
  · obtain rfl : c = h := by rw [hge] at hh; simpa using hh
    have HQ := hide hge
    clear hge hh
    go_wp2_with (first
      | (at_lookup; refine wp_look _ rfl _ _ 29 rfl Try.underlying29 rfl MH.out line rfl (wf_small (by omega) (by omega)) ?_; rw [HQ.out])
      | fail)
    refine at_world ?_
    intro W3 hW
    have B0 := b0.at_ hW
    have B1 := b1.at_ hW
    have B2 := Blk.newAt hW
    have HB3 := below_at hW HB2.out
    have hm3 := HM.out.at_ hW
    have hmb3 := HMB.out.at_ hW
    have hs4 := size_at hW
    clear hW MH HM HMB HB2 C0 b0 b1
    refine (ST _ (by omega) (by omega) _).mono ?_; rintro e w3 ⟨rfl, hb3⟩
    have hs5 : w2.heap.size < w3.heap.size := by have := hb3.size; omega
    have hs5' : w.heap.size < w3.heap.size := by omega
    have B0 := B0.on hb3
    have B1 := B1.on hb3
    have B2 := B2.on hb3
    have HM := hide (hm3.below hb3)
    have HMB := hide (hmb3.below hb3)
    have HB := hide (below_then HB3 hb3)
    clear HB3 hm3 hmb3 hb3 hs4
    have C0 := B0.c5
    have C2 := B2.c5
    go_wp2_with (first
      | (at_range; refine wp_range _ rfl _ 29 rfl Try.underlying29 rfl HM.out ?_; intro w4 hr4 hb4 hz4)
      | fail)
    go_frame
    have RR := hr4
    have NB := hide (hr4.neBlk (B0.on hb4))
    have HMB4 := hide (HMB.out.below hb4)
    have hb0 := B0.on hb4
    have hb1 := B1.on hb4
    have hb2 := B2.on hb4
    have HB4 := hide (below_then HB.out hb4)
    have HR4 := hide hr4
    clear RR hr4 hb4 C0 C2 B0 B1 B2 HM HMB HB
    go_loopw [9, 10] (fun _ _ wr => ∃ (left : Int → Bool) (cnt : Nat), Hid (Rng wr p w3.heap.size es left cnt) ∧ Hid (MapAt wr b (aPart (accF S W line c) left es)) ∧
        Blk wr w.heap.size 31 #[.int .i64 S, .int .i64 W, .int .i64 L, .bool false, .map p] ∧ Blk wr (w.heap.size + 1) 31 #[.int .i64 0, .int .i64 0, .int .i64 0, .bool false, .map none] ∧
        Blk wr w2.heap.size 31 #[.int .i64 S, .int .i64 W, .int .i64 L, .bool false, .map (some b)] ∧ Hid (Below w.heap.size w wr)) (fun _ _ wr => rngM p w3.heap.size wr)
    case atStart =>
      refine ⟨_, _, HR4, ?_, hb0, hb1, hb2, HB4⟩
      rw [aPart_start _ _ _ (fun q hq => by rw [aget_of_mem HG.out.1 hq]; rfl)]
      exact HMB4
    case round =>
      clear HR4 HMB4 hb0 hb1 hb2 HB4
      obtain ⟨left, cnt, HR, HM, B0, B1, B2, HB⟩ := hrel
      have C0 := B0.c5
      have C2 := B2.c5
      go_wp2_with (first
        | (at_next; refine wp_next _ rfl _ rfl rfl HR.out ?_ ?_)
        | fail)
      · intro hl
        have HL := hide hl
        have hbw2 := HM.out.lt
        clear hl C0 C2
        have C2 := B2.c5
        go_wp2_with (first
          | (at_mapUpdate; refine wp_store _ rfl _ _ _ 29 rfl Try.underlying29 rfl HM.out (Nat.le_trans (length_part_le _ _ _) (by omega)) line 0 rfl rfl (wf_small (by omega) (by omega)) (by decide) ?_; intro w6 hm6 hg6; have D1 := B1.grown hg6 (fun e => HM.out.ne B1 (Option.some.inj e).symm); have D2 := B2.grown hg6 (fun e => HM.out.ne B2 (Option.some.inj e).symm); have C1 := D1.c5; have C2 := D2.c5; have F1 := D1.fz; have HM6 := hide hm6; have HB6 := hide (below_grown HB.out hg6 (by omega)); clear hm6 hg6 D1 D2 B0 B1 B2)
          | fail)
        refine bodyPost_ret (v := .agg #[.int .i64 S, .int .i64 W, .int .i64 L, .bool false, .map (some b)]) (by simp [results, Try.results32, go_sem, C1, C2]) rfl ?_
        have hm := HM6.out
        have hb := HB6.out
        rw [aPart_end _ _ _ HL.out, ← HD.out] at hm
        exact ⟨b, rfl, by (repeat (first | with_reducible assumption | refine MapAt.far ?_ ?_ _ | refine MapAt.alloc ?_ _)); all_goals (simp; omega), by (repeat (first | with_reducible exact Below.refl _ _ | with_reducible assumption | refine below_set ?_ (by first | exact Nat.le_refl _ | (simp; omega) | simp) _ | refine below_alloc ?_ _ | refine below_drewN ?_ _ | refine below_drew ?_))⟩
      · intro x d w5 cnt' hlx hgx hwx hwc hr5 hlt hg5 hs5 hen
        have hbd := HG.out.get hgx
        obtain ⟨x0, x1, d0, d1⟩ := hbd
        have B0 := B0.grown hg5 (by simp; omega)
        have B1 := B1.grown hg5 (by simp; omega)
        have B2 := B2.grown hg5 (by simp; omega)
        have HM := hide (HM.out.kept hg5 (by simp; omega))
        have HB := hide (below_grown HB.out hg5 (by omega))
        have HR5 := hide hr5
        have HLT := hide hlt
        have HX := hide hgx
        have HLX := hide hlx
        have hz5 : w3.heap.size < w5.heap.size := hr5.lt
        clear hr5 hlt hgx hg5 hs5 C0 C2 hwx hwc hlx
        have C0 := B0.c5
        by_cases a1 : x = line
        · subst a1
          have HK := hide (show accF S W x c x d = some d by simp [accF])
          go_wp2_with fail
          go_roundw
          case rel => exact ⟨_, cnt', HR5, hide (aPart_keep HG.out.1 HX.out HLX.out HK.out ▸ HM.out), B0, B1, B2, HB⟩
          case measure => rw [HR5.out.m, HR.out.m]; exact HLT.out
        · have t1 : (x == line) = false := by simpa using a1
          go_wp2_with fail
          refine (ST _ (by omega) (by omega) _).mono ?_; rintro e w6 ⟨rfl, hb6⟩
          have B0 := B0.on hb6
          have B1 := B1.on hb6
          have B2 := B2.on hb6
          have hz6 : w3.heap.size < w6.heap.size := by have := hb6.size; omega
          have HM := hide (HM.out.below hb6)
          have HB := hide (below_then HB.out hb6)
          have HR5 := hide (HR5.out.below hb6)
          clear hb6 C0
          have C0 := B0.c5
          have C2 := B2.c5
          by_cases a2 : x % S = line % S
          · have t2 : (x % S != line % S) = false := by simpa using a2
            have HA2 := hide a2
            by_cases a3 : c < d
            · have HK := hide (show accF S W line c x d = some d by simp [accF, a3])
              clear a1 a2
              go_wp2_with fail
              go_roundw
              case rel => exact ⟨_, cnt', HR5, hide (aPart_keep HG.out.1 HX.out HLX.out HK.out ▸ HM.out), B0, B1, B2, HB⟩
              case measure => rw [HR5.out.m, HR.out.m]; exact HLT.out
            · have HA1 := hide a1
              clear a1 a2
              by_cases a4 : W ≤ d + 1
              · have HK := hide (show accF S W line c x d = none by simp [accF, HA1.out, HA2.out, a3, a4])
                go_wp2_with (first
                  | (at_mapUpdate; refine wp_store _ rfl _ _ _ 29 rfl Try.underlying29 rfl HM.out (Nat.le_trans (length_part_le _ _ _) (by omega)) x (d + 1) rfl rfl (wf_small (by omega) (by omega)) (wf_small (by omega) (by omega)) ?_; intro w7 hm7 hg7; have B0 := B0.grown hg7 (by simp; omega); have B1 := B1.grown hg7 (by simp; omega); have B2 := B2.grown hg7 (by simp; omega); have C0 := B0.c5; have C2 := B2.c5; have HM7 := hide hm7; have HB7 := hide (below_grown HB.out hg7 (by omega)); have HR7 := hide (HR5.out.kept hg7 (.inr HP.out) (by simp; omega)); clear hm7 hg7)
                  | (at_delete; refine wp_del _ rfl _ _ 29 rfl Try.underlying29 rfl HM7.out x rfl (wf_small (by omega) (by omega)) ?_; intro w8 hm8 hg8; have E0 := B0.grown hg8 (by simp; omega); have E1 := B1.grown hg8 (by simp; omega); have E2 := B2.grown hg8 (by simp; omega); have HM8 := hide hm8; have HB8 := hide (below_grown HB7.out hg8 (by omega)); have HR8 := hide (HR7.out.kept hg8 (.inr HP.out) (by simp; omega)); clear hm8 hg8)
                  | fail)
                go_roundw
                case rel => ((repeat apply Exists.intro); exact ⟨⟨_, cnt', HR8, hide (aPart_putdel HG.out.1 HX.out HK.out ▸ HM8.out), E0, E1, E2, HB8⟩, rfl⟩)
                case measure => rw [HR8.out.m, HR.out.m]; exact HLT.out
              · have HK := hide (show accF S W line c x d = some (d + 1) by simp [accF, HA1.out, HA2.out, a3, a4])
                go_wp2_with (first
                  | (at_mapUpdate; refine wp_store _ rfl _ _ _ 29 rfl Try.underlying29 rfl HM.out (Nat.le_trans (length_part_le _ _ _) (by omega)) x (d + 1) rfl rfl (wf_small (by omega) (by omega)) (wf_small (by omega) (by omega)) ?_; intro w7 hm7 hg7; have B0 := B0.grown hg7 (by simp; omega); have B1 := B1.grown hg7 (by simp; omega); have B2 := B2.grown hg7 (by simp; omega); have C0 := B0.c5; have C2 := B2.c5; have HM7 := hide hm7; have HB7 := hide (below_grown HB.out hg7 (by omega)); have HR7 := hide (HR5.out.kept hg7 (.inr HP.out) (by simp; omega)); clear hm7 hg7)
                  | fail)
                go_roundw
                case rel => exact ⟨_, cnt', HR7, hide (aPart_put HG.out.1 HX.out HK.out ▸ HM7.out), B0, B1, B2, HB7⟩
                case measure => rw [HR7.out.m, HR.out.m]; exact HLT.out
          · have t2 : (x % S != line % S) = true := by simpa using a2
            have HK := hide (show accF S W line c x d = some d by simp [accF, a2])
            clear a1 a2
            go_wp2_with fail
            go_roundw
            case rel => exact ⟨_, cnt', HR5, hide (aPart_keep HG.out.1 HX.out HLX.out HK.out ▸ HM.out), B0, B1, B2, HB⟩
            case measure => rw [HR5.out.m, HR.out.m]; exact HLT.out

end Go.Proofs.Ytacpfcneihlcnaa
