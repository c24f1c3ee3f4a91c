/- must: older, with a closure of four or three captured cells. -/
import Derived.Test.YtihmiokejhnicaaUa
set_option linter.unusedVariables false
set_option linter.unusedSimpArgs false
namespace Go.Proofs.Ytihmiokejhnicaa
open Go.RowKit Go.Maps

/-- What becomes of a bound: it grows if it matches. -/
def oldF (W : Int) (f : Int → Int → Bool) (k a : Int) : Option Int := if f k a = true then (if a + 1 < W then some (a + 1) else none) else some a
def oldL (W : Int) (f : Int → Int → Bool) (es : AL) : AL := afm (oldF W f) es
theorem good_oldL {W : Int} {f : Int → Int → Bool} {es : AL} (h : Good W es) : Good W (oldL W f es) := h.afm fun k a b hm hf => by
  have := h.2 _ hm
  unfold oldF at hf
  split at hf
  · split at hf
    · cases hf; simp only at this; omega
    · cases hf
  · cases hf; simp only at this; omega
theorem length_oldL (W : Int) (f : Int → Int → Bool) (es : AL) : (oldL W f es).length ≤ es.length := length_afm_le _ _


set_option maxRecDepth 100000 in
set_option maxHeartbeats 1000000 in
theorem older_a {S W L : Int} (w0 : 1 ≤ W) (w8 : W ≤ 8) {p : Option Nat} {es : AL} {f : Int → Int → Bool} {c0 c1 c2 c3 : Value} {w : World} (hes : MapIs w p es) (hg : Good W es) (hn : es.length ≤ 100000)
    (hm : ∀ (W' : World) (k a : Int), Below w.heap.size w W' → aget es k = some a → Calls Try.prog 47 #[.int .i64 k, .int .i64 a, c0, c1, c2, c3] W' fun e w' => e = .returned (.bool (f k a)) ∧ Below W'.heap.size W' w') :
    Calls Try.prog 46 #[.agg #[.int .i64 S, .int .i64 W, .int .i64 L, .map p], .func (.func 47) #[] #[c0, c1, c2, c3]] w fun e w' => ∃ b, e = .returned (.agg #[.int .i64 S, .int .i64 W, .int .i64 L, .map (some b)]) ∧ MapAt w' b (oldL W f es) ∧ w.heap.size ≤ b ∧ Below w.heap.size w w' := by
  have HE := hide hes
  have HG := hide hg
  have HMM := hide hm
  have HPL := hide hes.lt
  clear hes hg hm
  go_enter Try.func46, Try.ntmps46
  go_wp2_with fail
  refine at_world ?_
  intro W1 hW
  have HB1 := hide (below_at2 hW (Below.refl _ _))
  have HE1 := hide (HE.out.at2 hW)
  have hs1 : w.heap.size + 1 < W1.heap.size := by have := size_at2 hW; omega
  obtain ⟨b0, b1⟩ := Blk.new2At hW
  clear hW HE
  refine (ucopied_any HE1.out (by omega)).mono ?_; rintro e w2 ⟨b, rfl, hmb, hbb, hb⟩
  have HP := hide (show p ≠ some b from fun e => by have := HPL.out b e; omega)
  have hs2 : w.heap.size + 1 < w2.heap.size := by have := hb.size; omega
  have hs0 : w.heap.size < w2.heap.size := by omega
  have b0 := b0.on hb
  have b1 := b1.on hb
  have HM := hide (HE1.out.below hb)
  have hbl := hmb.lt
  have HMB := hide hmb
  have HB := hide (below_then HB1.out hb)
  have C0 := b0.c4
  clear hb hmb HB1 HE1
  go_wp2_with (first
    | (at_range; refine wp_range _ rfl _ 26 rfl Try.underlying26 rfl HM.out ?_; intro w4 hr4 hb4 hz4)
    | fail)
  go_frame
  have B0 := b0.on hb4
  have B1 := b1.on hb4
  have HMB4 := hide (HMB.out.below hb4)
  have HB4 := hide (below_then HB.out hb4)
  have HR4 := hide hr4
  clear hr4 hb4 HB HMB b0 b1 C0 HM hz4
  go_loopw [6, 7] (fun _ _ wr => ∃ (left : Int → Bool) (cnt : Nat), Hid (Rng wr p w2.heap.size es left cnt) ∧ Hid (MapAt wr b (aPart (oldF W f) left es)) ∧
      Blk wr w.heap.size 28 #[.int .i64 S, .int .i64 W, .int .i64 L, .map p] ∧ Blk wr (w.heap.size + 1) 28 #[.int .i64 0, .int .i64 0, .int .i64 0, .map none] ∧ Hid (Below w.heap.size w wr)) (fun _ _ wr => rngM p w2.heap.size wr)
  case atStart =>
    refine ⟨_, _, HR4, ?_, B0, B1, HB4⟩
    rw [aPart_start _ _ _ (fun q hq => by rw [aget_of_mem HG.out.1 hq]; rfl)]
    exact HMB4
  case round =>
    clear HR4 HMB4 B0 B1 HB4
    obtain ⟨left, cnt, HR, HM, B0, B1, HB⟩ := hrel
    have C0 := B0.c4
    have C1 := B1.c4
    have F1 := B1.fz
    go_wp2_with (first
      | (at_next; refine wp_next _ rfl _ rfl rfl HR.out ?_ ?_)
      | fail)
    · intro hl
      have HL := hide hl
      clear hl
      go_wp2_with fail
      refine bodyPost_ret (v := .agg #[.int .i64 S, .int .i64 W, .int .i64 L, .map (some b)]) (by simp [results, Try.results46, go_sem, C0, C1]) rfl ?_
      have hm := HM.out
      have hb := HB.out
      rw [aPart_end _ _ _ HL.out] at hm
      have hm : MapAt wr b (oldL W f es) := hm
      exact ⟨b, rfl, by (repeat (first | with_reducible assumption | refine MapAt.far ?_ ?_ _ | refine MapAt.alloc ?_ _)); all_goals (first | omega | (simp; omega)), by omega, by (repeat (first | with_reducible exact Below.refl _ _ | with_reducible assumption | refine below_set ?_ (by first | exact Nat.le_refl _ | (simp; omega) | simp) _ | refine below_alloc ?_ _ | refine below_drewN ?_ _ | refine below_drew ?_))⟩
    · intro x d w5 cnt' hlx hgx hwx hwc hr5 hlt hg5 hs5 hen
      obtain ⟨x0, x1, d0, d1⟩ := HG.out.get hgx
      have B0 := B0.grown hg5 (by simp; omega)
      have B1 := B1.grown hg5 (by simp; omega)
      have HM := hide (HM.out.kept hg5 (by simp; omega))
      have HB := hide (below_grown HB.out hg5 (by omega))
      have HR5 := hide hr5
      have HLT := hide hlt
      have HX := hide hgx
      have HLX := hide hlx
      have hz5 : w2.heap.size < w5.heap.size := hr5.lt
      clear hr5 hlt hgx hg5 hs5 C0 C1 F1 hwx hwc hlx
      have C0 := B0.c4
      go_wp2_with fail
      refine (HMM.out _ _ _ HB.out HX.out).mono ?_; rintro e w6 ⟨rfl, hb⟩
      have B0 := B0.on hb
      have B1 := B1.on hb
      have hz6 : w2.heap.size < w6.heap.size := by have := hb.size; omega
      have HM := hide (HM.out.below hb)
      have HB := hide (below_then HB.out hb)
      have HR5 := hide (HR5.out.below hb)
      clear hb C0
      have C0 := B0.c4
      cases hf : f x d with
      | false =>
        have HK := hide (show oldF W f x d = some d by simp [oldF, hf])
        clear hf
        go_wp2_with fail
        go_roundw
        case rel => exact ⟨_, cnt', HR5, hide (aPart_keep HG.out.1 HX.out HLX.out HK.out ▸ HM.out), B0, B1, HB⟩
        case measure => rw [HR5.out.m, HR.out.m]; exact HLT.out
      | true =>
        by_cases a4 : d + 1 < W
        · have HK := hide (show oldF W f x d = some (d + 1) by simp [oldF, hf, a4])
          clear hf
          go_wp2_with (first
            | (at_mapUpdate; refine wp_store _ rfl _ _ _ 26 rfl Try.underlying26 rfl HM.out (Nat.le_trans (length_part_le _ _ _) (by omega)) x (d + 1) rfl rfl (wf_small (by omega) (by omega)) (wf_small (by omega) (by omega)) ?_; intro w7 hm7 hg7; have B0 := B0.grown hg7 (by simp; omega); have B1 := B1.grown hg7 (by simp; omega); have HM7 := hide hm7; have HB7 := hide (below_grown HB.out hg7 (by omega)); have HR7 := hide (HR5.out.kept hg7 (.inr HP.out) (by simp; omega)); clear hm7 hg7)
            | fail)
          go_roundw
          case rel => ((repeat apply Exists.intro); exact ⟨⟨_, cnt', HR7, hide (aPart_put HG.out.1 HX.out HK.out ▸ HM7.out), B0, B1, HB7⟩, rfl⟩)
          case measure => rw [HR7.out.m, HR.out.m]; exact HLT.out
        · have HK := hide (show oldF W f x d = none by simp [oldF, hf, a4])
          clear hf
          go_wp2_with (first
            | (at_delete; refine wp_del _ rfl _ _ 26 rfl Try.underlying26 rfl HM.out x rfl (wf_small (by omega) (by omega)) ?_; intro w8 hm8 hg8; have E0 := B0.grown hg8 (by simp; omega); have E1 := B1.grown hg8 (by simp; omega); have HM8 := hide hm8; have HB8 := hide (below_grown HB.out hg8 (by omega)); have HR8 := hide (HR5.out.kept hg8 (.inr HP.out) (by simp; omega)); clear hm8 hg8)
            | fail)
          go_roundw
          case rel => ((repeat apply Exists.intro); exact ⟨⟨_, cnt', HR8, hide (aPart_del HG.out.1 HX.out HK.out ▸ HM8.out), E0, E1, HB8⟩, rfl⟩)
          case measure => rw [HR8.out.m, HR.out.m]; exact HLT.out

set_option maxRecDepth 100000 in
set_option maxHeartbeats 1000000 in
theorem older_r {S W L : Int} (w0 : 1 ≤ W) (w8 : W ≤ 8) {p : Option Nat} {es : AL} {f : Int → Int → Bool} {c0 c1 c2 : Value} {w : World} (hes : MapIs w p es) (hg : Good W es) (hn : es.length ≤ 100000)
    (hm : ∀ (W' : World) (k a : Int), Below w.heap.size w W' → aget es k = some a → Calls Try.prog 51 #[.int .i64 k, .int .i64 a, c0, c1, c2] W' fun e w' => e = .returned (.bool (f k a)) ∧ Below W'.heap.size W' w') :
    Calls Try.prog 46 #[.agg #[.int .i64 S, .int .i64 W, .int .i64 L, .map p], .func (.func 51) #[] #[c0, c1, c2]] w fun e w' => ∃ b, e = .returned (.agg #[.int .i64 S, .int .i64 W, .int .i64 L, .map (some b)]) ∧ MapAt w' b (oldL W f es) ∧ w.heap.size ≤ b ∧ Below w.heap.size w w' := by
  have HE := hide hes
  have HG := hide hg
  have HMM := hide hm
  have HPL := hide hes.lt
  clear hes hg hm
  go_enter Try.func46, Try.ntmps46
  go_wp2_with fail
  refine at_world ?_
  intro W1 hW
  have HB1 := hide (below_at2 hW (Below.refl _ _))
  have HE1 := hide (HE.out.at2 hW)
  have hs1 : w.heap.size + 1 < W1.heap.size := by have := size_at2 hW; omega
  obtain ⟨b0, b1⟩ := Blk.new2At hW
  clear hW HE
  refine (ucopied_any HE1.out (by omega)).mono ?_; rintro e w2 ⟨b, rfl, hmb, hbb, hb⟩
  have HP := hide (show p ≠ some b from fun e => by have := HPL.out b e; omega)
  have hs2 : w.heap.size + 1 < w2.heap.size := by have := hb.size; omega
  have hs0 : w.heap.size < w2.heap.size := by omega
  have b0 := b0.on hb
  have b1 := b1.on hb
  have HM := hide (HE1.out.below hb)
  have hbl := hmb.lt
  have HMB := hide hmb
  have HB := hide (below_then HB1.out hb)
  have C0 := b0.c4
  clear hb hmb HB1 HE1
  go_wp2_with (first
    | (at_range; refine wp_range _ rfl _ 26 rfl Try.underlying26 rfl HM.out ?_; intro w4 hr4 hb4 hz4)
    | fail)
  go_frame
  have B0 := b0.on hb4
  have B1 := b1.on hb4
  have HMB4 := hide (HMB.out.below hb4)
  have HB4 := hide (below_then HB.out hb4)
  have HR4 := hide hr4
  clear hr4 hb4 HB HMB b0 b1 C0 HM hz4
  go_loopw [6, 7] (fun _ _ wr => ∃ (left : Int → Bool) (cnt : Nat), Hid (Rng wr p w2.heap.size es left cnt) ∧ Hid (MapAt wr b (aPart (oldF W f) left es)) ∧
      Blk wr w.heap.size 28 #[.int .i64 S, .int .i64 W, .int .i64 L, .map p] ∧ Blk wr (w.heap.size + 1) 28 #[.int .i64 0, .int .i64 0, .int .i64 0, .map none] ∧ Hid (Below w.heap.size w wr)) (fun _ _ wr => rngM p w2.heap.size wr)
  case atStart =>
    refine ⟨_, _, HR4, ?_, B0, B1, HB4⟩
    rw [aPart_start _ _ _ (fun q hq => by rw [aget_of_mem HG.out.1 hq]; rfl)]
    exact HMB4
  case round =>
    clear HR4 HMB4 B0 B1 HB4
    obtain ⟨left, cnt, HR, HM, B0, B1, HB⟩ := hrel
    have C0 := B0.c4
    have C1 := B1.c4
    have F1 := B1.fz
    go_wp2_with (first
      | (at_next; refine wp_next _ rfl _ rfl rfl HR.out ?_ ?_)
      | fail)
    · intro hl
      have HL := hide hl
      clear hl
      go_wp2_with fail
      refine bodyPost_ret (v := .agg #[.int .i64 S, .int .i64 W, .int .i64 L, .map (some b)]) (by simp [results, Try.results46, go_sem, C0, C1]) rfl ?_
      have hm := HM.out
      have hb := HB.out
      rw [aPart_end _ _ _ HL.out] at hm
      have hm : MapAt wr b (oldL W f es) := hm
      exact ⟨b, rfl, by (repeat (first | with_reducible assumption | refine MapAt.far ?_ ?_ _ | refine MapAt.alloc ?_ _)); all_goals (first | omega | (simp; omega)), by omega, by (repeat (first | with_reducible exact Below.refl _ _ | with_reducible assumption | refine below_set ?_ (by first | exact Nat.le_refl _ | (simp; omega) | simp) _ | refine below_alloc ?_ _ | refine below_drewN ?_ _ | refine below_drew ?_))⟩
    · intro x d w5 cnt' hlx hgx hwx hwc hr5 hlt hg5 hs5 hen
      obtain ⟨x0, x1, d0, d1⟩ := HG.out.get hgx
      have B0 := B0.grown hg5 (by simp; omega)
      have B1 := B1.grown hg5 (by simp; omega)
      have HM := hide (HM.out.kept hg5 (by simp; omega))
      have HB := hide (below_grown HB.out hg5 (by omega))
      have HR5 := hide hr5
      have HLT := hide hlt
      have HX := hide hgx
      have HLX := hide hlx
      have hz5 : w2.heap.size < w5.heap.size := hr5.lt
      clear hr5 hlt hgx hg5 hs5 C0 C1 F1 hwx hwc hlx
      have C0 := B0.c4
      go_wp2_with fail
      refine (HMM.out _ _ _ HB.out HX.out).mono ?_; rintro e w6 ⟨rfl, hb⟩
      have B0 := B0.on hb
      have B1 := B1.on hb
      have hz6 : w2.heap.size < w6.heap.size := by have := hb.size; omega
      have HM := hide (HM.out.below hb)
      have HB := hide (below_then HB.out hb)
      have HR5 := hide (HR5.out.below hb)
      clear hb C0
      have C0 := B0.c4
      cases hf : f x d with
      | false =>
        have HK := hide (show oldF W f x d = some d by simp [oldF, hf])
        clear hf
        go_wp2_with fail
        go_roundw
        case rel => exact ⟨_, cnt', HR5, hide (aPart_keep HG.out.1 HX.out HLX.out HK.out ▸ HM.out), B0, B1, HB⟩
        case measure => rw [HR5.out.m, HR.out.m]; exact HLT.out
      | true =>
        by_cases a4 : d + 1 < W
        · have HK := hide (show oldF W f x d = some (d + 1) by simp [oldF, hf, a4])
          clear hf
          go_wp2_with (first
            | (at_mapUpdate; refine wp_store _ rfl _ _ _ 26 rfl Try.underlying26 rfl HM.out (Nat.le_trans (length_part_le _ _ _) (by omega)) x (d + 1) rfl rfl (wf_small (by omega) (by omega)) (wf_small (by omega) (by omega)) ?_; intro w7 hm7 hg7; have B0 := B0.grown hg7 (by simp; omega); have B1 := B1.grown hg7 (by simp; omega); have HM7 := hide hm7; have HB7 := hide (below_grown HB.out hg7 (by omega)); have HR7 := hide (HR5.out.kept hg7 (.inr HP.out) (by simp; omega)); clear hm7 hg7)
            | fail)
          go_roundw
          case rel => ((repeat apply Exists.intro); exact ⟨⟨_, cnt', HR7, hide (aPart_put HG.out.1 HX.out HK.out ▸ HM7.out), B0, B1, HB7⟩, rfl⟩)
          case measure => rw [HR7.out.m, HR.out.m]; exact HLT.out
        · have HK := hide (show oldF W f x d = none by simp [oldF, hf, a4])
          clear hf
          go_wp2_with (first
            | (at_delete; refine wp_del _ rfl _ _ 26 rfl Try.underlying26 rfl HM.out x rfl (wf_small (by omega) (by omega)) ?_; intro w8 hm8 hg8; have E0 := B0.grown hg8 (by simp; omega); have E1 := B1.grown hg8 (by simp; omega); have HM8 := hide hm8; have HB8 := hide (below_grown HB.out hg8 (by omega)); have HR8 := hide (HR5.out.kept hg8 (.inr HP.out) (by simp; omega)); clear hm8 hg8)
            | fail)
          go_roundw
          case rel => ((repeat apply Exists.intro); exact ⟨⟨_, cnt', HR8, hide (aPart_del HG.out.1 HX.out HK.out ▸ HM8.out), E0, E1, HB8⟩, rfl⟩)
          case measure => rw [HR8.out.m, HR.out.m]; exact HLT.out

end Go.Proofs.Ytihmiokejhnicaa
