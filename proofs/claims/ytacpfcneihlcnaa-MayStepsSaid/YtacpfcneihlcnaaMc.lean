/- may: Access for whatever state, AccessRange. -/
import Derived.Test.YtacpfcneihlcnaaMb
set_option linter.unusedVariables false
set_option linter.unusedSimpArgs false
namespace Go.Proofs.Ytacpfcneihlcnaa
open Go.RowKit Go.Maps
attribute [local go_sem] bmax2 bmax_two

/-- A state: unknown or not, its lines. -/
abbrev MS := Bool × AL
def accS (S W : Int) (s : MS) (line : Int) : MS := if s.1 = true ∨ line < 0 then s else (false, accL S W s.2 line)
/-- n lines from lo on get the bound 0. -/
def fillL : Nat → AL → Int → AL
  | 0, es, _ => es
  | n + 1, es, lo => fillL n (aput es lo 0) (lo + 1)
def rngS0 (S W : Int) (s : MS) (lo hi : Int) : MS := if s.1 = true ∨ hi < lo then s else if lo = hi then accS S W s lo else if 64 ≤ hi - lo then (true, []) else (false, fillL (hi - lo + 1).toNat s.2 lo)
def rngS (S W : Int) (s : MS) (lo hi : Int) : MS := rngS0 S W s (if lo < 0 then 0 else lo) hi

theorem fillL_snoc : ∀ (n : Nat) (es : AL) (lo : Int), fillL (n + 1) es lo = aput (fillL n es lo) (lo + n) 0
  | 0, es, lo => by simp [fillL]
  | n + 1, es, lo => by
    rw [fillL, fillL_snoc n, fillL]
    congr 1
    omega
theorem length_fill : ∀ (n : Nat) (es : AL) (lo : Int), (fillL n es lo).length ≤ es.length + n
  | 0, es, lo => by simp [fillL]
  | n + 1, es, lo => by
    rw [fillL]
    have := length_fill n (aput es lo 0) (lo + 1)
    have := length_put_le es lo 0
    omega

/-- Value v is the state s. -/
def MStIs (w : World) (S W L : Int) (v : Value) (s : MS) : Prop := ∃ p, v = .agg #[.int .i64 S, .int .i64 W, .int .i64 L, .bool s.1, .map p] ∧ MapIs w p s.2

theorem ma_access_any {S W L : Int} (hv : vldB S W L = true) {u : Bool} {p : Option Nat} {es : AL} {line : Int} (h1 : line ≤ 1000000) {w : World} (hes : MapIs w p es) (hg : Good W es) (hn : es.length ≤ 100000) :
    Calls Try.prog 32 #[.agg #[.int .i64 S, .int .i64 W, .int .i64 L, .bool u, .map p], .int .i64 line] w fun e w' => ∃ q, e = .returned (.agg #[.int .i64 S, .int .i64 W, .int .i64 L, .bool (accS S W (u, es) line).1, .map q]) ∧ MapIs w' q (accS S W (u, es) line).2 ∧ Below w.heap.size w w' := by
  by_cases h : u = true ∨ line < 0
  · have e : accS S W (u, es) line = (u, es) := by simp only [accS]; rw [if_pos h]
    rw [e]
    exact (ma_access_id h w).mono fun e w' ⟨he, hb⟩ => ⟨p, he, hes.below hb, hb⟩
  · have e : accS S W (u, es) line = (false, accL S W es line) := by simp only [accS]; rw [if_neg h]
    rw [e]
    cases u with
    | true => exact absurd (.inl rfl) h
    | false => exact (ma_access hv (by have : ¬ line < 0 := fun hh => h (.inr hh); omega) h1 hes hg hn).mono fun e w' ⟨b, he, hm, hb⟩ => ⟨some b, he, .inr ⟨b, rfl, hm⟩, hb⟩

set_option maxRecDepth 100000 in
set_option maxHeartbeats 1000000 in
theorem ma_range_id {S W L : Int} {u : Bool} {p : Option Nat} {lo hi : Int} (h : u = true ∨ hi < (if lo < 0 then 0 else lo)) (w : World) :
    Calls Try.prog 31 #[.agg #[.int .i64 S, .int .i64 W, .int .i64 L, .bool u, .map p], .int .i64 lo, .int .i64 hi] w fun e w' => e = .returned (.agg #[.int .i64 S, .int .i64 W, .int .i64 L, .bool u, .map p]) ∧ Below w.heap.size w w' := by
  by_cases hl : lo < 0
  · rw [if_pos hl] at h
    by_cases hh : hi < 0
    · clear h
      cases u
      · go_enter Try.func31, Try.ntmps31
        go_wp2_with fail
        exact bodyPost_ret (v := .agg #[.int .i64 S, .int .i64 W, .int .i64 L, .bool false, .map p]) (by simp [results, Try.results31, go_sem]) rfl ⟨rfl, by (repeat (first | with_reducible exact Below.refl _ _ | with_reducible assumption | refine below_set ?_ (by first | exact Nat.le_refl _ | (simp; omega) | simp) _ | refine below_alloc ?_ _ | refine below_drewN ?_ _ | refine below_drew ?_))⟩
      · go_enter Try.func31, Try.ntmps31
        go_wp2_with fail
        exact bodyPost_ret (v := .agg #[.int .i64 S, .int .i64 W, .int .i64 L, .bool true, .map p]) (by simp [results, Try.results31, go_sem]) rfl ⟨rfl, by (repeat (first | with_reducible exact Below.refl _ _ | with_reducible assumption | refine below_set ?_ (by first | exact Nat.le_refl _ | (simp; omega) | simp) _ | refine below_alloc ?_ _ | refine below_drewN ?_ _ | refine below_drew ?_))⟩
    · obtain rfl : u = true := h.resolve_right hh
      clear h
      go_enter Try.func31, Try.ntmps31
      go_wp2_with fail
      exact bodyPost_ret (v := .agg #[.int .i64 S, .int .i64 W, .int .i64 L, .bool true, .map p]) (by simp [results, Try.results31, go_sem]) rfl ⟨rfl, by (repeat (first | with_reducible exact Below.refl _ _ | with_reducible assumption | refine below_set ?_ (by first | exact Nat.le_refl _ | (simp; omega) | simp) _ | refine below_alloc ?_ _ | refine below_drewN ?_ _ | refine below_drew ?_))⟩
  · rw [if_neg hl] at h
    by_cases hh : hi < lo
    · clear h
      cases u
      · go_enter Try.func31, Try.ntmps31
        go_wp2_with fail
        exact bodyPost_ret (v := .agg #[.int .i64 S, .int .i64 W, .int .i64 L, .bool false, .map p]) (by simp [results, Try.results31, go_sem]) rfl ⟨rfl, by (repeat (first | with_reducible exact Below.refl _ _ | with_reducible assumption | refine below_set ?_ (by first | exact Nat.le_refl _ | (simp; omega) | simp) _ | refine below_alloc ?_ _ | refine below_drewN ?_ _ | refine below_drew ?_))⟩
      · go_enter Try.func31, Try.ntmps31
        go_wp2_with fail
        exact bodyPost_ret (v := .agg #[.int .i64 S, .int .i64 W, .int .i64 L, .bool true, .map p]) (by simp [results, Try.results31, go_sem]) rfl ⟨rfl, by (repeat (first | with_reducible exact Below.refl _ _ | with_reducible assumption | refine below_set ?_ (by first | exact Nat.le_refl _ | (simp; omega) | simp) _ | refine below_alloc ?_ _ | refine below_drewN ?_ _ | refine below_drew ?_))⟩
    · obtain rfl : u = true := h.resolve_right hh
      clear h
      go_enter Try.func31, Try.ntmps31
      go_wp2_with fail
      exact bodyPost_ret (v := .agg #[.int .i64 S, .int .i64 W, .int .i64 L, .bool true, .map p]) (by simp [results, Try.results31, go_sem]) rfl ⟨rfl, by (repeat (first | with_reducible exact Below.refl _ _ | with_reducible assumption | refine below_set ?_ (by first | exact Nat.le_refl _ | (simp; omega) | simp) _ | refine below_alloc ?_ _ | refine below_drewN ?_ _ | refine below_drew ?_))⟩

set_option maxRecDepth 100000 in
set_option maxHeartbeats 1000000 in
theorem ma_range_one {S W L : Int} (hv : vldB S W L = true) {p : Option Nat} {es : AL} {lo l : Int} (hl : (if lo < 0 then 0 else lo) = l) (h1 : l ≤ 1000000) {w : World} (hes : MapIs w p es) (hg : Good W es) (hn : es.length ≤ 100000) :
    Calls Try.prog 31 #[.agg #[.int .i64 S, .int .i64 W, .int .i64 L, .bool false, .map p], .int .i64 lo, .int .i64 l] w fun e w' => ∃ q, e = .returned (.agg #[.int .i64 S, .int .i64 W, .int .i64 L, .bool (accS S W (false, es) l).1, .map q]) ∧ MapIs w' q (accS S W (false, es) l).2 ∧ Below w.heap.size w w' := by
  have V := fun w => valid_is hv w
  have hmx : Builtin.max2 (.int .i64 lo) (.int .i64 0) = pure (.int .i64 l) := by rw [bmax2, hl]
  have hlb : 0 ≤ l := by split at hl <;> omega
  have AC := fun w (h : MapIs w p es) => ma_access_any hv (u := false) (line := l) h1 h hg hn
  generalize accS S W (false, es) l = s at AC
  obtain ⟨u', es'⟩ := s
  clear hg hv hl
  have HE := hide hes
  clear hes
  go_enter Try.func31, Try.ntmps31
  go_wp2_with fail
  refine at_world ?_
  intro W1 hW
  have HB0 := below_at2 hW (Below.refl _ _)
  have hm1 := HE.out.at2 hW
  have hs1 : w.heap.size + 1 < W1.heap.size := by have := size_at2 hW; omega
  obtain ⟨b0, b1⟩ := Blk.new2At hW
  have HPL := hide HE.out.lt
  clear hW HE
  refine (V _).mono ?_; rintro e w1 ⟨rfl, hb1⟩
  have hs2 : w.heap.size + 1 < w1.heap.size := by have := hb1.size; omega
  have hm2 := hm1.below hb1
  have b0 := b0.on hb1
  have b1 := b1.on hb1
  have HB1 := hide (below_then HB0 hb1)
  clear HB0 hm1 hb1
  have C0 := b0.c5
  have C1 := b1.c5
  have F1 := b1.fz
  have HM := hide hm2
  clear hm2
  go_wp2_with fail
  refine (AC _ HM.out).mono ?_; rintro e w2 ⟨q, rfl, hm2, hb2⟩
  have hs3 : w.heap.size + 1 < w2.heap.size := by have := hb2.size; omega
  have b1 := b1.on hb2
  have HM2 := hide hm2
  have hb := below_then HB1.out hb2
  have HQ := hide (show q ≠ some (w.heap.size + 1) from fun e => by
    rcases hm2 with ⟨h, _⟩ | ⟨b, h, hm⟩
    · rw [h] at e; cases e
    · rw [h] at e; cases e; exact hm.ne b1 rfl)
  clear hm2 hb2 HM C0 C1 F1
  have C1 := b1.c5
  have F1 := b1.fz
  go_wp2_with fail
  refine bodyPost_ret (v := .agg #[.int .i64 S, .int .i64 W, .int .i64 L, .bool u', .map q]) (by simp [results, Try.results31, go_sem, C1]) rfl ⟨q, rfl, ?_, by (repeat (first | with_reducible exact Below.refl _ _ | with_reducible assumption | refine below_set ?_ (by first | exact Nat.le_refl _ | (simp; omega) | simp) _ | refine below_alloc ?_ _ | refine below_drewN ?_ _ | refine below_drew ?_))⟩
  have hm := HM2.out
  repeat (first | with_reducible assumption | refine MapIs.far ?_ ?_ _)
  all_goals exact HQ.out

set_option maxRecDepth 100000 in
set_option maxHeartbeats 1000000 in
theorem ma_range_many {S W L : Int} (hv : vldB S W L = true) {p : Option Nat} {es : AL} {lo hi l : Int} (hl : (if lo < 0 then 0 else lo) = l) (h1 : hi ≤ 1000000) (hx : 64 ≤ hi - l) {w : World} (hes : MapIs w p es) :
    Calls Try.prog 31 #[.agg #[.int .i64 S, .int .i64 W, .int .i64 L, .bool false, .map p], .int .i64 lo, .int .i64 hi] w fun e w' => e = .returned (.agg #[.int .i64 S, .int .i64 W, .int .i64 L, .bool true, .map none]) ∧ Below w.heap.size w w' := by
  have V := fun w => valid_is hv w
  have hmx : Builtin.max2 (.int .i64 lo) (.int .i64 0) = pure (.int .i64 l) := by rw [bmax2, hl]
  have hlb : 0 ≤ l := by split at hl <;> omega
  have he : (l == hi) = false := by simp; omega
  have hh : ¬ hi < l := by omega
  clear hv hl
  have HE := hide hes
  clear hes
  go_enter Try.func31, Try.ntmps31
  go_wp2_with fail
  refine at_world ?_
  intro W1 hW
  have HB0 := below_at2 hW (Below.refl _ _)
  have hm1 := HE.out.at2 hW
  have hs1 : w.heap.size + 1 < W1.heap.size := by have := size_at2 hW; omega
  obtain ⟨b0, b1⟩ := Blk.new2At hW
  have HPL := hide HE.out.lt
  clear hW HE
  refine (V _).mono ?_; rintro e w1 ⟨rfl, hb1⟩
  have hs2 : w.heap.size + 1 < w1.heap.size := by have := hb1.size; omega
  have hm2 := hm1.below hb1
  have b0 := b0.on hb1
  have b1 := b1.on hb1
  have HB1 := hide (below_then HB0 hb1)
  clear HB0 hm1 hb1
  have C0 := b0.c5
  have C1 := b1.c5
  have F1 := b1.fz
  have HM := hide hm2
  clear hm2
  go_wp2_with fail
  refine bodyPost_ret (v := .agg #[.int .i64 S, .int .i64 W, .int .i64 L, .bool true, .map none]) (by simp [results, Try.results31, go_sem, C1]) rfl ⟨rfl, ?_⟩
  have hb := HB1.out
  (repeat (first | with_reducible exact Below.refl _ _ | with_reducible assumption | refine below_set ?_ (by first | exact Nat.le_refl _ | (simp; omega) | simp) _ | refine below_alloc ?_ _ | refine below_drewN ?_ _ | refine below_drew ?_))

set_option maxRecDepth 100000 in
set_option maxHeartbeats 1000000 in
theorem ma_range_fill {S W L : Int} (hv : vldB S W L = true) {p : Option Nat} {es : AL} {lo hi l : Int} (hl : (if lo < 0 then 0 else lo) = l) (h1 : hi ≤ 1000000) (hx : hi - l < 64) (hy : l < hi) {w : World} (hes : MapIs w p es) (hn : es.length ≤ 100000) :
    Calls Try.prog 31 #[.agg #[.int .i64 S, .int .i64 W, .int .i64 L, .bool false, .map p], .int .i64 lo, .int .i64 hi] w fun e w' => ∃ b, e = .returned (.agg #[.int .i64 S, .int .i64 W, .int .i64 L, .bool false, .map (some b)]) ∧ MapAt w' b (fillL (hi - l + 1).toNat es l) ∧ Below w.heap.size w w' := by
  have V := fun w => valid_is hv w
  have hmx : Builtin.max2 (.int .i64 lo) (.int .i64 0) = pure (.int .i64 l) := by rw [bmax2, hl]
  have hlb : 0 ≤ l := by split at hl <;> omega
  have he : (l == hi) = false := by simp; omega
  have hh : ¬ hi < l := by omega
  clear hv hl
  have HE := hide hes
  clear hes
  go_enter Try.func31, Try.ntmps31
  go_wp2_with fail
  refine at_world ?_
  intro W1 hW
  have HB0 := below_at2 hW (Below.refl _ _)
  have hm1 := HE.out.at2 hW
  have hs1 : w.heap.size + 1 < W1.heap.size := by have := size_at2 hW; omega
  obtain ⟨b0, b1⟩ := Blk.new2At hW
  have HPL := hide HE.out.lt
  clear hW HE
  refine (V _).mono ?_; rintro e w1 ⟨rfl, hb1⟩
  have hs2 : w.heap.size + 1 < w1.heap.size := by have := hb1.size; omega
  have hm2 := hm1.below hb1
  have b0 := b0.on hb1
  have b1 := b1.on hb1
  have HB1 := hide (below_then HB0 hb1)
  clear HB0 hm1 hb1
  have C0 := b0.c5
  have C1 := b1.c5
  have F1 := b1.fz
  have HM := hide hm2
  clear hm2
  go_wp2_with fail
  refine (copied_any HM.out).mono ?_; rintro e w2 ⟨b, rfl, hmb, hbb, hb2⟩
  have hs3 : w.heap.size + 1 < w2.heap.size := by have := hb2.size; omega
  have hbw : w.heap.size + 1 < b := by omega
  have hbl := hmb.lt
  have b1 := b1.on hb2
  have HB2 := hide (below_then HB1.out hb2)
  have HMB := hide hmb
  clear hmb hb2 HM C0 C1 F1 b0 HB1
  go_wp2_with fail
  go_loopw [8] (fun v8 wr => ∃ x : Int, v8 = .int .i64 x ∧ l ≤ x ∧ x ≤ hi + 1 ∧ Hid (MapAt wr b (fillL (x - l).toNat es l)) ∧ Blk wr (w.heap.size + 1) 31 #[.int .i64 0, .int .i64 0, .int .i64 0, .bool false, .map none] ∧
      Blk wr w2.heap.size 31 #[.int .i64 S, .int .i64 W, .int .i64 L, .bool false, .map (some b)] ∧ Hid (Below w.heap.size w wr)) (fun v8 _ => (hi + 1 - intOf v8).toNat)
  case atStart =>
    refine ⟨l, rfl, Int.le_refl _, by omega, hide ?_, b1.alloc _, Blk.new _ _ _, hide (below_alloc HB2.out _)⟩
    rw [Int.sub_self]
    exact HMB.out.alloc _
  case round =>
    obtain ⟨x, rfl, hx0, hx1, HM, B1, B2, HB⟩ := hrel
    have C2 := B2.c5
    by_cases hlt : x ≤ hi
    · have hlen := length_fill (x - l).toNat es l
      go_wp2_with (first
        | (at_mapUpdate; refine wp_store _ rfl _ _ _ 29 rfl Try.underlying29 rfl HM.out (by omega) x 0 rfl rfl (wf_small (by omega) (by omega)) (by decide) ?_; intro w7 hm7 hg7; have B1 := B1.grown hg7 (by simp; omega); have B2 := B2.grown hg7 (by simp; omega); have HM7 := hide hm7; have HB7 := hide (below_grown HB.out hg7 (by omega)); clear hm7 hg7)
        | fail)
      go_roundw
      case rel =>
        refine ⟨x + 1, by go_num, by omega, by omega, hide ?_, B1, B2, HB7⟩
        have e : (x + 1 - l).toNat = (x - l).toNat + 1 := by omega
        have e2 : l + ((x - l).toNat : Int) = x := by omega
        rw [e, fillL_snoc, e2]
        exact HM7.out
      case measure => simp [intOf]; omega
    · have hxe : x = hi + 1 := by omega
      have HX := hide hxe
      have C1 := B1.c5
      have F1 := B1.fz
      have HBL := hide (B1.lt)
      clear hxe B1 B2
      go_wp2_with fail
      refine bodyPost_ret (v := .agg #[.int .i64 S, .int .i64 W, .int .i64 L, .bool false, .map (some b)]) (by simp [results, Try.results31, go_sem, C1, C2]) rfl ?_
      have hm := HM.out
      have hb := HB.out
      have e : (x - l).toNat = (hi - l + 1).toNat := by have := HX.out; omega
      rw [e] at hm
      exact ⟨b, rfl, by (repeat (first | with_reducible assumption | refine MapAt.far ?_ ?_ _ | refine MapAt.alloc ?_ _)); all_goals (simp; omega), by (repeat (first | with_reducible exact Below.refl _ _ | with_reducible assumption | refine below_set ?_ (by first | exact Nat.le_refl _ | (simp; omega) | simp) _ | refine below_alloc ?_ _ | refine below_drewN ?_ _ | refine below_drew ?_))⟩

/-- AccessRange, whatever the state. -/
theorem ma_range {S W L : Int} (hv : vldB S W L = true) {u : Bool} {p : Option Nat} {es : AL} {lo hi : Int} (h1 : hi ≤ 1000000) {w : World} (hes : MapIs w p es) (hg : Good W es) (hn : es.length ≤ 100000) :
    Calls Try.prog 31 #[.agg #[.int .i64 S, .int .i64 W, .int .i64 L, .bool u, .map p], .int .i64 lo, .int .i64 hi] w fun e w' => ∃ q, e = .returned (.agg #[.int .i64 S, .int .i64 W, .int .i64 L, .bool (rngS S W (u, es) lo hi).1, .map q]) ∧ MapIs w' q (rngS S W (u, es) lo hi).2 ∧ Below w.heap.size w w' := by
  unfold rngS rngS0
  obtain ⟨l, hl⟩ : ∃ l, (if lo < 0 then 0 else lo) = l := ⟨_, rfl⟩
  rw [hl]
  have hlb : 0 ≤ l := by split at hl <;> omega
  by_cases h : u = true ∨ hi < l
  · rw [if_pos h]
    exact (ma_range_id (by rw [hl]; exact h) w).mono fun e w' ⟨he, hb⟩ => ⟨p, he, hes.below hb, hb⟩
  · rw [if_neg h]
    obtain rfl : u = false := by cases u with
      | true => exact absurd (.inl rfl) h
      | false => rfl
    have hh : ¬ hi < l := fun x => h (.inr x)
    by_cases e : l = hi
    · rw [if_pos e]
      subst e
      exact ma_range_one hv hl h1 hes hg hn
    · rw [if_neg e]
      by_cases f : 64 ≤ hi - l
      · rw [if_pos f]
        exact (ma_range_many hv hl h1 f hes).mono fun e w' ⟨he, hb⟩ => ⟨none, he, .nil_ _, hb⟩
      · rw [if_neg f]
        exact (ma_range_fill hv hl h1 (by omega) (by omega) hes hn).mono fun e w' ⟨b, he, hm, hb⟩ => ⟨some b, he, .inr ⟨b, rfl, hm⟩, hb⟩

end Go.Proofs.Ytacpfcneihlcnaa
