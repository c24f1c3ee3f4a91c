/- may: Age, Join, Describes. -/
import Derived.Test.YtacpfcneihlcnaaMc
import Derived.Test.YtacpfcneihlcnaaWWords
set_option linter.unusedVariables false
set_option linter.unusedSimpArgs false
namespace Go.Proofs.Ytacpfcneihlcnaa
open Go.RowKit Go.Maps Go.Proofs.YtacpfcneihlcnaaW.PrintWords

/-- A row of rows, a row of numbers: what cell i holds. -/
theorem row_at {w : World} {A : Option Addr} {n t : Nat} {ls : List (List Int)} (h : Kd.C (Kd.slice t (Kd.int .i64)) w A n ls) (i : Nat) (hi : i < n) :
    ∃ ad A0 c0, A = some ad ∧ w.cell? (ad.add i) = some (.slice A0 (ls.getD i []).length c0) ∧ (ls.getD i []).length ≤ c0 ∧ (Kd.int .i64).C w A0 (ls.getD i []).length (ls.getD i []) := by
  obtain ⟨ad, cs, e, _, ⟨A0, c0, rfl, hle, hr⟩, hcell⟩ := Kd.C_get h ([] : List Int) i (by omega) (by omega)
  have hc := hcell 0 _ rfl
  simp only [Int.toNat_natCast] at hc hr hle
  exact ⟨ad, A0, c0, e, by simpa [Kd.slice] using hc, hle, hr⟩
theorem int_at {k : IntKind} {w : World} {A : Option Addr} {n : Nat} {xs : List Int} (h : (Kd.int k).C w A n xs) (i : Nat) (hi : i < n) :
    ∃ ad, A = some ad ∧ w.cell? (ad.add i) = some (.int k (xs.getD i 0)) := by
  obtain ⟨ad, cs, e, _, hK, hcell⟩ := Kd.C_get h (0 : Int) i (by omega) (by omega)
  obtain rfl : cs = [.int k (xs.getD i 0)] := by
    have h' : cs = [.int k (xs.getD ((i : Int)).toNat 0)] := hK
    simpa using h'
  have hc := hcell 0 _ rfl
  exact ⟨ad, e, by simpa [Kd.int, Kd.scalar] using hc⟩

def ageS (s : MS) (k : Int) : Int × Bool := if s.1 = true then (0, decide (0 ≤ k)) else ((aget s.2 k).getD 0, (aget s.2 k).isSome)

set_option maxHeartbeats 400000 in
theorem ma_age {S W L : Int} {u : Bool} {p : Option Nat} {es : AL} {k : Int} (hk : (Lit.int .i64 k).wf = true) {w : World} (hes : MapIs w p es) :
    Calls Try.prog 23 #[.agg #[.int .i64 S, .int .i64 W, .int .i64 L, .bool u, .map p], .int .i64 k] w fun e w' => e = .returned (.tuple #[.int .i64 (ageS (u, es) k).1, .bool (ageS (u, es) k).2]) ∧ Below w.heap.size w w' := by
  have HE := hide (hes.alloc (.cells #[.int .i64 S, .int .i64 W, .int .i64 L, .bool u, .map p] 31))
  have HK := hide hk
  clear hes hk
  cases u with
  | true =>
    go_enter Try.func23, Try.ntmps23
    go_wp2_with fail
    go_ret2
    exact ⟨by simp [ageS], by (repeat (first | with_reducible exact Below.refl _ _ | with_reducible assumption | refine below_set ?_ (by first | exact Nat.le_refl _ | (simp; omega) | simp) _ | refine below_alloc ?_ _ | refine below_drewN ?_ _ | refine below_drew ?_))⟩
  | false =>
    go_enter Try.func23, Try.ntmps23
    go_wp2_with (first
      | (at_lookup; refine wp_look _ rfl _ _ 29 rfl Try.underlying29 rfl HE.out k rfl HK.out ?_)
      | fail)
    go_ret2
    exact ⟨by simp [ageS], by (repeat (first | with_reducible exact Below.refl _ _ | with_reducible assumption | refine below_set ?_ (by first | exact Nat.le_refl _ | (simp; omega) | simp) _ | refine below_alloc ?_ _ | refine below_drewN ?_ _ | refine below_drew ?_))⟩

/-- May line x at place k be in a cache that es describes? -/
def okAt (es : AL) (k : Nat) (x : Int) : Bool := match aget es x with | some b => decide (b ≤ (k : Int)) | none => false
def DescP (S : Int) (s : MS) (ls : List (List Int)) : Prop := (ls.length : Int) = S ∧ (s.1 = true ∨ ∀ i, i < ls.length → ∀ k, k < (ls.getD i []).length → okAt s.2 k ((ls.getD i []).getD k 0) = true)

def DescPost (S : Int) (s : MS) (ls : List (List Int)) (w : World) (e : Ending) (w' : World) : Prop := ∃ r, e = .returned (.bool r) ∧ (r = true ↔ DescP S s ls) ∧ Below w.heap.size w w'
def RowsOk (es : AL) (ls : List (List Int)) (n : Nat) : Prop := ∀ i, i < n → ∀ k, k < (ls.getD i []).length → okAt es k ((ls.getD i []).getD k 0) = true
def CellsOk (es : AL) (r : List Int) (n : Nat) : Prop := ∀ k, k < n → okAt es k (r.getD k 0) = true
theorem rowsOk_zero (es : AL) (ls : List (List Int)) : RowsOk es ls 0 := fun i hi => absurd hi (Nat.not_lt_zero _)
theorem cellsOk_zero (es : AL) (r : List Int) : CellsOk es r 0 := fun i hi => absurd hi (Nat.not_lt_zero _)
theorem rowsOk_succ {es : AL} {ls : List (List Int)} {n : Nat} (h : RowsOk es ls n) (hr : CellsOk es (ls.getD n []) (ls.getD n []).length) : RowsOk es ls (n + 1) := fun i hi k hk => by
  rcases Nat.lt_or_ge i n with h1 | h1
  · exact h i h1 k hk
  · obtain rfl : i = n := by omega
    exact hr k hk
theorem cellsOk_succ {es : AL} {r : List Int} {n : Nat} (h : CellsOk es r n) (hr : okAt es n (r.getD n 0) = true) : CellsOk es r (n + 1) := fun k hk => by
  rcases Nat.lt_or_ge k n with h1 | h1
  · exact h k h1
  · obtain rfl : k = n := by omega
    exact hr

set_option maxRecDepth 100000 in
set_option maxHeartbeats 1000000 in
theorem ma_describes {S W L : Int} (hS : 0 ≤ S ∧ S ≤ 64) {u : Bool} {p : Option Nat} {es : AL} {w : World} (hes : MapIs w p es) {A : Option Addr} {c : Nat} {ls : List (List Int)} (hC : Kd.C (Kd.slice 3 (Kd.int .i64)) w A ls.length ls) (hc : ls.length ≤ c)
    (hwf : ∀ r ∈ ls, ∀ x ∈ r, (Lit.int .i64 x).wf = true) :
    Calls Try.prog 15 #[.agg #[.int .i64 S, .int .i64 W, .int .i64 L, .bool u, .map p], .slice A ls.length c] w (DescPost S (u, es) ls w) := by
  have HE := hide (hes.alloc (.cells #[.int .i64 S, .int .i64 W, .int .i64 L, .bool u, .map p] 31))
  have HC := hide (Kd.C_below hC ((Below.refl _ _).alloc (Nat.le_refl _) (.cells #[.int .i64 S, .int .i64 W, .int .i64 L, .bool u, .map p] 31)))
  have HWF := hide hwf
  obtain ⟨s0, s1⟩ := hS
  have hmx := Kd.C_max hC
  clear hes hC hwf
  by_cases hl : (ls.length : Int) = S
  · subst hl
    have tl : ((ls.length : Int) != (ls.length : Int)) = false := by simp
    cases u with
    | true =>
      go_enter Try.func15, Try.ntmps15
      go_wp2_with fail
      go_ret
      exact ⟨true, rfl, ⟨fun _ => ⟨rfl, .inl rfl⟩, fun _ => rfl⟩, by (repeat (first | with_reducible exact Below.refl _ _ | with_reducible assumption | refine below_set ?_ (by first | exact Nat.le_refl _ | (simp; omega) | simp) _ | refine below_alloc ?_ _ | refine below_drewN ?_ _ | refine below_drew ?_))⟩
    | false =>
      go_enter Try.func15, Try.ntmps15
      go_wp2_with fail
      refine at_wp ?_
      intro W0 hW
      have HE := hide (show MapIs W0 p es from hW ▸ HE.out)
      have HC := hide (show Kd.C (Kd.slice 3 (Kd.int .i64)) W0 A ls.length ls from hW ▸ HC.out)
      have HB := hide (below_at hW (Below.refl _ _))
      have C0 := (Blk.newAt hW).c5
      clear hW
      go_loop [21] (fun v => ∃ i : Nat, v = .int .i64 i ∧ i ≤ ls.length ∧ Hid (RowsOk es ls i)) (fun v => ls.length - (intOf v).toNat)
      case atStart => exact ⟨0, rfl, Nat.zero_le _, hide (rowsOk_zero _ _)⟩
      case round =>
        obtain ⟨i, rfl, hi, HR⟩ := hrel
        by_cases hlt : i < ls.length
        · obtain ⟨ad, A0, c0, rfl, hc1, hle, hr⟩ := row_at HC.out i hlt
          have HWR := hide (HWF.out (ls.getD i []) (by rw [List.getD_eq_getElem?_getD, List.getElem?_eq_getElem hlt]; exact List.getElem_mem _))
          generalize hrow : ls.getD i [] = row at hc1 hr hle HWR
          have HROW := hide hrow
          have HCR := hide hr
          have hmr := Kd.C_max hr
          clear hrow hr
          go_wp2_with fail
          go_loop [27] (fun v => ∃ j : Nat, v = .int .i64 j ∧ j ≤ row.length ∧ Hid (CellsOk es row j)) (fun v => row.length - (intOf v).toNat)
          case atStart => exact ⟨0, rfl, Nat.zero_le _, hide (cellsOk_zero _ _)⟩
          case round =>
            obtain ⟨j, rfl, hj, HJ⟩ := hrel
            by_cases hjt : j < row.length
            · obtain ⟨ar, rfl, hcj⟩ := int_at HCR.out j hjt
              have HWX := hide (HWR.out (row.getD j 0) (by rw [List.getD_eq_getElem?_getD, List.getElem?_eq_getElem hjt]; exact List.getElem_mem _))
              generalize hx : row.getD j 0 = x at hcj HWX
              have HX := hide hx
              clear hx
              rcases hg : aget es x with _ | b
              · have HG := hide hg
                clear hg
                go_wp2_with (first
                  | (at_lookup; refine wp_look _ rfl _ _ 29 rfl Try.underlying29 rfl HE.out x rfl HWX.out ?_; rw [HG.out])
                  | fail)
                go_ret
                refine ⟨false, rfl, ⟨(fun h => by cases h), fun h => ?_⟩, HB.out⟩
                have h2 := h.2.resolve_left (by simp) i hlt j (by rw [HROW.out]; exact hjt)
                rw [HROW.out, HX.out] at h2
                simp [okAt, HG.out] at h2
              · by_cases hbj : b ≤ (j : Int)
                · have HG := hide hg
                  have HO := hide (show okAt es j (row.getD j 0) = true by rw [HX.out]; simp [okAt, hg, hbj])
                  clear hg
                  go_wp2_with (first
                    | (at_lookup; refine wp_look _ rfl _ _ 29 rfl Try.underlying29 rfl HE.out x rfl HWX.out ?_; rw [HG.out])
                    | fail)
                  go_round
                  case rel => exact ⟨j + 1, by go_num, by omega, hide (cellsOk_succ HJ.out HO.out)⟩
                  case measure => simp [intOf]; omega
                · have HG := hide hg
                  have HO := hide (show okAt es j x = false by simp [okAt, hg]; omega)
                  clear hg
                  go_wp2_with (first
                    | (at_lookup; refine wp_look _ rfl _ _ 29 rfl Try.underlying29 rfl HE.out x rfl HWX.out ?_; rw [HG.out])
                    | fail)
                  go_ret
                  refine ⟨false, rfl, ⟨(fun h => by cases h), fun h => ?_⟩, HB.out⟩
                  have h2 := h.2.resolve_left (by simp) i hlt j (by rw [HROW.out]; exact hjt)
                  rw [HROW.out, HX.out] at h2
                  exact absurd h2 (by rw [HO.out]; simp)
            · have hje : j = row.length := by omega
              have HI := hide hje
              clear hje
              go_wp2_with fail
              go_round
              case rel => exact ⟨i + 1, by go_num, by omega, hide (rowsOk_succ HR.out (by rw [HROW.out]; exact HI.out ▸ HJ.out))⟩
              case measure => simp [intOf]; omega
        · have hie : i = ls.length := by omega
          have HI := hide hie
          clear hie
          go_wp2_with fail
          go_ret
          exact ⟨true, rfl, ⟨fun _ => ⟨rfl, .inr (HI.out ▸ HR.out)⟩, fun _ => rfl⟩, HB.out⟩
  · have tl : ((ls.length : Int) != S) = true := by simpa using hl
    have HL := hide hl
    clear hl
    go_enter Try.func15, Try.ntmps15
    go_wp2_with fail
    go_ret
    exact ⟨false, rfl, ⟨(fun h => by cases h), fun h => absurd h.1 HL.out⟩, by (repeat (first | with_reducible exact Below.refl _ _ | with_reducible assumption | refine below_set ?_ (by first | exact Nat.le_refl _ | (simp; omega) | simp) _ | refine below_alloc ?_ _ | refine below_drewN ?_ _ | refine below_drew ?_))⟩

end Go.Proofs.Ytacpfcneihlcnaa
