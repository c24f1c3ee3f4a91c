/- must: zero, New, copied, Age, Lines, Forget, Equal. -/
import Derived.Test.YtihmiokejhnicaaCa
import Derived.Test.YtihmiokejhnicaaSh0
import Derived.Test.YtihmiokejhnicaaSh1
import Derived.Test.YtihmiokejhnicaaSh2
import Derived.Test.YtihmiokejhnicaaWWords
set_option linter.unusedVariables false
set_option linter.unusedSimpArgs false
namespace Go.Proofs.Ytihmiokejhnicaa
open Go.RowKit Go.Maps Go.Sort Go.Shelf Go.Proofs.YtihmiokejhnicaaW.PrintWords

theorem Blk.c4 {w : World} {g t : Nat} {a b c d : Value} (h : Blk w g t #[a, b, c, d]) : w.cell? ⟨g, 0, none⟩ = some a ∧ w.cell? ⟨g, 1, none⟩ = some b ∧ w.cell? ⟨g, 2, none⟩ = some c ∧ w.cell? ⟨g, 3, none⟩ = some d := ⟨h.cell 0, h.cell 1, h.cell 2, h.cell 3⟩

/-- Is the geometry the zero one? -/
def zB (S W L : Int) : Bool := (S == 0) && ((W == 0) && (L == 0))

set_option maxHeartbeats 400000 in
theorem zero_any (S W L : Int) (p : Option Nat) (w : World) :
    Calls Try.prog 41 #[.agg #[.int .i64 S, .int .i64 W, .int .i64 L, .map p]] w fun e w' => e = .returned (.bool (zB S W L)) ∧ Below w.heap.size w w' := by
  go_enter Try.func41, Try.ntmps41
  go_wp2_with fail
  all_goals (go_ret; exact ⟨by simp [zB, *], by (repeat (first | with_reducible exact Below.refl _ _ | with_reducible assumption | refine below_set ?_ (by first | exact Nat.le_refl _ | (simp; omega) | simp) _ | refine below_alloc ?_ _ | refine below_drewN ?_ _ | refine below_drew ?_))⟩)

set_option maxHeartbeats 400000 in
theorem must_new {S W L : Int} (h : vldB S W L = true) (w : World) :
    Calls Try.prog 21 #[.agg #[.int .i64 S, .int .i64 W, .int .i64 L]] w fun e w' => e = .returned (.tuple #[.agg #[.int .i64 S, .int .i64 W, .int .i64 L, .map none], .int .i64 0]) ∧ Below w.heap.size w w' := by
  have V := fun w => valid_is h w
  clear h
  go_enter Try.func21, Try.ntmps21
  go_wp2_with fail
  refine (V _).mono ?_; rintro e w1 ⟨rfl, hb1⟩
  obtain ⟨hc, hf⟩ := bcell hb1
  have hz : w.heap.size + 1 < w1.heap.size := by have := hb1.size; simp at this; omega
  go_wp2_with fail
  exact bodyPost_ret (v := .tuple #[.agg #[.int .i64 S, .int .i64 W, .int .i64 L, .map none], .int .i64 0]) (by simp [results, Try.results21, go_sem, hc, hz]) rfl
    ⟨rfl, by repeat (first | with_reducible exact Below.refl _ _ | refine below_set ?_ (by first | exact Nat.le_refl _ | (simp; omega) | simp) _ | refine below_alloc ?_ _ | refine below_drewN ?_ _ | refine below_then ?_ (by assumption))⟩

theorem merge_put (acc : AL) : ∀ es : AL, (es.map fun p => ((Lit.int .i64 p.1, DataW.lit (.int .i64 p.2)) : Lit × DataW Unit)).foldl (fun D p => D.put p.1 p.2) (mapD acc) = mapD (es.foldl (fun o p => aput o p.1 p.2) acc)
  | [] => rfl
  | p :: t => by
    simp only [List.map_cons, List.foldl_cons]
    rw [mapD_put, merge_put (aput acc p.1 p.2) t]
theorem fold_asc : ∀ (es acc : AL), Asc acc → Asc (es.foldl (fun o p => aput o p.1 p.2) acc)
  | [], _, h => h
  | p :: t, acc, h => fold_asc t _ (asc_put h _ _)
theorem fold_get : ∀ (es acc : AL), Asc acc → Asc es → ∀ k, aget (es.foldl (fun o p => aput o p.1 p.2) acc) k = match aget es k with | some a => some a | none => aget acc k
  | [], acc, _, _, k => rfl
  | p :: t, acc, h, he, k => by
    have ht := (List.pairwise_cons.1 he).2
    rw [List.foldl_cons, fold_get t _ (asc_put h _ _) ht k, aget_put h]
    have hc : aget (p :: t) k = if p.1 = k then some p.2 else aget t k := rfl
    by_cases e : k = p.1
    · subst e
      have hn : aget t p.1 = none := aget_none_of fun q hq => by
        have := (List.pairwise_cons.1 he).1 q hq
        omega
      rw [hc, hn, if_pos rfl, if_pos rfl]
    · rw [hc, if_neg e, if_neg (fun h => e h.symm)]
theorem fold_self {es : AL} (h : Asc es) : es.foldl (fun o p => aput o p.1 p.2) [] = es :=
  al_ext (fold_asc es [] asc_nil) h fun k => by
    rw [fold_get es [] asc_nil h k]
    cases aget es k <;> rfl
theorem src_of {w : World} {p : Option Nat} {es : AL} (h : MapIs w p es) : ∃ D : DataW Unit, SrcOf Try.prog 3 (plainElem Try.prog 3) w p D ∧ (D = mapD es ∨ (D = .nil ∧ es = [])) := by
  rcases h with ⟨rfl, rfl⟩ | ⟨b, rfl, h⟩
  · exact ⟨.nil, .inl ⟨rfl, rfl⟩, .inr ⟨rfl, rfl⟩⟩
  · exact ⟨mapD es, .inr ⟨b, _, rfl, h.2⟩, .inl rfl⟩
theorem len_of {w : World} {p : Option Nat} {es : AL} (h : MapIs w p es) (ty : TypeId) : (Builtin.len_ #[26] ty #[.map p]).run Try.prog w = .ok (.int .i64 es.length) w := by
  obtain ⟨D, hs, hd⟩ := src_of h
  have := AnyEq.len_src_Equal hs Try.underlying26 ty
  rw [this]
  rcases hd with rfl | ⟨rfl, rfl⟩
  · rw [mapD_size]
  · rfl
/-- maps.Copy into a new map. -/
theorem copy_any {w : World} {b : Nat} {p : Option Nat} {es : AL} (hb : MapAt w b []) (h : MapIs w p es) (hne : p ≠ some b) (hn : es.length ≤ 1000000) :
    Calls Try.prog 59 #[.map (some b), .map p] w fun e w' => e = .returned (.tuple #[]) ∧ MapAt w' b es ∧ w.grownBy w' (some b) := by
  obtain ⟨D, hs, hd⟩ := src_of h
  have hsz : Maps.size D ≤ es.length := by
    rcases hd with rfl | ⟨rfl, rfl⟩
    · rw [mapD_size]; exact Nat.le_refl _
    · exact Nat.le_refl _
  refine (AnyX.maps_Copy_opt Try.copyM keyLaw (plainElem Try.prog 3) b _ p (mapD []) D w hb.2 hs hne (by unfold maxLen; simp only [List.length_nil]; omega)).mono ?_
  rintro e w' ⟨rfl, hm, hg⟩
  have : Lib.mergeD (mapD []) D = mapD es := by
    rcases hd with rfl | ⟨rfl, rfl⟩
    · show (es.map _).foldl _ _ = _
      rw [merge_put [] es, fold_self h.asc]
    · rfl
  rw [this] at hm
  exact ⟨rfl, MapAt.of_owns h.asc hm, hg⟩

theorem run_makeMap_hint (n : Int) (w : World) : (Instr.makeMap 26 (some (.int .i64 n))).run Try.prog w = .ok (.map (some w.heap.size)) (w.alloc (.map #[] 0)) := by
  simp [Instr.makeMap, run_underlying Try.underlying26, asInt, asIntOf, Result.andThen]
set_option maxRecDepth 100000 in
set_option maxHeartbeats 1000000 in
theorem ucopied_any {S W L : Int} {p : Option Nat} {es : AL} {w : World} (h : MapIs w p es) (hn : es.length ≤ 1000000) :
    Calls Try.prog 54 #[.agg #[.int .i64 S, .int .i64 W, .int .i64 L, .map p]] w fun e w' => ∃ b, e = .returned (.map (some b)) ∧ MapAt w' b es ∧ w.heap.size ≤ b ∧ Below w.heap.size w w' := by
  have hmm := run_makeMap_hint
  have hl := fun ty => len_of (h.alloc (.cells #[.int .i64 S, .int .i64 W, .int .i64 L, .map p] 28)) ty
  have HE := hide h
  have hw1 : IntKind.i64.wrap ((es.length : Int) + 1) = (es.length : Int) + 1 := by rw [IntKind.wrap_i64]; omega
  have hn0 : (0 : Int) ≤ (es.length : Int) + 1 := by omega
  have HPL := hide h.lt
  clear h
  go_enter Try.func54, Try.ntmps54
  go_wp2_with fail
  refine at_world ?_
  intro W1 hW
  have b0 := Blk.new w 28 #[.int .i64 S, .int .i64 W, .int .i64 L, .map p]
  have HE1 := hide (MapIs.at2 hW HE.out)
  have hmb : MapAt W1 (w.heap.size + 1) [] := by rw [hW]; simpa using MapAt.made (w.alloc (.cells #[.int .i64 S, .int .i64 W, .int .i64 L, .map p] 28))
  have HB1 := hide (below_at2 hW (Below.refl _ _))
  have HMB := hide hmb
  clear hmb hW HE b0 hl
  refine (copy_any HMB.out HE1.out (fun e => by have := HPL.out _ e; omega) hn).mono ?_; rintro e w2 ⟨rfl, hm, hg⟩
  have HM := hide hm
  have HB2 := hide (below_grown HB1.out hg (by omega))
  clear hm hg
  go_wp2_with fail
  go_ret
  exact ⟨_, rfl, HM.out, by omega, HB2.out⟩

set_option maxHeartbeats 400000 in
theorem u_age {S W L : Int} {p : Option Nat} {es : AL} {k : Int} (hk : (Lit.int .i64 k).wf = true) {w : World} (hes : MapIs w p es) :
    Calls Try.prog 25 #[.agg #[.int .i64 S, .int .i64 W, .int .i64 L, .map p], .int .i64 k] w fun e w' => e = .returned (.tuple #[.int .i64 ((aget es k).getD 0), .bool (aget es k).isSome]) ∧ Below w.heap.size w w' := by
  have HE := hide (hes.alloc (.cells #[.int .i64 S, .int .i64 W, .int .i64 L, .map p] 28))
  have HK := hide hk
  clear hes hk
  go_enter Try.func25, Try.ntmps25
  go_wp2_with (first
    | (at_lookup; refine wp_look _ rfl _ _ 26 rfl Try.underlying26 rfl HE.out k rfl HK.out ?_)
    | fail)
  go_ret2
  exact ⟨rfl, by (repeat (first | with_reducible exact Below.refl _ _ | with_reducible assumption | refine below_set ?_ (by first | exact Nat.le_refl _ | (simp; omega) | simp) _ | refine below_alloc ?_ _ | refine below_drewN ?_ _ | refine below_drew ?_))⟩

set_option maxHeartbeats 400000 in
theorem u_forget {S W L : Int} {p : Option Nat} (w : World) :
    Calls Try.prog 30 #[.agg #[.int .i64 S, .int .i64 W, .int .i64 L, .map p]] w fun e w' => e = .returned (.agg #[.int .i64 S, .int .i64 W, .int .i64 L, .map none]) ∧ Below w.heap.size w w' := by
  go_enter Try.func30, Try.ntmps30
  go_wp2_with fail
  exact bodyPost_ret (v := .agg #[.int .i64 S, .int .i64 W, .int .i64 L, .map none]) (by simp [results, Try.results30, go_sem]) rfl ⟨rfl, by (repeat (first | with_reducible exact Below.refl _ _ | with_reducible assumption | refine below_set ?_ (by first | exact Nat.le_refl _ | (simp; omega) | simp) _ | refine below_alloc ?_ _ | refine below_drewN ?_ _ | refine below_drew ?_))⟩
end Go.Proofs.Ytihmiokejhnicaa
