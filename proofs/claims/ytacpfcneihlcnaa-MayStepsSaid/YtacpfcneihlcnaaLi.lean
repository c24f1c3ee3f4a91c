/- may: Lines: the keys, sorted. -/
import Derived.Test.YtacpfcneihlcnaaEq
import Derived.Test.YtacpfcneihlcnaaSh2
import Derived.Test.YtacpfcneihlcnaaWWords
set_option linter.unusedVariables false
set_option linter.unusedSimpArgs false
namespace Go.Proofs.Ytacpfcneihlcnaa
open Go.RowKit Go.Maps Go.Sort Go.Shelf Go.Proofs.YtacpfcneihlcnaaW.PrintWords

def keysL (es : AL) : List Int := es.map Prod.fst
theorem sorted_keys {es : AL} (h : Asc es) : (keysL es).Pairwise (· < ·) := List.pairwise_map.2 h
theorem merge_keys {es : AL} (h : Asc es) {ss : List Int} (hp : ss.Perm (keysL es)) : ss.mergeSort (fun x y => decide (x ≤ y)) = keysL es := by
  have h1 : (ss.mergeSort (fun x y => decide (x ≤ y))).Pairwise (fun x y => x ≤ y) := by
    have := List.pairwise_mergeSort (le := fun x y : Int => decide (x ≤ y)) (fun a b c => by simp; omega) (fun a b => by simp; omega) ss
    exact this.imp (fun h => of_decide_eq_true h)
  have h2 : (keysL es).Pairwise (fun x y => x ≤ y) := (sorted_keys h).imp fun h => Int.le_of_lt h
  exact ((List.mergeSort_perm ss _).trans hp).eq_of_pairwise (fun a b _ _ h1 h2 => Int.le_antisymm h1 h2) h1 h2
theorem keys_of (es : AL) : intKeys (mapD es) = keysL es := by
  unfold keysL mapD
  simp only [intKeys, List.map_map]
  exact List.map_congr_left fun p _ => rfl
theorem sortsA (m : Nat) : AnyZI.SortsIn Try.prog Try.sortedA_ren Fence.wide m :=
  ⟨fun blk off cap ss W hH hblk hsz => callsIn_wide.2 (AnyM.slices_Sort_int Try.sortA blk off cap ss W hH hblk hsz),
   fun p cap W => callsIn_wide.2 (AnyM.slices_Sort_int_none Try.sortA p cap W)⟩
theorem keys_call (mb : Option Nat) (W : World) : Calls Try.prog 44 #[.map mb] W fun e w' => e = .returned (.func (.func 53) #[] #[.pointer (some ⟨W.heap.size, 0, none⟩)]) ∧ w' = W.alloc (.cells #[.map mb] 29) :=
  callsIn_wide.1 (AnyZI.keys_in Try.keysA Fence.wide 5 trivial rfl mb W)
set_option maxHeartbeats 1000000 in
theorem sorted_call {w : World} {p : Option Nat} {es : AL} (h : MapIs w p es) (hn : es.length ≤ 1000000) :
    Calls Try.prog 43 #[.func (.func 53) #[] #[.pointer (some ⟨w.heap.size, 0, none⟩)]] (w.alloc (.cells #[.map p] 29)) fun e w' => ∃ v, e = .returned v ∧ w'.ownsRow w.heap.size 3 1 v es.length (nums .i64 (keysL es)) ∧ Below w.heap.size w w' := by
  rcases h with ⟨rfl, rfl⟩ | ⟨b, rfl, h⟩
  · have hseq : SeqGives Fence.wide 2 Try.prog 53 #[.pointer (some ⟨w.heap.size, 0, none⟩)] encZ (fun ss : List Int => ss = []) 0 (w.alloc (.cells #[.map none] 29)) :=
      AnyZI.keys_gives_nil (ρ := Try.keysA_ren) { Try.keysA with } Fence.wide _ trivial rfl w.heap.size _ (by simp) (by simp)
    have cS := AnyZI.sorted_in Try.sortedA Fence.wide 5 trivial trivial trivial trivial rfl (by omega) (sortsA _) (enters_of Try.func52 (by kernel_rfl) rfl) 53 #[.pointer (some ⟨w.heap.size, 0, none⟩)] trivial (enters_of Try.func53 (by kernel_rfl) rfl) _ 0 (Nat.zero_le _) (by omega) _ hseq
    refine (callsIn_wide.1 cS).mono ?_
    rintro e w' ⟨v, ss, rfl, rfl, hrow, hnil, hb⟩
    rw [List.mergeSort_nil] at hrow
    change w'.ownsRow _ 3 1 v 0 (nums .i64 (keysL [])) at hrow
    exact ⟨v, rfl, ownsRow_base_a (base' := w.heap.size) hrow (by simp), ((Below.refl _ w).alloc (Nat.le_refl _) _).trans (hb.mono (by simp))⟩
  · have hbl := h.lt
    have hseq : SeqGives Fence.wide 2 Try.prog 53 #[.pointer (some ⟨w.heap.size, 0, none⟩)] encZ (fun ss => ss.Perm (intKeys (mapD es))) (Maps.size (mapD es)) (w.alloc (.cells #[.map (some b)] 29)) :=
      AnyZI.keys_gives (ρ := Try.keysA_ren) { Try.keysA with } Fence.wide _ trivial rfl (by omega) w.heap.size b _ (mapD es) _ (by simp) (by simp) (by
        obtain ⟨es', clock, hb, Ft, hs, hD⟩ := h.2
        exact ⟨es', clock, (Below.heap_alloc _ _ b hbl).trans hb, Ft, hs, hD⟩)
    have cS := AnyZI.sorted_in Try.sortedA Fence.wide 5 trivial trivial trivial trivial rfl (by omega) (sortsA _) (enters_of Try.func52 (by kernel_rfl) rfl) 53 #[.pointer (some ⟨w.heap.size, 0, none⟩)] trivial (enters_of Try.func53 (by kernel_rfl) rfl) _ _ (by rw [mapD_size]; unfold maxLen; omega) (by rw [mapD_size]; omega) _ hseq
    refine (callsIn_wide.1 cS).mono ?_
    rintro e w' ⟨v, ss, rfl, hS, hrow, hnil, hb⟩
    rw [keys_of] at hS
    rw [merge_keys h.1 hS, hS.length_eq] at hrow
    refine ⟨v, rfl, ?_, ((Below.refl _ w).alloc (Nat.le_refl _) _).trans (hb.mono (by simp))⟩
    change w'.ownsRow _ 3 1 v (keysL es).length (nums .i64 (keysL es)) at hrow
    have hx := ownsRow_base_a (base' := w.heap.size) hrow (by simp)
    rw [show (keysL es).length = es.length by simp [keysL]] at hx
    exact hx

set_option maxRecDepth 100000 in
set_option maxHeartbeats 1000000 in
theorem ma_lines_unknown {S W L : Int} {p : Option Nat} (w : World) :
    Calls Try.prog 29 #[.agg #[.int .i64 S, .int .i64 W, .int .i64 L, .bool true, .map p]] w fun e w' => e = .returned (.tuple #[.slice none 0 0, .bool false]) ∧ Below w.heap.size w w' := by
  go_enter Try.func29, Try.ntmps29
  go_wp2_with fail
  go_ret2
  exact ⟨rfl, by (repeat (first | with_reducible exact Below.refl _ _ | with_reducible assumption | refine below_set ?_ (by first | exact Nat.le_refl _ | (simp; omega) | simp) _ | refine below_alloc ?_ _ | refine below_drewN ?_ _ | refine below_drew ?_))⟩
set_option maxRecDepth 100000 in
set_option maxHeartbeats 1000000 in
theorem ma_lines {S W L : Int} {p : Option Nat} {es : AL} {w : World} (h : MapIs w p es) (hn : es.length ≤ 1000000) :
    Calls Try.prog 29 #[.agg #[.int .i64 S, .int .i64 W, .int .i64 L, .bool false, .map p]] w fun e w' => ∃ A c, e = .returned (.tuple #[.slice A es.length c, .bool true]) ∧ w'.ownsRow w.heap.size 3 1 (.slice A es.length c) es.length (nums .i64 (keysL es)) ∧ Below w.heap.size w w' := by
  have HE := hide h
  clear h
  go_enter Try.func29, Try.ntmps29
  go_wp2_with fail
  refine at_world ?_
  intro W1 hW
  have HE1 := hide (HE.out.at_ hW)
  have HB1 := hide (below_at hW (Below.refl _ _))
  have hs1 : w.heap.size ≤ W1.heap.size := by have := size_at hW; omega
  clear hW HE
  refine (keys_call _ _).mono ?_; rintro e w2 ⟨rfl, rfl⟩
  go_wp2_with fail
  refine (sorted_call HE1.out hn).mono ?_; rintro e w3 ⟨v, rfl, ho, hb⟩
  have HO := hide (ownsRow_base_a (base' := w.heap.size) ho (by omega))
  have HB3 := hide (below_then HB1.out hb)
  obtain ⟨A, c, rfl, _⟩ := own_reads ho
  clear ho hb
  go_wp2_with fail
  go_ret2
  exact ⟨A, c, rfl, HO.out, HB3.out⟩
end Go.Proofs.Ytacpfcneihlcnaa
