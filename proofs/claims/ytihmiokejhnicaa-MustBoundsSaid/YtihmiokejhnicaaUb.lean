/- must: Equal of equal states, Lines. -/
import Derived.Test.YtihmiokejhnicaaUa
set_option linter.unusedVariables false
set_option linter.unusedSimpArgs false
namespace Go.Proofs.Ytihmiokejhnicaa
open Go.RowKit Go.Maps Go.Sort Go.Shelf Go.Proofs.YtihmiokejhnicaaW.PrintWords

def sameI (x y : DataW Unit) : Bool := match x, y with
  | .lit (.int _ a), .lit (.int _ b) => decide (a = b)
  | _, _ => false
theorem neq_int (W : World) (x y : Value) (xd yd : DataW Unit) (xp yp : List MemPlace) (hx : plainElem Try.prog 3 x = some (xd, xp)) (hy : plainElem Try.prog 3 y = some (yd, yp)) :
    (binOp .neq 3 x y).run Try.prog W = .ok (.bool (!sameI xd yd)) W ∧ ∀ (a b : Operand), (eqGuard .neq 3 a b x y).run Try.prog W = .ok () W := by
  obtain ⟨a, rfl, h1, _⟩ := plainElem_int_inv Try.underlying3 hx
  obtain ⟨b, rfl, h2, _⟩ := plainElem_int_inv Try.underlying3 hy
  obtain rfl : xd = .lit (.int .i64 a) := by simpa using (congrArg Prod.fst h1)
  obtain rfl : yd = .lit (.int .i64 b) := by simpa using (congrArg Prod.fst h2)
  refine ⟨?_, fun _ _ => by rw [eqGuard_at_int]; rfl⟩
  simp [go_sem, sameI, binOp]
  rfl
theorem equal_self (es : AL) (h : Asc es) : Lib.equalFuncD sameI (mapD es) (mapD es) = true := by
  unfold Lib.equalFuncD
  simp only [decide_true, Bool.true_and]
  refine List.all_eq_true.2 fun p hp => ?_
  obtain ⟨q, hq, rfl⟩ := List.mem_map.1 hp
  have hg := aget_of_mem h hq
  unfold Lib.goodD
  rw [mapD_has, mapD_atKey, hg]
  simp [sameI]
theorem equal_any {w : World} {p q : Option Nat} {es : AL} (h : MapIs w p es) (h' : MapIs w q es) :
    Calls Try.prog 50 #[.map p, .map q] w fun e w' => e = .returned (.bool true) ∧ Below w.heap.size w w' := by
  obtain ⟨D1, s1, d1⟩ := src_of h
  obtain ⟨D2, s2, d2⟩ := src_of h'
  have he : Lib.equalFuncD sameI D1 D2 = true := by
    rcases d1 with rfl | ⟨rfl, rfl⟩
    · rcases d2 with rfl | ⟨rfl, rfl⟩
      · exact equal_self es h.asc
      · rfl
    · rcases d2 with rfl | ⟨rfl, _⟩
      · rfl
      · rfl
  have hc := AnyEq.maps_Equal_opt Try.equalM keyLaw (plainElem Try.prog 3) (plainElem Try.prog 3) sameI p q D1 D2 w s1 s2 (.int .i64 0) Try.zeroValue3 (.lit (.int .i64 0)) [] (plainElem_int Try.underlying3 (by decide)) neq_int
  rw [he] at hc
  exact hc.mono fun e w' ⟨h1, h2⟩ => ⟨h1, below_of_grown h2⟩


set_option maxRecDepth 100000 in
set_option maxHeartbeats 1000000 in
theorem ueq_same {S W L : Int} {p q : Option Nat} {es : AL} {w : World} (h : MapIs w p es) (h' : MapIs w q es) :
    Calls Try.prog 31 #[.agg #[.int .i64 S, .int .i64 W, .int .i64 L, .map p], .agg #[.int .i64 S, .int .i64 W, .int .i64 L, .map q]] w fun e w' => e = .returned (.bool true) ∧ Below w.heap.size w w' := by
  have HE := hide h
  have HF := hide h'
  clear h h'
  go_enter Try.func31, Try.ntmps31
  go_wp2_with fail
  refine at_world ?_
  intro W1 hW
  have HB1 := hide (below_at2 hW (Below.refl _ _))
  have HE1 := hide (MapIs.at2 hW HE.out)
  have HF1 := hide (MapIs.at2 hW HF.out)
  clear hW HE HF
  refine (equal_any HE1.out HF1.out).mono ?_; rintro e w2 ⟨rfl, hb⟩
  have HB2 := hide (below_then HB1.out hb)
  clear hb
  go_wp2_with fail
  go_ret
  exact ⟨rfl, HB2.out⟩

def keysL (es : AL) : List Int := es.map Prod.fst
theorem sorted_keys {es : AL} (h : Asc es) : (keysL es).Pairwise (· < ·) := List.pairwise_map.2 h
theorem merge_keys {es : AL} (h : Asc es) {ss : List Int} (hp : ss.Perm (keysL es)) : ss.mergeSort (fun x y => decide (x ≤ y)) = keysL es := by
  have h1 : (ss.mergeSort (fun x y => decide (x ≤ y))).Pairwise (fun x y => x ≤ y) := by
    have := List.pairwise_mergeSort (le := fun x y : Int => decide (x ≤ y)) (fun a b c => by simp; omega) (fun a b => by simp; omega) ss
    exact this.imp (fun h => of_decide_eq_true h)
  have h2 : (keysL es).Pairwise (fun x y => x ≤ y) := (sorted_keys h).imp fun h => Int.le_of_lt h
  exact ((List.mergeSort_perm ss _).trans hp).eq_of_pairwise (fun a b _ _ h1 h2 => Int.le_antisymm h1 h2) h1 h2
theorem keys_of (es : AL) : intKeys (mapD es) = keysL es := by
  unfold keysL mapD
  simp only [intKeys, List.map_map]
  exact List.map_congr_left fun p _ => rfl
theorem sortsA (m : Nat) : AnyZI.SortsIn Try.prog Try.sortedA_ren Fence.wide m :=
  ⟨fun blk off cap ss W hH hblk hsz => callsIn_wide.2 (AnyM.slices_Sort_int Try.sortA blk off cap ss W hH hblk hsz),
   fun p cap W => callsIn_wide.2 (AnyM.slices_Sort_int_none Try.sortA p cap W)⟩
theorem keys_call (mb : Option Nat) (W : World) : Calls Try.prog 49 #[.map mb] W fun e w' => e = .returned (.func (.func 57) #[] #[.pointer (some ⟨W.heap.size, 0, none⟩)]) ∧ w' = W.alloc (.cells #[.map mb] 26) :=
  callsIn_wide.1 (AnyZI.keys_in Try.keysA Fence.wide 5 trivial rfl mb W)
set_option maxHeartbeats 1000000 in
theorem sorted_call {w : World} {p : Option Nat} {es : AL} (h : MapIs w p es) (hn : es.length ≤ 1000000) :
    Calls Try.prog 48 #[.func (.func 57) #[] #[.pointer (some ⟨w.heap.size, 0, none⟩)]] (w.alloc (.cells #[.map p] 26)) fun e w' => ∃ v, e = .returned v ∧ w'.ownsRow w.heap.size 3 1 v es.length (nums .i64 (keysL es)) ∧ Below w.heap.size w w' := by
  rcases h with ⟨rfl, rfl⟩ | ⟨b, rfl, h⟩
  · have hseq : SeqGives Fence.wide 2 Try.prog 57 #[.pointer (some ⟨w.heap.size, 0, none⟩)] encZ (fun ss : List Int => ss = []) 0 (w.alloc (.cells #[.map none] 26)) :=
      AnyZI.keys_gives_nil (ρ := Try.keysA_ren) { Try.keysA with } Fence.wide _ trivial rfl w.heap.size _ (by simp) (by simp)
    have cS := AnyZI.sorted_in Try.sortedA Fence.wide 5 trivial trivial trivial trivial rfl (by omega) (sortsA _) (enters_of Try.func56 (by kernel_rfl) rfl) 57 #[.pointer (some ⟨w.heap.size, 0, none⟩)] trivial (enters_of Try.func57 (by kernel_rfl) rfl) _ 0 (Nat.zero_le _) (by omega) _ hseq
    refine (callsIn_wide.1 cS).mono ?_
    rintro e w' ⟨v, ss, rfl, rfl, hrow, hnil, hb⟩
    rw [List.mergeSort_nil] at hrow
    change w'.ownsRow _ 3 1 v 0 (nums .i64 (keysL [])) at hrow
    exact ⟨v, rfl, ownsRow_base_a (base' := w.heap.size) hrow (by simp), ((Below.refl _ w).alloc (Nat.le_refl _) _).trans (hb.mono (by simp))⟩
  · have hbl := h.lt
    have hseq : SeqGives Fence.wide 2 Try.prog 57 #[.pointer (some ⟨w.heap.size, 0, none⟩)] encZ (fun ss => ss.Perm (intKeys (mapD es))) (Maps.size (mapD es)) (w.alloc (.cells #[.map (some b)] 26)) :=
      AnyZI.keys_gives (ρ := Try.keysA_ren) { Try.keysA with } Fence.wide _ trivial rfl (by omega) w.heap.size b _ (mapD es) _ (by simp) (by simp) (by
        obtain ⟨es', clock, hb, Ft, hs, hD⟩ := h.2
        exact ⟨es', clock, (Below.heap_alloc _ _ b hbl).trans hb, Ft, hs, hD⟩)
    have cS := AnyZI.sorted_in Try.sortedA Fence.wide 5 trivial trivial trivial trivial rfl (by omega) (sortsA _) (enters_of Try.func56 (by kernel_rfl) rfl) 57 #[.pointer (some ⟨w.heap.size, 0, none⟩)] trivial (enters_of Try.func57 (by kernel_rfl) rfl) _ _ (by rw [mapD_size]; unfold maxLen; omega) (by rw [mapD_size]; omega) _ hseq
    refine (callsIn_wide.1 cS).mono ?_
    rintro e w' ⟨v, ss, rfl, hS, hrow, hnil, hb⟩
    rw [keys_of] at hS
    rw [merge_keys h.1 hS, hS.length_eq] at hrow
    refine ⟨v, rfl, ?_, ((Below.refl _ w).alloc (Nat.le_refl _) _).trans (hb.mono (by simp))⟩
    change w'.ownsRow _ 3 1 v (keysL es).length (nums .i64 (keysL es)) at hrow
    have hx := ownsRow_base_a (base' := w.heap.size) hrow (by simp)
    rw [show (keysL es).length = es.length by simp [keysL]] at hx
    exact hx


set_option maxRecDepth 100000 in
set_option maxHeartbeats 1000000 in
theorem u_lines {S W L : Int} {p : Option Nat} {es : AL} {w : World} (h : MapIs w p es) (hn : es.length ≤ 1000000) :
    Calls Try.prog 28 #[.agg #[.int .i64 S, .int .i64 W, .int .i64 L, .map p]] w fun e w' => ∃ A c, e = .returned (.slice A es.length c) ∧ w'.ownsRow w.heap.size 3 1 (.slice A es.length c) es.length (nums .i64 (keysL es)) ∧ Below w.heap.size w w' := by
  have HE := hide h
  clear h
  go_enter Try.func28, Try.ntmps28
  go_wp2_with fail
  refine at_world ?_
  intro W1 hW
  have HE1 := hide (HE.out.at_ hW)
  have HB1 := hide (below_at hW (Below.refl _ _))
  have hs1 : w.heap.size ≤ W1.heap.size := by have := size_at hW; omega
  clear hW HE
  refine (keys_call _ _).mono ?_; rintro e w2 ⟨rfl, rfl⟩
  go_wp2_with fail
  refine (sorted_call HE1.out hn).mono ?_; rintro e w3 ⟨v, rfl, ho, hb⟩
  have HO := hide (ownsRow_base_a (base' := w.heap.size) ho (by omega))
  have HB3 := hide (below_then HB1.out hb)
  obtain ⟨A, c, rfl, _⟩ := own_reads ho
  clear ho hb
  go_wp2_with fail
  go_ret
  exact ⟨A, c, rfl, HO.out, HB3.out⟩
end Go.Proofs.Ytihmiokejhnicaa
