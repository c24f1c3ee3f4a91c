/- may: Equal, of equal states. -/
import Derived.Test.YtacpfcneihlcnaaJo
import Derived.Test.YtacpfcneihlcnaaSh1
set_option linter.unusedVariables false
set_option linter.unusedSimpArgs false
namespace Go.Proofs.Ytacpfcneihlcnaa
open Go.RowKit Go.Maps Go.Shelf

def sameI (x y : DataW Unit) : Bool := match x, y with
  | .lit (.int _ a), .lit (.int _ b) => decide (a = b)
  | _, _ => false
theorem neq_int (W : World) (x y : Value) (xd yd : DataW Unit) (xp yp : List MemPlace) (hx : plainElem Try.prog 3 x = some (xd, xp)) (hy : plainElem Try.prog 3 y = some (yd, yp)) :
    (binOp .neq 3 x y).run Try.prog W = .ok (.bool (!sameI xd yd)) W ∧ ∀ (a b : Operand), (eqGuard .neq 3 a b x y).run Try.prog W = .ok () W := by
  obtain ⟨a, rfl, h1, _⟩ := plainElem_int_inv Try.underlying3 hx
  obtain ⟨b, rfl, h2, _⟩ := plainElem_int_inv Try.underlying3 hy
  obtain rfl : xd = .lit (.int .i64 a) := by simpa using (congrArg Prod.fst h1)
  obtain rfl : yd = .lit (.int .i64 b) := by simpa using (congrArg Prod.fst h2)
  refine ⟨?_, fun _ _ => by rw [eqGuard_at_int]; rfl⟩
  simp [go_sem, sameI, binOp]
  rfl
theorem equal_self (es : AL) (h : Asc es) : Lib.equalFuncD sameI (mapD es) (mapD es) = true := by
  unfold Lib.equalFuncD
  simp only [decide_true, Bool.true_and]
  refine List.all_eq_true.2 fun p hp => ?_
  obtain ⟨q, hq, rfl⟩ := List.mem_map.1 hp
  have hg := aget_of_mem h hq
  unfold Lib.goodD
  rw [mapD_has, mapD_atKey, hg]
  simp [sameI]
theorem src_of {w : World} {p : Option Nat} {es : AL} (h : MapIs w p es) : ∃ D : DataW Unit, SrcOf Try.prog 3 (plainElem Try.prog 3) w p D ∧ (D = mapD es ∨ (D = .nil ∧ es = [])) := by
  rcases h with ⟨rfl, rfl⟩ | ⟨b, rfl, h⟩
  · exact ⟨.nil, .inl ⟨rfl, rfl⟩, .inr ⟨rfl, rfl⟩⟩
  · exact ⟨mapD es, .inr ⟨b, _, rfl, h.2⟩, .inl rfl⟩
theorem equal_any {w : World} {p q : Option Nat} {es : AL} (h : MapIs w p es) (h' : MapIs w q es) :
    Calls Try.prog 37 #[.map p, .map q] w fun e w' => e = .returned (.bool true) ∧ Below w.heap.size w w' := by
  obtain ⟨D1, s1, d1⟩ := src_of h
  obtain ⟨D2, s2, d2⟩ := src_of h'
  have he : Lib.equalFuncD sameI D1 D2 = true := by
    rcases d1 with rfl | ⟨rfl, rfl⟩
    · rcases d2 with rfl | ⟨rfl, rfl⟩
      · exact equal_self es h.asc
      · rfl
    · rcases d2 with rfl | ⟨rfl, _⟩
      · rfl
      · rfl
  have hc := AnyEq.maps_Equal_opt Try.equalM keyLaw (plainElem Try.prog 3) (plainElem Try.prog 3) sameI p q D1 D2 w s1 s2 (.int .i64 0) Try.zeroValue3 (.lit (.int .i64 0)) [] (plainElem_int Try.underlying3 (by decide)) neq_int
  rw [he] at hc
  exact hc.mono fun e w' ⟨h1, h2⟩ => ⟨h1, below_of_grown h2⟩

set_option maxRecDepth 100000 in
set_option maxHeartbeats 1000000 in
theorem eq_same {S W L : Int} {u : Bool} {p q : Option Nat} {es : AL} {w : World} (h : MapIs w p es) (h' : MapIs w q es) :
    Calls Try.prog 19 #[.agg #[.int .i64 S, .int .i64 W, .int .i64 L, .bool u, .map p], .agg #[.int .i64 S, .int .i64 W, .int .i64 L, .bool u, .map q]] w fun e w' => e = .returned (.bool true) ∧ Below w.heap.size w w' := by
  have HE := hide h
  have HF := hide h'
  have tu : (u == u) = true := by simp
  clear h h'
  go_enter Try.func19, Try.ntmps19
  go_wp2_with fail
  refine at_world ?_
  intro W1 hW
  have HB1 := hide (below_at2 hW (Below.refl _ _))
  have HE1 := hide (MapIs.at2 hW HE.out)
  have HF1 := hide (MapIs.at2 hW HF.out)
  clear hW HE HF
  refine (equal_any HE1.out HF1.out).mono ?_; rintro e w2 ⟨rfl, hb⟩
  have HB2 := hide (below_then HB1.out hb)
  clear hb
  go_wp2_with fail
  go_ret
  exact ⟨rfl, HB2.out⟩
end Go.Proofs.Ytacpfcneihlcnaa
