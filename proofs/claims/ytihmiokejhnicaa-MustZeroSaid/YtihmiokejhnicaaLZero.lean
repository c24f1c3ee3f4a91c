/- The walk of the law MustZero. -/
import Derived.Test.YtihmiokejhnicaaUg
set_option linter.unusedVariables false
set_option linter.unusedSimpArgs false
namespace Go.Proofs.Ytihmiokejhnicaa
open Go.RowKit Go.Maps

structure ZInv (w0 w : World) (g : Nat) : Prop where
  b7 : Blk w g 28 #[.int .i64 0, .int .i64 0, .int .i64 0, .map none]
  b : Below w0.heap.size w0 w
theorem ZInv.on {w0 w w' : World} {g : Nat} (h : ZInv w0 w g) (hb : Below w.heap.size w w') : ZInv w0 w' g := ⟨h.b7.on hb, below_then h.b hb⟩
theorem ZInv.drew {w0 w : World} {g : Nat} (h : ZInv w0 w g) : ZInv w0 w.drew g := h.on (below_drew (Below.refl _ _))

set_option maxRecDepth 100000 in
set_option maxHeartbeats 4000000 in
theorem zero_walk {line hi : Int} (hl : (Lit.int .i64 line).wf = true) {A : Option Addr} {n c : Nat} (w : World) :
    Calls Try.prog 8 #[.int .i64 line, .int .i64 hi, .slice A n c] w fun e w' => e = .returned (.bool true) ∧ Below w.heap.size w w' := by
  have HW := hide hl
  clear hl
  go_enter Try.func8, Try.ntmps8
  go_wp2_with fail
  refine (uawake_any _).mono ?_; rintro e w1 ⟨rfl, hb⟩
  have HB1 := hide hb
  clear hb
  go_wp2_with fail
  refine at_world ?_
  intro W2 hW
  have HZ := hide (⟨Blk.newAt hW, below_at hW HB1.out⟩ : ZInv w W2 w1.heap.size)
  clear hW HB1
  refine (u_age HW.out (.nil_ _)).mono ?_; rintro e w3 ⟨rfl, hb⟩
  have HZ := hide (HZ.out.on hb)
  have e1 : aget [] line = none := rfl
  rw [e1]
  clear hb e1
  generalize w1.heap.size = g at *
  go_wp2_with fail
  have INV := hide HZ.out.drew
  have D1 : ∀ w', Hid (ZInv w w' g) → Calls Try.prog 28 #[.agg #[.int .i64 0, .int .i64 0, .int .i64 0, .map none]] w' fun e w'' => ∃ A c, e = .returned (.slice A 0 c) ∧ Hid (ZInv w w'' g) := fun w' h =>
    (u_lines (.nil_ _) (by decide)).mono fun e w'' ⟨A, c, he, _, hb⟩ => ⟨A, c, he, hide (h.out.on hb)⟩
  have D2 : ∀ w', Hid (ZInv w w' g) → Calls Try.prog 27 #[.agg #[.int .i64 0, .int .i64 0, .int .i64 0, .map none], .int .i64 line] w' fun e w'' => e = .returned (.agg #[.int .i64 0, .int .i64 0, .int .i64 0, .map none]) ∧ Hid (ZInv w w'' g) := fun w' h =>
    (z_access line w').mono fun e w'' ⟨he, hb⟩ => ⟨he, hide (h.out.on hb)⟩
  have D3 : ∀ w', Hid (ZInv w w' g) → Calls Try.prog 31 #[.agg #[.int .i64 0, .int .i64 0, .int .i64 0, .map none], .agg #[.int .i64 0, .int .i64 0, .int .i64 0, .map none]] w' fun e w'' => e = .returned (.bool true) ∧ Hid (ZInv w w'' g) := fun w' h =>
    (ueq_same (.nil_ _) (.nil_ _)).mono fun e w'' ⟨he, hb⟩ => ⟨he, hide (h.out.on hb)⟩
  have D4 : ∀ w', Hid (ZInv w w' g) → Calls Try.prog 32 #[.agg #[.int .i64 0, .int .i64 0, .int .i64 0, .map none], .int .i64 line, .int .i64 hi] w' fun e w'' => e = .returned (.agg #[.int .i64 0, .int .i64 0, .int .i64 0, .map none]) ∧ Hid (ZInv w w'' g) := fun w' h =>
    (z_range line hi w').mono fun e w'' ⟨he, hb⟩ => ⟨he, hide (h.out.on hb)⟩
  have D5 : ∀ w', Hid (ZInv w w' g) → Calls Try.prog 30 #[.agg #[.int .i64 0, .int .i64 0, .int .i64 0, .map none]] w' fun e w'' => e = .returned (.agg #[.int .i64 0, .int .i64 0, .int .i64 0, .map none]) ∧ Hid (ZInv w w'' g) := fun w' h =>
    (u_forget w').mono fun e w'' ⟨he, hb⟩ => ⟨he, hide (h.out.on hb)⟩
  have D6 : ∀ w', Hid (ZInv w w' g) → Calls Try.prog 18 #[.agg #[.int .i64 0, .int .i64 0, .int .i64 0, .map none], .slice A n c] w' fun e w'' => e = .returned (.bool false) ∧ Hid (ZInv w w'' g) := fun w' h =>
    (z_describes A n c w').mono fun e w'' ⟨he, hb⟩ => ⟨he, hide (h.out.on hb)⟩
  have FACTS : ∀ w' : World, Hid (ZInv w w' g) → (w'.cell? ⟨g, 0, none⟩ = some (.int .i64 0) ∧ w'.cell? ⟨g, 1, none⟩ = some (.int .i64 0) ∧ w'.cell? ⟨g, 2, none⟩ = some (.int .i64 0) ∧ w'.cell? ⟨g, 3, none⟩ = some (.map none)) ∧ Hid (ZInv w w' g) := fun w' h => ⟨h.out.b7.c4, h⟩
  have INVOF : ∀ w' : World, ((w'.cell? ⟨g, 0, none⟩ = some (.int .i64 0) ∧ w'.cell? ⟨g, 1, none⟩ = some (.int .i64 0) ∧ w'.cell? ⟨g, 2, none⟩ = some (.int .i64 0) ∧ w'.cell? ⟨g, 3, none⟩ = some (.map none)) ∧ Hid (ZInv w w' g)) → Hid (ZInv w w' g) := fun w' h => h.2
  clear HZ HW
  go_region_held3 (fun w' : World => (w'.cell? ⟨g, 0, none⟩ = some (.int .i64 0) ∧ w'.cell? ⟨g, 1, none⟩ = some (.int .i64 0) ∧ w'.cell? ⟨g, 2, none⟩ = some (.int .i64 0) ∧ w'.cell? ⟨g, 3, none⟩ = some (.map none)) ∧ Hid (ZInv w w' g))
    (first | with_reducible assumption | exact FACTS _ (by with_reducible assumption))
    (first
      | (go_at_call 28; with_reducible refine (D1 _ (INVOF _ (by with_reducible assumption))).mono ?_; rintro e w' ⟨Az, cz, rfl, hi⟩)
      | (go_at_call 27; with_reducible refine (D2 _ (INVOF _ (by with_reducible assumption))).mono ?_; rintro e w' ⟨rfl, hi⟩)
      | (go_at_call 31; with_reducible refine (D3 _ (INVOF _ (by with_reducible assumption))).mono ?_; rintro e w' ⟨rfl, hi⟩)
      | (go_at_call 32; with_reducible refine (D4 _ (INVOF _ (by with_reducible assumption))).mono ?_; rintro e w' ⟨rfl, hi⟩)
      | (go_at_call 30; with_reducible refine (D5 _ (INVOF _ (by with_reducible assumption))).mono ?_; rintro e w' ⟨rfl, hi⟩)
      | (go_at_call 18; with_reducible refine (D6 _ (INVOF _ (by with_reducible assumption))).mono ?_; rintro e w' ⟨rfl, hi⟩))
  go_wp2_with fail
  go_ret
  exact ⟨rfl, (INVOF _ (by with_reducible assumption)).out.b⟩
open Go.Proofs.YtihmiokejhnicaaW.PrintWords in
/-- The walk, as the row asks for it. -/
theorem zero_row {line hi : Int} (hl : (Lit.int .i64 line).wf = true) (_ : (Lit.int .i64 hi).wf = true) {w : World} {A : Option Addr} {l : List (List Int)} {c : Nat} (_ : Kd.C (Kd.slice 3 (Kd.int .i64)) w A l.length l) (_ : l.length ≤ c) (_ : ∀ r ∈ l, ∀ x ∈ r, (Lit.int .i64 x).wf = true) :
    Calls Try.prog 8 #[.int .i64 line, .int .i64 hi, .slice A l.length c] w fun e w' => e = .returned (.bool true) ∧ Below w.heap.size w w' := zero_walk hl w
end Go.Proofs.Ytihmiokejhnicaa
