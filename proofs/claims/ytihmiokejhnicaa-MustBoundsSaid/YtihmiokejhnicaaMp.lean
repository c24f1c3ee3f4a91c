/- Maps from int to int, told by association lists: what the walk needs at each operation on a map, a nil map let in. -/
import Derived.Test.YtihmiokejhnicaaProg
import Derived.Test.YtihmiokejhnicaaAl
import Derived.WalkKit
import Derived.Deep.Draws
import Derived.Lib.Hide
import Derived.Maps.Own
import Derived.Maps.OwnOps
import Derived.Maps.OwnSet
import Derived.Maps.RangeWalk
import Derived.Maps.Ext
import Derived.Laws.IdiomRangeMap
set_option linter.unusedVariables false
namespace Go.Proofs.Ytihmiokejhnicaa
open Go.RowKit Go.Maps

theorem hide {p : Prop} (h : p) : Hid p := h
theorem ret_bool {a b : Bool} (h : a = b) : Ending.returned (.bool a) = .returned (.bool b) := by rw [h]
theorem ret_int {k : IntKind} {a b : Int} (h : a = b) : Ending.returned (.int k a) = .returned (.int k b) := by rw [h]

theorem bcell {W w1 : World} (hb : Below W.heap.size W w1) : (∀ b o, b < W.heap.size → w1.cell? ⟨b, o, none⟩ = W.cell? ⟨b, o, none⟩) ∧ (∀ b o, b < W.heap.size → w1.frozen? ⟨b, o, none⟩ = W.frozen? ⟨b, o, none⟩) :=
  ⟨fun b o h => hb.cell (p := ⟨b, o, none⟩) h, fun b o h => hb.frozen (p := ⟨b, o, none⟩) h⟩
theorem below_of_grown {w w' : World} (h : w.grownBy w' none) : Below w.heap.size w w' := ⟨h.os, h.tape, h.output, h.size, fun k hk => h.block k hk (by simp)⟩
theorem grown_of_below {w w' : World} (h : Below w.heap.size w w') : w.grownBy w' none := ⟨h.os, h.tape, h.output, h.size, fun k hk _ => h.block k hk⟩
theorem below_then {w w1 w2 : World} (h : Below w.heap.size w w1) (k : Below w1.heap.size w1 w2) : Below w.heap.size w w2 := h.trans (k.mono h.size)
theorem below_alloc {w w1 : World} (h : Below w.heap.size w w1) (o : Obj) : Below w.heap.size w (w1.alloc o) := h.alloc h.size o

theorem below_set {w w1 : World} (h : Below w.heap.size w w1) {p : Addr} (hp : w.heap.size ≤ p.block) (u : Value) : Below w.heap.size w (w1.setCell p u) := h.setCell hp u
theorem below_drewN {w w1 : World} (h : Below w.heap.size w w1) (n : Nat) : Below w.heap.size w (w1.drewN n) := ⟨h.os, h.tape, h.output, h.size, h.block⟩
theorem below_drew {w w1 : World} (h : Below w.heap.size w w1) : Below w.heap.size w w1.drew := ⟨h.os, h.tape, h.output, h.size, h.block⟩
theorem below_grown {w w1 w2 : World} {b : Nat} (h : Below w.heap.size w w1) (hg : w1.grownBy w2 (some b)) (hb : w.heap.size ≤ b) : Below w.heap.size w w2 := h.grown hg h.size (fun k hk => by cases hk; exact hb)

theorem bmax2 (k k' : IntKind) (x y : Int) : Builtin.max2 (.int k x) (.int k' y) = pure (.int k (if x < y then y else x)) := by simp only [Builtin.max2, gt_iff_lt]
theorem bmin2 (k k' : IntKind) (x y : Int) : Builtin.min2 (.int k x) (.int k' y) = pure (.int k (if y < x then y else x)) := by simp only [Builtin.min2]
theorem bmax_two (ats : Array TypeId) (ty : TypeId) (a b : Value) : Builtin.max_ ats ty #[a, b] = (Builtin.max2 a b >>= fun s => pure s) := by simp only [Builtin.max_, List.foldlM_cons, List.foldlM_nil]
theorem bmin_two (ats : Array TypeId) (ty : TypeId) (a b : Value) : Builtin.min_ ats ty #[a, b] = (Builtin.min2 a b >>= fun s => pure s) := by simp only [Builtin.min_, List.foldlM_cons, List.foldlM_nil]

/-- The world at a call under a letter. -/
theorem at_world {P : Program} {f : FuncId} {args : Array Value} {w : World} {R : Ending → World → Prop} (h : ∀ W, W = w → Calls P f args W R) : Calls P f args w R := h w rfl

/-- The world at a piece of code under a letter. -/
theorem at_wp {P : Program} {c : Code} {Q : Exit → Act → World → Prop} {a : Act} {w : World} (h : ∀ W, W = w → c.wp P Q a W) : c.wp P Q a w := h w rfl

/-- Block g is just the cells cs. -/
def Blk (w : World) (g : Nat) (t : TypeId) (cs : Array Value) : Prop := w.heap[g]? = some (.cells cs t (0, 0))
section
variable {w w' : World} {g : Nat} {t : TypeId} {cs : Array Value}
theorem Blk.lt (h : Blk w g t cs) : g < w.heap.size := (Array.getElem?_eq_some_iff.1 h).1
theorem Blk.new2 (w : World) (t t' : TypeId) (cs cs' : Array Value) : Blk ((w.alloc (.cells cs t)).alloc (.cells cs' t')) w.heap.size t cs ∧ Blk ((w.alloc (.cells cs t)).alloc (.cells cs' t')) (w.heap.size + 1) t' cs' := by
  have h1 : Blk (w.alloc (.cells cs t)) w.heap.size t cs := heap_alloc_new w _
  have h2 : Blk ((w.alloc (.cells cs t)).alloc (.cells cs' t')) (w.alloc (.cells cs t)).heap.size t' cs' := heap_alloc_new _ _
  exact ⟨(Below.heap_alloc _ _ _ (by simp)).trans h1, by simpa using h2⟩
theorem Blk.cell (h : Blk w g t cs) (i : Nat) : w.cell? ⟨g, i, none⟩ = cs[i]? := cell_of_row w g i cs t (0, 0) h
theorem Blk.frozen (h : Blk w g t cs) (i : Nat) : w.frozen? ⟨g, i, none⟩ = false := by
  unfold Blk at h
  simp [World.frozen?, h]
theorem Blk.new (w : World) (t : TypeId) (cs : Array Value) : Blk (w.alloc (.cells cs t)) w.heap.size t cs := heap_alloc_new w _
theorem Blk.alloc (h : Blk w g t cs) (o : Obj) : Blk (w.alloc o) g t cs := (Below.heap_alloc w o g h.lt).trans h
theorem Blk.drew (h : Blk w g t cs) : Blk w.drew g t cs := h
theorem Blk.drewN (h : Blk w g t cs) (n : Nat) : Blk (w.drewN n) g t cs := h
theorem Blk.set_ (h : Blk w g t cs) (i : Nat) (u : Value) : Blk (w.setCell ⟨g, i, none⟩ u) g t (cs.setIfInBounds i u) := by
  unfold Blk at h ⊢
  simp [World.setCell, Array.getElem?_modify, h]
theorem Blk.far (h : Blk w g t cs) {p : Addr} (hp : p.block ≠ g) (u : Value) : Blk (w.setCell p u) g t cs := (Below.heap_setCell w p u g (Ne.symm hp)).trans h
theorem Blk.below {B : Nat} (h : Blk w g t cs) (hb : Below B w w') (hg : g < B) : Blk w' g t cs := (hb.block g hg).trans h
theorem Blk.on (h : Blk w g t cs) (hb : Below w.heap.size w w') : Blk w' g t cs := h.below hb h.lt
theorem Blk.grown {row : Option Nat} (h : Blk w g t cs) (hb : w.grownBy w' row) (hg : some g ≠ row) : Blk w' g t cs := (hb.block g h.lt hg).trans h
/-- The cells of a block of three, of five. -/
theorem Blk.c3 {a b c : Value} (h : Blk w g t #[a, b, c]) : w.cell? ⟨g, 0, none⟩ = some a ∧ w.cell? ⟨g, 1, none⟩ = some b ∧ w.cell? ⟨g, 2, none⟩ = some c := ⟨h.cell 0, h.cell 1, h.cell 2⟩
theorem Blk.c5 {a b c d e : Value} (h : Blk w g t #[a, b, c, d, e]) : w.cell? ⟨g, 0, none⟩ = some a ∧ w.cell? ⟨g, 1, none⟩ = some b ∧ w.cell? ⟨g, 2, none⟩ = some c ∧ w.cell? ⟨g, 3, none⟩ = some d ∧ w.cell? ⟨g, 4, none⟩ = some e :=
  ⟨h.cell 0, h.cell 1, h.cell 2, h.cell 3, h.cell 4⟩
theorem Blk.fz (h : Blk w g t cs) : ∀ i, w.frozen? ⟨g, i, none⟩ = false := h.frozen
end
theorem Blk.at_ {W W' : World} {o : Obj} {g : Nat} {t : TypeId} {cs : Array Value} (e : W' = W.alloc o) (h : Blk W g t cs) : Blk W' g t cs := e ▸ h.alloc o
theorem Blk.newAt {W W' : World} {t : TypeId} {cs : Array Value} (e : W' = W.alloc (.cells cs t)) : Blk W' W.heap.size t cs := e ▸ Blk.new W t cs
theorem Blk.new2At {W W' : World} {t t' : TypeId} {cs cs' : Array Value} (e : W' = (W.alloc (.cells cs t)).alloc (.cells cs' t')) : Blk W' W.heap.size t cs ∧ Blk W' (W.heap.size + 1) t' cs' := e ▸ Blk.new2 W t t' cs cs'
theorem size_at {W W' : World} {o : Obj} (e : W' = W.alloc o) : W'.heap.size = W.heap.size + 1 := by rw [e]; simp
theorem size_at2 {W W' : World} {o o' : Obj} (e : W' = (W.alloc o).alloc o') : W'.heap.size = W.heap.size + 1 + 1 := by rw [e]; simp
theorem below_at {w W W' : World} {o : Obj} (e : W' = W.alloc o) (h : Below w.heap.size w W) : Below w.heap.size w W' := e ▸ below_alloc h o
theorem below_at2 {w W W' : World} {o o' : Obj} (e : W' = (W.alloc o).alloc o') (h : Below w.heap.size w W) : Below w.heap.size w W' := e ▸ below_alloc (below_alloc h o) o'
theorem grown_set (w : World) (p : Addr) (u : Value) : w.grownBy (w.setCell p u) (some p.block) :=
  ⟨rfl, rfl, rfl, by simp [World.setCell], fun i _ hi => Below.heap_setCell w p u i (fun e => hi (by rw [e]))⟩
theorem grown_then {a b c : World} {row : Option Nat} (h : a.grownBy b row) (k : b.grownBy c row) : a.grownBy c row :=
  ⟨k.os.trans h.os, k.tape.trans h.tape, k.output.trans h.output, Nat.le_trans h.size k.size, fun i hi hn => (k.block i (Nat.lt_of_lt_of_le hi h.size) hn).trans (h.block i hi hn)⟩
/-- Five cells stored into one block. -/
theorem store5 {w W : World} {g t : Nat} {a0 b0 c0 d0 e0 a b c d e : Value} (hb : Blk w g t #[a0, b0, c0, d0, e0])
    (hW : W = ((((w.setCell ⟨g, 0, none⟩ a).setCell ⟨g, 1, none⟩ b).setCell ⟨g, 2, none⟩ c).setCell ⟨g, 3, none⟩ d).setCell ⟨g, 4, none⟩ e) :
    w.grownBy W (some g) ∧ Blk W g t #[a, b, c, d, e] := by
  subst hW
  refine ⟨grown_then (grown_then (grown_then (grown_then (grown_set w ⟨g, 0, none⟩ a) (grown_set _ ⟨g, 1, none⟩ b)) (grown_set _ ⟨g, 2, none⟩ c)) (grown_set _ ⟨g, 3, none⟩ d)) (grown_set _ ⟨g, 4, none⟩ e), ?_⟩
  have := ((((hb.set_ 0 a).set_ 1 b).set_ 2 c).set_ 3 d).set_ 4 e
  simpa using this
theorem store3 {w W : World} {g t : Nat} {a0 b0 c0 a b c : Value} (hb : Blk w g t #[a0, b0, c0])
    (hW : W = ((w.setCell ⟨g, 0, none⟩ a).setCell ⟨g, 1, none⟩ b).setCell ⟨g, 2, none⟩ c) :
    w.grownBy W (some g) ∧ Blk W g t #[a, b, c] := by
  subst hW
  refine ⟨grown_then (grown_then (grown_set w ⟨g, 0, none⟩ a) (grown_set _ ⟨g, 1, none⟩ b)) (grown_set _ ⟨g, 2, none⟩ c), ?_⟩
  have := ((hb.set_ 0 a).set_ 1 b).set_ 2 c
  simpa using this
abbrev set5 (w : World) (g : Nat) (a b c d e : Value) : World := ((((w.setCell ⟨g, 0, none⟩ a).setCell ⟨g, 1, none⟩ b).setCell ⟨g, 2, none⟩ c).setCell ⟨g, 3, none⟩ d).setCell ⟨g, 4, none⟩ e
theorem set5_is {w : World} {g t : Nat} {a0 b0 c0 d0 e0 : Value} (hb : Blk w g t #[a0, b0, c0, d0, e0]) (a b c d e : Value) : w.grownBy (set5 w g a b c d e) (some g) ∧ Blk (set5 w g a b c d e) g t #[a, b, c, d, e] := store5 hb rfl
theorem MapAt_ne_Blk {w : World} {g : Nat} {t : TypeId} {cs : Array Value} {b : Nat} {m : Array MapEntry} {c : Nat} (h : Blk w g t cs) (hm : w.heap[b]? = some (.map m c)) : b ≠ g := by
  rintro rfl
  unfold Blk at h
  rw [h] at hm
  cases hm

def mapD (es : AL) : DataW Unit := .map (es.map fun p => (Lit.int .i64 p.1, .lit (.int .i64 p.2)))

theorem same_i64 (a k : Int) : Lit.sameKey (.int .i64 a) (.int .i64 k) = decide (a = k) := by simp [Lit.sameKey]

theorem mapD_find (es : AL) (k : Int) : (es.map fun p : Int × Int => ((Lit.int .i64 p.1, DataW.lit (.int .i64 p.2)) : Lit × DataW Unit)).find? (fun p => p.1.sameKey (.int .i64 k)) = (aget es k).map fun a => (Lit.int .i64 k, DataW.lit (.int .i64 a)) := by
  induction es with
  | nil => rfl
  | cons p r ih =>
    simp only [List.map_cons, List.find?_cons, same_i64, aget]
    by_cases h : p.1 = k
    · subst h; simp
    · simp [h, ih]
theorem mapD_atKey (es : AL) (k : Int) (z : DataW Unit) : (mapD es).atKey (.int .i64 k) z = match aget es k with | some a => .lit (.int .i64 a) | none => z := by
  unfold mapD DataW.atKey
  simp only [mapD_find]
  cases aget es k <;> rfl
theorem mapD_has (es : AL) (k : Int) : has (mapD es) (.int .i64 k) = (aget es k).isSome := by
  unfold mapD
  rw [has_eq]
  induction es with
  | nil => rfl
  | cons p r ih =>
    simp only [List.map_cons, List.any_cons, same_i64, aget, ih]
    by_cases h : p.1 = k <;> simp [h]
theorem mapD_size (es : AL) : Maps.size (mapD es) = es.length := by simp [mapD, Maps.size]
theorem mapD_filter (es : AL) (k : Int) : (es.map fun p : Int × Int => ((Lit.int .i64 p.1, DataW.lit (.int .i64 p.2)) : Lit × DataW Unit)).filter (fun p => !p.1.sameKey (.int .i64 k)) = (adel es k).map fun p => (Lit.int .i64 p.1, DataW.lit (.int .i64 p.2)) := by
  unfold adel
  rw [List.filter_map]
  congr 1
  apply List.filter_congr
  intro p _
  simp [same_i64]
theorem mapD_insert (x : Int × Int) (es : AL) : DataW.insert ((Lit.int .i64 x.1, DataW.lit (.int .i64 x.2)) : Lit × DataW Unit) (es.map fun p => (Lit.int .i64 p.1, DataW.lit (.int .i64 p.2))) = (ains x es).map fun p => (Lit.int .i64 p.1, DataW.lit (.int .i64 p.2)) := by
  induction es with
  | nil => rfl
  | cons p r ih =>
    simp only [List.map_cons, DataW.insert, ains, Lit.before, decide_eq_true_eq]
    split
    · rfl
    · simp only [List.map_cons, ih]
theorem mapD_put (es : AL) (k a : Int) : (mapD es).put (.int .i64 k) (.lit (.int .i64 a)) = mapD (aput es k a) := by
  unfold mapD DataW.put aput
  simp only [mapD_filter, mapD_insert (k, a)]
theorem mapD_del (es : AL) (k : Int) : (mapD es).del (.int .i64 k) = mapD (adel es k) := by
  unfold mapD DataW.del
  simp only [mapD_filter]

theorem keyLaw : Keyed Try.prog 3 := int_keyed Try.underlying3
theorem zeroInt (w : World) : (zeroValue 3).run Try.prog w = .ok (.int .i64 0) w := by kernel_rfl

theorem wf_small {a : Int} (h0 : -1000000000 ≤ a) (h1 : a ≤ 1000000000) : (Lit.int .i64 a).wf = true := WalkArith.wf_i64 (by omega)

/-- Block b is a map that holds es. -/
def MapAt (w : World) (b : Nat) (es : AL) : Prop := Asc es ∧ w.ownsMap Try.prog 3 (plainElem Try.prog 3) b es.length (mapD es)

theorem tight {w : World} {b n : Nat} {R : Value → Option (DataW Unit × List MemPlace)} {D : DataW Unit} (h : w.ownsMap Try.prog 3 R b n D) : w.ownsMap Try.prog 3 R b (Maps.size D) D := by
  obtain ⟨es, clock, hb, F, hs, rfl⟩ := h
  exact ⟨es, clock, hb, F, by simp [Maps.size, length_sorted], rfl⟩

section
variable {w w' : World} {b : Nat} {es : AL}
theorem MapAt.of_owns {n : Nat} (ha : Asc es) (h : w.ownsMap Try.prog 3 (plainElem Try.prog 3) b n (mapD es)) : MapAt w b es := ⟨ha, by have := tight h; rwa [mapD_size] at this⟩
theorem MapAt.lt (h : MapAt w b es) : b < w.heap.size := h.2.lt
theorem MapAt.kept {row : Option Nat} (h : MapAt w b es) (hg : w.grownBy w' row) (hne : some b ≠ row) : MapAt w' b es := ⟨h.1, h.2.kept hg hne⟩
theorem MapAt.alloc (h : MapAt w b es) (o : Obj) : MapAt (w.alloc o) b es := ⟨h.1, h.2.alloc o⟩
theorem MapAt.drew (h : MapAt w b es) : MapAt w.drew b es := h
theorem MapAt.below (h : MapAt w b es) (hb : Below w.heap.size w w') : MapAt w' b es := h.kept (grown_of_below hb) (by simp)
theorem MapAt.far (h : MapAt w b es) {p : Addr} (hp : p.block ≠ b) (u : Value) : MapAt (w.setCell p u) b es :=
  h.kept (row := some p.block) ⟨rfl, rfl, rfl, by simp [World.setCell], fun i _ hi => Below.heap_setCell w p u i (fun e => hi (by rw [e]))⟩ (fun e => hp (by injection e with e; exact e.symm))
theorem MapAt.made (w : World) : MapAt (w.alloc (.map #[] 0)) w.heap.size [] := ⟨asc_nil, World.ownsMap_made w _ _ _⟩
end

theorem MapAt.ne {w : World} {b : Nat} {es : AL} {g : Nat} {t : TypeId} {cs : Array Value} (h : MapAt w b es) (hb : Blk w g t cs) : b ≠ g := by
  obtain ⟨_, es', clock, hm, _⟩ := h
  exact MapAt_ne_Blk hb hm

/-- A map value, nil let in, that holds es. -/
def MapIs (w : World) (p : Option Nat) (es : AL) : Prop := (p = none ∧ es = []) ∨ ∃ b, p = some b ∧ MapAt w b es
section
variable {w w' : World} {p : Option Nat} {es : AL}
theorem MapIs.nil_ (w : World) : MapIs w none [] := .inl ⟨rfl, rfl⟩
theorem MapIs.asc (h : MapIs w p es) : Asc es := by
  rcases h with ⟨_, rfl⟩ | ⟨b, _, h⟩
  · exact asc_nil
  · exact h.1
theorem MapIs.below (h : MapIs w p es) (hb : Below w.heap.size w w') : MapIs w' p es := by
  rcases h with h | ⟨b, e, h⟩
  · exact .inl h
  · exact .inr ⟨b, e, h.below hb⟩
theorem MapIs.alloc (h : MapIs w p es) (o : Obj) : MapIs (w.alloc o) p es := h.below ((Below.refl _ _).alloc (Nat.le_refl _) o)
theorem MapIs.drew (h : MapIs w p es) : MapIs w.drew p es := h
theorem MapIs.far (h : MapIs w p es) {a : Addr} (hp : p ≠ some a.block) (u : Value) : MapIs (w.setCell a u) p es := by
  rcases h with h | ⟨b, rfl, h⟩
  · exact .inl h
  · exact .inr ⟨b, rfl, h.far (fun e => hp (by rw [e])) u⟩
theorem MapIs.lt (h : MapIs w p es) : ∀ b, p = some b → b < w.heap.size := by
  rcases h with ⟨rfl, _⟩ | ⟨b, rfl, h⟩
  · intro b hb; cases hb
  · intro b' hb; cases hb; exact h.lt
theorem MapIs.kept {row : Option Nat} (h : MapIs w p es) (hg : w.grownBy w' row) (hne : p = none ∨ p ≠ row) : MapIs w' p es := by
  rcases h with h | ⟨b, rfl, h⟩
  · exact .inl h
  · exact .inr ⟨b, rfl, h.kept hg (hne.resolve_left (by simp))⟩
end

theorem MapAt.at_ {W W' : World} {o : Obj} {b : Nat} {es : AL} (e : W' = W.alloc o) (h : MapAt W b es) : MapAt W' b es := e ▸ h.alloc o
theorem MapIs.at_ {W W' : World} {o : Obj} {p : Option Nat} {es : AL} (e : W' = W.alloc o) (h : MapIs W p es) : MapIs W' p es := e ▸ h.alloc o
theorem MapIs.at2 {W W' : World} {o o' : Obj} {p : Option Nat} {es : AL} (e : W' = (W.alloc o).alloc o') (h : MapIs W p es) : MapIs W' p es := e ▸ (h.alloc o).alloc o'
theorem MapAt.at2 {W W' : World} {o o' : Obj} {p : Nat} {es : AL} (e : W' = (W.alloc o).alloc o') (h : MapAt W p es) : MapAt W' p es := e ▸ (h.alloc o).alloc o'

theorem MapIs.ne {w : World} {p : Option Nat} {es : AL} {g t : Nat} {cs : Array Value} (h : MapIs w p es) (hb : Blk w g t cs) : p ≠ some g := by
  rcases h with ⟨rfl, _⟩ | ⟨b, rfl, h⟩
  · simp
  · intro e; injection e with e; exact h.ne hb e
theorem MapIs.store {w w' : World} {p : Option Nat} {es : AL} {g t : Nat} {cs : Array Value} (h : MapIs w p es) (hg : w.grownBy w' (some g)) (hb : Blk w g t cs) : MapIs w' p es := h.kept hg (.inr (h.ne hb))

/-! ### at the operations -/
section
variable (w : World) {ops : Array Oper} {rest : List Oper} {o : Oper} {a : Act} {Q : Exit → Act → World → Prop}

/-- v, ok := m[k] -/
theorem wp_look (hg : o.guard = none) (m x : Operand) (t : TypeId) (hop : o.op = Op.lookup t m x true) (ht : Try.prog.underlying t = some (.map 3 3)) {p : Option Nat} {es : AL}
    (hm : a.eval m = .map p) (hI : MapIs w p es) (k : Int) (hx : a.eval x = .int .i64 k) (hk : (Lit.int .i64 k).wf = true)
    (hK : wpList Try.prog ops Q rest (a.put o.dst (.tuple #[.int .i64 ((aget es k).getD 0), .bool (aget es k).isSome])) w) :
    wpList Try.prog ops Q (o :: rest) a w := by
  rcases hI with ⟨rfl, rfl⟩ | ⟨b, rfl, hI⟩
  · refine wpList_plain hg fun K' hK' => ?_
    have hrun := Maps.look_nil (w := w) true keyLaw ht (zeroInt w) (keyOf_int_mk Try.underlying3 hk)
    unfold Oper.wp
    simp [execOp, hop, hm, hx, hrun, Result.andThen]
    exact hK' _ _ hK
  · refine wpList_lookup_own_ok_int w hg m x t hop 3 3 .i64 keyLaw ht Try.underlying3 (zeroInt w) b _ _ hm hI.2 _ _ hx (keyOf_int_mk Try.underlying3 hk) ?_
    intro c hat _
    rw [mapD_atKey] at hat
    rw [mapD_has]
    cases hg : aget es k with
    | none => rw [hg] at hat hK; simp only [DataW.lit.injEq, Lit.int.injEq, true_and] at hat; subst hat; exact hK
    | some c' => rw [hg] at hat hK; simp only [DataW.lit.injEq, Lit.int.injEq, true_and] at hat; subst hat; exact hK

/-- m[k] = v -/
theorem wp_store (hg : o.guard = none) (m x v : Operand) (t : TypeId) (hop : o.op = Op.mapUpdate t m x v) (ht : Try.prog.underlying t = some (.map 3 3)) {b : Nat} {es : AL}
    (hm : a.eval m = .map (some b)) (hI : MapAt w b es) (hn : es.length ≤ 1000000) (k c : Int) (hx : a.eval x = .int .i64 k) (hv : a.eval v = .int .i64 c) (hk : (Lit.int .i64 k).wf = true) (hc : (Lit.int .i64 c).wf = true)
    (hK : ∀ w', MapAt w' b (aput es k c) → w.grownBy w' (some b) → wpList Try.prog ops Q rest (a.put o.dst undef) w') :
    wpList Try.prog ops Q (o :: rest) a w := by
  refine wpList_mapUpdate_own w hg m x v t hop 3 3 keyLaw ht (plainElem Try.prog 3) b _ _ hm hI.2 (by unfold maxLen; omega) _ _ _ hx hv (keyOf_int_mk Try.underlying3 hk) _ [] (plainElem_int Try.underlying3 hc) ?_
  intro w' hown hgr
  rw [mapD_put] at hown
  exact hK w' (MapAt.of_owns (asc_put hI.1 k c) hown) hgr

/-- delete(m, k) -/
theorem wp_del (hg : o.guard = none) (m x : Operand) (t : TypeId) (hop : o.op = Op.call { callee := Callee.builtin Builtin.delete, args := #[m, x], argTypes := #[t, 3] }) (ht : Try.prog.underlying t = some (.map 3 3)) {b : Nat} {es : AL}
    (hm : a.eval m = .map (some b)) (hI : MapAt w b es) (k : Int) (hx : a.eval x = .int .i64 k) (hk : (Lit.int .i64 k).wf = true)
    (hK : ∀ w', MapAt w' b (adel es k) → w.grownBy w' (some b) → wpList Try.prog ops Q rest (a.put o.dst (.tuple #[])) w') :
    wpList Try.prog ops Q (o :: rest) a w := by
  refine wpList_delete_own w hg m x t 3 hop 3 keyLaw ht (plainElem Try.prog 3) b _ _ hm hI.2 _ _ hx (keyOf_int_mk Try.underlying3 hk) ?_
  intro w' hown hturn
  rw [mapD_del] at hown
  exact hK w' (MapAt.of_owns (asc_del hI.1 k) hown) hturn.grown
end

/-! ### ranging -/
/-- for k, v := range m, m a map value that holds es: block r is its iterator; left: which keys are still to come; cnt: how many. -/
def Rng (w : World) (p : Option Nat) (r : Nat) (es : AL) (left : Int → Bool) (cnt : Nat) : Prop :=
  Asc es ∧ ((p = none ∧ es = [] ∧ w.heap[r]? = some (.mapIter none 0 #[] 0) ∧ cnt = 0 ∧ ∀ k, left k = false) ∨
    ∃ b lf, p = some b ∧ (∀ k, lf (.int .i64 k) = left k) ∧ w.ranges Try.prog 3 (plainElem Try.prog 3) b r es.length (mapD es) lf cnt)
/-- The loop's measure. -/
def rngM (p : Option Nat) (r : Nat) (w : World) : Nat := match p with | none => 0 | some b => w.rangeLeft b r
section
variable {w w' : World} {p : Option Nat} {r cnt : Nat} {es : AL} {left : Int → Bool}
theorem Rng.m (h : Rng w p r es left cnt) : rngM p r w = cnt := by
  rcases h.2 with ⟨rfl, _, _, rfl, _⟩ | ⟨b, lf, rfl, _, h⟩
  · rfl
  · exact h.left_eq
theorem Rng.lt (h : Rng w p r es left cnt) : r < w.heap.size := by
  rcases h.2 with ⟨_, _, h, _⟩ | ⟨b, lf, rfl, _, h⟩
  · exact (Array.getElem?_eq_some_iff.1 h).1
  · exact h.lt
theorem Rng.is (h : Rng w p r es left cnt) : MapIs w p es := by
  rcases h.2 with ⟨rfl, rfl, _⟩ | ⟨b, lf, rfl, _, hr⟩
  · exact .inl ⟨rfl, rfl⟩
  · exact .inr ⟨b, rfl, MapAt.of_owns h.1 hr.owns⟩
theorem Rng.ne (h : Rng w p r es left cnt) : p ≠ some r := by
  rcases h.2 with ⟨rfl, _, _⟩ | ⟨b, lf, rfl, _, h⟩
  · simp
  · intro e; injection e with e; exact h.ne e.symm
theorem Rng.neBlk {g : Nat} {t : TypeId} {cs : Array Value} (h : Rng w p r es left cnt) (hb : Blk w g t cs) : r ≠ g := by
  rintro rfl
  unfold Blk at hb
  rcases h.2 with ⟨_, _, hr, _⟩ | ⟨b, lf, _, _, es', clock, since, seen, c0, _, _, _, _, hr, _⟩
  · rw [hb] at hr; cases hr
  · rw [hb] at hr; cases hr
theorem Rng.neMap {b : Nat} {es' : AL} (h : Rng w p r es left cnt) (hb : MapAt w b es') : r ≠ b := by
  rintro rfl
  obtain ⟨_, es2, clock2, hm, _⟩ := hb
  rcases h.2 with ⟨_, _, hr, _⟩ | ⟨b, lf, _, _, es', clock, since, seen, c0, _, _, _, _, hr, _⟩
  · rw [hm] at hr; cases hr
  · rw [hm] at hr; cases hr
theorem Rng.kept {row : Option Nat} (h : Rng w p r es left cnt) (hg : w.grownBy w' row) (h1 : p = none ∨ p ≠ row) (h2 : some r ≠ row) : Rng w' p r es left cnt := by
  refine ⟨h.1, ?_⟩
  have hlt := h.lt
  rcases h.2 with ⟨rfl, he, hr, hc⟩ | ⟨b, lf, rfl, hl, hr⟩
  · exact .inl ⟨rfl, he, (hg.block r hlt h2).trans hr, hc⟩
  · exact .inr ⟨b, lf, rfl, hl, hr.kept hg (h1.resolve_left (by simp)) h2⟩
theorem Rng.below (h : Rng w p r es left cnt) (hb : Below w.heap.size w w') : Rng w' p r es left cnt := h.kept (grown_of_below hb) (by cases p <;> simp) (by simp)
end
section
variable (w : World) {ops : Array Oper} {rest : List Oper} {o : Oper} {a : Act} {Q : Exit → Act → World → Prop}
theorem grown_alloc (w : World) (o : Obj) : w.grownBy (w.alloc o) none := World.grownBy_alloc w o none

/-- range m -/
theorem wp_range (hg : o.guard = none) (m : Operand) (t : TypeId) (hop : o.op = Op.range t m) (ht : Try.prog.underlying t = some (.map 3 3)) {p : Option Nat} {es : AL}
    (hm : a.eval m = .map p) (hI : MapIs w p es)
    (hK : ∀ w', Rng w' p w.heap.size es (fun k => (aget es k).isSome) es.length → Below w.heap.size w w' → w.heap.size < w'.heap.size → wpList Try.prog ops Q rest (a.put o.dst (.pointer (some ⟨w.heap.size, 0, none⟩))) w') :
    wpList Try.prog ops Q (o :: rest) a w := by
  rcases hI with ⟨rfl, rfl⟩ | ⟨b, rfl, hI⟩
  · refine wpList_plain hg fun K' hK' => ?_
    have hrun := run_range_nilMap (P := Try.prog) w t _ _ ht
    unfold Oper.wp
    simp [execOp, hop, hm, hrun, Result.andThen]
    exact hK' _ _ (hK _ ⟨asc_nil, .inl ⟨rfl, rfl, (MapKept.heap_alloc w _).1, rfl, fun _ => rfl⟩⟩ ((Below.refl _ _).alloc (Nat.le_refl _) _) (by simp))
  · refine wpList_range_own w hg m t hop 3 3 keyLaw ht _ b _ _ hm hI.2 ?_
    intro w' hr hgr hs
    rw [mapD_size] at hr
    exact hK w' ⟨hI.1, .inr ⟨b, _, rfl, fun k => mapD_has es k, hr⟩⟩ (below_of_grown hgr) (by omega)

/-- the step -/
theorem wp_next (hg : o.guard = none) (it : Operand) (hop : o.op = Op.next it false) {p : Option Nat} {r cnt : Nat} {es : AL} {left : Int → Bool} (hit : a.eval it = .pointer (some ⟨r, 0, none⟩)) (h : Rng w p r es left cnt)
    (hDone : (∀ k, left k = false) → wpList Try.prog ops Q rest (a.put o.dst (.tuple #[.bool false])) w)
    (hMore : ∀ (x c : Int) (w' : World) (cnt' : Nat), left x = true → aget es x = some c → (Lit.int .i64 x).wf = true → (Lit.int .i64 c).wf = true → Rng w' p r es (fun k => left k && !decide (k = x)) cnt' → cnt' < cnt →
      w.grownBy w' (some r) → w'.heap.size = w.heap.size → (Instr.entry (.pointer (some ⟨r, 0, none⟩))).run Try.prog w' = .ok (.tuple #[.int .i64 x, .int .i64 c]) w' → wpList Try.prog ops Q rest (a.put o.dst (.tuple #[.bool true, .int .i64 x, .int .i64 c])) w') :
    wpList Try.prog ops Q (o :: rest) a w := by
  obtain ⟨ha, h⟩ := h
  rcases h with ⟨rfl, rfl, hr, rfl, h0⟩ | ⟨b, lf, rfl, hl, hr⟩
  · refine wpList_plain hg fun K' hK' => ?_
    have hrun : (Instr.next (.pointer (some ⟨r, 0, none⟩)) false o.type).run Try.prog w = .ok (.tuple #[.bool false]) w := by
      simp only [Instr.next, getObj, Sem.run_bind, Sem.run, hr, Result.andThen]
      rfl
    unfold Oper.wp
    simp [execOp, hop, hit, hrun, Result.andThen]
    exact hK' _ _ (hDone h0)
  · refine wpList_next_ranges_ii w hg it hop 3 3 .i64 .i64 keyLaw Try.underlying3 Try.underlying3 b r _ _ _ _ hit hr ?_ ?_
    · intro _ h0
      exact hDone (fun k => by rw [← hl, h0])
    · intro x c w' cnt' hx hc hlx hat hr' hlt hgr hs hen
      refine hMore x c w' cnt' (by rw [← hl]; exact hlx) ?_ hx hc ⟨ha, .inr ⟨b, _, rfl, fun k => ?_, hr'⟩⟩ hlt hgr hs hen
      · have h1 := hat .nil
        rw [mapD_atKey] at h1
        cases hg : aget es x with
        | none => rw [hg] at h1; cases h1
        | some c' => rw [hg] at h1; simp only [DataW.lit.injEq, Lit.int.injEq, true_and] at h1; rw [h1]
      · simp only [hl, same_i64]
end
end Go.Proofs.Ytihmiokejhnicaa
