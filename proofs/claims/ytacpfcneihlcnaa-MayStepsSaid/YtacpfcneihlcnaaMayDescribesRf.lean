/- The reference's functions by their printed contracts, told by association lists. -/
import Derived.Test.YtacpfcneihlcnaaPMayDescribesx3
import Derived.Test.YtacpfcneihlcnaaPMayDescribesx4
import Derived.Test.YtacpfcneihlcnaaMayDescribesPu
import Derived.Test.YtacpfcneihlcnaaSt
set_option linter.unusedVariables false
set_option linter.unusedSimpArgs false
namespace Go.Proofs.Ytacpfcneihlcnaa.MayDescribesu
open Go.RowKit Go.Proofs.Ytacpfcneihlcnaa.PMayDescribes Go.Proofs.YtacpfcneihlcnaaW.PrintWords

/-- All blocks stay but rows of lines. -/
def KeptT (w w' : World) : Prop := w.heap.size ≤ w'.heap.size ∧ ∀ k, k < w.heap.size → (∀ cells, w.heap[k]? ≠ some (.cells cells 81 (0, 0))) → w'.heap[k]? = w.heap[k]?
theorem KeptT.blk {w w' : World} (h : KeptT w w') {g t : Nat} {cs : Array Value} (hb : Blk w g t cs) (ht : t ≠ 81) : Blk w' g t cs :=
  (h.2 g hb.lt (fun cells e => by unfold Blk at hb; rw [hb] at e; injection e with e; injection e with _ e; exact ht e)).trans hb
theorem KeptT.mapAt {w w' : World} (h : KeptT w w') {b : Nat} {es : AL} (hm : MapAt w b es) : MapAt w' b es := by
  obtain ⟨ha, es', clock, hb, r⟩ := hm
  exact ⟨ha, es', clock, (h.2 b (Array.getElem?_eq_some_iff.1 hb).1 (fun cells e => by rw [hb] at e; cases e)).trans hb, r⟩
theorem KeptT.mapIs {w w' : World} (h : KeptT w w') {p : Option Nat} {es : AL} (hm : MapIs w p es) : MapIs w' p es := by
  rcases hm with hm | ⟨b, e, hm⟩
  · exact .inl hm
  · exact .inr ⟨b, e, h.mapAt hm⟩

/-- A row of the call's own that holds the lines es. -/
def LinesOwn (w : World) (base : Nat) (v : Value) (es : AL) : Prop := Kd.R k81 81 w base (fun _ => True) v (mkL es)
theorem LinesOwn.nil_ (w : World) (base : Nat) : LinesOwn w base (.slice none 0 0) [] := Kd.R_nil _ _ _ _ _
theorem LinesOwn.below {w w' : World} {base : Nat} {v : Value} {es : AL} (h : LinesOwn w base v es) (hb : Below w.heap.size w w') : LinesOwn w' base v es := Kd.R_below h hb
theorem LinesOwn.far {w : World} {base : Nat} {v : Value} {es : AL} {g t : Nat} {cs : Array Value} (h : LinesOwn w base v es) (hb : Blk w g t cs) (ht : t ≠ 81) (j : Nat) (u : Value) : LinesOwn (w.setCell ⟨g, j, none⟩ u) base v es :=
  Kd.R_set h hb (fun q hq => by
    have : q = 81 := by simpa [(show k81.E = [] from rfl)] using hq
    rw [this]; exact Ne.symm ht) j u
theorem LinesOwn.kept {w w' : World} {base : Nat} {v : Value} {es : AL} {row : Option Nat} (h : LinesOwn w base v es) (hg : w.grownBy w' row) (hr : ∀ k, row = some k → ∀ cells, w.heap[k]? ≠ some (.cells cells 81 (0, 0))) : LinesOwn w' base v es :=
  Kd.R_mono (Kd.R_grown (Kd.R_bound h) hg (fun k hk => by
    obtain ⟨_, _, _, q, hq, cells, hc⟩ := hk
    have : q = 81 := by simpa [(show k81.E = [] from rfl)] using hq
    subst this
    intro e
    exact hr k e.symm cells hc)) (fun _ _ => trivial)
theorem LinesOwn.store {w w' : World} {base : Nat} {v : Value} {es : AL} {g t : Nat} {cs : Array Value} (h : LinesOwn w base v es) (hg : w.grownBy w' (some g)) (hb : Blk w g t cs) (ht : t ≠ 81) : LinesOwn w' base v es :=
  h.kept hg (fun k hk cells e => by
    cases hk
    unfold Blk at hb
    rw [hb] at e
    injection e with e
    injection e with _ e
    exact ht e)
theorem LinesOwn.at_ {W W' : World} {o : Obj} {base : Nat} {v : Value} {es : AL} (e : W' = W.alloc o) (h : LinesOwn W base v es) : LinesOwn W' base v es := e ▸ h.below ((Below.refl _ _).alloc (Nat.le_refl _) _)
theorem LinesOwn.reads {w : World} {base : Nat} {v : Value} {es : AL} (h : LinesOwn w base v es) : ∃ A c, v = .slice A es.length c ∧ es.length ≤ c ∧ Kd.C k81 w A es.length (mkL es) := by
  have := Kd.R_reads h
  rwa [mkL_length] at this

theorem kept_of {w w' : World} {base : Nat} {v : Value} {es : AL} {P : Nat → Prop} (hP : ∀ k, P k → ∃ cells, w.heap[k]? = some (.cells cells 81 (0, 0))) (h : Kept w w' P) : KeptT w w' :=
  ⟨h.1, fun k hk hn => h.2 k hk (fun hp => by
    obtain ⟨cells, hc⟩ := hP k hp
    exact hn cells hc)⟩

theorem r_access {S W L : Int} {u : Bool} {es : AL} {v : Value} {line : Int} {w0 w : World} (hS : 1 ≤ S) (hW : 1 ≤ W) (hW8 : W ≤ 8) (hg : Good W es) (h1 : line ≤ 1000000) (hn : es.length ≤ 400000) (hB : Below w0.heap.size w0 w) (hR : LinesOwn w w0.heap.size v es) :
    Calls Try.prog 33 #[.agg #[.int .i64 S, .int .i64 W, .int .i64 L, .bool u, v], .int .i64 line] w fun e w' => ∃ v', e = .returned (.agg #[.int .i64 S, .int .i64 W, .int .i64 L, .bool (accS S W (u, es) line).1, v']) ∧ LinesOwn w' w0.heap.size v' (accS S W (u, es) line).2 ∧ Below w0.heap.size w0 w' ∧ KeptT w w' := by
  have h := acc_f es hg line S L u hS hW hW8 h1 (by omega) (4 * es.length + 9) (by omega)
  refine (ontimeref31_State_Access.calls _ S W L u _ v (mkL es) line _ _ _ _ _ w0 w hB (Kd.R_bound hR) h).mono ?_
  rintro e w' ⟨v', he, hr, hb, hk⟩
  exact ⟨v', he, Kd.R_mono hr (fun _ _ => trivial), hb, kept_of (base := 0) (v := v) (es := es) (fun k hk => by
    obtain ⟨_, _, _, q, hq, cells, hc⟩ := hk
    have : q = 81 := by simpa [(show k81.E = [] from rfl)] using hq
    subst this
    exact ⟨cells, hc⟩) hk⟩
theorem r_range {S W L : Int} {u : Bool} {es : AL} {v : Value} {lo hi : Int} {w0 w : World} (hS : 1 ≤ S) (hW : 1 ≤ W) (hW8 : W ≤ 8) (hg : Good W es) (h0 : -1000000 ≤ hi) (h1 : hi ≤ 1000000) (hn : es.length ≤ 400000) (hB : Below w0.heap.size w0 w) (hR : LinesOwn w w0.heap.size v es) :
    Calls Try.prog 34 #[.agg #[.int .i64 S, .int .i64 W, .int .i64 L, .bool u, v], .int .i64 lo, .int .i64 hi] w fun e w' => ∃ v', e = .returned (.agg #[.int .i64 S, .int .i64 W, .int .i64 L, .bool (rngS S W (u, es) lo hi).1, v']) ∧ LinesOwn w' w0.heap.size v' (rngS S W (u, es) lo hi).2 ∧ Below w0.heap.size w0 w' ∧ KeptT w w' := by
  have h := range_f es hg lo hi S L u hS hW hW8 h0 h1 hn (4 * es.length + 301) (by omega)
  refine (ontimeref31_State_AccessRange.calls _ S W L u _ v (mkL es) lo hi _ _ _ _ _ w0 w hB (Kd.R_bound hR) h).mono ?_
  rintro e w' ⟨v', he, hr, hb, hk⟩
  exact ⟨v', he, Kd.R_mono hr (fun _ _ => trivial), hb, kept_of (base := 0) (v := v) (es := es) (fun k hk => by
    obtain ⟨_, _, _, q, hq, cells, hc⟩ := hk
    have : q = 81 := by simpa [(show k81.E = [] from rfl)] using hq
    subst this
    exact ⟨cells, hc⟩) hk⟩
end Go.Proofs.Ytacpfcneihlcnaa.MayDescribesu
