/- States step by step: bounds. Plain Lean. -/
import Derived.Test.YtacpfcneihlcnaaMe
set_option linter.unusedVariables false
set_option linter.unusedSimpArgs false
namespace Go.Proofs.Ytacpfcneihlcnaa

theorem accF_bd {S W line h k a b : Int} (hk : 0 ≤ a ∧ a < W) (h' : accF S W line h k a = some b) : 0 ≤ b ∧ b < W := by
  unfold accF at h'
  split at h'
  · injection h' with h'; omega
  · split at h'
    · cases h'
    · injection h' with h'; omega
theorem good_accL {S W : Int} {es : AL} {line : Int} (hW : 1 ≤ W) (h : Good W es) (h0 : 0 ≤ line) (h1 : line ≤ 1000000) : Good W (accL S W es line) := by
  unfold accL
  refine Good.put (h.afm fun k a b hm hf => accF_bd ?_ hf) h0 h1 (Int.le_refl _) (by omega)
  have := h.2 _ hm
  exact ⟨this.2.2.1, this.2.2.2⟩
theorem length_accL (S W : Int) (es : AL) (line : Int) : (accL S W es line).length ≤ es.length + 1 := by
  unfold accL
  have := length_put_le (afm (accF S W line ((aget es line).getD W)) es) line 0
  have := length_afm_le (accF S W line ((aget es line).getD W)) es
  omega
theorem good_fill {W : Int} (hW : 1 ≤ W) : ∀ (n : Nat) (es : AL) (lo : Int), Good W es → 0 ≤ lo → lo + n ≤ 1000001 → Good W (fillL n es lo)
  | 0, es, lo, h, _, _ => h
  | n + 1, es, lo, h, h0, h1 => by
    rw [fillL]
    exact good_fill hW n _ _ (h.put h0 (by omega) (Int.le_refl _) (by omega)) (by omega) (by omega)

/-- A state is good: its lines are. -/
def GoodS (W : Int) (s : MS) : Prop := Good W s.2
theorem good_accS {S W : Int} {s : MS} {line : Int} (hW : 1 ≤ W) (h : Good W s.2) (h1 : line ≤ 1000000) : Good W (accS S W s line).2 := by
  unfold accS
  split
  · exact h
  · rename_i hh
    exact good_accL hW h (by have : ¬ line < 0 := fun x => hh (.inr x); omega) h1
theorem length_accS (S W : Int) (s : MS) (line : Int) : (accS S W s line).2.length ≤ s.2.length + 1 := by
  unfold accS
  split
  · omega
  · exact length_accL S W s.2 line
theorem good_rngS {S W : Int} {s : MS} {lo hi : Int} (hW : 1 ≤ W) (h : Good W s.2) (h1 : hi ≤ 1000000) : Good W (rngS S W s lo hi).2 := by
  unfold rngS rngS0
  generalize hl : (if lo < 0 then 0 else lo) = l
  have hlb : 0 ≤ l := by split at hl <;> omega
  split
  · exact h
  · rename_i hh
    have : ¬ hi < l := fun x => hh (.inr x)
    split
    · exact good_accS hW h (by omega)
    · split
      · exact good_nil W
      · exact good_fill hW _ _ _ h hlb (by omega)
theorem length_rngS (S W : Int) (s : MS) (lo hi : Int) : (rngS S W s lo hi).2.length ≤ s.2.length + 64 := by
  unfold rngS rngS0
  generalize hl : (if lo < 0 then 0 else lo) = l
  split
  · omega
  · split
    · have := length_accS S W s l; omega
    · split
      · simp
      · have := length_fill (hi - l + 1).toNat s.2 l
        simp only
        omega
theorem good_stepS {S W : Int} {s : MS} {lo hi : Int} (hW : 1 ≤ W) (h : Good W s.2) (h0 : lo ≤ 1000000) (h1 : hi ≤ 1000000) : Good W (stepS S W s lo hi).2 := by
  unfold stepS
  split
  · exact good_accS hW h h0
  · exact good_rngS hW h h1
theorem length_stepS (S W : Int) (s : MS) (lo hi : Int) : (stepS S W s lo hi).2.length ≤ s.2.length + 64 := by
  unfold stepS
  split
  · have := length_accS S W s lo; omega
  · exact length_rngS S W s lo hi

/-- The states along a list of steps (lo, hi). -/
def walkS (S W : Int) (s : MS) (l : List (Int × Int)) : MS := l.foldl (fun s x => stepS S W s x.1 x.2) s
theorem walkS_snoc (S W : Int) (s : MS) (l : List (Int × Int)) (x : Int × Int) : walkS S W s (l ++ [x]) = stepS S W (walkS S W s l) x.1 x.2 := by simp [walkS]
theorem walkS_good {S W : Int} (hW : 1 ≤ W) : ∀ (l : List (Int × Int)) (s : MS), Good W s.2 → (∀ x ∈ l, x.1 ≤ 1000000 ∧ x.2 ≤ 1000000) → Good W (walkS S W s l).2 ∧ (walkS S W s l).2.length ≤ s.2.length + 64 * l.length
  | [], s, h, _ => ⟨h, by simp [walkS]⟩
  | x :: r, s, h, hl => by
    have hx := hl x (by simp)
    have := walkS_good (S := S) hW r (stepS S W s x.1 x.2) (good_stepS hW h hx.1 hx.2) (fun y hy => hl y (by simp [hy]))
    have h2 := length_stepS S W s x.1 x.2
    have e : walkS S W s (x :: r) = walkS S W (stepS S W s x.1 x.2) r := rfl
    rw [e]
    refine ⟨this.1, ?_⟩
    have h3 := this.2
    simp only [List.length_cons]
    omega
end Go.Proofs.Ytacpfcneihlcnaa
