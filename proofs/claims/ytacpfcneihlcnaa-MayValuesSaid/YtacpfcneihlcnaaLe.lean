/- States that describe more: the order of states, kept by accesses; the join of a smaller one. -/
import Derived.Test.YtacpfcneihlcnaaJo
set_option linter.unusedVariables false
set_option linter.unusedSimpArgs false
namespace Go.Proofs.Ytacpfcneihlcnaa
open Go.RowKit Go.Maps

def LeS (z x : MS) : Prop := z.1 = true ∨ (z.1 = false ∧ x.1 = false ∧ ∀ k a, aget x.2 k = some a → ∃ b, aget z.2 k = some b ∧ b ≤ a)
def Nrm (s : MS) : Prop := s.1 = true → s.2 = []
theorem le_refl_ (x : MS) : LeS x x := by
  obtain ⟨u, es⟩ := x
  cases u with
  | true => exact .inl rfl
  | false => exact .inr ⟨rfl, rfl, fun k a h => ⟨a, h, Int.le_refl _⟩⟩
theorem le_join {x y : MS} (hx : Asc x.2) (hy : Asc y.2) : LeS (joinS x y) x := by
  unfold joinS
  split
  · exact .inl rfl
  · rename_i h
    refine .inr ⟨rfl, by cases hx1 : x.1 <;> simp_all, fun k a hk => ?_⟩
    rw [aget_join hx _ hy, hk]
    cases aget y.2 k with
    | none => exact ⟨a, rfl, Int.le_refl _⟩
    | some b =>
      refine ⟨_, rfl, ?_⟩
      split <;> omega
theorem join_le {x z : MS} (h : LeS z x) (hn : Nrm z) (hx : Asc x.2) (hz : Asc z.2) : joinS x z = z := by
  obtain ⟨u, es⟩ := x
  obtain ⟨v, zs⟩ := z
  rcases h with h | ⟨h1, h2, h⟩
  · simp only at h
    subst h
    have := hn rfl
    simp only at this
    subst this
    simp [joinS]
  · simp only at h1 h2 h hx hz
    subst h1
    subst h2
    simp only [joinS, Bool.false_eq_true, or_self, if_false, Prod.mk.injEq, true_and]
    refine al_ext (asc_join hx zs) hz fun k => ?_
    rw [aget_join hx zs hz]
    cases hk : aget es k with
    | none => cases aget zs k <;> rfl
    | some a =>
      obtain ⟨b, hb, hle⟩ := h k a hk
      rw [hb]
      simp only [jget, Option.some.injEq]
      split <;> omega
theorem nrm_join (x y : MS) : Nrm (joinS x y) := by
  unfold joinS
  split
  · exact fun _ => rfl
  · exact fun h => by cases h
theorem nrm_acc {S W line : Int} {s : MS} (h : Nrm s) : Nrm (accS S W s line) := by
  unfold accS
  split
  · exact h
  · exact fun h => by cases h
theorem nrm_rng {S W lo hi : Int} {s : MS} (h : Nrm s) : Nrm (rngS S W s lo hi) := by
  unfold rngS rngS0
  generalize (if lo < 0 then 0 else lo) = l
  split
  · exact h
  · split
    · exact nrm_acc h
    · split
      · exact fun _ => rfl
      · exact fun h => by cases h
theorem nrm_step {S W lo hi : Int} {s : MS} (h : Nrm s) : Nrm (stepS S W s lo hi) := by
  unfold stepS
  split
  · exact nrm_acc h
  · exact nrm_rng h
theorem aget_acc {S W : Int} {es : AL} (h : Asc es) (line k : Int) : aget (accL S W es line) k = if k = line then some 0 else (aget es k).bind (accF S W line ((aget es line).getD W) k) := by
  unfold accL
  rw [aget_put (asc_afm h), aget_afm h]
theorem le_accL {S W line : Int} {es zs : AL} (he : Good W es) (hz : Good W zs) (h : ∀ k a, aget es k = some a → ∃ b, aget zs k = some b ∧ b ≤ a) :
    ∀ k a, aget (accL S W es line) k = some a → ∃ b, aget (accL S W zs line) k = some b ∧ b ≤ a := by
  have hh : (aget zs line).getD W ≤ (aget es line).getD W := by
    cases hg : aget es line with
    | some a =>
      obtain ⟨b, hb, hle⟩ := h line a hg
      rw [hb]
      exact hle
    | none =>
      cases hg2 : aget zs line with
      | none => exact Int.le_refl _
      | some b =>
        have := hz.get hg2
        simp only [Option.getD_some, Option.getD_none]
        omega
  intro k a hk
  rw [aget_acc he.1] at hk
  rw [aget_acc hz.1]
  generalize (aget zs line).getD W = hzz at hh ⊢
  have hb2 : ∀ b, aget zs k = some b → 0 ≤ b ∧ b < W := fun b hb => (hz.get hb).2.2
  by_cases e : k = line
  · rw [if_pos e] at hk ⊢
    exact ⟨a, hk, Int.le_refl _⟩
  · rw [if_neg e] at hk ⊢
    cases hg : aget es k with
    | none => rw [hg] at hk; cases hk
    | some c =>
      obtain ⟨d, hd, hle⟩ := h k c hg
      have hdW := hb2 d hd
      have hcW := (he.get hg).2.2
      rw [hg] at hk
      have hk' : accF S W line ((aget es line).getD W) k c = some a := hk
      have hxW : aget es line = none → (aget es line).getD W = W := fun h => by rw [h]; rfl
      generalize (aget es line).getD W = hx at hh hk'
      rw [hd]
      show ∃ b, accF S W line hzz k d = some b ∧ b ≤ a
      unfold accF at hk' ⊢
      by_cases hs : k % S = line % S
      · simp only [e, hs, ne_eq, not_true_eq_false, false_or] at hk' ⊢
        by_cases h1 : hx < c
        · rw [if_pos h1] at hk'
          cases hk'
          by_cases h2 : hzz < d
          · exact ⟨d, if_pos h2, hle⟩
          · exact ⟨d + 1, by rw [if_neg h2, if_neg (by omega)], by omega⟩
        · rw [if_neg h1] at hk'
          by_cases h3 : W ≤ c + 1
          · rw [if_pos h3] at hk'
            cases hk'
          · rw [if_neg h3] at hk'
            cases hk'
            by_cases h2 : hzz < d
            · exact ⟨d, if_pos h2, by omega⟩
            · exact ⟨d + 1, by rw [if_neg h2, if_neg (by omega)], by omega⟩
      · rw [if_pos (.inr (.inl hs))] at hk' ⊢
        cases hk'
        exact ⟨d, rfl, hle⟩
theorem aget_fill : ∀ (n : Nat) {es : AL} (lo : Int), Asc es → ∀ k, aget (fillL n es lo) k = if lo ≤ k ∧ k < lo + n then some 0 else aget es k
  | 0, es, lo, h, k => by
    rw [if_neg (by omega)]
    rfl
  | n + 1, es, lo, h, k => by
    show aget (fillL n (aput es lo 0) (lo + 1)) k = _
    rw [aget_fill n (lo + 1) (asc_put h lo 0) k, aget_put h]
    by_cases e : k = lo
    · subst e
      rw [if_neg (by omega), if_pos rfl, if_pos (by omega)]
    · by_cases e2 : lo + 1 ≤ k ∧ k < lo + 1 + n
      · rw [if_pos e2, if_pos (by omega)]
      · rw [if_neg e2, if_neg e, if_neg (by omega)]
theorem le_acc {S W line : Int} {x z : MS} (hx : Good W x.2) (hz : Good W z.2) (h : LeS z x) : LeS (accS S W z line) (accS S W x line) := by
  obtain ⟨u, es⟩ := x
  obtain ⟨v, zs⟩ := z
  rcases h with h | ⟨h1, h2, h⟩
  · simp only at h
    subst h
    exact .inl (by simp [accS])
  · simp only at h1 h2 h hx hz
    subst h1
    subst h2
    by_cases hl : line < 0
    · simp only [accS, hl, or_true, if_true]
      exact .inr ⟨rfl, rfl, h⟩
    · simp only [accS, hl, or_false, Bool.false_eq_true, if_false]
      exact .inr ⟨rfl, rfl, le_accL hx hz h⟩
theorem le_rng {S W lo hi : Int} {x z : MS} (hx : Good W x.2) (hz : Good W z.2) (h : LeS z x) : LeS (rngS S W z lo hi) (rngS S W x lo hi) := by
  unfold rngS rngS0
  generalize (if lo < 0 then 0 else lo) = l
  by_cases h1 : hi < l
  · rw [if_pos (.inr h1), if_pos (.inr h1)]
    exact h
  · rcases h with h | ⟨hz1, hx1, hh⟩
    · rw [if_pos (.inl h)]
      exact .inl h
    · rw [if_neg (show ¬(z.1 = true ∨ hi < l) by rw [hz1]; simp [h1]), if_neg (show ¬(x.1 = true ∨ hi < l) by rw [hx1]; simp [h1])]
      by_cases h2 : l = hi
      · rw [if_pos h2, if_pos h2]
        exact le_acc hx hz (.inr ⟨hz1, hx1, hh⟩)
      · rw [if_neg h2, if_neg h2]
        by_cases h3 : 64 ≤ hi - l
        · rw [if_pos h3]
          exact .inl rfl
        · rw [if_neg h3, if_neg h3]
          refine .inr ⟨rfl, rfl, fun k a hk => ?_⟩
          simp only at hk ⊢
          rw [aget_fill _ _ hx.1] at hk
          rw [aget_fill _ _ hz.1]
          split at hk
          · rename_i hc
            rw [if_pos hc]
            exact ⟨0, rfl, by cases hk; exact Int.le_refl _⟩
          · rename_i hc
            rw [if_neg hc]
            exact hh k a hk
theorem le_step {S W lo hi : Int} {x z : MS} (hx : Good W x.2) (hz : Good W z.2) (h : LeS z x) : LeS (stepS S W z lo hi) (stepS S W x lo hi) := by
  unfold stepS
  split
  · exact le_acc hx hz h
  · exact le_rng hx hz h
theorem nrm_walk {S W : Int} : ∀ (l : List (Int × Int)) (s : MS), Nrm s → Nrm (walkS S W s l)
  | [], _, h => h
  | x :: l, s, h => nrm_walk l _ (nrm_step h)
end Go.Proofs.Ytacpfcneihlcnaa
