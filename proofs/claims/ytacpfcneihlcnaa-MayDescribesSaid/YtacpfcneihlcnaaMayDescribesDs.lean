/- The reference's Describes. -/
import Derived.Test.YtacpfcneihlcnaaPMayDescribesx5
import Derived.Test.YtacpfcneihlcnaaMayDescribesAf
set_option linter.unusedVariables false
set_option linter.unusedSimpArgs false
namespace Go.Proofs.Ytacpfcneihlcnaa.MayDescribesu
open Go.RowKit Go.Proofs.Ytacpfcneihlcnaa.PMayDescribes Go.Proofs.YtacpfcneihlcnaaW.PrintWords

def CellsFrom (es : AL) (ls : List (List Int)) (i j : Nat) : Prop := ∀ j', j ≤ j' → j' < (ls.getD i []).length → okAt es j' ((ls.getD i []).getD j' 0) = true
def RowsFrom (es : AL) (ls : List (List Int)) (i : Nat) : Prop := ∀ i', i ≤ i' → i' < ls.length → CellsFrom es ls i' 0
theorem rd_L (ls : List (List Int)) (i : Nat) : rd_L4 ls (i : Int) = ls.getD i [] := by simp [rd_L4]
theorem rd_I (xs : List Int) (i : Nat) : rd xs (i : Int) = xs.getD i 0 := by simp [rd]

theorem desc_loops (es : AL) {W : Int} (hg : Good W es) (ls : List (List Int)) (S W' L : Int) (u : Bool) (hn : es.length ≤ 400000) (hl : ls.length ≤ 1000) (h32 : ∀ i, (ls.getD i []).length ≤ 32) : ∀ m k : Nat, es.length + m + 2 < k →
    (∀ i : Nat, i ≤ ls.length → (ls.length - i) * 40 ≤ m → ∃ r, ontimeref31_Describes.l0 k ls (i : Int) S W' L u (mkL es) = some r ∧ (r = true ↔ (u = true ∨ RowsFrom es ls i))) ∧
    (∀ i j : Nat, i < ls.length → j ≤ (ls.getD i []).length → (ls.length - i - 1) * 40 + 39 - j ≤ m → ∃ r, ontimeref31_Describes.l1 k ls (i : Int) (j : Int) S W' L u (mkL es) = some r ∧ (r = true ↔ (u = true ∨ (CellsFrom es ls i j ∧ RowsFrom es ls (i + 1))))) := by
  intro m
  induction m with
  | zero =>
    intro k hk
    obtain ⟨k, rfl⟩ : ∃ m, k = m + 1 := ⟨k - 1, by omega⟩
    refine ⟨fun i hi hm => ?_, fun i j hi hj hm => ?_⟩
    · refine ⟨true, ?_, ?_⟩
      · simp only [ontimeref31_Describes.l0]
        rw [if_neg (by omega)]
      · simp only [true_iff]
        exact .inr (fun i' h1 h2 => absurd h2 (by omega))
    · have := h32 i; omega
  | succ m ih =>
    intro k hk
    obtain ⟨k, rfl⟩ : ∃ m, k = m + 1 := ⟨k - 1, by omega⟩
    obtain ⟨ih0, ih1⟩ := ih k (by omega)
    refine ⟨fun i hi hm => ?_, fun i j hi hj hm => ?_⟩
    · simp only [ontimeref31_Describes.l0]
      by_cases hlt : i < ls.length
      · rw [if_pos (by omega)]
        obtain ⟨r, hr, hp⟩ := ih1 i 0 hlt (Nat.zero_le _) (by omega)
        refine ⟨r, hr, hp.trans ?_⟩
        constructor
        · rintro (h | ⟨h1, h2⟩)
          · exact .inl h
          · refine .inr (fun i' h3 h4 => ?_)
            rcases Nat.eq_or_lt_of_le h3 with rfl | h5
            · exact h1
            · exact h2 i' h5 h4
        · rintro (h | h)
          · exact .inl h
          · exact .inr ⟨h i (Nat.le_refl _) hlt, fun i' h3 h4 => h i' (by omega) h4⟩
      · rw [if_neg (by omega)]
        refine ⟨true, rfl, ?_⟩
        simp only [true_iff]
        exact .inr (fun i' h1 h2 => absurd h2 (by omega))
    · simp only [ontimeref31_Describes.l1]
      have h3 := h32 i
      rw [if_pos (by omega), if_pos (by omega), rd_L]
      by_cases hjt : j < (ls.getD i []).length
      · rw [if_pos (by omega), if_pos (by omega), rd_I, age_f es _ S W' L u (by omega) k (by omega), Option.bind_some, wrap_small (by omega) (by omega)]
        obtain ⟨r, hr, hp⟩ := ih1 i (j + 1) hi hjt (by omega)
        cases u with
        | true => exact ⟨r, by rw [if_pos (by trivial)]; exact hr, hp.trans (by simp)⟩
        | false =>
          rw [if_neg (by simp)]
          simp only [Bool.false_eq_true, false_or] at hp ⊢
          rcases hge : aget es ((ls.getD i []).getD j 0) with _ | b
          · refine ⟨false, by simp, ?_⟩
            simp only [Bool.false_eq_true, false_iff]
            intro h
            have := h.1 j (Nat.le_refl _) hjt
            simp only [okAt, hge] at this
            cases this
          · have hb := hg.get hge
            simp only [Option.getD_some]
            rw [if_neg (by omega)]
            by_cases hbj : b > (j : Int)
            · rw [if_pos hbj]
              refine ⟨false, rfl, ?_⟩
              simp only [Bool.false_eq_true, false_iff]
              intro h
              have := h.1 j (Nat.le_refl _) hjt
              simp only [okAt, hge, decide_eq_true_eq] at this
              omega
            · rw [if_neg hbj]
              refine ⟨r, hr, hp.trans ?_⟩
              constructor
              · rintro ⟨h1, h2⟩
                refine ⟨fun j' h4 h5 => ?_, h2⟩
                rcases Nat.eq_or_lt_of_le h4 with rfl | h6
                · simp only [okAt, hge, decide_eq_true_eq]
                  omega
                · exact h1 j' h6 h5
              · rintro ⟨h1, h2⟩
                exact ⟨fun j' h4 h5 => h1 j' (by omega) h5, h2⟩
      · rw [if_neg (by omega), wrap_small (by omega) (by omega)]
        obtain ⟨r, hr, hp⟩ := ih0 (i + 1) (by omega) (by omega)
        refine ⟨r, hr, hp.trans ?_⟩
        constructor
        · rintro (h | h)
          · exact .inl h
          · exact .inr ⟨fun j' h4 h5 => absurd h5 (by omega), h⟩
        · rintro (h | h)
          · exact .inl h
          · exact .inr h.2

theorem desc_f (es : AL) {W : Int} (hg : Good W es) (ls : List (List Int)) (S L : Int) (u : Bool) (hn : es.length ≤ 400000) (hl : ls.length ≤ 1000) (h32 : ∀ i, (ls.getD i []).length ≤ 32) :
    ∃ k r, ontimeref31_Describes.f k S W L u (mkL es) ls = some r ∧ (r = true ↔ DescP S (u, es) ls) := by
  refine ⟨es.length + ls.length * 40 + 3, ?_⟩
  unfold ontimeref31_Describes.f DescP
  by_cases h : (ls.length : Int) = S
  · rw [if_pos h]
    obtain ⟨r, hr, hp⟩ := (desc_loops es hg ls S W L u hn hl h32 (ls.length * 40) (es.length + ls.length * 40 + 3) (by omega)).1 0 (Nat.zero_le _) (by omega)
    refine ⟨r, hr, hp.trans ?_⟩
    simp only [h, true_and]
    constructor
    · rintro (h | h)
      · exact .inl h
      · exact .inr (fun i hi k hk => h i (Nat.zero_le _) hi k (Nat.zero_le _) hk)
    · rintro (h | h)
      · exact .inl h
      · exact .inr (fun i _ hi k _ hk => h i hi k hk)
  · rw [if_neg h]
    refine ⟨false, rfl, ?_⟩
    simp only [Bool.false_eq_true, false_iff]
    exact fun hh => h hh.1

theorem r_describes {S W L : Int} {u : Bool} {es : AL} {A : Option Addr} {c : Nat} {w : World} (hg : Good W es) (hn : es.length ≤ 400000) (hR : Kd.C k81 w A es.length (mkL es)) (hc : es.length ≤ c) {A1 : Option Addr} {c1 : Nat} {ls : List (List Int)} (hl : ls.length ≤ 1000) (h32 : ∀ i, (ls.getD i []).length ≤ 32)
    (hC : Kd.C (Kd.slice 3 (Kd.int .i64)) w A1 ls.length ls) (hc1 : ls.length ≤ c1) :
    Calls Try.prog 16 #[.agg #[.int .i64 S, .int .i64 W, .int .i64 L, .bool u, .slice A es.length c], .slice A1 ls.length c1] w (DescPost S (u, es) ls w) := by
  obtain ⟨k, r, h, hr⟩ := desc_f es hg ls S L u hn hl h32
  have := ontimeref31_Describes.calls k S W L u A c (mkL es) A1 c1 ls r w (by rw [mkL_length]; exact hR) (by rw [mkL_length]; exact hc) hC hc1 h
  rw [mkL_length] at this
  exact this.mono fun e w' ⟨he, hb⟩ => ⟨r, he, hr, hb⟩
end Go.Proofs.Ytacpfcneihlcnaa.MayDescribesu
