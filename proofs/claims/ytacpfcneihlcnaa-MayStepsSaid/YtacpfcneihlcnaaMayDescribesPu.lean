/- The reference's functions, as printed: what they compute on lists. Plain Lean. -/
import Derived.Test.YtacpfcneihlcnaaPMayDescribesx4
import Derived.Test.YtacpfcneihlcnaaMc
set_option linter.unusedVariables false
set_option linter.unusedSimpArgs false
namespace Go.Proofs.Ytacpfcneihlcnaa.MayDescribesu
open Go.RowKit Go.Proofs.Ytacpfcneihlcnaa.PMayDescribes Go.Proofs.YtacpfcneihlcnaaW.PrintWords

/-- The reference's lines. -/
def mkL (es : AL) : List S81 := es.map fun p => ⟨p.1, p.2⟩
theorem mkL_length (es : AL) : (mkL es).length = es.length := by simp [mkL]
theorem rd_mkL (es : AL) (i : Nat) (h : i < es.length) : rd_T81 (mkL es) (i : Int) = ⟨(es[i]).1, (es[i]).2⟩ := by
  simp [rd_T81, mkL, List.getD_eq_getElem?_getD, List.getElem?_eq_getElem h]
theorem wrap_small {i : Int} (h0 : -1 ≤ i) (h1 : i ≤ 1000000000) : wrap64 (i + 1) = i + 1 := by unfold wrap64; omega

theorem age_l0 (es : AL) (x S W L : Int) (u : Bool) (hn : es.length ≤ 1000000) : ∀ (d k i : Nat), i ≤ es.length → es.length - i = d → d < k →
    ontimeref31_State_Age.l0 k x (i : Int) S W L u (mkL es) = some ((aget (es.drop i) x).getD (-1)) := by
  intro d
  induction d with
  | zero =>
    intro k i hi hd hk
    obtain ⟨k, rfl⟩ : ∃ m, k = m + 1 := ⟨k - 1, by omega⟩
    simp only [ontimeref31_State_Age.l0, mkL_length]
    rw [if_neg (by omega), List.drop_of_length_le (by omega)]
    rfl
  | succ d ih =>
    intro k i hi hd hk
    obtain ⟨k, rfl⟩ : ∃ m, k = m + 1 := ⟨k - 1, by omega⟩
    have hlt : i < es.length := by omega
    simp only [ontimeref31_State_Age.l0, mkL_length]
    rw [if_pos (by omega), if_pos (by omega), rd_mkL es i hlt, List.drop_eq_getElem_cons hlt]
    simp only [aget]
    split
    · rfl
    · rw [wrap_small (by omega) (by omega)]
      exact ih k (i + 1) (by omega) (by omega) (by omega)
theorem age_f (es : AL) (x S W L : Int) (u : Bool) (hn : es.length ≤ 1000000) (k : Nat) (hk : es.length < k) :
    ontimeref31_State_Age.f k S W L u (mkL es) x = some ((aget es x).getD (-1)) := by
  have := age_l0 es x S W L u hn es.length k 0 (by omega) (by omega) (by omega)
  simpa [ontimeref31_State_Age.f] using this

theorem mkL_snoc (es : AL) (a b : Int) : mkL es ++ [(⟨a, b⟩ : S81)] = mkL (es ++ [(a, b)]) := by simp [mkL]

theorem adel_cons (p : Int × Int) (r : AL) (k : Int) : adel (p :: r) k = if p.1 = k then adel r k else p :: adel r k := by
  unfold adel
  rw [List.filter_cons]
  by_cases h : p.1 = k <;> simp [h]

theorem put_l0_true (es : AL) (line age S W L S' W' L' : Int) (u u' : Bool) (hn : es.length ≤ 1000000) : ∀ (d k i : Nat) (acc : AL), i ≤ es.length → es.length - i = d → 2 * d < k → acc.length ≤ i + 1 →
    ontimeref31_State_Put.l0 k line age true (i : Int) S W L u (mkL es) S' W' L' u' (mkL acc) = some (S', W', L', u', mkL (acc ++ adel (es.drop i) line)) := by
  intro d
  induction d with
  | zero =>
    intro k i acc hi hd hk ha
    obtain ⟨k, rfl⟩ : ∃ m, k = m + 1 := ⟨k - 1, by omega⟩
    simp only [ontimeref31_State_Put.l0, mkL_length]
    rw [if_neg (by omega), if_pos (by trivial), List.drop_of_length_le (by omega)]
    simp [adel]
  | succ d ih =>
    intro k i acc hi hd hk ha
    obtain ⟨k, rfl⟩ : ∃ m, k = m + 1 + 1 := ⟨k - 2, by omega⟩
    have hlt : i < es.length := by omega
    simp only [ontimeref31_State_Put.l0, mkL_length]
    rw [if_pos (by omega), if_pos (by omega), if_pos (by trivial)]
    simp only [ontimeref31_State_Put.j1]
    rw [if_neg (by simp), rd_mkL es i hlt, List.drop_eq_getElem_cons hlt, adel_cons]
    simp only [mkL_length]
    split
    · rw [wrap_small (by omega) (by omega)]
      exact ih k (i + 1) acc (by omega) (by omega) (by omega) (by omega)
    · rw [if_pos (by omega), wrap_small (by omega) (by omega), mkL_snoc]
      have := ih k (i + 1) (acc ++ [((es[i]).1, (es[i]).2)]) (by omega) (by omega) (by omega) (by simp; omega)
      rw [List.append_assoc] at this
      exact this

theorem ains_lt {x : Int × Int} {l : AL} (h : ∀ p ∈ l, x.1 < p.1) : ains x l = x :: l := by
  cases l with
  | nil => rfl
  | cons p r => simp only [ains]; rw [if_pos (h p (by simp))]

theorem put_l0_false (es : AL) (hs : Asc es) (line age S W L S' W' L' : Int) (u u' : Bool) (hn : es.length ≤ 1000000) : ∀ (d k i : Nat) (acc : AL), i ≤ es.length → es.length - i = d → 2 * d < k → acc.length ≤ i →
    ontimeref31_State_Put.l0 k line age false (i : Int) S W L u (mkL es) S' W' L' u' (mkL acc) = some (S', W', L', u', mkL (acc ++ aput (es.drop i) line age)) := by
  intro d
  induction d with
  | zero =>
    intro k i acc hi hd hk ha
    obtain ⟨k, rfl⟩ : ∃ m, k = m + 1 := ⟨k - 1, by omega⟩
    simp only [ontimeref31_State_Put.l0, mkL_length]
    rw [if_neg (by omega), if_neg (by simp), if_pos (by omega), List.drop_of_length_le (by omega), mkL_snoc]
    rfl
  | succ d ih =>
    intro k i acc hi hd hk ha
    obtain ⟨k, rfl⟩ : ∃ m, k = m + 1 + 1 := ⟨k - 2, by omega⟩
    have hlt : i < es.length := by omega
    simp only [ontimeref31_State_Put.l0, mkL_length]
    rw [if_pos (by omega), if_pos (by omega), if_neg (by simp), rd_mkL es i hlt]
    have hsd : Asc (es.drop i) := hs.sublist (List.drop_sublist _ _)
    rw [List.drop_eq_getElem_cons hlt] at hsd ⊢
    obtain ⟨h1, h2⟩ := List.pairwise_cons.1 hsd
    simp only [ontimeref31_State_Put.j1, mkL_length, ge_iff_le, decide_eq_true_eq]
    by_cases hle : line ≤ (es[i]).1
    · rw [if_pos hle, if_pos (by omega), Option.bind_some, mkL_snoc]
      have hgt : ∀ p ∈ adel (es.drop (i + 1)) line, line < p.1 := fun p hp => by
        have := h1 p (mem_adel.1 hp).1
        omega
      by_cases he : (es[i]).1 = line
      · rw [if_pos he, wrap_small (by omega) (by omega)]
        have := put_l0_true es line age S W L S' W' L' u u' hn d k (i + 1) (acc ++ [(line, age)]) (by omega) (by omega) (by omega) (by simp; omega)
        rw [aput, adel_cons, if_pos he, ains_lt hgt]
        rw [List.append_assoc] at this
        exact this
      · rw [if_neg he, if_pos (by rw [mkL_length]; simp; omega), wrap_small (by omega) (by omega), mkL_snoc]
        have := put_l0_true es line age S W L S' W' L' u u' hn d k (i + 1) (acc ++ [(line, age)] ++ [((es[i]).1, (es[i]).2)]) (by omega) (by omega) (by omega) (by simp; omega)
        rw [aput, adel_cons, if_neg he, ains_lt (fun p hp => by
          rcases List.mem_cons.1 hp with rfl | hp
          · show line < (es[i]).1
            omega
          · exact hgt p hp)]
        simp only [List.append_assoc] at this ⊢
        exact this
    · rw [if_neg hle, if_neg (by omega), if_pos (by omega), wrap_small (by omega) (by omega), mkL_snoc]
      have := ih k (i + 1) (acc ++ [((es[i]).1, (es[i]).2)]) (by omega) (by omega) (by omega) (by simp; omega)
      rw [aput, adel_cons, if_neg (by omega)]
      simp only [ains]
      rw [if_neg (by simp; omega)]
      rw [List.append_assoc] at this
      exact this

theorem put_f (es : AL) (hs : Asc es) (line age S W L : Int) (u : Bool) (hn : es.length ≤ 1000000) (k : Nat) (hk : 2 * es.length < k) :
    ontimeref31_State_Put.f k S W L u (mkL es) line age = some (S, W, L, false, mkL (aput es line age)) := by
  have := put_l0_false es hs line age S W L S W L u false hn es.length k 0 [] (by omega) (by omega) hk (by simp)
  simpa [ontimeref31_State_Put.f, mkL] using this

theorem afm_cons (f : Int → Int → Option Int) (p : Int × Int) (r : AL) : afm f (p :: r) = match f p.1 p.2 with | some b => (p.1, b) :: afm f r | none => afm f r := by
  unfold afm
  rw [List.filterMap_cons]
  cases f p.1 p.2 <;> rfl

theorem acc_l0 (es : AL) {W : Int} (hg : Good W es) (line h S L : Int) (u u' : Bool) (S' W' L' : Int) (hS : 1 ≤ S) (hW8 : W ≤ 8) (h0 : 0 ≤ line) (h1 : line ≤ 1000000) (hn : es.length ≤ 500000) : ∀ (d k i : Nat) (acc : AL), i ≤ es.length → es.length - i = d → 2 * d + 2 * es.length + 2 < k → acc.length ≤ i → Asc (acc ++ afm (accF S W line h) (es.drop i)) →
    ontimeref31_State_Access.l0 k line h (i : Int) S W L u (mkL es) S' W' L' u' (mkL acc) = some (S', W', L', false, mkL (aput (acc ++ afm (accF S W line h) (es.drop i)) line 0)) := by
  intro d
  induction d with
  | zero =>
    intro k i acc hi hd hk ha has
    obtain ⟨k, rfl⟩ : ∃ m, k = m + 1 := ⟨k - 1, by omega⟩
    rw [List.drop_of_length_le (by omega)] at has ⊢
    simp only [afm, List.filterMap_nil, List.append_nil] at has ⊢
    simp only [ontimeref31_State_Access.l0, mkL_length]
    rw [if_neg (by omega), put_f acc has line 0 S' W' L' u' (by omega) k (by omega)]
    rfl
  | succ d ih =>
    intro k i acc hi hd hk ha has
    obtain ⟨k, rfl⟩ : ∃ m, k = m + 1 + 1 := ⟨k - 2, by omega⟩
    have hlt : i < es.length := by omega
    have hb := hg.2 _ (List.getElem_mem hlt)
    rw [List.drop_eq_getElem_cons hlt, afm_cons] at has ⊢
    simp only [ontimeref31_State_Access.l0, mkL_length]
    rw [if_pos (by omega), if_pos (by omega), rd_mkL es i hlt]
    have keep : accF S W line h (es[i]).1 (es[i]).2 = some (es[i]).2 →
        ontimeref31_State_Access.j3 (k + 1) line h (i : Int) false S W L u (mkL es) S' W' L' u' (mkL acc) (es[i]).1 (es[i]).2 = some (S', W', L', false, mkL (aput (acc ++ match accF S W line h (es[i]).1 (es[i]).2 with | some b => ((es[i]).1, b) :: afm (accF S W line h) (es.drop (i + 1)) | none => afm (accF S W line h) (es.drop (i + 1))) line 0)) := by
      intro hf
      rw [hf] at has ⊢
      simp only [ontimeref31_State_Access.j3, mkL_length]
      rw [if_neg (by simp), if_pos (by omega), if_pos (by omega), wrap_small (by omega) (by omega), mkL_snoc]
      have := ih k (i + 1) (acc ++ [((es[i]).1, (es[i]).2)]) (by omega) (by omega) (by omega) (by simp; omega) (by simpa using has)
      simpa using this
    by_cases c1 : (es[i]).1 = line
    · rw [if_pos c1]
      exact keep (by simp [accF, c1])
    · rw [if_neg c1, if_neg (by omega)]
      rw [Int.tmod_eq_emod_of_nonneg hb.1, Int.tmod_eq_emod_of_nonneg h0]
      by_cases c2 : (es[i]).1 % S = line % S
      · rw [if_pos c2]
        by_cases c3 : (es[i]).2 ≤ h
        · rw [decide_eq_true c3]
          simp only [ontimeref31_State_Access.j3, mkL_length]
          rw [if_pos (by trivial), wrap_small (by omega) (by omega)]
          by_cases c4 : (es[i]).2 + 1 < W
          · have hf : accF S W line h (es[i]).1 (es[i]).2 = some ((es[i]).2 + 1) := by
              unfold accF
              rw [if_neg (by omega), if_neg (by omega)]
            rw [hf] at has ⊢
            rw [if_pos c4, if_pos (by omega), wrap_small (by omega) (by omega), mkL_snoc]
            have := ih k (i + 1) (acc ++ [((es[i]).1, (es[i]).2 + 1)]) (by omega) (by omega) (by omega) (by simp; omega) (by simpa using has)
            simpa using this
          · have hf : accF S W line h (es[i]).1 (es[i]).2 = none := by
              unfold accF
              rw [if_neg (by omega), if_pos (by omega)]
            rw [hf] at has ⊢
            rw [if_neg c4, wrap_small (by omega) (by omega)]
            exact ih k (i + 1) acc (by omega) (by omega) (by omega) (by omega) has
        · rw [decide_eq_false c3]
          exact keep (by unfold accF; rw [if_pos (by omega)])
      · rw [if_neg c2]
        exact keep (by unfold accF; rw [if_pos (by simp [c2])])

/-- The reference's Access is that of the state. -/
theorem acc_f (es : AL) {W : Int} (hg : Good W es) (line S L : Int) (u : Bool) (hS : 1 ≤ S) (hW : 1 ≤ W) (hW8 : W ≤ 8) (h1 : line ≤ 1000000) (hn : es.length ≤ 500000) (k : Nat) (hk : 4 * es.length + 8 < k) :
    ontimeref31_State_Access.f k S W L u (mkL es) line = some (S, W, L, (accS S W (u, es) line).1, mkL (accS S W (u, es) line).2) := by
  obtain ⟨k, rfl⟩ : ∃ m, k = m + 1 + 1 := ⟨k - 2, by omega⟩
  unfold ontimeref31_State_Access.f accS
  cases u with
  | true =>
    simp only [if_true, true_or]
    simp [ontimeref31_State_Access.j0]
  | false =>
    by_cases hl : line < 0
    · simp [ontimeref31_State_Access.j0, hl]
    · rw [if_neg (by simp), decide_eq_false hl, if_neg (by simpa using hl)]
      simp only [ontimeref31_State_Access.j0]
      rw [if_neg (by simp), age_f es line S W L false (by omega) (k + 1) (by omega), Option.bind_some]
      have key : ∀ h, (h = (aget es line).getD W) → ontimeref31_State_Access.j1 (k + 1) line h S W L false (mkL es) = some (S, W, L, false, mkL (accL S W es line)) := by
        intro h hh
        simp only [ontimeref31_State_Access.j1]
        have := acc_l0 es hg line h S L false false S W L hS hW8 (by omega) h1 hn es.length k 0 [] (by omega) (by omega) (by omega) (by simp) (by simpa using asc_afm hg.1)
        rw [show (0 : Int) = ((0 : Nat) : Int) from rfl]
        simpa [mkL, accL, hh] using this
      rcases hge : aget es line with _ | c
      · rw [if_pos (by simp)]
        exact key W (by rw [hge]; rfl)
      · have := hg.get hge
        simp only [Option.getD_some]
        rw [if_neg (by omega)]
        exact key c (by rw [hge]; rfl)

theorem range_l0 (hi S W L : Int) (h1 : hi ≤ 1000000) : ∀ (n k : Nat) (es : AL) (lo : Int) (u : Bool), Asc es → 0 ≤ lo → lo ≤ hi + 1 → (hi + 1 - lo).toNat = n → es.length + n ≤ 500000 → 2 * es.length + 4 * n + 4 < k → (n = 0 → u = false) →
    ontimeref31_State_AccessRange.l0 k hi lo S W L u (mkL es) = some (S, W, L, false, mkL (fillL n es lo)) := by
  intro n
  induction n with
  | zero =>
    intro k es lo u ha h0 h2 hn he hk hu
    obtain ⟨k, rfl⟩ : ∃ m, k = m + 1 := ⟨k - 1, by omega⟩
    simp only [ontimeref31_State_AccessRange.l0]
    rw [if_neg (by omega), hu rfl]
    rfl
  | succ n ih =>
    intro k es lo u ha h0 h2 hn he hk hu
    obtain ⟨k, rfl⟩ : ∃ m, k = m + 1 := ⟨k - 1, by omega⟩
    simp only [ontimeref31_State_AccessRange.l0]
    have hp := length_put_le es lo 0
    rw [if_pos (by omega), put_f es ha lo 0 S W L u (by omega) k (by omega), Option.bind_some, wrap_small (by omega) (by omega)]
    simp only
    rw [fillL]
    exact ih k (aput es lo 0) (lo + 1) false (asc_put ha _ _) (by omega) (by omega) (by omega) (by omega) (by omega) (fun _ => rfl)

/-- The reference's AccessRange is that of the state. -/
theorem range_f (es : AL) {W : Int} (hg : Good W es) (lo hi S L : Int) (u : Bool) (hS : 1 ≤ S) (hW : 1 ≤ W) (hW8 : W ≤ 8) (h0 : -1000000 ≤ hi) (h1 : hi ≤ 1000000) (hn : es.length ≤ 400000) (k : Nat) (hk : 4 * es.length + 300 < k) :
    ontimeref31_State_AccessRange.f k S W L u (mkL es) lo hi = some (S, W, L, (rngS S W (u, es) lo hi).1, mkL (rngS S W (u, es) lo hi).2) := by
  obtain ⟨k, rfl⟩ : ∃ m, k = m + 1 + 1 := ⟨k - 2, by omega⟩
  have key : ∀ l : Int, 0 ≤ l → ontimeref31_State_AccessRange.j0 (k + 1 + 1) l hi S W L u (mkL es) = some (S, W, L, (rngS0 S W (u, es) l hi).1, mkL (rngS0 S W (u, es) l hi).2) := by
    intro l hl
    unfold rngS0
    simp only [ontimeref31_State_AccessRange.j0]
    cases u with
    | true =>
      simp [ontimeref31_State_AccessRange.j1]
    | false =>
      rw [if_neg (by simp)]
      by_cases c : hi < l
      · simp [ontimeref31_State_AccessRange.j1, c]
      · rw [if_neg (by simpa using c)]
        have e : decide (l > hi) = false := by simpa using c
        simp only [ontimeref31_State_AccessRange.j1, e]
        rw [if_neg (by simp)]
        by_cases d : l = hi
        · subst d
          rw [if_pos (by trivial), if_pos (by trivial), acc_f es hg l S L false hS hW hW8 h1 (by omega) k (by omega)]
          rfl
        · rw [if_neg d, if_neg d]
          have hw : wrap64 (hi - l) = hi - l := by unfold wrap64; omega
          rw [hw]
          by_cases f : 64 ≤ hi - l
          · rw [if_pos f, if_pos f]
            rfl
          · rw [if_neg (by omega), if_neg f]
            have := range_l0 hi S W L h1 (hi - l + 1).toNat k es l false hg.1 hl (by omega) (by omega) (by omega) (by omega) (fun _ => rfl)
            exact this
  unfold ontimeref31_State_AccessRange.f rngS
  by_cases hl : lo < 0
  · rw [if_pos hl, if_pos hl]
    exact key 0 (by omega)
  · rw [if_neg hl, if_neg hl]
    exact key lo (by omega)

end Go.Proofs.Ytacpfcneihlcnaa.MayDescribesu
