/- Association lists over Int keys in rising order: look-up, store, delete, and that two that agree at every key are one. Plain Lean: no program. -/
namespace Go.Proofs.Ytihmiokejhnicaa

abbrev AL := List (Int × Int)

def aget : AL → Int → Option Int
  | [], _ => none
  | p :: r, k => if p.1 = k then some p.2 else aget r k

def ains (x : Int × Int) : AL → AL
  | [] => [x]
  | y :: r => if x.1 < y.1 then x :: y :: r else y :: ains x r

def adel (l : AL) (k : Int) : AL := l.filter fun p => !decide (p.1 = k)
def aput (l : AL) (k a : Int) : AL := ains (k, a) (adel l k)

def Asc (l : AL) : Prop := l.Pairwise fun p q => p.1 < q.1

theorem asc_nil : Asc [] := List.Pairwise.nil
theorem asc_filter {l : AL} (h : Asc l) (f : Int × Int → Bool) : Asc (l.filter f) := List.Pairwise.filter f h
theorem asc_del {l : AL} (h : Asc l) (k : Int) : Asc (adel l k) := asc_filter h _

theorem aget_none_of {l : AL} {k : Int} (h : ∀ p ∈ l, p.1 ≠ k) : aget l k = none := by
  induction l with
  | nil => rfl
  | cons p r ih =>
    simp only [aget]
    rw [if_neg (h p (by simp)), ih (fun q hq => h q (by simp [hq]))]

theorem aget_mem {l : AL} {k a : Int} (h : aget l k = some a) : (k, a) ∈ l := by
  induction l with
  | nil => simp [aget] at h
  | cons p r ih =>
    simp only [aget] at h
    split at h
    · rename_i e
      injection h with h
      subst e; subst h
      exact List.mem_cons_self
    · exact List.mem_cons_of_mem _ (ih h)

theorem aget_of_mem {l : AL} (hs : Asc l) {p : Int × Int} (h : p ∈ l) : aget l p.1 = some p.2 := by
  induction l with
  | nil => simp at h
  | cons q r ih =>
    obtain ⟨h1, h2⟩ := List.pairwise_cons.1 hs
    simp only [aget]
    rcases List.mem_cons.1 h with rfl | h
    · rw [if_pos rfl]
    · have := h1 p h
      rw [if_neg (by omega), ih h2 h]

theorem aget_none_iff {l : AL} {k : Int} : aget l k = none ↔ ∀ p ∈ l, p.1 ≠ k := by
  constructor
  · intro h p hp e
    induction l with
    | nil => simp at hp
    | cons q r ih =>
      simp only [aget] at h
      split at h
      · cases h
      · rcases List.mem_cons.1 hp with rfl | hp
        · contradiction
        · exact ih h hp
  · exact aget_none_of

theorem mem_ains {x y : Int × Int} {l : AL} : y ∈ ains x l ↔ y = x ∨ y ∈ l := by
  induction l with
  | nil => simp [ains]
  | cons q r ih =>
    simp only [ains]
    split
    · simp
    · simp only [List.mem_cons, ih]
      constructor
      · rintro (h | h | h)
        · exact .inr (.inl h)
        · exact .inl h
        · exact .inr (.inr h)
      · rintro (h | h | h)
        · exact .inr (.inl h)
        · exact .inl h
        · exact .inr (.inr h)

theorem asc_ains {x : Int × Int} {l : AL} (h : Asc l) (hx : ∀ p ∈ l, p.1 ≠ x.1) : Asc (ains x l) := by
  induction l with
  | nil => exact List.pairwise_singleton _ _
  | cons q r ih =>
    obtain ⟨h1, h2⟩ := List.pairwise_cons.1 h
    have hq := hx q (by simp)
    simp only [ains]
    split
    · rename_i hlt
      refine List.pairwise_cons.2 ⟨fun p hp => ?_, h⟩
      rcases List.mem_cons.1 hp with rfl | hp
      · exact hlt
      · have := h1 p hp; omega
    · rename_i hge
      refine List.pairwise_cons.2 ⟨fun p hp => ?_, ih h2 (fun p hp => hx p (by simp [hp]))⟩
      rcases mem_ains.1 hp with rfl | hp
      · omega
      · exact h1 p hp

theorem mem_adel {l : AL} {k : Int} {p : Int × Int} : p ∈ adel l k ↔ p ∈ l ∧ p.1 ≠ k := by simp [adel]
theorem mem_aput {l : AL} {k a : Int} {p : Int × Int} : p ∈ aput l k a ↔ p = (k, a) ∨ (p ∈ l ∧ p.1 ≠ k) := by rw [aput, mem_ains, mem_adel]
theorem asc_put {l : AL} (h : Asc l) (k a : Int) : Asc (aput l k a) := asc_ains (asc_del h k) (fun p hp => (mem_adel.1 hp).2)

theorem aget_eq_of {l : AL} (h : Asc l) {k a : Int} : aget l k = some a ↔ (k, a) ∈ l := ⟨aget_mem, fun hm => aget_of_mem h hm⟩

theorem aget_put {l : AL} (h : Asc l) (k a x : Int) : aget (aput l k a) x = if x = k then some a else aget l x := by
  split
  · rename_i e
    subst e
    exact (aget_eq_of (asc_put h x a)).2 (mem_aput.2 (.inl rfl))
  · rename_i e
    cases hg : aget l x with
    | none =>
      refine aget_none_of (fun p hp => ?_)
      rcases mem_aput.1 hp with rfl | ⟨hp, _⟩
      · exact fun h => e h.symm
      · exact aget_none_iff.1 hg p hp
    | some b => exact (aget_eq_of (asc_put h k a)).2 (mem_aput.2 (.inr ⟨aget_mem hg, e⟩))

theorem aget_del {l : AL} (h : Asc l) (k x : Int) : aget (adel l k) x = if x = k then none else aget l x := by
  split
  · rename_i e
    subst e
    exact aget_none_of (fun p hp => (mem_adel.1 hp).2)
  · rename_i e
    cases hg : aget l x with
    | none => exact aget_none_of (fun _ hp => aget_none_iff.1 hg _ (mem_adel.1 hp).1)
    | some b => exact (aget_eq_of (asc_del h k)).2 (mem_adel.2 ⟨aget_mem hg, e⟩)

/-- Two that agree at every key are one. -/
theorem al_ext : ∀ {l m : AL}, Asc l → Asc m → (∀ k, aget l k = aget m k) → l = m
  | [], [], _, _, _ => rfl
  | [], q :: r, _, _, h => by have := h q.1; simp [aget] at this
  | p :: r, [], _, _, h => by have := h p.1; simp [aget] at this
  | p :: r, q :: s, hl, hm, h => by
    obtain ⟨l1, l2⟩ := List.pairwise_cons.1 hl
    obtain ⟨m1, m2⟩ := List.pairwise_cons.1 hm
    have hp : p ∈ q :: s := by
      have := h p.1
      rw [aget_of_mem hl (p := p) (by simp)] at this
      exact aget_mem this.symm
    have hq : q ∈ p :: r := by
      have := h q.1
      rw [aget_of_mem hm (p := q) (by simp)] at this
      exact aget_mem this
    have e : p = q := by
      rcases List.mem_cons.1 hp with e | hp
      · exact e
      · rcases List.mem_cons.1 hq with e | hq
        · exact e.symm
        · have := m1 p hp; have := l1 q hq; omega
    subst e
    rw [al_ext l2 m2 (fun k => ?_)]
    have := h k
    simp only [aget] at this
    by_cases e : p.1 = k
    · subst e
      rw [aget_none_of (fun x hx => by have := l1 x hx; omega), aget_none_of (fun x hx => by have := m1 x hx; omega)]
    · rwa [if_neg e, if_neg e] at this

/-- Keys stay, values turn, some entries go: f says what becomes of (k, a). -/
def afm (f : Int → Int → Option Int) (l : AL) : AL := l.filterMap fun p => (f p.1 p.2).map fun b => (p.1, b)

theorem mem_afm {f : Int → Int → Option Int} {l : AL} {p : Int × Int} : p ∈ afm f l ↔ ∃ a, (p.1, a) ∈ l ∧ f p.1 a = some p.2 := by
  simp only [afm, List.mem_filterMap, Option.map_eq_some_iff]
  constructor
  · rintro ⟨q, hq, b, hb, rfl⟩
    exact ⟨q.2, hq, hb⟩
  · rintro ⟨a, ha, hf⟩
    exact ⟨(p.1, a), ha, p.2, hf, rfl⟩

theorem asc_afm {f : Int → Int → Option Int} {l : AL} (h : Asc l) : Asc (afm f l) := by
  unfold afm Asc
  rw [List.pairwise_filterMap]
  refine h.imp ?_
  intro p q hpq x hx y hy
  obtain ⟨_, _, rfl⟩ := Option.map_eq_some_iff.1 hx
  obtain ⟨_, _, rfl⟩ := Option.map_eq_some_iff.1 hy
  exact hpq

theorem aget_afm {f : Int → Int → Option Int} {l : AL} (h : Asc l) (k : Int) : aget (afm f l) k = (aget l k).bind (f k) := by
  cases hg : aget l k with
  | none =>
    refine aget_none_of (fun p hp e => ?_)
    obtain ⟨a, ha, _⟩ := mem_afm.1 hp
    exact aget_none_iff.1 hg _ ha e
  | some a =>
    show _ = f k a
    cases hf : f k a with
    | some _ => exact (aget_eq_of (asc_afm h)).2 (mem_afm.2 ⟨a, aget_mem hg, hf⟩)
    | none =>
      refine aget_none_of (fun p hp e => ?_)
      obtain ⟨a', ha', hf'⟩ := mem_afm.1 hp
      rw [e] at ha' hf'
      have := aget_of_mem h ha'
      simp only at this
      rw [hg] at this
      injection this with this
      subst this
      rw [hf] at hf'
      cases hf'

theorem afm_some (l : AL) : afm (fun _ a => some a) l = l := by
  unfold afm
  simp

theorem fm_congr {α β : Type} {f g : α → Option β} {l : List α} (h : ∀ x ∈ l, f x = g x) : l.filterMap f = l.filterMap g := by
  induction l with
  | nil => rfl
  | cons a r ih =>
    simp only [List.filterMap_cons, h a (by simp), ih (fun x hx => h x (by simp [hx]))]
/-- The step of a loop over es that lays what becomes of each entry into a copy: left: what is still to come. -/
def aPart (f : Int → Int → Option Int) (left : Int → Bool) (l : AL) : AL := afm (fun k a => if left k then some a else f k a) l
theorem aPart_start (f : Int → Int → Option Int) (l : AL) (left : Int → Bool) (h : ∀ p ∈ l, left p.1 = true) : aPart f left l = l := by
  have e : aPart f left l = l.filterMap some := by
    unfold aPart afm
    apply fm_congr
    intro p hp
    simp [h p hp]
  rw [e, List.filterMap_some]
theorem aPart_end (f : Int → Int → Option Int) (l : AL) (left : Int → Bool) (h : ∀ k, left k = false) : aPart f left l = afm f l := by
  unfold aPart afm
  apply fm_congr
  intro p _
  simp [h]
theorem asc_part {f : Int → Int → Option Int} {left : Int → Bool} {l : AL} (h : Asc l) : Asc (aPart f left l) := asc_afm h
theorem aget_part {f : Int → Int → Option Int} {left : Int → Bool} {l : AL} (h : Asc l) (k : Int) : aget (aPart f left l) k = (aget l k).bind (fun a => if left k then some a else f k a) := aget_afm h k
/-- The entry stays as it is. -/
theorem aPart_keep {f : Int → Int → Option Int} {left : Int → Bool} {l : AL} (h : Asc l) {x c : Int} (hg : aget l x = some c) (hl : left x = true) (hf : f x c = some c) : aPart f left l = aPart f (fun k => left k && !decide (k = x)) l := by
  refine al_ext (asc_part h) (asc_part h) (fun k => ?_)
  rw [aget_part h, aget_part h]
  by_cases e : k = x
  · subst e; simp [hg, hl, hf]
  · simp [e]
/-- The entry gets another value. -/
theorem aPart_put {f : Int → Int → Option Int} {left : Int → Bool} {l : AL} (h : Asc l) {x c d : Int} (hg : aget l x = some c) (hf : f x c = some d) : aput (aPart f left l) x d = aPart f (fun k => left k && !decide (k = x)) l := by
  refine al_ext (asc_put (asc_part h) _ _) (asc_part h) (fun k => ?_)
  rw [aget_put (asc_part h), aget_part h, aget_part h]
  by_cases e : k = x
  · subst e; simp [hg, hf]
  · simp [e]
/-- The entry goes (behind a store at its key, or not). -/
theorem aPart_del {f : Int → Int → Option Int} {left : Int → Bool} {l : AL} (h : Asc l) {x c : Int} (hg : aget l x = some c) (hf : f x c = none) : adel (aPart f left l) x = aPart f (fun k => left k && !decide (k = x)) l := by
  refine al_ext (asc_del (asc_part h) _) (asc_part h) (fun k => ?_)
  rw [aget_del (asc_part h), aget_part h, aget_part h]
  by_cases e : k = x
  · subst e; simp [hg, hf]
  · simp [e]
theorem aPart_putdel {f : Int → Int → Option Int} {left : Int → Bool} {l : AL} (h : Asc l) {x c d : Int} (hg : aget l x = some c) (hf : f x c = none) : adel (aput (aPart f left l) x d) x = aPart f (fun k => left k && !decide (k = x)) l := by
  rw [← aPart_del h hg hf]
  refine al_ext (asc_del (asc_put (asc_part h) _ _) _) (asc_del (asc_part h) _) (fun k => ?_)
  rw [aget_del (asc_put (asc_part h) _ _), aget_del (asc_part h), aget_put (asc_part h)]
  by_cases e : k = x <;> simp [e]
theorem length_part_le (f : Int → Int → Option Int) (left : Int → Bool) (l : AL) : (aPart f left l).length ≤ l.length := List.length_filterMap_le _ _

theorem length_ains (x : Int × Int) (l : AL) : (ains x l).length = l.length + 1 := by
  induction l with
  | nil => rfl
  | cons y r ih => simp only [ains]; split <;> simp [ih]
theorem length_put_le (l : AL) (k a : Int) : (aput l k a).length ≤ l.length + 1 := by
  rw [aput, length_ains]
  have := List.length_filter_le (fun p : Int × Int => !decide (p.1 = k)) l
  simp only [adel]; omega
theorem length_del_le (l : AL) (k : Int) : (adel l k).length ≤ l.length := List.length_filter_le _ _
theorem length_afm_le (f : Int → Int → Option Int) (l : AL) : (afm f l).length ≤ l.length := List.length_filterMap_le _ _

/-- All keys lie in a range, all values below W. -/
def Good (W : Int) (l : AL) : Prop := Asc l ∧ ∀ p ∈ l, 0 ≤ p.1 ∧ p.1 ≤ 1000000 ∧ 0 ≤ p.2 ∧ p.2 < W
theorem good_nil (W : Int) : Good W [] := ⟨asc_nil, by simp⟩
theorem Good.put {W : Int} {l : AL} (h : Good W l) {k a : Int} (h0 : 0 ≤ k) (h1 : k ≤ 1000000) (h2 : 0 ≤ a) (h3 : a < W) : Good W (aput l k a) :=
  ⟨asc_put h.1 k a, fun p hp => by
    rcases mem_aput.1 hp with rfl | ⟨hp, _⟩
    · exact ⟨h0, h1, h2, h3⟩
    · exact h.2 p hp⟩
theorem Good.del {W : Int} {l : AL} (h : Good W l) (k : Int) : Good W (adel l k) := ⟨asc_del h.1 k, fun p hp => h.2 p (mem_adel.1 hp).1⟩
theorem Good.afm {W : Int} {l : AL} (h : Good W l) {f : Int → Int → Option Int} (hf : ∀ k a b, (k, a) ∈ l → f k a = some b → 0 ≤ b ∧ b < W) : Good W (afm f l) :=
  ⟨asc_afm h.1, fun p hp => by
    obtain ⟨a, ha, hb⟩ := mem_afm.1 hp
    have := h.2 _ ha
    have := hf _ _ _ ha hb
    simp only at *
    omega⟩
theorem Good.get {W : Int} {l : AL} (h : Good W l) {k a : Int} (hg : aget l k = some a) : 0 ≤ k ∧ k ≤ 1000000 ∧ 0 ≤ a ∧ a < W := h.2 _ (aget_mem hg)
theorem Good.mono {W W' : Int} {l : AL} (h : Good W l) (hw : W ≤ W') : Good W' l := ⟨h.1, fun p hp => by have := h.2 p hp; omega⟩

end Go.Proofs.Ytihmiokejhnicaa
