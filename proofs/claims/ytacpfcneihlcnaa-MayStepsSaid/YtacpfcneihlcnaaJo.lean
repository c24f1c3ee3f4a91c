/- may: Join. -/
import Derived.Test.YtacpfcneihlcnaaSt
set_option linter.unusedVariables false
set_option linter.unusedSimpArgs false
namespace Go.Proofs.Ytacpfcneihlcnaa
open Go.RowKit Go.Maps

def jget (x y : Option Int) : Option Int := match x, y with | none, y => y | some a, none => some a | some a, some b => some (if b < a then b else a)
def joinL (es : AL) : AL → AL
  | [] => es
  | p :: t => aput (joinL es t) p.1 ((jget (aget (joinL es t) p.1) (some p.2)).getD 0)
theorem asc_join {es : AL} (h : Asc es) : ∀ fs, Asc (joinL es fs)
  | [] => h
  | p :: t => asc_put (asc_join h t) _ _
theorem aget_join {es : AL} (h : Asc es) : ∀ (fs : AL), Asc fs → ∀ k, aget (joinL es fs) k = jget (aget es k) (aget fs k)
  | [], _, k => by
    rw [joinL]
    have : aget ([] : AL) k = none := rfl
    rw [this]
    cases aget es k <;> rfl
  | p :: t, hf, k => by
    have hft := (List.pairwise_cons.1 hf).2
    have ih := aget_join h t hft
    rw [joinL, aget_put (asc_join h t)]
    have hc : aget (p :: t) k = if p.1 = k then some p.2 else aget t k := rfl
    by_cases e : k = p.1
    · subst e
      rw [if_pos rfl, hc, if_pos rfl, ih]
      have hn : aget t p.1 = none := aget_none_of fun q hq => by
        have := (List.pairwise_cons.1 hf).1 q hq
        omega
      rw [hn]
      cases aget es p.1 <;> rfl
    · rw [if_neg e, hc, if_neg (fun h => e h.symm), ih]
theorem jget_bd {W : Int} {x y : Option Int} {c : Int} (hx : ∀ a, x = some a → 0 ≤ a ∧ a < W) (hy : ∀ a, y = some a → 0 ≤ a ∧ a < W) (h : jget x y = some c) : 0 ≤ c ∧ c < W := by
  cases x with
  | none => exact hy c h
  | some a =>
    cases y with
    | none => cases h; exact hx _ rfl
    | some b =>
      have h1 := hx a rfl
      have h2 := hy b rfl
      simp only [jget, Option.some.injEq] at h
      split at h <;> omega
theorem length_join (es : AL) : ∀ fs : AL, (joinL es fs).length ≤ es.length + fs.length
  | [] => Nat.le_refl _
  | p :: t => by
    have := length_join es t
    have h2 := length_put_le (joinL es t) p.1 ((jget (aget (joinL es t) p.1) (some p.2)).getD 0)
    rw [joinL, List.length_cons]
    omega
theorem good_join {W : Int} {es fs : AL} (h : Good W es) (h' : Good W fs) : Good W (joinL es fs) := by
  refine ⟨asc_join h.1 fs, fun p hp => ?_⟩
  have hg := aget_of_mem (asc_join h.1 fs) hp
  rw [aget_join h.1 fs h'.1] at hg
  have hk : 0 ≤ p.1 ∧ p.1 ≤ 1000000 := by
    cases he : aget es p.1 with
    | some a => have := h.get he; omega
    | none =>
      rw [he] at hg
      have := h'.get (show aget fs p.1 = some p.2 from hg)
      omega
  have := jget_bd (W := W) (fun a ha => (h.get ha).2.2) (fun a ha => (h'.get ha).2.2) hg
  exact ⟨hk.1, hk.2, this.1, this.2⟩
def joinS (a b : MS) : MS := if a.1 = true ∨ b.1 = true then (true, []) else (false, joinL a.2 b.2)
theorem good_joinS {W : Int} {a b : MS} (h : Good W a.2) (h' : Good W b.2) : Good W (joinS a b).2 := by
  unfold joinS
  split
  · exact good_nil W
  · exact good_join h h'
theorem length_joinS (a b : MS) : (joinS a b).2.length ≤ a.2.length + b.2.length := by
  unfold joinS
  split
  · exact Nat.zero_le _
  · exact length_join a.2 b.2

/-- The map while it is being joined: what is not yet seen is as it was. -/
def JPart (es fs : AL) (left : Int → Bool) (os : AL) : Prop := Asc os ∧ ∀ k, aget os k = if left k = true then aget es k else jget (aget es k) (aget fs k)
theorem JPart.start {es fs : AL} (h : Asc es) {left : Int → Bool} (hl : ∀ k, left k = false → aget fs k = none) : JPart es fs left es := ⟨h, fun k => by
  split
  · rfl
  · rename_i hn
    rw [hl k (by simpa using hn)]
    cases aget es k <;> rfl⟩
theorem JPart.done {es fs os : AL} {left : Int → Bool} (h : JPart es fs left os) (ha : Asc es) (hf : Asc fs) (hl : ∀ k, left k = false) : os = joinL es fs :=
  al_ext h.1 (asc_join ha fs) fun k => by rw [h.2 k, if_neg (by rw [hl k]; simp), aget_join ha fs hf]
theorem JPart.keep {es fs os : AL} {left : Int → Bool} (h : JPart es fs left os) {x : Int} (hx : left x = true) (he : jget (aget es x) (aget fs x) = aget es x) : JPart es fs (fun k => left k && !decide (k = x)) os := ⟨h.1, fun k => by
  rw [h.2 k]
  by_cases e : k = x
  · subst e
    rw [if_pos hx, if_neg (by simp), he]
  · simp [e]⟩
theorem JPart.put {es fs os : AL} {left : Int → Bool} (h : JPart es fs left os) {x c : Int} (he : jget (aget es x) (aget fs x) = some c) : JPart es fs (fun k => left k && !decide (k = x)) (aput os x c) := ⟨asc_put h.1 x c, fun k => by
  rw [aget_put h.1]
  by_cases e : k = x
  · subst e
    rw [if_pos rfl, if_neg (by simp), he]
  · rw [if_neg e, h.2 k]
    simp [e]⟩
theorem nodup_len : ∀ {l m : List Int}, l.Nodup → (∀ x ∈ l, x ∈ m) → l.length ≤ m.length
  | [], m, _, _ => Nat.zero_le _
  | x :: t, m, h, hs => by
    have hx := hs x (by simp)
    obtain ⟨h1, h2⟩ := List.pairwise_cons.1 h
    have := nodup_len (l := t) (m := m.erase x) h2 (fun y hy => (List.mem_erase_of_ne (Ne.symm (h1 y hy))).2 (hs y (by simp [hy])))
    have hl := List.length_erase_of_mem hx
    have hp : 0 < m.length := List.length_pos_of_mem hx
    rw [List.length_cons]
    omega
theorem jpart_len {es fs os : AL} {left : Int → Bool} (h : JPart es fs left os) (ha : Asc es) (hf : Asc fs) : os.length ≤ es.length + fs.length := by
  have hsub : ∀ p ∈ os, p.1 ∈ (es ++ fs).map Prod.fst := fun p hp => by
    have hg := aget_of_mem h.1 hp
    rw [h.2] at hg
    rw [List.map_append, List.mem_append]
    cases he : aget es p.1 with
    | some a => exact .inl (List.mem_map.2 ⟨_, aget_mem he, rfl⟩)
    | none =>
      rw [he] at hg
      split at hg
      · cases hg
      · exact .inr (List.mem_map.2 ⟨_, aget_mem (show aget fs p.1 = some p.2 from hg), rfl⟩)
  have hnd : (os.map Prod.fst).Nodup := by
    refine List.pairwise_map.2 (h.1.imp fun {a b} hab => ?_)
    omega
  have := nodup_len hnd (m := (es ++ fs).map Prod.fst) (fun x hx => by
    obtain ⟨p, hp, rfl⟩ := List.mem_map.1 hx
    exact hsub p hp)
  simpa using this

set_option maxRecDepth 100000 in
set_option maxHeartbeats 1000000 in
theorem join_unknown {S W L : Int} {u u2 : Bool} {p p2 : Option Nat} (h : u = true ∨ u2 = true) (w : World) :
    Calls Try.prog 17 #[.agg #[.int .i64 S, .int .i64 W, .int .i64 L, .bool u, .map p], .agg #[.int .i64 S, .int .i64 W, .int .i64 L, .bool u2, .map p2]] w fun e w' => e = .returned (.agg #[.int .i64 S, .int .i64 W, .int .i64 L, .bool true, .map none]) ∧ Below w.heap.size w w' := by
  cases u with
  | true =>
    go_enter Try.func17, Try.ntmps17
    go_wp2_with fail
    refine bodyPost_ret (v := .agg #[.int .i64 S, .int .i64 W, .int .i64 L, .bool true, .map none]) (by simp [results, Try.results17, go_sem]) rfl ⟨rfl, by (repeat (first | with_reducible exact Below.refl _ _ | with_reducible assumption | refine below_set ?_ (by first | exact Nat.le_refl _ | (simp; omega) | simp) _ | refine below_alloc ?_ _ | refine below_drewN ?_ _ | refine below_drew ?_))⟩
  | false =>
    obtain rfl : u2 = true := by simpa using h
    go_enter Try.func17, Try.ntmps17
    go_wp2_with fail
    refine bodyPost_ret (v := .agg #[.int .i64 S, .int .i64 W, .int .i64 L, .bool true, .map none]) (by simp [results, Try.results17, go_sem]) rfl ⟨rfl, by (repeat (first | with_reducible exact Below.refl _ _ | with_reducible assumption | refine below_set ?_ (by first | exact Nat.le_refl _ | (simp; omega) | simp) _ | refine below_alloc ?_ _ | refine below_drewN ?_ _ | refine below_drew ?_))⟩

set_option maxRecDepth 100000 in
set_option maxHeartbeats 1000000 in
theorem join_known {S W L : Int} {p p2 : Option Nat} {es fs : AL} {w : World} (h1 : MapIs w p es) (h2 : MapIs w p2 fs) (hf : Good W fs) (hn : es.length ≤ 100000) (hm : fs.length ≤ 100000) :
    Calls Try.prog 17 #[.agg #[.int .i64 S, .int .i64 W, .int .i64 L, .bool false, .map p], .agg #[.int .i64 S, .int .i64 W, .int .i64 L, .bool false, .map p2]] w fun e w' => ∃ b, e = .returned (.agg #[.int .i64 S, .int .i64 W, .int .i64 L, .bool false, .map (some b)]) ∧ MapAt w' b (joinL es fs) ∧ Below w.heap.size w w' := by
  have HE := hide h1
  have HF := hide h2
  have HG := hide hf
  have HPE := hide h1.asc
  clear h1 h2 hf
  go_enter Try.func17, Try.ntmps17
  go_wp2_with fail
  refine at_world ?_
  intro W1 hW
  have HB1 := hide (below_at hW (below_at2 rfl (Below.refl _ _)))
  have hs1 : W1.heap.size = w.heap.size + 3 := by have := size_at hW; simpa using this
  have b2 := Blk.newAt hW
  simp only [World.size_alloc] at b2
  obtain ⟨b0, b1⟩ := Blk.new2 w _ _ _ _
  have b0 := Blk.at_ hW b0
  have b1 := Blk.at_ hW b1
  have HE1 := hide (MapIs.at_ hW (MapIs.at2 rfl HE.out))
  have HF1 := hide (MapIs.at_ hW (MapIs.at2 rfl HF.out))
  have HPL := hide HF.out.lt
  clear hW HE HF
  refine (copied_any HE1.out).mono ?_; rintro e w2 ⟨b, rfl, hmb, hbb, hb⟩
  have hs2 : w.heap.size + 3 ≤ w2.heap.size := by have := hb.size; omega
  have b0 := b0.on hb
  have b1 := b1.on hb
  have b2 := b2.on hb
  have HB2 := hide (below_then HB1.out hb)
  have HF2 := hide (HF1.out.below hb)
  have HP := hide (show p2 ≠ some b from fun e => by have := HPL.out b e; omega)
  have hbl := hmb.lt
  have HMB := hide hmb
  have C1 := b1.c5
  clear hb hmb HB1 HF1 HE1
  have hz1 : w.heap.size + 1 < w2.heap.size := by omega
  have HF3 := fun o => hide (HF2.out.alloc o)
  go_wp2_with (first
    | (at_range; refine wp_range _ rfl _ 29 rfl Try.underlying29 rfl (HF3 _).out ?_; intro w4 hr4 hb4 hz4)
    | fail)
  go_frame
  simp only [World.size_alloc]
  have NB := hide (hr4.neBlk (Blk.on (b2.alloc _) hb4))
  have B5 := (Blk.new w2 _ _).on hb4
  have B2 := (b2.alloc _).on hb4
  have HMB4 := hide ((HMB.out.alloc _).below hb4)
  have HB4 := hide (below_then (below_alloc HB2.out _) hb4)
  have hsz : (w2.alloc (.cells #[.int .i64 S, .int .i64 W, .int .i64 L, .bool false, .map (some b)] 31)).heap.size = w2.heap.size + 1 := by simp
  have HR4 := hide hr4
  simp only [hsz] at HR4
  clear hr4 hb4 HB2 HMB b0 b1 b2 C1 HF2 HF3 hz4 hsz NB
  go_loopw [6, 7, 8, 9] (fun _ _ _ _ wr => ∃ (left : Int → Bool) (cnt : Nat) (os : AL), Hid (Rng wr p2 (w2.heap.size + 1) fs left cnt) ∧ Hid (MapAt wr b os) ∧ Hid (JPart es fs left os) ∧
      Blk wr (w.heap.size + 1 + 1) 31 #[.int .i64 0, .int .i64 0, .int .i64 0, .bool false, .map none] ∧
      Blk wr w2.heap.size 31 #[.int .i64 S, .int .i64 W, .int .i64 L, .bool false, .map (some b)] ∧ Hid (Below w.heap.size w wr)) (fun _ _ _ _ wr => rngM p2 (w2.heap.size + 1) wr)
  case atStart =>
    refine ⟨_, _, es, HR4, HMB4, hide (JPart.start HPE.out fun k hk => ?_), B2, B5, HB4⟩
    cases hg : aget fs k with
    | none => rfl
    | some c => rw [hg] at hk; cases hk
  case round =>
    clear HR4 HMB4 B2 B5 HB4
    obtain ⟨left, cnt, os, HR, HM, HJ, B2, B5, HB⟩ := hrel
    have HLEN := hide (jpart_len HJ.out HPE.out HG.out.1)
    go_wp2_with (first
      | (at_next; refine wp_next _ rfl _ rfl rfl HR.out ?_ ?_)
      | fail)
    · intro hl
      have HL := hide hl
      clear hl
      have C2 := B2.c5
      have F2 := B2.fz
      have C5 := B5.c5
      go_wp2_with fail
      refine bodyPost_ret (v := .agg #[.int .i64 S, .int .i64 W, .int .i64 L, .bool false, .map (some b)]) (by simp [results, Try.results17, go_sem, C2, C5]) rfl ?_
      have hm := HM.out
      have hb := HB.out
      rw [HJ.out.done HPE.out HG.out.1 HL.out] at hm
      exact ⟨b, rfl, by (repeat (first | with_reducible assumption | refine MapAt.far ?_ ?_ _ | refine MapAt.alloc ?_ _)); all_goals (simp; omega), by (repeat (first | with_reducible exact Below.refl _ _ | with_reducible assumption | refine below_set ?_ (by first | exact Nat.le_refl _ | (simp; omega) | simp) _ | refine below_alloc ?_ _ | refine below_drewN ?_ _ | refine below_drew ?_))⟩
    · intro x d w5 cnt' hlx hgx hwx hwc hr5 hlt hg5 hs5 hen
      have hbd := HG.out.get hgx
      obtain ⟨x0, x1, d0, d1⟩ := hbd
      have hsz2 := HR.out.lt
      have B2 := B2.grown hg5 (by simp; omega)
      have B5 := B5.grown hg5 (by simp)
      have HM := hide (HM.out.kept hg5 (by simp; omega))
      have HB := hide (below_grown HB.out hg5 (by omega))
      have HR5 := hide hr5
      have HLT := hide hlt
      have HX := hide hgx
      have HLX := hide hlx
      clear hr5 hlt hgx hg5 hs5 hlx hsz2
      have C5 := B5.c5
      have HO := hide (show aget os x = aget es x by rw [HJ.out.2 x, if_pos HLX.out])
      have MI := hide (show MapIs w5 (some b) os from .inr ⟨b, rfl, HM.out⟩)
      have hbm := HM.out.lt
      rcases hge : aget os x with _ | y
      · have HQ := hide hge
        have HK := hide (show jget (aget es x) (aget fs x) = some d by rw [← HO.out, HQ.out, HX.out]; rfl)
        clear hge
        go_wp2_with (first
          | (at_lookup; refine wp_look _ rfl _ _ 29 rfl Try.underlying29 rfl MI.out x rfl hwx ?_; rw [HQ.out])
          | (at_mapUpdate; refine wp_store _ rfl _ _ _ 29 rfl Try.underlying29 rfl HM.out (by have := HLEN.out; omega) x d rfl rfl hwx hwc ?_; intro w7 hm7 hg7; have B2 := B2.grown hg7 (by simp; omega); have B5 := B5.grown hg7 (fun e => HM.out.ne B5 (Option.some.inj e).symm); have HM7 := hide hm7; have HB7 := hide (below_grown HB.out hg7 (by omega)); have HR7 := hide (HR5.out.kept hg7 (.inr HP.out) (fun e => HR5.out.neMap HM.out (Option.some.inj e))); clear hm7 hg7)
          | fail)
        go_roundw
        case rel => ((repeat apply Exists.intro); exact ⟨⟨_, cnt', _, HR7, HM7, hide (HJ.out.put HK.out), B2, B5, HB7⟩, rfl⟩)
        case measure => rw [HR7.out.m, HR.out.m]; exact HLT.out
      · have HQ := hide hge
        clear hge
        by_cases hdy : d < y
        · have HK := hide (show jget (aget es x) (aget fs x) = some d by rw [← HO.out, HQ.out, HX.out]; simp [jget, hdy])
          go_wp2_with (first
            | (at_lookup; refine wp_look _ rfl _ _ 29 rfl Try.underlying29 rfl MI.out x rfl hwx ?_; rw [HQ.out])
            | (at_mapUpdate; refine wp_store _ rfl _ _ _ 29 rfl Try.underlying29 rfl HM.out (by have := HLEN.out; omega) x d rfl rfl hwx hwc ?_; intro w7 hm7 hg7; have B2 := B2.grown hg7 (by simp; omega); have B5 := B5.grown hg7 (fun e => HM.out.ne B5 (Option.some.inj e).symm); have HM7 := hide hm7; have HB7 := hide (below_grown HB.out hg7 (by omega)); have HR7 := hide (HR5.out.kept hg7 (.inr HP.out) (fun e => HR5.out.neMap HM.out (Option.some.inj e))); clear hm7 hg7)
            | fail)
          go_roundw
          case rel => ((repeat apply Exists.intro); exact ⟨⟨_, cnt', _, HR7, HM7, hide (HJ.out.put HK.out), B2, B5, HB7⟩, rfl⟩)
          case measure => rw [HR7.out.m, HR.out.m]; exact HLT.out
        · have HK := hide (show jget (aget es x) (aget fs x) = aget es x by rw [← HO.out, HQ.out, HX.out]; simp [jget, hdy])
          go_wp2_with (first
            | (at_lookup; refine wp_look _ rfl _ _ 29 rfl Try.underlying29 rfl MI.out x rfl hwx ?_; rw [HQ.out])
            | fail)
          go_roundw
          case rel => exact ⟨_, cnt', _, HR5, HM, hide (HJ.out.keep HLX.out HK.out), B2, B5, HB⟩
          case measure => rw [HR5.out.m, HR.out.m]; exact HLT.out

theorem join_any {S W L : Int} {u u2 : Bool} {p p2 : Option Nat} {es fs : AL} {w : World} (h1 : MapIs w p es) (h2 : MapIs w p2 fs) (hf : Good W fs) (hn : es.length ≤ 100000) (hm : fs.length ≤ 100000) :
    Calls Try.prog 17 #[.agg #[.int .i64 S, .int .i64 W, .int .i64 L, .bool u, .map p], .agg #[.int .i64 S, .int .i64 W, .int .i64 L, .bool u2, .map p2]] w fun e w' => ∃ q, e = .returned (.agg #[.int .i64 S, .int .i64 W, .int .i64 L, .bool (joinS (u, es) (u2, fs)).1, .map q]) ∧ MapIs w' q (joinS (u, es) (u2, fs)).2 ∧ Below w.heap.size w w' := by
  by_cases h : u = true ∨ u2 = true
  · refine (join_unknown h w).mono fun e w' ⟨he, hb⟩ => ⟨none, ?_, ?_, hb⟩
    · rw [he, joinS, if_pos h]
    · rw [joinS, if_pos h]; exact .nil_ _
  · obtain ⟨rfl, rfl⟩ : u = false ∧ u2 = false := by simpa using h
    refine (join_known h1 h2 hf hn hm).mono fun e w' ⟨b, he, hm, hb⟩ => ⟨some b, ?_, ?_, hb⟩
    · rw [he, joinS, if_neg h]
    · rw [joinS, if_neg h]; exact .inr ⟨b, rfl, hm⟩
end Go.Proofs.Ytacpfcneihlcnaa
