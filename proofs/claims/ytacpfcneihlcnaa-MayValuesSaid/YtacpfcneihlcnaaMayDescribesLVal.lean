/- The walk of the law MayValues. -/
import Derived.Test.YtacpfcneihlcnaaMayDescribesAf
import Derived.Test.YtacpfcneihlcnaaMayDescribesSa
import Derived.Test.YtacpfcneihlcnaaLe
set_option linter.unusedVariables false
set_option linter.unusedSimpArgs false
namespace Go.Proofs.Ytacpfcneihlcnaa.MayDescribesu
open Go.RowKit Go.Maps Go.Proofs.Ytacpfcneihlcnaa.PMayDescribes Go.Proofs.YtacpfcneihlcnaaW.PrintWords

def KB (es : AL) : Prop := ∀ k a, aget es k = some a → k ≤ 4000
theorem kb_len {W : Int} {es : AL} (hg : Good W es) (hk : KB es) : es.length ≤ 4001 := by
  have hnd : (keysL es).Nodup := (sorted_keys hg.1).imp fun h => by omega
  have := nodup_len hnd (m := (List.range 4001).map Int.ofNat) (fun x hx => by
    obtain ⟨p, hp, rfl⟩ := List.mem_map.1 hx
    have h1 := hk p.1 p.2 (aget_of_mem hg.1 hp)
    have h2 := (hg.2 p hp).1
    exact List.mem_map.2 ⟨p.1.toNat, List.mem_range.2 (by omega), by simp; omega⟩)
  simpa [keysL] using this
theorem kb_acc {S W line : Int} {s : MS} (ha : Asc s.2) (h : KB s.2) (hl : line ≤ 4000) : KB (accS S W s line).2 := by
  unfold accS
  split
  · exact h
  · intro k a hk
    rw [aget_acc ha] at hk
    split at hk
    · omega
    · cases hg : aget s.2 k with
      | none => rw [hg] at hk; cases hk
      | some c => exact h k c hg
theorem kb_rng {S W lo hi : Int} {s : MS} (ha : Asc s.2) (h : KB s.2) (hl : hi ≤ 4000) : KB (rngS S W s lo hi).2 := by
  unfold rngS rngS0
  generalize (if lo < 0 then 0 else lo) = l
  split
  · exact h
  · split
    · exact kb_acc ha h (by omega)
    · split
      · intro k a hk; cases hk
      · intro k a hk
        simp only at hk
        rw [aget_fill _ _ ha] at hk
        split at hk
        · omega
        · exact h k a hk
theorem kb_step {S W lo hi : Int} {s : MS} (ha : Asc s.2) (h : KB s.2) (h0 : lo ≤ 4000) (h1 : hi ≤ 4000) : KB (stepS S W s lo hi).2 := by
  unfold stepS
  split
  · exact kb_acc ha h h0
  · exact kb_rng ha h h1
theorem kb_join {a b : MS} (ha : Asc a.2) (hb : Asc b.2) (h : KB a.2) (h' : KB b.2) : KB (joinS a b).2 := by
  unfold joinS
  split
  · intro k c hk; cases hk
  · intro k c hk
    simp only at hk
    rw [aget_join ha _ hb] at hk
    cases h1 : aget a.2 k with
    | some x => exact h k x h1
    | none => rw [h1] at hk; exact h' k c hk
theorem kb_walk {S W : Int} (hW : 1 ≤ W) : ∀ (l : List (Int × Int)) (s : MS), Good W s.2 → KB s.2 → (∀ x ∈ l, x.1 ≤ 4000 ∧ x.2 ≤ 4000) → KB (walkS S W s l).2
  | [], _, _, h, _ => h
  | x :: l, s, hg, h, hx => by
    have h0 := hx x (by simp)
    exact kb_walk hW l _ (good_stepS hW hg (by omega) (by omega)) (kb_step hg.1 h h0.1 h0.2) (fun y hy => hx y (by simp [hy]))
theorem aft_kb {S W : Int} (hW : 1 ≤ W) {l : List Stp} (h : ∀ x ∈ l, nearB x = true) : KB (aft S W l).2 :=
  kb_walk hW _ _ (good_nil W) (fun k a hk => by cases hk) (fun x hx => by
    obtain ⟨y, hy, rfl⟩ := List.mem_map.1 hx
    have := near_bd (h y hy)
    simp only
    omega)

structure VInv (w0 w : World) (S W L : Int) (u : Bool) (p : Option Nat) (es : AL) (A : Option Addr) (c base : Nat) (g7 g8 : Nat) : Prop where
  b7 : Blk w g7 31 #[.int .i64 S, .int .i64 W, .int .i64 L, .bool u, .map p]
  b8 : Blk w g8 34 #[.int .i64 S, .int .i64 W, .int .i64 L, .bool u, .slice A es.length c]
  m : MapIs w p es
  l : LinesOwn w base (.slice A es.length c) es
  b : Below w0.heap.size w0 w
section
variable {w0 w w' : World} {S W L : Int} {u : Bool} {p : Option Nat} {es : AL} {A : Option Addr} {c base g7 g8 : Nat}
theorem VInv.on (h : VInv w0 w S W L u p es A c base g7 g8) (hb : Below w.heap.size w w') : VInv w0 w' S W L u p es A c base g7 g8 :=
  ⟨h.b7.on hb, h.b8.on hb, h.m.below hb, h.l.below hb, below_then h.b hb⟩
theorem VInv.at_ {o : Obj} (e : w' = w.alloc o) (h : VInv w0 w S W L u p es A c base g7 g8) : VInv w0 w' S W L u p es A c base g7 g8 := h.on (e ▸ below_alloc (Below.refl _ _) o)
theorem VInv.store {g t : Nat} {cs : Array Value} (h : VInv w0 w S W L u p es A c base g7 g8) (hg : w.grownBy w' (some g)) (hb : Blk w g t cs) (ht : t ≠ 81) (h7 : g7 ≠ g) (h8 : g8 ≠ g) (hw : w0.heap.size ≤ g) : VInv w0 w' S W L u p es A c base g7 g8 :=
  ⟨h.b7.grown hg (fun e => h7 (Option.some.inj e)), h.b8.grown hg (fun e => h8 (Option.some.inj e)), h.m.store hg hb, h.l.store hg hb ht, below_grown h.b hg hw⟩
end
def RowIs (base : Nat) (w : World) (A : Option Addr) (n : Nat) : Prop := n = 0 ∨ ∃ (g : Nat) (cur : Array Value), A = some ⟨g, 0, none⟩ ∧ base ≤ g ∧ Blk w g 3 cur ∧ n ≤ cur.size
theorem RowIs.of {w : World} {base n c : Nat} {A : Option Addr} {xs : List Value} (h : w.ownsRow base 3 1 (.slice A n c) n xs) : RowIs base w A n := by
  rcases h.2 with ⟨hv, hn⟩ | ⟨g, cap, cur, hv, hb, hh, hl, _, hs, _⟩
  · exact .inl hn
  · cases hv
    exact .inr ⟨g, cur, rfl, hb, hh, by omega⟩
structure TInv (W : Int) (t : MS) : Prop where
  g : Good W t.2
  k : KB t.2

set_option maxRecDepth 100000 in
set_option maxHeartbeats 2000000 in
theorem val_walk {S W L : Int} {w : World} {A1 A2 : Option Addr} {c1 c2 : Nat} {l1 l2 : List Stp} (h1 : Kd.C kSt w A1 l1.length l1) (hc1 : l1.length ≤ c1) (h2 : Kd.C kSt w A2 l2.length l2) (hc2 : l2.length ≤ c2) :
    Calls Try.prog 7 #[.agg #[.int .i64 S, .int .i64 W, .int .i64 L], .slice A1 l1.length c1, .slice A2 l2.length c2] w fun e w' => e = .returned (.bool true) ∧ Below w.heap.size w w' := by
  have H1 := hide h1
  have H2 := hide h2
  have m1 := Kd.C_max h1
  have m2 := Kd.C_max h2
  clear h1 h2
  go_enter Try.func7, Try.ntmps7
  go_wp2_with fail
  refine at_world ?_
  intro W1 hW
  have b0 := Blk.newAt hW
  have HB1 := hide (below_at hW (Below.refl _ _))
  clear hW
  refine (awake_any _).mono ?_; rintro e w1 ⟨rfl, hb⟩
  have b0 := b0.on hb
  have HB := hide (below_then HB1.out hb)
  clear hb HB1
  have C0 := b0.c3
  go_wp2_with fail
  refine (small_any S W L (Kd.C_below H1.out HB.out) hc1).mono ?_; rintro e w2 ⟨r, rfl, hr, hb⟩
  have b0 := b0.on hb
  have HB2 := hide (below_then HB.out hb)
  have HR1 := hide hr
  clear hb HB C0 hr
  have C0 := b0.c3
  cases r with
  | false =>
    go_wp2_with fail
    refine (awake_any _).mono ?_; rintro e w3 ⟨rfl, hb⟩
    have HB3 := hide (below_then HB2.out hb)
    clear hb
    go_wp2_with fail
    go_ret
    exact ⟨rfl, HB3.out⟩
  | true =>
  have P1 := hide (HR1.out rfl)
  clear HR1
  go_wp2_with fail
  refine (small_any S W L (Kd.C_below H2.out HB2.out) hc2).mono ?_; rintro e w3 ⟨r, rfl, hr, hb⟩
  have b0 := b0.on hb
  have HB := hide (below_then HB2.out hb)
  have HR1 := hide hr
  clear hb HB2 C0 hr
  have C0 := b0.c3
  cases r with
  | false =>
    go_wp2_with fail
    refine (awake_any _).mono ?_; rintro e w3 ⟨rfl, hb⟩
    have HB3 := hide (below_then HB.out hb)
    clear hb
    go_wp2_with fail
    go_ret
    exact ⟨rfl, HB3.out⟩
  | true =>
  have P2 := hide (HR1.out rfl)
  clear HR1
  have AF1 := after_any P1.out (Kd.C_below H1.out HB.out) hc1
  have G1 := hide (aft_good (S := S) (vldB_bd P1.out.1).2.2.1 P1.out.2.2.2 l1.length)
  have K1 := hide (aft_kb (S := S) (vldB_bd P1.out.1).2.2.1 P1.out.2.2.2)
  rw [List.take_length] at G1
  generalize aft S W l1 = st1 at AF1 G1 K1
  obtain ⟨u, es⟩ := st1
  have GE := hide (show Good W es from G1.out.1)
  have KE := hide (show KB es from K1.out)
  have hle : es.length ≤ 4001 := kb_len GE.out KE.out
  clear G1 K1
  go_wp2_with fail
  refine AF1.mono ?_; rintro e w5 ⟨p, v1, rfl, hm, hl, hb⟩
  have HB5 := hide (below_then HB.out hb)
  have hs5 : w.heap.size ≤ w5.heap.size := HB5.out.size
  obtain ⟨Av, cv, rfl, _, hcv⟩ := hl.reads
  have HM := hide hm
  have HL := hide hl
  clear hm hl hb HB C0 AF1 b0
  go_wp2_with fail
  refine at_wp ?_
  intro W6 hW
  have b9 := Blk.newAt hW
  simp only [World.size_alloc] at b9
  obtain ⟨b7, b8⟩ := Blk.new2 w5 _ _ _ _
  have HV := hide (⟨Blk.at_ hW b7, Blk.at_ hW b8, MapIs.at_ hW (MapIs.at2 rfl HM.out), hW ▸ HL.out.below (below_alloc (below_alloc (below_alloc (Below.refl _ _) _) _) _), below_at hW (below_at2 rfl HB5.out)⟩ : VInv w W6 S W L u p es Av cv w3.heap.size w5.heap.size (w5.heap.size + 1))
  have HQ := hide (MapIs.at_ hW (MapIs.at2 rfl HM.out))
  clear b7 b8 hW HM HL HB5
  generalize w5.heap.size = g7 at *
  go_loopw [39] (fun v wr => ∃ (i : Nat) (ut : Bool) (ts : AL) (q : Option Nat), v = .int .i64 i ∧ i ≤ l2.length ∧ Hid (VInv w wr S W L u p es Av cv w3.heap.size g7 (g7 + 1)) ∧ Blk wr (g7 + 1 + 1) 31 #[.int .i64 S, .int .i64 W, .int .i64 L, .bool ut, .map q] ∧
      Hid (MapIs wr q ts) ∧ Hid (TInv W (ut, ts))) (fun v _ => l2.length - (intOf v).toNat)
  case atStart => exact ⟨0, u, es, p, rfl, Nat.zero_le _, HV, b9, HQ, hide ⟨GE.out, KE.out⟩⟩
  case round =>
    clear HV b9 HQ
    obtain ⟨i, ut, ts, q, rfl, hi, HV, B9, HQ, HT⟩ := hrel
    by_cases hlt : i < l2.length
    · obtain ⟨ad, rfl, hx, hy, hz⟩ := stp_at (Kd.C_below H2.out HV.out.b) i hlt
      have HNR := hide (P2.out.2.2.2 (l2.getD i (0, 0, 0)) (by rw [List.getD_eq_getElem?_getD, List.getElem?_eq_getElem hlt]; exact List.getElem_mem _))
      generalize l2.getD i (0, 0, 0) = r at hx hy hz HNR
      obtain ⟨lo, hi', pk⟩ := r
      simp only at hx hy hz
      have hnb := near_bd HNR.out
      simp only at hnb
      obtain ⟨n1, n2, n3, n4⟩ := hnb
      have hz9 : g7 + 1 + 1 < wr.heap.size := B9.lt
      have C9 := B9.c5
      go_wp2_with fail
      refine at_world ?_
      intro W7 hW
      have B9 := Blk.at_ hW B9
      have HV7 := hide (HV.out.at_ hW)
      have HQ7 := hide (MapIs.at_ hW HQ.out)
      clear hW HV HQ hx hy hz C9
      have htl : ts.length ≤ 4001 := kb_len HT.out.g HT.out.k
      have SC := step_any (S := S) (W := W) (L := L) (u := ut) (pk := pk) P1.out.1 (show lo ≤ 1000000 by omega) (show hi' ≤ 1000000 by omega) HQ7.out HT.out.g (by omega)
      have HT2 := hide (show TInv W (stepS S W (ut, ts) lo hi') from ⟨good_stepS (vldB_bd P1.out.1).2.2.1 HT.out.g (by omega) (by omega), kb_step HT.out.g.1 HT.out.k (by omega) (by omega)⟩)
      generalize stepS S W (ut, ts) lo hi' = s1 at SC HT2
      obtain ⟨u', ts'⟩ := s1
      have htl2 : ts'.length ≤ 4001 := kb_len HT2.out.g HT2.out.k
      refine SC.mono ?_; rintro e w8 ⟨q', rfl, hm, hb⟩
      have B9 := B9.on hb
      have HV8 := hide (HV7.out.on hb)
      have HQ8 := hide hm
      have C9 := B9.c5
      have F9 := B9.fz
      have hz7 : g7 < w8.heap.size := HV8.out.b7.lt
      have hz9' : g7 + 1 + 1 < w8.heap.size := B9.lt
      clear SC hm hb HV7 HQ7
      have C7 := HV8.out.b7.c5
      go_wp2_with fail
      refine at_world ?_
      intro W9 hW
      obtain ⟨hg, E9⟩ := store5 B9 hW
      have HV9 := hide (HV8.out.store hg B9 (by decide) (by omega) (by omega) (by omega))
      have HQ9 := hide (HQ8.out.store hg B9)
      clear hg hW C9 F9 C7 HV8 HQ8 B9
      have JC := join_any (S := S) (W := W) (L := L) (u := u') (u2 := u) HQ9.out HV9.out.m GE.out (by omega) (by omega)
      have HT3 := hide (show TInv W (joinS (u', ts') (u, es)) from ⟨good_joinS HT2.out.g GE.out, kb_join HT2.out.g.1 GE.out.1 HT2.out.k KE.out⟩)
      generalize joinS (u', ts') (u, es) = s2 at JC HT3
      obtain ⟨u3, ts3⟩ := s2
      refine JC.mono ?_; rintro e w10 ⟨q3, rfl, hm, hb⟩
      have B9 := E9.on hb
      have HV8 := hide (HV9.out.on hb)
      have HQ8 := hide hm
      have C9 := B9.c5
      have F9 := B9.fz
      clear JC hm hb HV9 HQ9
      obtain ⟨hg, E9⟩ := set5_is B9 (.int .i64 S) (.int .i64 W) (.int .i64 L) (.bool u3) (.map q3)
      have HV9 := hide (HV8.out.store hg B9 (by decide) (by omega) (by omega) (by omega))
      have HQ9 := hide (HQ8.out.store hg B9)
      clear hg
      go_wp2_with fail
      go_roundw
      case rel => exact ⟨i + 1, u3, ts3, q3, by go_num, by omega, HV9, E9, HQ9, HT3⟩
      case measure => simp [intOf]; omega
    · have hie : i = l2.length := by omega
      clear hie
      have C7 := HV.out.b7.c5
      clear B9 HQ HT
      have SAME := fun (W3 : World) (h : VInv w W3 S W L u p es Av cv w3.heap.size g7 (g7 + 1)) => (same_any (S := S) (W := W) (L := L) (u := u) (c := cv) h.m GE.out (by omega) (by obtain ⟨A', c', hx, _, hk⟩ := h.l.reads; cases hx; exact hk) (by obtain ⟨A', c', hx, hk, _⟩ := h.l.reads; cases hx; exact hk) : Calls _ _ _ W3 _)
      have HS := hide SAME
      clear SAME
      cases u with
      | true =>
        go_wp2_with fail
        refine (ma_lines_unknown _).mono ?_; rintro e w6 ⟨rfl, hb⟩
        have HV := hide (HV.out.on hb)
        clear hb C7
        have C7 := HV.out.b7.c5
        have C8 := HV.out.b8.c5
        go_wp2_with fail
        refine (HS.out _ HV.out).mono ?_; rintro e w7 ⟨rfl, hb⟩
        have HV := hide (HV.out.on hb)
        clear hb C7 C8
        go_wp2_with fail
        go_ret
        exact ⟨rfl, HV.out.b⟩
      | false =>
        go_wp2_with fail
        refine (ma_lines HV.out.m (by omega)).mono ?_; rintro e w6 ⟨As, cs, rfl, ho, hb⟩
        have HV6 := hide (HV.out.on hb)
        have h7 := HV.out.b7.lt
        have h8 := HV.out.b8.lt
        have HRI := hide (RowIs.of ho)
        have hwb := HV.out.b.size
        obtain ⟨z, hz⟩ : ∃ z, wr.heap.size = z := ⟨_, rfl⟩
        rw [hz] at HRI h7 h8 hwb
        clear ho hb HV C7 hz
        go_wp2_with fail
        go_loopw [58] (fun v wr' => ∃ i : Nat, v = .int .i64 i ∧ i ≤ es.length ∧ Hid (VInv w wr' S W L false p es Av cv w3.heap.size g7 (g7 + 1)) ∧ Hid (RowIs z wr' As es.length)) (fun v _ => es.length - (intOf v).toNat)
        case atStart => exact ⟨0, rfl, Nat.zero_le _, HV6, HRI⟩
        case round =>
          clear HV6 HRI
          obtain ⟨j, rfl, hj, HV, HRI⟩ := hrel
          by_cases hjt : j < es.length
          · rcases HRI.out with h0 | ⟨g, cur, rfl, hbg, hbk, hsz⟩
            · omega
            · obtain ⟨hgr, hbk2⟩ := And.intro (grown_set _ ⟨g, j, none⟩ (.int .i64 (-7))) (hbk.set_ j (.int .i64 (-7)))
              have HV2 := hide (HV.out.store (g := g) hgr hbk (by decide) (by omega) (by omega) (by omega))
              have HRI2 := hide (show RowIs z _ (some ⟨g, 0, none⟩) es.length from .inr ⟨g, _, rfl, hbg, hbk2, by simpa using hsz⟩)
              have Cj := hbk.cell j
              rw [Array.getElem?_eq_getElem (by omega)] at Cj
              generalize cur[j]'(by omega) = old at Cj
              have Fj := hbk.fz
              clear hgr hbk2 HRI HV hbk
              go_wp2_with fail
              go_roundw
              case rel => exact ⟨j + 1, by go_num, by omega, HV2, HRI2⟩
              case measure => simp [intOf]; omega
          · have hje : j = es.length := by omega
            clear hje
            have C7 := HV.out.b7.c5
            have C8 := HV.out.b8.c5
            go_wp2_with fail
            refine (HS.out _ HV.out).mono ?_; rintro e w7 ⟨rfl, hb⟩
            have HV := hide (HV.out.on hb)
            clear hb C7 C8
            go_wp2_with fail
            go_ret
            exact ⟨rfl, HV.out.b⟩
end Go.Proofs.Ytacpfcneihlcnaa.MayDescribesu
