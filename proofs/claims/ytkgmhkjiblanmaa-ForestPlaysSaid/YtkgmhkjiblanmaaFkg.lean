/-
  The walk of ForestKeeps (package sorrellaw09).
-/
import Derived.Test.YtkgmhkjiblanmaaFkf
namespace Go.Proofs.Ytkgmhkjiblanmaa
open Go.RowKit

theorem IntsAt.of_up {w : World} {base : Nat} {v : Value} {G : List Nat} (h : w.ownsRow base 3 1 v G.length (upCells G)) : IntsAt w v (G.map fun x : Nat => (x : Int)) := by
  refine IntsAt.of_row (base := base) ?_
  rw [List.length_map]
  have e : (G.map fun x : Nat => (x : Int)).map (Value.int .i64) = upCells G := by simp [upCells]
  rw [e]; exact h

theorem own_block {w : World} {B n size : Nat} {e : TypeId} {v : Value} {xs : List Value} (h : w.ownsRow B e size v n xs) : ∀ x, v.ownBlock = some x → B ≤ x ∧ x < w.heap.size := fun x hx => h.lt x hx

/-- Four cells of a step written over. -/
theorem own_step {w : World} {B g n c i : Nat} {cs : List Value} (h : w.ownsRow B 42 4 (.slice (some ⟨g, 0, none⟩) n c) n cs) (a0 a1 a2 a3 : Value) :
    (∃ ds, ((((w.setCell ⟨g, i * 4, none⟩ a0).setCell ⟨g, i * 4 + 1, none⟩ a1).setCell ⟨g, i * 4 + 2, none⟩ a2).setCell ⟨g, i * 4 + 3, none⟩ a3).ownsRow B 42 4 (.slice (some ⟨g, 0, none⟩) n c) n ds) ∧
      Fr (fun x => x = g) w ((((w.setCell ⟨g, i * 4, none⟩ a0).setCell ⟨g, i * 4 + 1, none⟩ a1).setCell ⟨g, i * 4 + 2, none⟩ a2).setCell ⟨g, i * 4 + 3, none⟩ a3) := by
  obtain ⟨h0, g0⟩ := h.stored (i * 4) a0
  obtain ⟨h1, g1⟩ := h0.stored (i * 4 + 1) a1
  obtain ⟨h2, g2⟩ := h1.stored (i * 4 + 2) a2
  obtain ⟨h3, g3⟩ := h2.stored (i * 4 + 3) a3
  have f : ∀ {u u' : World}, u.grownBy u' (some g) → Fr (fun x => x = g) u u' := fun hg => Fr.of_grown hg (fun k hk => by cases hk; rfl)
  have t : ∀ {x : Nat} {u : World}, x = g → x = g ∨ u.heap.size ≤ x := fun h => .inl h
  exact ⟨⟨_, h3⟩, (((f g0).trans (f g1) (fun x hx => .inl hx)).trans (f g2) (fun x hx => .inl hx)).trans (f g3) (fun x hx => .inl hx)⟩

theorem both_two {w : World} {B1 B2 : Nat} {v1 v2 : Value} {G : List Nat} (h1 : w.ownsRow B1 3 1 v1 G.length (upCells G)) (h2 : w.ownsRow B2 3 1 v2 G.length (upCells G)) (hne : ∀ x, v1.ownBlock = some x → v2.ownBlock ≠ some x) :
    Both w [v1, v2] [upCells G, upCells G] [] [] := by
  have hl : (upCells G).length = G.length := by simp [upCells]
  have k1 := own_lower h1 (Nat.zero_le _)
  have k2 := own_lower h2 (Nat.zero_le _)
  rw [← hl] at k1 k2
  refine ⟨rfl, rfl, fun i v c hv hc => ?_, fun i v c hv => by simp at hv, fun i j g hi hj => ?_⟩
  · rcases i with _ | _ | i
    · simp at hv hc; subst hv hc; exact k1
    · simp at hv hc; subst hv hc; exact k2
    · simp at hv
  · have hb : ∀ i g, (blk [v1, v2] i = some g ∨ blk [] i = some g) → (i = 0 ∧ v1.ownBlock = some g) ∨ (i = 1 ∧ v2.ownBlock = some g) := fun i g h => by
      rcases h with h | h
      · rcases i with _ | _ | i
        · exact .inl ⟨rfl, h⟩
        · exact .inr ⟨rfl, h⟩
        · simp [blk] at h
      · simp [blk] at h
    rcases hb i g hi with ⟨rfl, e1⟩ | ⟨rfl, e1⟩ <;> rcases hb j g hj with ⟨rfl, e2⟩ | ⟨rfl, e2⟩
    · rfl
    · exact absurd e2 (hne g e1)
    · exact absurd e1 (hne g e2)
    · rfl

theorem ours_two {v1 v2 : Value} {x : Nat} (h : Ours [v1, v2] x) : v1.ownBlock = some x ∨ v2.ownBlock = some x := by
  obtain ⟨i, hi⟩ := h
  rcases i with _ | _ | i
  · exact .inl hi
  · exact .inr hi
  · simp [blk] at hi

set_option maxRecDepth 100000 in
set_option maxHeartbeats 3200000 in
theorem forestKeeps_walk (A : Option Addr) (cap : Nat) (l : List OpD) (a b : Int) (w : World) (hin : OpsIn w A l) (hmax : l.length ≤ 4398046511104) :
    Calls Try.prog 5 #[.slice A l.length cap, .int .i64 a, .int .i64 b] w fun e w' => e = .returned (.bool true) ∧ Below w.heap.size w w' := by
  have Hin := Lib.hid hin
  obtain ⟨i42, hi42, hz420, hz421, hz422⟩ := info_parts info42
  clear hin
  go_enter Try.func5, Try.ntmps5
  go_wp2_with fail
  refine (grownV_any A cap l w Hin.out hmax).mono ?_
  rintro e w1 ⟨rfl, L1, F1, rt1, m1, es1, hp1, hr1, ho1, hg1, hvs1⟩
  have Hc1 : Hid (Cur w w1 L1 F1.up.length rt1 m1 es1) := ⟨F1, rfl, hr1, ho1, hg1⟩
  have Hv1 := Lib.hid hvs1
  have Hp1 := Lib.hid hp1.symm
  have Hin1 := Lib.hid (Hin.out.later ho1.below)
  clear hp1 hr1 ho1 hg1 hvs1 Hin
  rw [Hp1.out]
  go_wp2_with fail
  refine (grownV_any A cap l w1 Hin1.out hmax).mono ?_
  rintro e w2 ⟨rfl, L2, F2, rt2, m2, es2, hp2, hr2, ho2, hg2, hvs2⟩
  have HP2 : Hid (Pair w w2 L1 F1.up.length rt1 m1 es1 L2 F2.up.length rt2 m2 es2) :=
    ⟨Hc1.out.later ho2.below, ⟨F2, rfl, hr2, ⟨(cur_below Hc1.out).trans (ho2.below.mono (cur_below Hc1.out).size), fun x hx => Nat.le_trans (cur_below Hc1.out).size (ho2.mine x hx)⟩, hg2⟩, fun x h1 h2 => by have := Hc1.out.lt x h1; have := ho2.mine x h2; omega⟩
  have Hp2 := Lib.hid hp2.symm
  clear hp2 hr2 ho2 hg2 hvs2 Hc1 Hin1
  generalize F1.up.length = n1 at *
  generalize F2.up.length = n2 at *
  rw [Hp2.out]
  go_wp2_with fail
  refine (awake09 _).mono ?_
  rintro e w3 ⟨rfl, hb3⟩
  have HP3 := Lib.hid (HP2.out.later hb3)
  clear hb3 HP2
  have hn1 : n1 ≤ 1048576 := HP3.out.c1.wood.2
  have Hw := Lib.hid HP3.out.c1.wood.1
  go_wp2_with fail
  refine (group_all HP3.out.c1 a).mono ?_
  have hGl := groupOf_le n1 rt1 a
  obtain ⟨G, hG⟩ : ∃ G, groupOf n1 rt1 a = G := ⟨_, rfl⟩
  rw [hG] at hGl ⊢
  have HG := Lib.hid hG
  clear hG
  rintro e w4 ⟨A1, c1, rfl, hrow1, hc4, hm4⟩
  have HP4 := Lib.hid (HP3.out.call1 hc4 hm4)
  have Hlt3 : Hid (∀ x, L1.Has x ∨ L2.Has x → x < w3.heap.size) := HP3.out.lt
  have Hrow1 := Lib.hid hrow1
  have Hb1 := Lib.hid (own_block hrow1)
  have Hs34 : Hid (w3.heap.size ≤ w4.heap.size) := hm4.fr.size
  have HwS : Hid (w.heap.size ≤ w3.heap.size) := (cur_below HP3.out.c1).size
  clear hc4 hm4 hrow1 HP3
  go_wp2_with fail
  refine (group_all HP4.out.c1 a).mono ?_
  rw [HG.out]
  rintro e w5 ⟨A2, c2, rfl, hrow2, hc5, hm5⟩
  have HP5 := Lib.hid (HP4.out.call1 hc5 hm5)
  have Hlt4 : Hid (∀ x, L1.Has x ∨ L2.Has x → x < w4.heap.size) := HP4.out.lt
  have Hrow1' := Lib.hid (own_fr Hrow1.out hm5.fr (fun x hx => Hlt3.out x (.inl hx)))
  have Hrow2 := Lib.hid hrow2
  have Hb2 := Lib.hid (own_block hrow2)
  have Hs45 : Hid (w4.heap.size ≤ w5.heap.size) := hm5.fr.size
  clear hc5 hm5 hrow2 HP4 Hrow1 HG
  go_wp2_with fail
  refine (path_all HP5.out.c1 Hv1.out a b).mono ?_
  rintro e w6 ⟨A3, c3, P, e3, rfl, hP, hrow3, hc6, hm6⟩
  have HP6 := Lib.hid (HP5.out.call1 hc6 hm6)
  have Hlt5 : Hid (∀ x, L1.Has x ∨ L2.Has x → x < w5.heap.size) := HP5.out.lt
  have Hrow1 := Lib.hid (own_fr Hrow1'.out hm6.fr (fun x hx => Hlt3.out x (.inl hx)))
  have Hrow2' := Lib.hid (own_fr Hrow2.out hm6.fr (fun x hx => Hlt4.out x (.inl hx)))
  have Hrow3 := Lib.hid hrow3
  have Hb3 := Lib.hid (own_block hrow3)
  have hPl := hP.small Hw.out
  have HPP := Lib.hid hP
  have Hs56 : Hid (w5.heap.size ≤ w6.heap.size) := hm6.fr.size
  clear hc6 hm6 hrow3 HP5 Hrow1' Hrow2 hP
  go_wp2_with fail
  refine (path_all HP6.out.c1 Hv1.out a b).mono ?_
  rintro e w7 ⟨A4, c4, P', e4, rfl, hP', hrow4, hc7, hm7⟩
  obtain rfl := hP'.one Hw.out HPP.out
  have HP7 := Lib.hid (HP6.out.call1 hc7 hm7)
  have Hlt6 : Hid (∀ x, L1.Has x ∨ L2.Has x → x < w6.heap.size) := HP6.out.lt
  have Hrow1' := Lib.hid (own_fr Hrow1.out hm7.fr (fun x hx => Hlt3.out x (.inl hx)))
  have Hrow2 := Lib.hid (own_fr Hrow2'.out hm7.fr (fun x hx => Hlt4.out x (.inl hx)))
  have Hrow3' := Lib.hid (own_fr Hrow3.out hm7.fr (fun x hx => Hlt5.out x (.inl hx)))
  have Hrow4 := Lib.hid hrow4
  have Hb4 := Lib.hid (own_block hrow4)
  have Hs67 : Hid (w6.heap.size ≤ w7.heap.size) := hm7.fr.size
  clear hc7 hm7 hrow4 HP6 Hrow1 Hrow2' Hrow3 hP'
  obtain ⟨np, hnp⟩ : ∃ n, P'.length = n := ⟨_, rfl⟩
  have Hnp := Lib.hid hnp
  rw [hnp] at hPl Hrow3' Hrow4 Hb3 Hb4 ⊢
  clear hnp
  go_wp2
  go_loopw [18] (fun i wr => ∃ k cs, k ≤ np ∧ i = .int .i64 (k : Nat) ∧ wr.ownsRow w5.heap.size 42 4 (.slice A3 np c3) np cs ∧ Fr (fun x => (Value.slice A3 np c3).ownBlock = some x) w7 wr) (fun i _ => np - (intOf i).toNat)
  case atStart => exact ⟨0, _, Nat.zero_le _, rfl, Hrow3'.out, Fr.refl _ _⟩
  case round =>
    obtain ⟨k, cs, hk, rfl, hrow, hfr⟩ := hrel
    have Hrow := Lib.hid hrow
    have Hfr := Lib.hid hfr
    clear hrow hfr Hrow3'
    by_cases hlt : k < np
    · have hki : ((k : Nat) : Int) < np := by omega
      obtain ⟨g, cg, hvg, _, _⟩ := Hrow.out.form (by omega)
      obtain ⟨rfl, rfl⟩ : A3 = some ⟨g, 0, none⟩ ∧ c3 = cg := by injection hvg with h1 h2 h3; exact ⟨h1, h3⟩
      have hcl := Hrow.out.1
      have d0 := (Hrow.out.cellAt (k * 4) (by omega)).trans (List.getElem?_eq_getElem (by omega))
      have d1 := (Hrow.out.cellAt (k * 4 + 1) (by omega)).trans (List.getElem?_eq_getElem (by omega))
      have d2 := (Hrow.out.cellAt (k * 4 + 2) (by omega)).trans (List.getElem?_eq_getElem (by omega))
      have d3 := (Hrow.out.cellAt (k * 4 + 3) (by omega)).trans (List.getElem?_eq_getElem (by omega))
      have f0 := Hrow.out.frozenAt (k * 4)
      have f1 := Hrow.out.frozenAt (k * 4 + 1)
      have f2 := Hrow.out.frozenAt (k * 4 + 2)
      have f3 := Hrow.out.frozenAt (k * 4 + 3)
      have Hset := Lib.hid (own_step (i := k) Hrow.out (.int .i64 (-7)) (.int .i64 0) .nilIface (.bool false))
      generalize cs[k * 4]'_ = x0 at d0
      generalize cs[k * 4 + 1]'_ = x1 at d1
      generalize cs[k * 4 + 2]'_ = x2 at d2
      generalize cs[k * 4 + 3]'_ = x3 at d3
      clear hcl hvg
      go_wp2
      go_roundw
      case rel =>
        obtain ⟨⟨ds, h1⟩, h2⟩ := Hset.out
        exact ⟨k + 1, ds, by omega, by go_num, h1, Hfr.out.trans h2 (fun x hx => .inl (by rw [hx]; rfl))⟩
      case measure => simp [intOf]; omega
    · have hke : k = np := by omega
      subst hke
      have h5r : w5.heap.size ≤ wr.heap.size := by have h1 := Hs56.out; have h2 := Hs67.out; have h3 := Hfr.out.size; omega
      clear hlt
      go_wp2_with (at_builtin; refine wpList_append_lies _ rfl (.tmp 84) (.tmp 86) 37 rfl w5.heap.size 42 i42 _ 4 40 Try.underlying37 hi42 hz420 hz421 hz422 rfl (by decide) _ k cs rfl (Hrow.out.alloc _) ⟨wr.heap.size, 0, none⟩ 1 1 [.int .i64 (-8), .int .i64 0, .nilIface, .bool false] rfl rfl (World.news_of_block (heap_alloc_new _ _)) (by simp [Value.oneCell']) (by decide) (by unfold maxLen; omega) (by omega) (by simp; omega) (wr.heap.size + 1) (by exact (Go.Deep.nblk_alloc _ _)) ?_; intro g8 cap8 w8 hown8 hg8 hat8 hlt8; have Hg8 := Lib.hid hg8; clear hown8 hg8 hat8 hlt8)
      have HF8 : Hid (Fr (fun x => (Value.slice A3 k c3).ownBlock = some x) w7 w8) := by
        have h1 : Fr (fun x => (Value.slice A3 k c3).ownBlock = some x) wr (wr.alloc (.cells #[.int .i64 (-8), .int .i64 0, .nilIface, .bool false] 42)) := Fr.of_below _ ((Below.refl _ _).alloc (Nat.le_refl _) _)
        have h2 : Fr (fun x => (Value.slice A3 k c3).ownBlock = some x) _ w8 := Fr.of_grown Hg8.out (fun x hx => hx)
        exact (Hfr.out.trans h1 (fun x hx => .inl hx)).trans h2 (fun x hx => .inl hx)
      clear Hg8 Hfr Hrow
      have HP8 : Hid (Pair w w8 L1 n1 rt1 m1 es1 L2 n2 rt2 m2 es2) := HP7.out.far HF8.out (fun x hx => by
          have h1 := (Hb3.out x hx).1
          have h2 := (cur_below HP7.out.c1).size
          have h3 := Hs34.out
          have h4 := Hs45.out
          have h5 := HwS.out
          omega) (fun x hx => by
          have h1 := (Hb3.out x hx).1
          exact ⟨fun h => by have := Hlt5.out x (.inl h); omega, fun h => by have := Hlt5.out x (.inr h); omega⟩)
      have Hrow1 := Lib.hid (own_far Hrow1'.out HF8.out (fun x hx h3 => by have h1 := Hb1.out x hx; have h2 := Hb3.out x h3; have h4 := Hs45.out; omega))
      have Hrow2' := Lib.hid (own_far Hrow2.out HF8.out (fun x hx h3 => by have h1 := Hb2.out x hx; have h2 := Hb3.out x h3; omega))
      have Hrow4' := Lib.hid (own_far Hrow4.out HF8.out (fun x hx h3 => by have h1 := Hb4.out x hx; have h2 := Hb3.out x h3; omega))
      clear Hrow1' Hrow2 Hrow4 HP7
      go_wp2
      go_loop [17, 19] (fun s i => ∃ q, q ≤ k ∧ i = .int .i64 (q : Nat) ∧ s = .bool true) (fun _ i => k - (intOf i).toNat)
      case atStart => exact ⟨0, Nat.zero_le _, rfl, rfl⟩
      case round =>
        obtain ⟨q, hq, rfl, rfl⟩ := hrel
        by_cases hql : q < k
        · have hqi : ((q : Nat) : Int) < k := by omega
          obtain ⟨g, cg, hvg, _, _⟩ := Hrow4'.out.form (by omega)
          obtain ⟨rfl, rfl⟩ : A4 = some ⟨g, 0, none⟩ ∧ c4 = cg := by injection hvg with h1 h2 h3; exact ⟨h1, h3⟩
          obtain ⟨s, hs⟩ : ∃ s, P'[q]? = some s := ⟨_, List.getElem?_eq_getElem (by rw [Hnp.out]; exact hql)⟩
          have e0 := (row_step Hrow4'.out Hnp.out.symm hs).1
          clear hvg hs
          go_wp2
          go_round
          case rel => exact ⟨q + 1, by omega, by go_num, rfl⟩
          case measure => simp [intOf]; omega
        · have hqe : q = k := by omega
          subst hqe
          have hqG : (G.map fun x : Nat => (x : Int)).length ≤ 1048576 := by rw [List.length_map]; omega
          have HqG := Lib.hid hqG
          clear hqG
          go_wp2_with fail
          refine (sameInts_true _ _ (G.map fun x : Nat => (x : Int)) _ (IntsAt.of_up ((Hrow1.out.alloc _).alloc _)) (IntsAt.of_up ((Hrow2'.out.alloc _).alloc _)) HqG.out).mono ?_
          rintro e w10 ⟨rfl, hb10⟩
          have Hb10 := Lib.hid hb10
          clear hb10
          have HB : Hid (Below w8.heap.size w8 w10) := by
            have h1 : Below w8.heap.size w8 _ := ((Below.refl _ w8).alloc (Nat.le_refl _) (.cells #[.slice A1 G.length c1, .slice A2 G.length c2] 27)).alloc (by simp) (.cells #[.slice none 0 0, .slice (some ⟨w8.heap.size, 0, none⟩) 2 2, .slice none 0 0, .slice none 0 0, .slice none 0 0, .slice none 0 0] 51)
            exact h1.trans (Hb10.out.mono h1.size)
          have Hlow : Hid (w6.heap.size ≤ w8.heap.size) := by have h1 := Hs67.out; have h2 := HF8.out.size; unfold Hid; omega
          have hcl : Hid (w10.heap[w8.heap.size]? = some (.cells #[.slice A1 G.length c1, .slice A2 G.length c2] 27 (0, 0)) ∧ w10.heap[w8.heap.size + 1]? = some (.cells #[.slice none 0 0, .slice (some ⟨w8.heap.size, 0, none⟩) 2 2, .slice none 0 0, .slice none 0 0, .slice none 0 0, .slice none 0 0] 51 (0, 0))) := by
            have e1 := (Hb10.out.block w8.heap.size (by simp; omega))
            have e2 := (Hb10.out.block (w8.heap.size + 1) (by simp))
            constructor
            · rw [e1, RowKit.Below.heap_alloc _ _ _ (by simp)]
              exact heap_alloc_new _ _
            · rw [e2]
              have h0 : (w8.alloc (.cells #[.slice A1 G.length c1, .slice A2 G.length c2] 27)).heap.size = w8.heap.size + 1 := by simp
              rw [← h0]
              exact heap_alloc_new _ _
          have Hr1 := Lib.hid (own_far Hrow1.out (Fr.of_below (fun _ => False) HB.out) (fun _ _ h => h))
          have Hr2 := Lib.hid (own_far Hrow2'.out (Fr.of_below (fun _ => False) HB.out) (fun _ _ h => h))
          have Hr4 := Lib.hid (own_far Hrow4'.out (Fr.of_below (fun _ => False) HB.out) (fun _ _ h => h))
          have HP10 := Lib.hid (HP8.out.later HB.out)
          have hOurs : ∀ x, Ours [.slice A1 G.length c1, .slice A2 G.length c2] x → w3.heap.size ≤ x ∧ x < w5.heap.size := fun x hx => by
            have h4 := Hs34.out
            have h5 := Hs45.out
            rcases ours_two hx with h | h
            · have := Hb1.out x h; omega
            · have := Hb2.out x h; omega
          have HOurs := Lib.hid hOurs
          have HA := Lib.hid (apart_true [.slice A1 G.length c1, .slice A2 G.length c2] [(upCells G).length, (upCells G).length] [upCells G, upCells G] (w8.heap.size + 1) w8.heap.size 2 w10
            (both_two Hr1.out Hr2.out (fun x h1 h2 => by have h3 := Hb1.out x h1; have h4 := Hb2.out x h2; omega)) rfl (Array.getElem?_eq_some_iff.1 hcl.out.1).1 (fun h => by have h1 := HOurs.out _ h; have h2 := Hlow.out; have h3 := Hs56.out; omega)
            (fun i hi => by
              rw [cell_of_row w10 _ i _ _ _ hcl.out.1]
              simp) (by have := hGl; simp [upCells]; omega) (by simp) hcl.out.2 (fun h => by have h1 := HOurs.out _ h; have h2 := Hlow.out; have h3 := Hs56.out; omega))
          clear Hrow1 Hrow2' Hrow4' HP8 hOurs
          go_wp2_with fail
          refine HA.out.mono ?_
          rintro e w11 ⟨rfl, hf11⟩
          have HP11 := Lib.hid (HP10.out.far hf11 (fun x hx => by have h1 := HOurs.out x hx; have h2 := HwS.out; omega) (fun x hx => by
            have h4 := Hs34.out
            rcases ours_two hx with h | h
            · have h1 := Hb1.out x h; exact ⟨fun h2 => by have := Hlt3.out x (.inl h2); omega, fun h2 => by have := Hlt3.out x (.inr h2); omega⟩
            · have h1 := Hb2.out x h; exact ⟨fun h2 => by have := Hlt4.out x (.inl h2); omega, fun h2 => by have := Hlt4.out x (.inr h2); omega⟩))
          have Hr4' := Lib.hid (own_far Hr4.out hf11 (fun x hx h => by have h1 := HOurs.out x h; have h2 := Hb4.out x hx; have h3 := Hs56.out; omega))
          have Hs11 : Hid (w10.heap.size ≤ w11.heap.size) := hf11.size
          clear hf11 HA hcl Hr1 Hr2 Hr4 HP10 Hb10
          go_wp2_with fail
          refine (path_all HP11.out.c1 Hv1.out a b).mono ?_
          rintro e w12 ⟨A5, c5, P5, e5, rfl, hP5, hrow5, hc12, hm12⟩
          obtain rfl := hP5.one Hw.out HPP.out
          rw [Hnp.out]
          have HP12 := Lib.hid (HP11.out.call1 hc12 hm12)
          have hr4 := own_fr Hr4'.out hm12.fr (fun x hx => Hlt6.out x (.inl hx))
          have Hr4 := Lib.hid hr4
          rw [Hnp.out] at hrow5
          have Hr5 := Lib.hid hrow5
          clear hc12 hm12 hrow5 hr4 HP11 Hr4' hP5
          go_wp2
          go_loopw [23] (fun i wr => ∃ k, k ≤ q ∧ i = .int .i64 (k : Nat) ∧ ∃ d, wr = w12.drewN d) (fun i _ => q - (intOf i).toNat)
          case atStart => exact ⟨0, Nat.zero_le _, rfl, 0, rfl⟩
          case round =>
            obtain ⟨k, hk, rfl, d, rfl⟩ := hrel
            by_cases hkl : k < q
            · have hki : ((k : Nat) : Int) < q := by omega
              obtain ⟨s, hs⟩ : ∃ s, P5[k]? = some s := ⟨_, List.getElem?_eq_getElem (by rw [Hnp.out]; exact hkl)⟩
              obtain ⟨g4, cg4, hv4, _, _⟩ := Hr4.out.form (by omega)
              obtain ⟨rfl, rfl⟩ : A4 = some ⟨g4, 0, none⟩ ∧ c4 = cg4 := by injection hv4 with h1 h2 h3; exact ⟨h1, h3⟩
              obtain ⟨g5, cg5, hv5, _, _⟩ := Hr5.out.form (by omega)
              obtain ⟨rfl, rfl⟩ : A5 = some ⟨g5, 0, none⟩ ∧ c5 = cg5 := by injection hv5 with h1 h2 h3; exact ⟨h1, h3⟩
              obtain ⟨d0, d1, _, _⟩ := row_step Hr4.out Hnp.out.symm hs
              obtain ⟨e0, e1, _, _⟩ := row_step Hr5.out Hnp.out.symm hs
              clear hv4 hv5 hs
              go_wp2
              go_quiet (fail)
              go_wp2
              go_roundw
              case rel => exact ⟨k + 1, by omega, by go_num, _, rfl⟩
              case measure => simp [intOf]; omega
            · have hke : k = q := by omega
              subst hke
              have HP13 := Lib.hid (HP12.out.later (drewN_below w12 d))
              clear HP12 hkl Hr4 Hr5
              go_wp2_with fail
              refine (cur_len HP13.out.c2).mono ?_
              rintro e w14 ⟨rfl, rfl⟩
              go_wp2_with fail
              refine (group_all HP13.out.c2 a).mono ?_
              have hKl := groupOf_le n2 rt2 a
              have hn2 := HP13.out.c2.wood.2
              obtain ⟨K, hK⟩ : ∃ K, groupOf n2 rt2 a = K := ⟨_, rfl⟩
              rw [hK] at hKl ⊢
              have HK := Lib.hid hK
              clear hK
              rintro e w15 ⟨A6, c6, rfl, hrow6, hc15, hm15⟩
              have HP15 := Lib.hid (HP13.out.call2 hc15 hm15)
              have Hb6 := Lib.hid (own_block hrow6)
              have Hlt14 := Lib.hid HP13.out.lt
              have Hr6 := Lib.hid hrow6
              clear hc15 hm15 hrow6 HP13
              go_wp2_with fail
              refine (add_all HP15.out.c1).mono ?_
              rintro e w16 ⟨⟨v1, v2, rfl⟩, L1', n1', hp', hc16, hm16⟩
              have HP16 := Lib.hid (HP15.out.call1 hc16 hm16)
              have Hp' := Lib.hid hp'.symm
              have Hr6' := Lib.hid (own_far Hr6.out hm16.fr (fun x hx h => by have h1 := Hb6.out x hx; have h2 := Hlt14.out x (.inl h); omega))
              have Hown16 := Lib.hid hm16.own
              have Hs16 : Hid (w15.heap.size ≤ w16.heap.size) := hm16.fr.size
              clear hc16 hm16 hp' HP15 Hr6
              rw [Hp'.out]
              go_wp2_with fail
              refine (join_all HP16.out.c1 a b (why := .iface 3 (.int .i64 1)) rfl).mono ?_
              rintro e w17 ⟨⟨v3, v4, rfl⟩, L1'', rt1'', m1'', es1'', hp'', hc17, hm17⟩
              have HP17 := Lib.hid (HP16.out.call1 hc17 hm17)
              have Hr6 := Lib.hid (own_far Hr6'.out hm17.fr (fun x hx h => by
                have h1 := Hb6.out x hx
                rcases Hown16.out x h with h2 | h2
                · have := Hlt14.out x (.inl h2); omega
                · omega))
              clear hc17 hm17 hp'' HP16 Hr6' Hown16
              go_wp2_with fail
              refine (group_all HP17.out.c2 a).mono ?_
              rw [HK.out]
              rintro e w18 ⟨A7, c7, rfl, hrow7, hc18, hm18⟩
              have HP18 := Lib.hid (HP17.out.call2 hc18 hm18)
              have hr6 := own_fr Hr6.out hm18.fr (fun x hx => Hlt14.out x (.inr hx))
              have Hr6' := Lib.hid hr6
              have Hr7 := Lib.hid hrow7
              clear hc18 hm18 hrow7 HP17 Hr6 hr6
              have hqK : (K.map fun x : Nat => (x : Int)).length ≤ 1048576 := by rw [List.length_map]; omega
              have HqK := Lib.hid hqK
              clear hqK
              go_wp2_with fail
              refine (cur_len HP18.out.c2).mono ?_
              rintro e w19 ⟨rfl, rfl⟩
              go_wp2_with fail
              refine (sameInts_true _ _ (K.map fun x : Nat => (x : Int)) _ (IntsAt.of_up Hr6'.out) (IntsAt.of_up Hr7.out) HqK.out).mono ?_
              rintro e w20 ⟨rfl, hb20⟩
              have Hend : Hid (Below w.heap.size w w20) := cur_below (HP18.out.later hb20).c1
              clear hb20
              go_wp2
              go_ret
              exact ⟨rfl, Hend.out⟩

end Go.Proofs.Ytkgmhkjiblanmaa
