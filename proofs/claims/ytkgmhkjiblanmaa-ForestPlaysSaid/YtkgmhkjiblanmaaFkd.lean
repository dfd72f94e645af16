/-
  The walk of apartInts (package sorrelref02).
-/
import Derived.Test.YtkgmhkjiblanmaaFkc
namespace Go.Proofs.Ytkgmhkjiblanmaa
open Go.RowKit

theorem info27 : (Try.prog.info? 27).map (fun i => (i.zero, i.size, i.bytes)) = some (some (.slice none 0 0), 1, 24) := by kernel_rfl

theorem row27_keep {w w' : World} {B B' n m : Nat} {u v : Value} {xs ys : List Value} (h : w.ownsRow B 27 1 u n xs) (h3 : w.ownsRow B' 3 1 v m ys) (hg : w.grownBy w' v.ownBlock) : w'.ownsRow B 27 1 u n xs := by
  refine h.kept hg ?_
  cases hb : u.ownBlock with
  | none => exact .inl rfl
  | some g =>
    refine .inr fun e => ?_
    rcases h.2 with ⟨rfl, _⟩ | ⟨g1, _, _, rfl, _, h1, _⟩
    · cases hb
    · rcases h3.2 with ⟨rfl, _⟩ | ⟨g2, _, _, rfl, _, h2, _⟩
      · cases e
      · cases hb
        cases e
        rw [h1] at h2; cases h2

theorem start_zero (lens : List Nat) : start lens 0 = 1000000 := by simp [start]
theorem growns_at {lens : List Nat} {k nk : Nat} (h : lens[k]? = some nk) : (growns lens lens.length)[k]? = some (seqC (start lens k) nk ++ seqC (start lens lens.length + 12 * k) 12) := by
  obtain ⟨hk, rfl⟩ := List.getElem?_eq_some_iff.1 h
  simp [growns, hk]
theorem grown_cell {s t n q : Nat} (h : q < 12) : (seqC s n ++ seqC t 12)[n + q]? = some (.int .i64 ((t + q : Nat) : Int)) := by
  rw [List.getElem?_append_right (by rw [seqC_length]; omega), seqC_length, Nat.add_sub_cancel_left, seqC_at _ _ h]

theorem growns_next {lens : List Nat} {k nk : Nat} (h : lens[k]? = some nk) : growns lens (k + 1) = growns lens k ++ [seqC (start lens k) nk ++ seqC (start lens lens.length + 12 * k) 12] := by
  rw [growns_succ]
  obtain ⟨hk, rfl⟩ := List.getElem?_eq_some_iff.1 h
  simp [hk]

set_option maxRecDepth 100000 in
set_option maxHeartbeats 3200000 in
theorem apartInts_true (vs : List Value) (lens : List Nat) (cs : List (List Value)) (bl cap : Nat) (w : World) (hb : Both w vs cs [] []) (hl : cs.map List.length = lens) (hbl : bl < w.heap.size) (hno : ¬ Ours vs bl) (hcells : ∀ i, i < lens.length → w.cell? ⟨bl, i, none⟩ = vs[i]?)
    (hsum : lens.sum ≤ 1099511627776) (hK : lens.length ≤ 1048576) :
    Calls Try.prog 25 #[.slice (some ⟨bl, 0, none⟩) lens.length cap] w fun e w' => e = .returned (.bool true) ∧ Fr (Ours vs) w w' := by
  have HM0 : Hid (Mark w vs lens 0 cs w) := ⟨hb, hl, fun i' k h => absurd h (by omega), Fr.refl _ _⟩
  have hKl : vs.length = lens.length := by rw [hb.vlen, ← hl, List.length_map]
  have HC : Hid (∀ wr i, Fr (Ours vs) w wr → i < lens.length → wr.cell? ⟨bl, i, none⟩ = vs[i]?) := fun wr i hfr hi => (hfr.cell hbl hno).trans (hcells i hi)
  have Hst : Hid (∀ i, start lens i ≤ 1000000 + 1099511627776) := fun i => Nat.le_trans (start_le lens i) (by omega)
  obtain ⟨i3, hi3, hz30, hz31, hz32⟩ := info_parts info3
  obtain ⟨i27, hi27, hz270, hz271, hz272⟩ := info_parts info27
  have HKl := Lib.hid hKl
  clear hb hl hbl hno hcells hsum hKl
  go_enter Try.func25, Try.ntmps25
  go_wp2
  go_loopw [3, 5] (fun n i wr => ∃ k cs, k ≤ lens.length ∧ i = .int .i64 (k : Nat) ∧ n = .int .i64 (start lens k : Nat) ∧ Mark w vs lens k cs wr) (fun _ i _ => lens.length - (intOf i).toNat)
  case atStart => exact ⟨0, cs, Nat.zero_le _, rfl, rfl, HM0.out⟩
  case round =>
    obtain ⟨k, cs, hk, rfl, rfl, hM⟩ := hrel
    have HM := Lib.hid hM
    clear hM HM0
    by_cases hlt : k < lens.length
    · have hki : ((k : Nat) : Int) < lens.length := by omega
      obtain ⟨v, hv⟩ : ∃ v, vs[k]? = some v := ⟨_, List.getElem?_eq_getElem (by rw [HKl.out]; exact hlt)⟩
      obtain ⟨ck, hck⟩ : ∃ c, cs[k]? = some c := ⟨_, List.getElem?_eq_getElem (by have := HM.out.both.vlen; have := HKl.out; omega)⟩
      obtain ⟨A, cA, rfl⟩ := row_form (HM.out.both.ev k v ck hv hck)
      have Hck := Lib.hid hck
      have Hv := Lib.hid hv
      have hsk := Hst.out k
      obtain ⟨nk, hnk⟩ : ∃ n, ck.length = n := ⟨_, rfl⟩
      have hlk : lens[k]? = some nk := by rw [← HM.out.len, List.getElem?_map, hck, ← hnk]; rfl
      have hnk1 : nk ≤ 1099511627776 + 1000000 := by have h1 := start_succ hlk; have h2 := Hst.out (k + 1); omega
      rw [hnk] at Hv
      have Hnk := Lib.hid hnk
      have Hlk := Lib.hid hlk
      clear hck hv hnk hlk
      go_wp2
      go_loopw [3, 6] (fun n j wq => ∃ q cs c, q ≤ nk ∧ j = .int .i64 (q : Nat) ∧ n = .int .i64 ((start lens k + q : Nat) : Int) ∧ Mark w vs lens k cs wq ∧ cs[k]? = some c ∧ c.length = nk ∧ c.take q = seqC (start lens k) q) (fun _ j _ => nk - (intOf j).toNat)
      case atStart => exact ⟨0, cs, ck, Nat.zero_le _, rfl, rfl, HM.out, Hck.out, Hnk.out, by simp [seqC]⟩
      case round =>
        obtain ⟨q, cs', c, hq, rfl, rfl, hM', hc, hcn, htk⟩ := hrel
        have HM' := Lib.hid hM'
        have Hc := Lib.hid hc
        have Hcn := Lib.hid hcn
        have Htk := Lib.hid htk
        have hcell := HC.out _ k hM'.fr hlt
        rw [Hv.out] at hcell
        clear hM' hc hcn htk HM Hck Hnk
        by_cases hql : q < nk
        · have hqi : ((q : Nat) : Int) < nk := by omega
          obtain ⟨g, cg, hvg, _, _⟩ := (show World.ownsRow _ 0 3 1 (.slice A nk cA) c.length c from HM'.out.both.ev k _ c Hv.out Hc.out).form (by have := Hcn.out; omega)
          obtain ⟨rfl, -, rfl⟩ : A = some ⟨g, 0, none⟩ ∧ nk = c.length ∧ cA = cg := by injection hvg with h1 h2 h3; exact ⟨h1, h2, h3⟩
          have hrow := HM'.out.both.ev k _ c Hv.out Hc.out
          rw [Hcn.out] at hrow
          have hcg : ∃ u, wr.cell? ⟨g, q, none⟩ = some u := ⟨_, (hrow.cellAt q (by omega)).trans (List.getElem?_eq_getElem (by have := Hcn.out; omega))⟩
          obtain ⟨u, hcg⟩ := hcg
          have hfg := hrow.frozenAt q
          obtain ⟨s1, s2, s3, s4⟩ := HM'.out.store Hv.out Hc.out Hcn.out.symm hql Htk.out
          rw [Int.natCast_add] at s1 s2 s3 s4
          have Hend : Hid (∃ cs c, Mark w vs lens k cs (wr.setCell ⟨g, q, none⟩ (.int .i64 ((start lens k : Nat) + (q : Nat) : Int))) ∧ cs[k]? = some c ∧ c.length = nk ∧ c.take (q + 1) = seqC (start lens k) (q + 1)) := ⟨_, _, s1, s2, s4, s3⟩
          clear s1 s2 s3 s4 hrow hvg
          have hwr : start lens k + q < 4611686018427387904 := by omega
          go_wp2
          go_roundw
          case rel =>
            obtain ⟨cs2, c2, t1, t2, t3, t4⟩ := Hend.out
            exact ⟨q + 1, cs2, c2, by omega, by go_num, by go_num, t1, t2, t3, t4⟩
          case measure => simp [intOf]; omega
        · have hqn : q = nk := by omega
          subst hqn
          have Hnext : Hid (Mark w vs lens (k + 1) cs' wr ∧ start lens (k + 1) = start lens k + q) := by
            have h1 := HM'.out.next Hc.out (by rw [Hcn.out]; exact Htk.out)
            rw [Hcn.out] at h1
            exact h1
          clear HM' Hc Hcn Htk
          go_wp2
          go_roundw
          case rel => exact ⟨k + 1, cs', by omega, by go_num, by rw [Hnext.out.2], Hnext.out.1⟩
          case measure => simp [intOf]; omega
    · have hke : k = lens.length := by omega
      subst hke
      have HG0 : Hid (Grow w vs lens [] [] wr ∧ cs = marked lens) := by
        have h1 := HM.out
        have h2 := h1.all
        have h3 := h1.both
        rw [h2] at h3
        exact ⟨⟨h3, fun i g hg => by simp [blk] at hg, h1.fr⟩, h2⟩
      have hsV := Hst.out lens.length
      clear HM
      go_wp2
      have HG1 : Hid (Grow w vs lens [] (growns lens 0) wr) := HG0.out.1
      clear HG0
      go_loopw [3, 4, 7] (fun n vg i wq => ∃ k gs, k ≤ lens.length ∧ i = .int .i64 (k : Nat) ∧ n = .int .i64 ((start lens lens.length + 12 * k : Nat) : Int) ∧ gs.length = k ∧ Grow w vs lens gs (growns lens k) wq ∧ wq.ownsRow w.heap.size 27 1 vg gs.length gs) (fun _ _ i _ => lens.length - (intOf i).toNat)
      case atStart => exact ⟨0, [], Nat.zero_le _, rfl, rfl, rfl, HG1.out, World.ownsRow_nil _ _ _ _⟩
      case round =>
        obtain ⟨k, gs, hk, rfl, rfl, hgk, hG, hrow⟩ := hrel
        have HG := Lib.hid hG
        have Hrow := Lib.hid hrow
        have Hgk := Lib.hid hgk
        clear hG hrow HG1 hgk
        obtain ⟨Ag, cg, rfl⟩ := row_form Hrow.out
        by_cases hlt : k < lens.length
        · have hki : ((k : Nat) : Int) < lens.length := by omega
          obtain ⟨v, hv⟩ : ∃ v, vs[k]? = some v := ⟨_, List.getElem?_eq_getElem (by rw [HKl.out]; exact hlt)⟩
          obtain ⟨nk, hlk⟩ : ∃ n, lens[k]? = some n := ⟨_, List.getElem?_eq_getElem hlt⟩
          have hown := HG.out.both.ev k v _ hv (marked_at hlk)
          rw [seqC_length] at hown
          obtain ⟨A, cA, rfl⟩ := row_form hown
          have hcell := HC.out _ k HG.out.fr hlt
          rw [hv] at hcell
          have hnk1 : nk ≤ 1099511627776 + 1000000 := by have h1 := start_succ hlk; have h2 := Hst.out (k + 1); omega
          have HG2 : Hid (Grow w vs lens (gs ++ [.slice A nk cA]) (growns lens k ++ [seqC (start lens k) nk ++ seqC (start lens lens.length + 12 * k) 0]) wr) := by
            have h1 := Hgk.out
            subst h1
            exact HG.out.begin hv hlk
          have Hlk := Lib.hid hlk
          clear hv hlk hown
          go_wp2
          go_loopw [3, 8, 9] (fun n v j wq => ∃ q v', q ≤ 12 ∧ j = .int .i64 (q : Nat) ∧ n = .int .i64 ((start lens lens.length + 12 * k + q : Nat) : Int) ∧ v = v' ∧ Grow w vs lens (gs ++ [v']) (growns lens k ++ [seqC (start lens k) nk ++ seqC (start lens lens.length + 12 * k) q]) wq ∧ wq.ownsRow w.heap.size 27 1 (.slice Ag gs.length cg) gs.length gs) (fun _ _ j _ => 12 - (intOf j).toNat)
          case atStart => exact ⟨0, _, by omega, rfl, by go_num, rfl, HG2.out, Hrow.out⟩
          case round =>
            obtain ⟨q, v', hq, rfl, rfl, rfl, hG', hrow'⟩ := hrel
            have HG' := Lib.hid hG'
            have Hrow' := Lib.hid hrow'
            clear hG' hrow' HG2 HG Hrow hcell
            have hown := HG'.out.last.1
            rw [List.length_append, seqC_length, seqC_length] at hown
            obtain ⟨A', cA', rfl⟩ := row_form hown
            have Hown := Lib.hid hown
            clear hown
            have hgl : gs.length ≤ 1048576 := by have := Hgk.out; omega
            have hsL := Hst.out lens.length
            by_cases hq12 : q < 12
            · go_wp2_with (at_builtin; refine wpList_append_keeps _ rfl (.tmp 52) (.tmp 54) 27 rfl 0 3 i3 (.int .i64 0) 1 8 Try.underlying27 hi3 hz30 hz31 hz32 rfl (by decide) _ (nk + q) _ rfl (Hown.out.alloc _) ⟨wr.heap.size, 0, none⟩ 1 1 [.int .i64 ((start lens lens.length : Nat) + 12 * (k : Nat) + (q : Nat) : Int)] rfl rfl (World.news_of_block (heap_alloc_new _ _)) (by simp [Value.oneCell']) (by decide) (by unfold maxLen; omega) (by omega) (Nat.zero_le _) ?_; intro g2 cap2 w5 hown5 hg5 hat5 hsh5; have H5 := Lib.hid (And.intro hown5 (And.intro hg5 (And.intro hat5 hsh5))); clear hown5 hg5 hat5 hsh5)
              have Hend : Hid (Grow w vs lens (gs ++ [.slice (some ⟨g2, 0, none⟩) (nk + q + 1) cap2]) (growns lens k ++ [seqC (start lens k) nk ++ seqC (start lens lens.length + 12 * k) (q + 1)]) w5 ∧ w5.ownsRow w.heap.size 27 1 (.slice Ag gs.length cg) gs.length gs) := by
                obtain ⟨u1, u2, u3, u4⟩ := H5.out
                have hgk := Hgk.out
                have e0 : (((start lens lens.length : Nat) : Int) + 12 * (k : Nat) + (q : Nat)) = ((start lens lens.length + 12 * k + q : Nat) : Int) := by omega
                rw [e0] at u1
                subst hgk
                exact ⟨HG'.out.grow Hlk.out u1 u2 u3 u4, row27_keep (Hrow'.out.alloc _) (Hown.out.alloc _) u2⟩
              clear H5
              go_roundw
              case rel => exact ⟨q + 1, _, by omega, by go_num, by go_num, rfl, Hend.out.1, Hend.out.2⟩
              case measure => simp [intOf]; omega
            · have hqe : q = 12 := by omega
              subst hqe
              have hsz := HG'.out.fr.size
              go_wp2_with (at_builtin; refine wpList_append_lies _ rfl (.tmp 58) (.tmp 60) 44 rfl w.heap.size 27 i27 (.slice none 0 0) 1 24 Try.underlying44 hi27 hz270 hz271 hz272 rfl (by decide) _ gs.length gs rfl (Hrow'.out.alloc _) ⟨wr.heap.size, 0, none⟩ 1 1 [.slice A' (nk + 12) cA'] rfl rfl (World.news_of_block (heap_alloc_new _ _)) (by simp [Value.oneCell']) (by decide) (by unfold maxLen; omega) (by omega) (by simp; omega) (wr.heap.size + 1) (by exact (Go.Deep.nblk_alloc _ _)) ?_; intro g6 cap6 w6 hown6 hg6 hat6 hlt6; have H6 := Lib.hid (And.intro hown6 hg6); clear hown6 hg6 hat6 hlt6)
              have Hend : Hid (Grow w vs lens (gs ++ [Value.slice A' (nk + 12) cA']) (growns lens (k + 1)) w6 ∧ w6.ownsRow w.heap.size 27 1 (.slice (some ⟨g6, 0, none⟩) (gs.length + 1) cap6) (gs ++ [Value.slice A' (nk + 12) cA']).length (gs ++ [Value.slice A' (nk + 12) cA']) ∧ (gs ++ [Value.slice A' (nk + 12) cA']).length = k + 1) := by
                obtain ⟨u1, u2⟩ := H6.out
                rw [growns_next Hlk.out]
                refine ⟨HG'.out.put Hrow'.out u2, ?_, by rw [List.length_append, Hgk.out]; rfl⟩
                rw [List.length_append]; exact u1
              clear H6
              go_roundw
              case rel => exact ⟨k + 1, _, by omega, by go_num, by go_num, Hend.out.2.2, Hend.out.1, Hend.out.2.1⟩
              case measure => simp [intOf]; omega
        · have hke : k = lens.length := by omega
          subst hke
          have hsL := Hst.out lens.length
          clear hlt
          go_wp2
          go_loop [3, 10] (fun n i => ∃ k, k ≤ lens.length ∧ i = .int .i64 (k : Nat) ∧ n = .int .i64 (start lens k : Nat)) (fun _ i => lens.length - (intOf i).toNat)
          case atStart => exact ⟨0, Nat.zero_le _, rfl, by rw [start_zero]; rfl⟩
          case round =>
            obtain ⟨k, hk, rfl, rfl⟩ := hrel
            by_cases hlt : k < lens.length
            · have hki : ((k : Nat) : Int) < lens.length := by omega
              obtain ⟨v, hv⟩ : ∃ v, vs[k]? = some v := ⟨_, List.getElem?_eq_getElem (by rw [HKl.out]; exact hlt)⟩
              obtain ⟨nk, hlk⟩ : ∃ n, lens[k]? = some n := ⟨_, List.getElem?_eq_getElem hlt⟩
              have hown := HG.out.both.ev k v _ hv (marked_at hlk)
              rw [seqC_length] at hown
              obtain ⟨A, cA, rfl⟩ := row_form hown
              have hcell := HC.out _ k HG.out.fr hlt
              rw [hv] at hcell
              have hss := start_succ hlk
              have hsk := Hst.out (k + 1)
              have hnk1 : start lens k + nk ≤ 1099511627776 + 1000000 := by omega
              have Hown := Lib.hid hown
              have Hss := Lib.hid hss
              clear hv hlk hown hss hsk
              go_wp2
              go_loop [3, 11] (fun n j => ∃ q, q ≤ nk ∧ j = .int .i64 (q : Nat) ∧ n = .int .i64 ((start lens k + q : Nat) : Int)) (fun _ j => nk - (intOf j).toNat)
              case atStart => exact ⟨0, Nat.zero_le _, rfl, rfl⟩
              case round =>
                obtain ⟨q, hq, rfl, rfl⟩ := hrel
                by_cases hql : q < nk
                · have hqi : ((q : Nat) : Int) < nk := by omega
                  obtain ⟨g, cg', hvg, _, _⟩ := Hown.out.form (by omega)
                  obtain ⟨rfl, rfl⟩ : A = some ⟨g, 0, none⟩ ∧ cA = cg' := by injection hvg with h1 h2 h3; exact ⟨h1, h3⟩
                  have hcq := Hown.out.cellAt q (by omega)
                  rw [seqC_at _ _ hql] at hcq
                  clear hvg
                  go_wp2
                  go_round
                  case rel => exact ⟨q + 1, by omega, by go_num, by go_num⟩
                  case measure => simp [intOf]; omega
                · have hqe : q = nk := by omega
                  subst hqe
                  go_wp2
                  go_round
                  case rel => exact ⟨k + 1, by omega, by go_num, by rw [Hss.out]⟩
                  case measure => simp [intOf]; omega
            · have hke : k = lens.length := by omega
              subst hke
              clear hlt
              go_wp2
              go_loop [3, 12] (fun n i => ∃ k, k ≤ lens.length ∧ i = .int .i64 (k : Nat) ∧ n = .int .i64 ((start lens lens.length + 12 * k : Nat) : Int)) (fun _ i => lens.length - (intOf i).toNat)
              case atStart => exact ⟨0, Nat.zero_le _, rfl, by simp⟩
              case round =>
                obtain ⟨k, hk, rfl, rfl⟩ := hrel
                have hgl : gs.length ≤ lens.length := Nat.le_of_eq Hgk.out
                have hgl2 : lens.length ≤ gs.length := Nat.le_of_eq Hgk.out.symm
                by_cases hlt : k < lens.length
                · have hki : ((k : Nat) : Int) < lens.length := by omega
                  have hkg : ((k : Nat) : Int) < gs.length := by omega
                  obtain ⟨v, hv⟩ : ∃ v, vs[k]? = some v := ⟨_, List.getElem?_eq_getElem (by rw [HKl.out]; exact hlt)⟩
                  obtain ⟨nk, hlk⟩ : ∃ n, lens[k]? = some n := ⟨_, List.getElem?_eq_getElem hlt⟩
                  have hown := HG.out.both.ev k v _ hv (marked_at hlk)
                  rw [seqC_length] at hown
                  obtain ⟨A, cA, rfl⟩ := row_form hown
                  have hcell := HC.out _ k HG.out.fr hlt
                  rw [hv] at hcell
                  obtain ⟨u, hu⟩ : ∃ u, gs[k]? = some u := ⟨_, List.getElem?_eq_getElem (by omega)⟩
                  have hgr := HG.out.both.eg k u _ hu (growns_at hlk)
                  rw [List.length_append, seqC_length, seqC_length] at hgr
                  obtain ⟨g, cg', rfl, _, _⟩ := hgr.form (by omega)
                  obtain ⟨gg, cgg, hgg, _, _⟩ := Hrow.out.form (by omega)
                  obtain ⟨rfl, rfl⟩ : Ag = some ⟨gg, 0, none⟩ ∧ cg = cgg := by injection hgg with h1 h2 h3; exact ⟨h1, h3⟩
                  have hgc := Hrow.out.cellAt k (by omega)
                  rw [hu] at hgc
                  have hss := start_succ hlk
                  have hsk := Hst.out (k + 1)
                  have hnk1 : start lens k + nk ≤ 1099511627776 + 1000000 := by omega
                  have Hgr := Lib.hid hgr
                  clear hv hlk hown hss hsk hu hgr hgg
                  go_wp2
                  go_loop [3, 13] (fun n j => ∃ q, q ≤ 12 ∧ j = .int .i64 ((nk + q : Nat) : Int) ∧ n = .int .i64 ((start lens lens.length + 12 * k + q : Nat) : Int)) (fun _ j => nk + 12 - (intOf j).toNat)
                  case atStart => exact ⟨0, by omega, by simp, by simp⟩
                  case round =>
                    obtain ⟨q, hq, rfl, rfl⟩ := hrel
                    by_cases hql : q < 12
                    · have hqi : ((nk : Nat) : Int) + q < nk + 12 := by omega
                      have hcq := Hgr.out.cellAt (nk + q) (by omega)
                      rw [grown_cell hql] at hcq
                      go_wp2
                      go_round
                      case rel => exact ⟨q + 1, by omega, by go_num, by go_num⟩
                      case measure => simp [intOf]; omega
                    · have hqe : q = 12 := by omega
                      subst hqe
                      go_wp2
                      go_round
                      case rel => exact ⟨k + 1, by omega, by go_num, by go_num⟩
                      case measure => simp [intOf]; omega
                · have hke : k = lens.length := by omega
                  subst hke
                  go_wp2
                  go_ret
                  exact ⟨rfl, HG.out.fr⟩

end Go.Proofs.Ytkgmhkjiblanmaa
