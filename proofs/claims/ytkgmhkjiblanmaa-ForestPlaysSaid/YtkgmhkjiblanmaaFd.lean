/-
  Trees of parents; the walk of top (package forest).
-/
import Derived.Test.YtkgmhkjiblanmaaFb
import Derived.StillTailTactics
namespace Go.Proofs.Ytkgmhkjiblanmaa
open Go.RowKit

/-- Parents that lead to a root: 'rt' names each member's, 'm' falls on the way. -/
structure Tree (up : List Nat) (rt m : Nat → Nat) : Prop where
  lt : ∀ i, i < up.length → up.getD i 0 < up.length
  root : ∀ i, i < up.length → up.getD i 0 = i → rt i = i
  step : ∀ i, i < up.length → rt (up.getD i 0) = rt i
  falls : ∀ i, i < up.length → up.getD i 0 ≠ i → m (up.getD i 0) < m i

theorem getD_set (l : List Nat) (i x j : Nat) (hi : i < l.length) : (l.set i x).getD j 0 = if j = i then x else l.getD j 0 := by
  simp only [List.getD_eq_getElem?_getD, List.getElem?_set]
  by_cases h : i = j
  · subst h; simp [hi]
  · rw [if_neg h, if_neg (fun e => h e.symm)]

theorem Tree.halve {up : List Nat} {rt m : Nat → Nat} (h : Tree up rt m) {k : Nat} (hk : k < up.length) (hn : up.getD k 0 ≠ k) : Tree (up.set k (up.getD (up.getD k 0) 0)) rt m ∧ m (up.getD (up.getD k 0) 0) < m k ∧ rt (up.getD (up.getD k 0) 0) = rt k ∧ up.getD (up.getD k 0) 0 < up.length := by
  have h1 := h.lt k hk
  have h2 := h.lt _ h1
  have hm : m (up.getD (up.getD k 0) 0) < m k := by
    have a := h.falls k hk hn
    by_cases e : up.getD (up.getD k 0) 0 = up.getD k 0
    · rw [e]; exact a
    · exact Nat.lt_trans (h.falls _ h1 e) a
  have hr : rt (up.getD (up.getD k 0) 0) = rt k := by rw [h.step _ h1, h.step _ hk]
  refine ⟨⟨fun i hi => ?_, fun i hi e => ?_, fun i hi => ?_, fun i hi e => ?_⟩, hm, hr, h2⟩
  all_goals rw [List.length_set] at hi
  · rw [List.length_set, getD_set _ _ _ _ hk]; split
    · exact h2
    · exact h.lt i hi
  · rw [getD_set _ _ _ _ hk] at e
    split at e
    · rename_i hik; subst hik; rw [e] at hm; omega
    · exact h.root i hi e
  · rw [getD_set _ _ _ _ hk]; split
    · rename_i hik; subst hik; exact hr
    · exact h.step i hi
  · rw [getD_set _ _ _ _ hk] at e ⊢
    split
    · rename_i hik; subst hik; exact hm
    · rename_i hik; rw [if_neg hik] at e; exact h.falls i hi e

/-- What 'top' keeps: the same forest but for its parents; these lead to the same roots. -/
def Same (F F' : FS) (rt m : Nat → Nat) : Prop := F'.size = F.size ∧ F'.joints = F.joints ∧ F'.up.length = F.up.length ∧ Tree F'.up rt m

set_option maxRecDepth 100000 in
set_option maxHeartbeats 800000 in
theorem top_any (L : Lay) (F : FS) (rt m : Nat → Nat) (a : Nat) (w : World) (h : Rep w L F) (ht : Tree F.up rt m) (ha : a < F.up.length) (hmost : F.up.length ≤ 1048576) :
    Calls Try.prog 23 #[.pointer (some ⟨L.p, 0, none⟩), .int .i64 a] w fun e w' => e = .returned (.int .i64 (rt a)) ∧ ∃ F', Same F F' rt m ∧ Rep w' L F' ∧ Moves w w' L L := by
  obtain ⟨g, c, hv⟩ := h.up_form (by omega)
  have Hv := Lib.hid hv
  clear hv
  go_enter Try.func23, Try.ntmps23
  go_wp2
  go_loopw [1] (fun v wr => ∃ k : Nat, ∃ F' : FS, v = .int .i64 k ∧ k < F.up.length ∧ rt k = rt a ∧ Same F F' rt m ∧ Rep wr L F' ∧ Moves w wr L L) (fun v _ => m (intOf v).toNat)
  case atStart => exact ⟨a, F, rfl, ha, rfl, ⟨rfl, rfl, rfl, ht⟩, h, Moves.refl _ _⟩
  case round =>
    obtain ⟨k, F', rfl, hk, hrt, hsame, hrep, hmov⟩ := hrel
    have hlen := hsame.2.2.1
    have hv' := Hv.out
    rw [← hlen] at hv'
    have h0 := hrep.cells.1
    rw [hv', hlen] at h0
    have hkl : k < F'.up.length := by omega
    obtain ⟨hc, hcf⟩ := hrep.up_cell hv' hkl
    have hki : ((k : Int) < F.up.length) := by omega
    have htr := hsame.2.2.2
    by_cases he : F'.up.getD k 0 = k
    · have hroot := htr.root k hkl he
      rw [he] at hc
      have Hout : Hid (∃ F', Same F F' rt m ∧ Rep wr L F' ∧ Moves w wr L L) := ⟨F', hsame, hrep, hmov⟩
      have Hk : Hid (k = rt a) := by rw [Hid, ← hrt, hroot]
      clear hsame hrep hmov hrt hroot htr he h ht hv' hlen hkl
      go_wp2
      go_ret
      exact ⟨by rw [← Hk.out]; rfl, Hout.out⟩
    · obtain ⟨ht', hm', hr', hlt'⟩ := htr.halve hkl he
      have h1lt := htr.lt k hkl
      obtain ⟨hc1, _⟩ := hrep.up_cell hv' h1lt
      have hne : (((F'.up.getD k 0 : Nat) : Int) == (k : Int)) = false := beq_eq_false_iff_ne.2 (by omega)
      have hset := hrep.set_up hv' k (F'.up.getD (F'.up.getD k 0) 0)
      have hs0 := hset.1.cells.1
      rw [hv', hlen] at hs0
      have hs1 := (hset.1.up_cell (g := g) (c := c) (i := k) (by simpa using hv') (by simpa using hkl)).1
      dsimp only at hs1
      rw [getD_set _ _ _ _ hkl, if_pos rfl] at hs1
      have Hrep := Lib.hid hset
      have Hmov := Lib.hid hmov
      have Ht := Lib.hid ht'
      have Hs : Hid (F'.size = F.size ∧ F'.joints = F.joints ∧ F'.up.length = F.up.length) := ⟨hsame.1, hsame.2.1, hlen⟩
      have h1i : (((F'.up.getD k 0 : Nat) : Int) < F.up.length) := by omega
      have Hr : Hid (rt (F'.up.getD (F'.up.getD k 0) 0) = rt a) := by rw [Hid, hr', hrt]
      rw [hlen] at hlt'
      clear hset hmov ht' hsame hrep hrt htr h ht hv' hr' he
      generalize F'.up.getD (F'.up.getD k 0) 0 = z at *
      generalize F'.up.getD k 0 = y at *
      go_wp2
      refine wp_region_still_tail 18 (by kernel_rfl) (by kernel_rfl) ?_
      show wpStill _ _ (World.drew _) _ _ _
      simp only [List.take_succ_cons, List.take_zero, List.drop_succ_cons, List.drop_zero]
      repeat still_step
      refine wpStill_nil ?_
      show wpList _ _ _ _ _ (World.drew _)
      go_wp2
      go_roundw
      case rel => exact ⟨z, ⟨F'.up.set k z, F'.size, F'.joints⟩, rfl, hlt', Hr.out, ⟨Hs.out.1, Hs.out.2.1, by simp [Hs.out.2.2], Ht.out⟩, Hrep.out.1.drew, (Hmov.out.trans Hrep.out.2).then_still (Below.refl _ _).drew⟩
      case measure => simp [intOf]; omega

end Go.Proofs.Ytkgmhkjiblanmaa
