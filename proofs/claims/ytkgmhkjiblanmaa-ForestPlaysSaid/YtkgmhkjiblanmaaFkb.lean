/-
  The walk of apartInts (package sorrelref02) over rows that lie apart.
-/
import Derived.Test.YtkgmhkjiblanmaaFka
import Derived.Test.YtkgmhkjiblanmaaFy
namespace Go.Proofs.Ytkgmhkjiblanmaa
open Go.RowKit

def blk (vs : List Value) (i : Nat) : Option Nat := (vs[i]?).bind Value.ownBlock

/-- Rows of ints, vs, and rows grown out of them, gs: no two of different numbers share a block. -/
structure Both (w : World) (vs : List Value) (cs : List (List Value)) (gs : List Value) (hs : List (List Value)) : Prop where
  vlen : vs.length = cs.length
  glen : gs.length = hs.length
  ev : ∀ (i : Nat) (v : Value) (c : List Value), vs[i]? = some v → cs[i]? = some c → w.ownsRow 0 3 1 v c.length c
  eg : ∀ (i : Nat) (v : Value) (c : List Value), gs[i]? = some v → hs[i]? = some c → w.ownsRow 0 3 1 v c.length c
  apart : ∀ i j g, (blk vs i = some g ∨ blk gs i = some g) → (blk vs j = some g ∨ blk gs j = some g) → i = j

theorem Both.type3 {w : World} {vs gs : List Value} {cs hs : List (List Value)} (h : Both w vs cs gs hs) {i g : Nat} (hg : blk vs i = some g ∨ blk gs i = some g) : ∃ cur, w.heap[g]? = some (.cells cur 3 (0, 0)) := by
  have key : ∀ (us : List Value) (ds : List (List Value)), us.length = ds.length → (∀ (i : Nat) (v : Value) (c : List Value), us[i]? = some v → ds[i]? = some c → w.ownsRow 0 3 1 v c.length c) → blk us i = some g → ∃ cur, w.heap[g]? = some (.cells cur 3 (0, 0)) := by
    intro us ds hl he hb
    unfold blk at hb
    cases hv : us[i]? with
    | none => rw [hv] at hb; cases hb
    | some v =>
      rw [hv] at hb
      have hi := (List.getElem?_eq_some_iff.1 hv).1
      rcases (he i v _ hv (List.getElem?_eq_getElem (by omega))).2 with ⟨rfl, _⟩ | ⟨g', cap, cur, rfl, _, hgg, _⟩
      · cases hb
      · cases hb; exact ⟨cur, hgg⟩
  rcases hg with hg | hg
  · exact key vs cs h.vlen h.ev hg
  · exact key gs hs h.glen h.eg hg

/-- A step that turns no row of theirs. -/
theorem Both.keep {w w' : World} {vs gs : List Value} {cs hs : List (List Value)} (h : Both w vs cs gs hs) {row : Option Nat} (hg : w.grownBy w' row) (hr : ∀ i g, (blk vs i = some g ∨ blk gs i = some g) → row ≠ some g) : Both w' vs cs gs hs := by
  refine ⟨h.vlen, h.glen, fun i v c hv hc => (h.ev i v c hv hc).kept hg ?_, fun i v c hv hc => (h.eg i v c hv hc).kept hg ?_, h.apart⟩
  · cases hb : v.ownBlock with
    | none => exact .inl rfl
    | some g => exact .inr fun e => hr i g (.inl (by unfold blk; rw [hv]; exact hb)) e.symm
  · cases hb : v.ownBlock with
    | none => exact .inl rfl
    | some g => exact .inr fun e => hr i g (.inr (by unfold blk; rw [hv]; exact hb)) e.symm

theorem Both.quiet {w w' : World} {vs gs : List Value} {cs hs : List (List Value)} (h : Both w vs cs gs hs) (hg : w.grownBy w' none) : Both w' vs cs gs hs := h.keep hg (fun _ _ _ e => by cases e)

theorem Both.other {w w' : World} {vs gs : List Value} {cs hs : List (List Value)} (h : Both w vs cs gs hs) {row : Option Nat} (hg : w.grownBy w' row) (hr : ∀ g, row = some g → ∀ cur, w.heap[g]? ≠ some (.cells cur 3 (0, 0))) : Both w' vs cs gs hs :=
  h.keep hg fun i g hb e => by
    obtain ⟨cur, hc⟩ := h.type3 hb
    exact hr g e cur hc

/-- A store into a row. -/
theorem Both.store {w : World} {vs : List Value} {cs : List (List Value)} (h : Both w vs cs [] []) {i j g n cap : Nat} {c : List Value} (hv : vs[i]? = some (.slice (some ⟨g, 0, none⟩) n cap)) (hc : cs[i]? = some c) (hn : n = c.length) (x : Value) :
    Both (w.setCell ⟨g, j, none⟩ x) vs (cs.set i (c.set j x)) [] [] ∧ w.grownBy (w.setCell ⟨g, j, none⟩ x) (some g) := by
  subst hn
  have hi : i < cs.length := (List.getElem?_eq_some_iff.1 hc).1
  obtain ⟨h1, h2⟩ := (h.ev i _ c hv hc).stored j x
  have hb : blk vs i = some g := by unfold blk; rw [hv]; rfl
  refine ⟨⟨by rw [List.length_set]; exact h.vlen, rfl, fun k v d hvk hdk => ?_, fun k v d hvk => by simp at hvk, h.apart⟩, h2⟩
  by_cases hki : k = i
  · subst hki
    rw [hv] at hvk
    cases hvk
    rw [List.getElem?_set_self hi] at hdk
    cases hdk
    rw [List.length_set]; exact h1
  · rw [List.getElem?_set_ne (fun e => hki e.symm)] at hdk
    refine (h.ev k v d hvk hdk).kept h2 ?_
    cases hbv : v.ownBlock with
    | none => exact .inl rfl
    | some g' => exact .inr fun e => hki (h.apart k i g (.inl (by unfold blk; rw [hvk, ← e]; exact hbv)) (.inl hb))

/-- The row that is grown next begins as the row itself. -/
theorem Both.begin {w : World} {vs gs : List Value} {cs hs : List (List Value)} (h : Both w vs cs gs hs) {v : Value} {c : List Value} (hv : vs[gs.length]? = some v) (hc : cs[gs.length]? = some c) : Both w vs cs (gs ++ [v]) (hs ++ [c]) := by
  have hblk : ∀ i g, blk (gs ++ [v]) i = some g → blk vs i = some g ∨ blk gs i = some g := fun i g hb => by
    unfold blk at hb
    rcases Nat.lt_or_ge i gs.length with h1 | h1
    · rw [List.getElem?_append_left h1] at hb; exact .inr hb
    · rcases Nat.eq_or_lt_of_le h1 with h2 | h2
      · subst h2
        rw [List.getElem?_append_right (Nat.le_refl _)] at hb
        simp at hb
        exact .inl (by unfold blk; rw [hv]; exact hb)
      · rw [List.getElem?_eq_none (by simp; omega)] at hb; cases hb
  refine ⟨h.vlen, by simp [h.glen], h.ev, fun i u d hu hd => ?_, fun i j g h1 h2 => h.apart i j g (h1.elim .inl (hblk i g)) (h2.elim .inl (hblk j g))⟩
  rcases Nat.lt_or_ge i gs.length with h1 | h1
  · rw [List.getElem?_append_left h1] at hu
    rw [List.getElem?_append_left (by have := h.glen; omega)] at hd
    exact h.eg i u d hu hd
  · have h3 : i < (gs ++ [v]).length := (List.getElem?_eq_some_iff.1 hu).1
    have h2 : i = gs.length := by simp at h3; omega
    subst h2
    rw [List.getElem?_append_right (Nat.le_refl _)] at hu
    rw [h.glen, List.getElem?_append_right (Nat.le_refl _)] at hd
    simp at hu hd
    subst hu hd
    exact h.ev _ _ _ hv hc

/-- .. and grows by an append. -/
theorem Both.grow {w w' : World} {vs gs : List Value} {cs hs : List (List Value)} {v : Value} {c : List Value} {g cap : Nat} {x : Value} (h : Both w vs cs (gs ++ [v]) (hs ++ [c])) (hcs : ∀ d, cs[gs.length]? = some d → d.length ≤ c.length)
    (hown : w'.ownsRow 0 3 1 (.slice (some ⟨g, 0, none⟩) (c.length + 1) cap) (c.length + 1) (c ++ [x])) (hg : w.grownBy w' v.ownBlock) (hat : v.ownBlock = some g ∨ w.heap.size ≤ g) (hsh : Shorter w w' 0 3 1 v c.length) :
    Both w' vs cs (gs ++ [.slice (some ⟨g, 0, none⟩) (c.length + 1) cap]) (hs ++ [c ++ [x]]) := by
  have hgl : gs.length = hs.length := by have := h.glen; simp at this; exact this
  have hbv : blk (gs ++ [v]) gs.length = v.ownBlock := by unfold blk; rw [List.getElem?_append_right (Nat.le_refl _)]; simp
  have hlt : ∀ i g', (blk vs i = some g' ∨ blk (gs ++ [v]) i = some g') → g' < w.heap.size := fun i g' hb => by
    obtain ⟨cur, hc⟩ := h.type3 hb
    exact (Array.getElem?_eq_some_iff.1 hc).1
  have hne : ∀ i u, (vs[i]? = some u ∨ (gs ++ [v])[i]? = some u) → i ≠ gs.length → u.ownBlock = none ∨ u.ownBlock ≠ v.ownBlock := fun i u hu hi => by
    cases hb : u.ownBlock with
    | none => exact .inl rfl
    | some g' =>
      refine .inr fun e => hi (h.apart i gs.length g' ?_ (.inr (hbv.trans e.symm)))
      rcases hu with hu | hu
      · exact .inl (by unfold blk; rw [hu]; exact hb)
      · exact .inr (by unfold blk; rw [hu]; exact hb)
  refine ⟨h.vlen, by simp [hgl], fun i u d hu hd => ?_, fun i u d hu hd => ?_, ?_⟩
  · have hrow := h.ev i u d hu hd
    by_cases hi : i = gs.length
    · subst hi
      by_cases hb : u.ownBlock = v.ownBlock
      · exact hsh 0 u _ d hrow hb (hcs d hd)
      · exact hrow.kept hg (.inr hb)
    · exact hrow.kept hg (hne i u (.inl hu) hi)
  · rcases Nat.lt_or_ge i gs.length with h1 | h1
    · have hu' : (gs ++ [v])[i]? = some u := by rw [List.getElem?_append_left h1]; rw [List.getElem?_append_left h1] at hu; exact hu
      have hd' : (hs ++ [c])[i]? = some d := by rw [List.getElem?_append_left (by omega)]; rw [List.getElem?_append_left (by omega)] at hd; exact hd
      exact (h.eg i u d hu' hd').kept hg (hne i u (.inr hu') (by omega))
    · have h3 := (List.getElem?_eq_some_iff.1 hu).1
      have h2 : i = gs.length := by simp at h3; omega
      subst h2
      rw [List.getElem?_append_right (Nat.le_refl _)] at hu
      rw [hgl, List.getElem?_append_right (Nat.le_refl _)] at hd
      simp at hu hd
      subst hu hd
      rw [List.length_append]; exact hown
  · have hnew : ∀ i g', blk (gs ++ [.slice (some ⟨g, 0, none⟩) (c.length + 1) cap]) i = some g' → blk (gs ++ [v]) i = some g' ∨ (i = gs.length ∧ w.heap.size ≤ g') := fun i g' hb => by
      unfold blk at hb
      rcases Nat.lt_or_ge i gs.length with h1 | h1
      · rw [List.getElem?_append_left h1] at hb
        exact .inl (by unfold blk; rw [List.getElem?_append_left h1]; exact hb)
      · rcases Nat.eq_or_lt_of_le h1 with h2 | h2
        · subst h2
          rw [List.getElem?_append_right (Nat.le_refl _)] at hb
          simp [Value.ownBlock] at hb
          subst hb
          rcases hat with hat | hat
          · exact .inl (hbv.trans hat)
          · exact .inr ⟨rfl, hat⟩
        · rw [List.getElem?_eq_none (by simp; omega)] at hb; cases hb
    intro i j g' h1 h2
    have e1 : (blk vs i = some g' ∨ blk (gs ++ [v]) i = some g') ∨ (i = gs.length ∧ w.heap.size ≤ g') := h1.elim (fun h => .inl (.inl h)) fun h => (hnew i g' h).elim (fun h => .inl (.inr h)) .inr
    have e2 : (blk vs j = some g' ∨ blk (gs ++ [v]) j = some g') ∨ (j = gs.length ∧ w.heap.size ≤ g') := h2.elim (fun h => .inl (.inl h)) fun h => (hnew j g' h).elim (fun h => .inl (.inr h)) .inr
    rcases e1 with e1 | ⟨rfl, e1⟩
    · rcases e2 with e2 | ⟨rfl, e2⟩
      · exact h.apart i j g' e1 e2
      · have := hlt i g' e1; omega
    · rcases e2 with e2 | ⟨rfl, e2⟩
      · have := hlt j g' e2; omega
      · rfl

end Go.Proofs.Ytkgmhkjiblanmaa
