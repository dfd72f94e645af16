/-
  The walk of apartInts (package sorrelref02): rows that lie apart are told so.
-/
import Derived.Test.YtkgmhkjiblanmaaFkb
namespace Go.Proofs.Ytkgmhkjiblanmaa
open Go.RowKit

def start (lens : List Nat) (i : Nat) : Nat := 1000000 + (lens.take i).sum
def seqC (s n : Nat) : List Value := (List.range n).map fun j => .int .i64 ((s + j : Nat) : Int)
theorem seqC_length (s n : Nat) : (seqC s n).length = n := by simp [seqC]
theorem seqC_succ (s n : Nat) : seqC s (n + 1) = seqC s n ++ [.int .i64 ((s + n : Nat) : Int)] := by simp [seqC, List.range_succ]
theorem seqC_at (s n : Nat) {j : Nat} (h : j < n) : (seqC s n)[j]? = some (.int .i64 ((s + j : Nat) : Int)) := by simp [seqC, h]
theorem start_succ {lens : List Nat} {i k : Nat} (h : lens[i]? = some k) : start lens (i + 1) = start lens i + k := by
  unfold start
  obtain ⟨hi, rfl⟩ := List.getElem?_eq_some_iff.1 h
  rw [List.take_succ_eq_append_getElem hi, List.sum_append]
  simp; omega
theorem take_sum_le : ∀ (l : List Nat) (i : Nat), (l.take i).sum ≤ l.sum
  | [], i => by simp
  | x :: l, 0 => by simp
  | x :: l, i + 1 => by
    have := take_sum_le l i
    simp; omega
theorem start_le (lens : List Nat) (i : Nat) : start lens i ≤ 1000000 + lens.sum := by
  have := take_sum_le lens i
  unfold start; omega

/-- The rows' blocks. -/
def Ours (vs : List Value) (b : Nat) : Prop := ∃ i, blk vs i = some b

theorem Fr.cell {M : Nat → Prop} {w w' : World} (h : Fr M w w') {b o : Nat} (hb : b < w.heap.size) (hm : ¬ M b) : w'.cell? ⟨b, o, none⟩ = w.cell? ⟨b, o, none⟩ := World.cell?_of_block (h.block b hb hm)

/-- The rows marked, as far as row i. -/
structure Mark (w : World) (vs : List Value) (lens : List Nat) (i : Nat) (cs : List (List Value)) (wr : World) : Prop where
  both : Both wr vs cs [] []
  len : cs.map List.length = lens
  done : ∀ i' k, i' < i → lens[i']? = some k → cs[i']? = some (seqC (start lens i') k)
  fr : Fr (Ours vs) w wr

theorem Mark.at_ {w wr : World} {vs : List Value} {lens : List Nat} {i k : Nat} {cs : List (List Value)} (h : Mark w vs lens i cs wr) {j : Nat} (hk : lens[j]? = some k) : ∃ c, cs[j]? = some c ∧ c.length = k := by
  rw [← h.len, List.getElem?_map] at hk
  cases hc : cs[j]? with
  | none => rw [hc] at hk; cases hk
  | some c => rw [hc] at hk; exact ⟨c, rfl, by simpa using hk⟩

theorem set_take {c : List Value} {j : Nat} {x : Value} (h : j < c.length) : (c.set j x).take (j + 1) = c.take j ++ [x] := by
  rw [List.take_succ_eq_append_getElem (by rw [List.length_set]; exact h), List.getElem_set_self, List.take_set_of_le (Nat.le_refl _)]

theorem Mark.store {w wr : World} {vs : List Value} {lens : List Nat} {i j g n cap : Nat} {cs : List (List Value)} {c : List Value} (h : Mark w vs lens i cs wr) (hv : vs[i]? = some (.slice (some ⟨g, 0, none⟩) n cap)) (hc : cs[i]? = some c) (hn : n = c.length) (hj : j < n)
    (ht : c.take j = seqC (start lens i) j) : Mark w vs lens i (cs.set i (c.set j (.int .i64 ((start lens i + j : Nat) : Int)))) (wr.setCell ⟨g, j, none⟩ (.int .i64 ((start lens i + j : Nat) : Int))) ∧
      (cs.set i (c.set j (.int .i64 ((start lens i + j : Nat) : Int))))[i]? = some (c.set j (.int .i64 ((start lens i + j : Nat) : Int))) ∧ (c.set j (.int .i64 ((start lens i + j : Nat) : Int))).take (j + 1) = seqC (start lens i) (j + 1) ∧ (c.set j (.int .i64 ((start lens i + j : Nat) : Int))).length = n := by
  have hi : i < cs.length := (List.getElem?_eq_some_iff.1 hc).1
  obtain ⟨h1, h2⟩ := h.both.store (j := j) hv hc hn (.int .i64 ((start lens i + j : Nat) : Int))
  have hb : blk vs i = some g := by unfold blk; rw [hv]; rfl
  refine ⟨⟨h1, ?_, fun i' k hi' hk => ?_, h.fr.trans (Fr.of_grown (M := Ours vs) h2 (fun k hk => by cases hk; exact ⟨i, hb⟩)) (fun x hx => .inl hx)⟩, List.getElem?_set_self hi, ?_, by rw [List.length_set]; omega⟩
  · rw [← h.len, List.map_set, List.length_set]
    apply List.ext_getElem?
    intro q
    by_cases hq : q = i
    · subst hq
      rw [List.getElem?_set_self (by simpa using hi), List.getElem?_map, hc]; rfl
    · rw [List.getElem?_set_ne (fun e => hq e.symm)]
  · rw [List.getElem?_set_ne (by omega)]; exact h.done i' k hi' hk
  · rw [set_take (by omega), ht, seqC_succ]

theorem Mark.next {w wr : World} {vs : List Value} {lens : List Nat} {i : Nat} {cs : List (List Value)} {c : List Value} (h : Mark w vs lens i cs wr) (hc : cs[i]? = some c) (ht : c.take c.length = seqC (start lens i) c.length) : Mark w vs lens (i + 1) cs wr ∧ start lens (i + 1) = start lens i + c.length := by
  have hl : lens[i]? = some c.length := by rw [← h.len, List.getElem?_map, hc]; rfl
  refine ⟨⟨h.both, h.len, fun i' k hi' hk => ?_, h.fr⟩, start_succ hl⟩
  rcases Nat.lt_or_ge i' i with h1 | h1
  · exact h.done i' k h1 hk
  · have : i' = i := by omega
    subst this
    rw [hl] at hk
    cases hk
    rw [hc, ← ht, List.take_length]

/-- All rows marked. -/
def marked (lens : List Nat) : List (List Value) := (List.range lens.length).map fun i => seqC (start lens i) (lens.getD i 0)

theorem marked_at {lens : List Nat} {i k : Nat} (h : lens[i]? = some k) : (marked lens)[i]? = some (seqC (start lens i) k) := by
  obtain ⟨hi, rfl⟩ := List.getElem?_eq_some_iff.1 h
  simp [marked, hi]
theorem Mark.all {w wr : World} {vs : List Value} {lens : List Nat} {cs : List (List Value)} (h : Mark w vs lens lens.length cs wr) : cs = marked lens := by
  apply List.ext_getElem?
  intro i
  have hl : cs.length = lens.length := by rw [← h.len, List.length_map]
  rcases Nat.lt_or_ge i lens.length with h1 | h1
  · have hk : lens[i]? = some lens[i] := List.getElem?_eq_getElem h1
    rw [h.done i _ h1 hk, marked_at hk]
  · rw [List.getElem?_eq_none (by omega), List.getElem?_eq_none (by simpa [marked] using h1)]

/-- The rows grown, as far as row i. -/
def growns (lens : List Nat) (i : Nat) : List (List Value) := (List.range i).map fun q => seqC (start lens q) (lens.getD q 0) ++ seqC (start lens lens.length + 12 * q) 12
theorem growns_succ (lens : List Nat) (i : Nat) : growns lens (i + 1) = growns lens i ++ [seqC (start lens i) (lens.getD i 0) ++ seqC (start lens lens.length + 12 * i) 12] := by simp [growns, List.range_succ]

structure Grow (w : World) (vs : List Value) (lens : List Nat) (gs : List Value) (hs : List (List Value)) (wr : World) : Prop where
  both : Both wr vs (marked lens) gs hs
  new : ∀ i g, blk gs i = some g → Ours vs g ∨ w.heap.size ≤ g
  fr : Fr (Ours vs) w wr

theorem Grow.begin {w wr : World} {vs : List Value} {lens : List Nat} {gs : List Value} {hs : List (List Value)} (h : Grow w vs lens gs hs wr) {v : Value} {k : Nat} (hv : vs[gs.length]? = some v) (hk : lens[gs.length]? = some k) :
    Grow w vs lens (gs ++ [v]) (hs ++ [seqC (start lens gs.length) k ++ seqC (start lens lens.length + 12 * gs.length) 0]) wr := by
  have e : seqC (start lens gs.length) k ++ seqC (start lens lens.length + 12 * gs.length) 0 = seqC (start lens gs.length) k := by simp [seqC]
  rw [e]
  refine ⟨h.both.begin hv (marked_at hk), fun i g hb => ?_, h.fr⟩
  unfold blk at hb
  rcases Nat.lt_or_ge i gs.length with h1 | h1
  · rw [List.getElem?_append_left h1] at hb; exact h.new i g hb
  · rcases Nat.eq_or_lt_of_le h1 with h2 | h2
    · subst h2
      rw [List.getElem?_append_right (Nat.le_refl _)] at hb
      simp at hb
      exact .inl ⟨gs.length, by unfold blk; rw [hv]; exact hb⟩
    · rw [List.getElem?_eq_none (by simp; omega)] at hb; cases hb

theorem Grow.last {w wr : World} {vs : List Value} {lens : List Nat} {gs : List Value} {hs : List (List Value)} {v : Value} {c : List Value} (h : Grow w vs lens (gs ++ [v]) (hs ++ [c]) wr) : wr.ownsRow 0 3 1 v c.length c ∧ gs.length = hs.length := by
  have hgl : gs.length = hs.length := by have := h.both.glen; simp at this; exact this
  refine ⟨h.both.eg gs.length v c (by rw [List.getElem?_append_right (Nat.le_refl _)]; simp) ?_, hgl⟩
  rw [hgl, List.getElem?_append_right (Nat.le_refl _)]; simp

theorem Grow.grow {w wr w' : World} {vs : List Value} {lens : List Nat} {gs : List Value} {hs : List (List Value)} {v : Value} {k j g cap : Nat} {o : Obj} (h : Grow w vs lens (gs ++ [v]) (hs ++ [seqC (start lens gs.length) k ++ seqC (start lens lens.length + 12 * gs.length) j]) wr) (hk : lens[gs.length]? = some k)
    (hown : w'.ownsRow 0 3 1 (.slice (some ⟨g, 0, none⟩) (k + j + 1) cap) (k + j + 1) ((seqC (start lens gs.length) k ++ seqC (start lens lens.length + 12 * gs.length) j) ++ [.int .i64 ((start lens lens.length + 12 * gs.length + j : Nat) : Int)])) (hg : (wr.alloc o).grownBy w' v.ownBlock)
    (hat : v.ownBlock = some g ∨ (wr.alloc o).heap.size ≤ g) (hsh : Shorter (wr.alloc o) w' 0 3 1 v (k + j)) :
    Grow w vs lens (gs ++ [.slice (some ⟨g, 0, none⟩) (k + j + 1) cap]) (hs ++ [seqC (start lens gs.length) k ++ seqC (start lens lens.length + 12 * gs.length) (j + 1)]) w' := by
  have hcl : (seqC (start lens gs.length) k ++ seqC (start lens lens.length + 12 * gs.length) j).length = k + j := by simp [seqC_length]
  have hb := h.both.quiet (World.grownBy_alloc wr o none)
  have e : seqC (start lens gs.length) k ++ seqC (start lens lens.length + 12 * gs.length) (j + 1) = (seqC (start lens gs.length) k ++ seqC (start lens lens.length + 12 * gs.length) j) ++ [.int .i64 ((start lens lens.length + 12 * gs.length + j : Nat) : Int)] := by
    rw [seqC_succ, List.append_assoc]
  rw [← hcl] at hown hsh
  have hgr := hb.grow (fun d hd => by
    rw [marked_at hk] at hd
    cases hd
    rw [hcl, seqC_length]; omega) hown hg hat hsh
  rw [hcl] at hgr
  rw [e]
  have hvb : ∀ x, v.ownBlock = some x → Ours vs x ∨ w.heap.size ≤ x := fun x hx => h.new gs.length x (by unfold blk; rw [List.getElem?_append_right (Nat.le_refl _)]; simpa using hx)
  have hsz := h.fr.size
  have hfr1 : Fr (Ours vs) w (wr.alloc o) := h.fr.trans (Fr.of_below (Ours vs) ((Below.refl _ _).alloc (Nat.le_refl _) o)) (fun x hx => .inl hx)
  refine ⟨hgr, fun i x hx => ?_, hfr1.trans (Fr.of_grown (M := fun x => v.ownBlock = some x) hg (fun _ hk => hk)) hvb⟩
  unfold blk at hx
  rcases Nat.lt_or_ge i gs.length with h1 | h1
  · rw [List.getElem?_append_left h1] at hx
    exact h.new i x (by unfold blk; rw [List.getElem?_append_left h1]; exact hx)
  · rcases Nat.eq_or_lt_of_le h1 with h2 | h2
    · subst h2
      rw [List.getElem?_append_right (Nat.le_refl _)] at hx
      simp [Value.ownBlock] at hx
      subst hx
      rcases hat with hat | hat
      · exact hvb _ hat
      · exact .inr (by simp at hat; omega)
    · rw [List.getElem?_eq_none (by simp; omega)] at hx; cases hx

/-- The list of what was grown, kept in a row of its own. -/
theorem Grow.put {w wr w' : World} {vs : List Value} {lens : List Nat} {gs : List Value} {hs : List (List Value)} {vg : Value} {n : Nat} {xs : List Value} {o : Obj} (h : Grow w vs lens gs hs wr) (hrow : wr.ownsRow w.heap.size 27 1 vg n xs) (hg : (wr.alloc o).grownBy w' vg.ownBlock) : Grow w vs lens gs hs w' := by
  have hfr1 : Fr (Ours vs) w (wr.alloc o) := h.fr.trans (Fr.of_below (Ours vs) ((Below.refl _ _).alloc (Nat.le_refl _) o)) (fun x hx => .inl hx)
  refine ⟨(h.both.quiet (World.grownBy_alloc wr o none)).other hg fun g hgb cur hc => ?_, h.new, hfr1.trans (Fr.of_grown (M := fun x => vg.ownBlock = some x) hg (fun _ hk => hk)) (fun x hx => .inr (hrow.lt x hx).1)⟩
  rcases (hrow.alloc o).2 with ⟨rfl, _⟩ | ⟨g', cap, cur', rfl, _, hgg, _⟩
  · cases hgb
  · cases hgb
    rw [hgg] at hc; cases hc

end Go.Proofs.Ytkgmhkjiblanmaa
