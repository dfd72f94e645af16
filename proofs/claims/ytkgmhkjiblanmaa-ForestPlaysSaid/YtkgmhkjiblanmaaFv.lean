/-
  slices.Reverse at ways (a contract of the shelf, laid at this program): a row of steps of the call's own, turned round.
-/
import Derived.Test.YtkgmhkjiblanmaaFx
import Derived.Shelf.SlicesQ.Reverse
import Derived.Lib.OwnBridge
namespace Go.Proofs.Ytkgmhkjiblanmaa
open Go.RowKit Go.Shelf Go.Sort

def Sp.cells (s : Sp) : List Value := [.int .i64 s.fr, .int .i64 s.dst, s.why, .bool s.back]
def Sp.val (s : Sp) : Value := .agg #[.int .i64 s.fr, .int .i64 s.dst, s.why, .bool s.back]
def stepCells (l : List Sp) : List Value := l.flatMap Sp.cells
theorem stepCells_length : ∀ l : List Sp, (stepCells l).length = l.length * 4
  | [] => rfl
  | s :: l => by
    have := stepCells_length l
    unfold stepCells at this ⊢
    rw [List.flatMap_cons, List.length_append, this, List.length_cons]
    simp [Sp.cells]; omega

theorem stepCells_at : ∀ (l : List Sp) (i q : Nat), q < 4 → (stepCells l)[i * 4 + q]? = (l[i]?).bind fun s => s.cells[q]?
  | [], i, q, _ => by simp [stepCells]
  | s :: l, 0, q, hq => by
    unfold stepCells
    rw [List.flatMap_cons, List.getElem?_append_left (by simp [Sp.cells]; omega)]
    simp
  | s :: l, i + 1, q, hq => by
    have := stepCells_at l i q hq
    unfold stepCells at this ⊢
    rw [List.flatMap_cons, List.getElem?_append_right (by simp [Sp.cells]; omega)]
    have e : (i + 1) * 4 + q - s.cells.length = i * 4 + q := by simp [Sp.cells]; omega
    rw [e, this]
    simp

instance : Inhabited Sp := ⟨⟨0, 0, .nilIface, false⟩⟩

/-- A step's cells, as the shelf's contract asks them: each of one cell. -/
def encSp (s : Sp) : List Value := [.int .i64 s.fr, .int .i64 s.dst, if s.why.oneCell' = true then s.why else .nilIface, .bool s.back]
def Plain (l : List Sp) : Prop := ∀ s ∈ l, s.why.oneCell' = true
theorem encSp_length (s : Sp) : (encSp s).length = 4 := rfl
theorem encSp_one (s : Sp) : ∀ v ∈ encSp s, v.oneCell' = true := by
  intro v hv
  simp only [encSp, List.mem_cons, List.not_mem_nil, or_false] at hv
  rcases hv with rfl | rfl | rfl | rfl
  · rfl
  · rfl
  · split
    · assumption
    · rfl
  · rfl
theorem encSp_plain {s : Sp} (h : s.why.oneCell' = true) : encSp s = s.cells := by simp [encSp, Sp.cells, h]

theorem flat_steps {l : List Sp} (h : Plain l) : flatK encSp 4 l.toArray = (stepCells l).toArray := by
  apply Array.ext
  · simp [stepCells_length]
  · intro t h1 h2
    rw [size_flatK] at h1
    have ht : t < l.length * 4 := by simpa using h1
    have e := get_flatK encSp 4 l.toArray t h1
    rw [getElem!_pos _ t (by simpa using h1)] at e
    rw [e]
    have hq : t % 4 < 4 := Nat.mod_lt _ (by decide)
    have hi : t / 4 < l.length := by omega
    have hs := stepCells_at l (t / 4) (t % 4) hq
    rw [List.getElem?_eq_getElem hi, Option.bind_some, Nat.div_add_mod' t 4] at hs
    have hm := h _ (List.getElem_mem hi)
    have e2 : (l.toArray[t / 4]!) = l[t / 4] := by rw [getElem!_pos _ _ (by simpa using hi)]; simp
    rw [e2, encSp_plain hm]
    have hc : t % 4 < (l[t / 4]).cells.length := by simp [Sp.cells]; omega
    rw [getElem!_pos ((l[t / 4]).cells) (t % 4) hc]
    rw [List.getElem?_eq_getElem hc] at hs
    have h3 : (stepCells l).toArray[t]? = some ((l[t / 4]).cells[t % 4]) := by rw [List.getElem?_toArray]; exact hs
    rw [Array.getElem?_eq_getElem h2] at h3
    exact (Option.some.inj h3).symm

/-- Behind a contract in the shelf's words the row is the call's own still. -/
theorem own_putRow {w : World} {base : Nat} {e : TypeId} {size g n cap q : Nat} {xs ys : List Value} (h : w.ownsRow base e size (.slice (some ⟨g, 0, none⟩) n cap) n xs) (hy : ys.length = n * size) :
    (putRow id (Sort.ahead w q) g 0 ys.toArray).ownsRow base e size (.slice (some ⟨g, 0, none⟩) n cap) n ys ∧ w.grownBy (putRow id (Sort.ahead w q) g 0 ys.toArray) (some g) := by
  rcases h.2 with ⟨e0, _⟩ | ⟨g', cap', cur, e0, hb, hg, hn, hm, hs, ht⟩
  · cases e0
  · injection e0 with e1 _ e3
    injection e1 with e1
    injection e1 with e1
    subst e1; subst e3
    have hle : n * size ≤ cap * size := Nat.mul_le_mul_right _ hn
    refine ⟨⟨hy, .inr ⟨g, cap, putCells id 0 ys.toArray cur, rfl, hb, ?_, hn, hm, by simpa [putCells] using hs, ?_⟩⟩, ⟨rfl, rfl, rfl, by simp [putRow, mapBlock, Sort.ahead], fun k _ hk => ?_⟩⟩
    · simp [putRow, mapBlock, Sort.ahead, Array.getElem?_modify, hg, onCells]
    · apply List.ext_getElem?
      intro j
      rw [List.getElem?_take, Array.getElem?_toList]
      by_cases hj : j < n * size
      · have hjc : j < cur.size := by omega
        simp only [if_pos hj, putCells, Array.getElem?_mapIdx, Array.getElem?_eq_getElem hjc, Option.map_some]
        rw [if_pos (by simp; omega), List.getElem?_eq_getElem (by omega)]
        simp [getElem!_pos, show j < ys.length by omega]
      · rw [if_neg hj, List.getElem?_eq_none (by omega)]
    · simp [putRow, mapBlock, Sort.ahead, Array.getElem?_modify, show g ≠ k from fun e => hk (by rw [e])]

theorem holds_steps {w : World} {base g n cap : Nat} {l : List Sp} (h : w.ownsRow base 42 4 (.slice (some ⟨g, 0, none⟩) n cap) n (stepCells l)) (hp : Plain l) (hn : l.length = n) : HoldsK encSp 4 w g 0 l.toArray := by
  unfold HoldsK
  rw [flat_steps hp]
  intro j hj
  have hj' : j < n * 4 := by have := stepCells_length l; simp at hj; omega
  refine ⟨?_, by rw [Nat.zero_add]; exact h.frozenAt j⟩
  rw [Nat.zero_add, h.cellAt j hj']
  have hjl : j < (stepCells l).length := by simpa using hj
  rw [List.getElem?_eq_getElem hjl, getElem!_pos _ j (by simpa using hj)]
  simp

def ren24 : Ren := ⟨fun x => if x = 35 then 24 else x, fun x => if x = 22 then 37 else if x = 23 then 42 else x, fun x => x⟩
theorem rev24L : SlLaysE0.n35 Try.prog ren24 := {
  mixed := by kernel_rfl
  f35 := ⟨Try.f24.name, by decide, by kernel_rfl⟩
  t0 := by kernel_rfl
  a0 := fun _ => by kernel_rfl
  z0 := fun _ => by kernel_rfl
  v0 := fun _ => by kernel_rfl
  t3 := by kernel_rfl
  a3 := fun _ => by kernel_rfl
  z3 := fun _ => by kernel_rfl
  v3 := fun _ => by kernel_rfl
  t4 := by kernel_rfl
  a4 := fun _ => by kernel_rfl
  z4 := fun _ => by kernel_rfl
  v4 := fun _ => by kernel_rfl
  t22 := by kernel_rfl
  a22 := fun _ => by kernel_rfl
  z22 := fun _ => by kernel_rfl
  v22 := fun _ => by kernel_rfl
}

theorem isAgg42 (w : World) : (isAgg 42).run Try.prog w = .ok true w := by kernel_rfl
theorem sizeOf42 (w : World) : (Go.sizeOf 42).run Try.prog w = .ok 4 w := by kernel_rfl

theorem reverse_some (base g cap : Nat) (l : List Sp) (w : World) (h : w.ownsRow base 42 4 (.slice (some ⟨g, 0, none⟩) l.length cap) l.length (stepCells l)) (hp : Plain l) (hn : l.length ≤ 1048576) :
    Calls Try.prog 24 #[.slice (some ⟨g, 0, none⟩) l.length cap] w fun e w' => e = .returned (.tuple #[]) ∧ w'.ownsRow base 42 4 (.slice (some ⟨g, 0, none⟩) l.length cap) l.length (stepCells l.reverse) ∧ w.grownBy w' (some g) := by
  have hc := AnyQ.slices_Reverse rev24L 4 isAgg42 sizeOf42 encSp encSp_length encSp_one g 0 cap l.toArray w (holds_steps h hp rfl) (by simp; omega)
  have e : (l.toArray).size = l.length := by simp
  rw [e] at hc
  refine Calls.mono hc ?_
  rintro e w' ⟨rfl, n, rfl⟩
  have hrev : Plain l.reverse := fun s hs => hp s (List.mem_reverse.1 hs)
  have e2 : putRowK encSp 4 (Sort.ahead w n) g 0 l.toArray.reverse = putRow id (Sort.ahead w n) g 0 (stepCells l.reverse).toArray := by
    unfold putRowK
    rw [← flat_steps hrev]
    simp
  rw [e2]
  exact ⟨rfl, own_putRow h (by rw [stepCells_length]; simp)⟩

theorem row_form {w : World} {base : Nat} {e : TypeId} {size n : Nat} {v : Value} {xs : List Value} (h : w.ownsRow base e size v n xs) : ∃ A c, v = .slice A n c := by
  rcases h.2 with ⟨h1, h2⟩ | ⟨g, c, _, h1, _⟩
  · exact ⟨_, _, by rw [h1, h2]⟩
  · exact ⟨_, _, h1⟩

theorem reverse_any (base : Nat) (v : Value) (l : List Sp) (w : World) (h : w.ownsRow base 42 4 v l.length (stepCells l)) (hp : Plain l) (hn : l.length ≤ 1048576) :
    Calls Try.prog 24 #[v] w fun e w' => e = .returned (.tuple #[]) ∧ w'.ownsRow base 42 4 v l.length (stepCells l.reverse) ∧ w.grownBy w' v.ownBlock := by
  rcases Nat.eq_zero_or_pos l.length with h0 | h0
  · obtain ⟨A, c, rfl⟩ := row_form h
    have hl : l = [] := List.eq_nil_of_length_eq_zero h0
    subst hl
    refine Calls.mono (AnyQ.slices_Reverse_empty rev24L A c w) ?_
    rintro e w' ⟨rfl, rfl⟩
    exact ⟨rfl, h, ⟨rfl, rfl, rfl, Nat.le_refl _, fun _ _ _ => rfl⟩⟩
  · obtain ⟨g, c, rfl, _, _⟩ := h.form h0
    exact reverse_some base g c l w h hp hn

end Go.Proofs.Ytkgmhkjiblanmaa
