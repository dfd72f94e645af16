/-
  The walks of Op, Parts, head and near (packages box, sorrellaw03), at the values of the law's cells.
-/
import Derived.Test.YthicopkfgefbpaaBoxV
import Derived.Test.YthicopkfgefbpaaBoxO
import Derived.StillTailTactics
namespace Go.Proofs.Ythicopkfgefbpaa.Box
open Go.RowKit
attribute [local go_sem] y68 y70 y73 y75 y77 y78 y79 n68 n70 n73 n75 n77 n78 n79 e68 e70 e73 e75 e77 e78 e79

/-- The operator that a cell names. -/
def opOf (c : CellD) : Int := if c.kind = 1 then 1 else if c.kind = 2 then 2 else if c.kind = 3 then c.op else if c.kind = 4 then c.op else if c.kind = 5 then 17 else 0
/-- Its parts, by number. -/
def kidsOf (c : CellD) : List Int := if c.kind = 3 then [c.a] else if c.kind = 4 then [c.a, c.b] else if c.kind = 5 then [c.c, c.a, c.b] else []

/-- A slice of the call's own that holds the values l. -/
def ListAt (w : World) (A : Option Addr) (l : List Value) : Prop :=
  l ≠ [] → ∃ g, A = some ⟨g, 0, none⟩ ∧ g < w.heap.size ∧ ∀ i v, l[i]? = some v → w.cell? ⟨g, i, none⟩ = some v

theorem ListAt.later {w w' : World} {A : Option Addr} {l : List Value} (h : ListAt w A l) (hb : Below w.heap.size w w') : ListAt w' A l := fun hn => by
  obtain ⟨g, hA, hg, hc⟩ := h hn
  exact ⟨g, hA, Nat.lt_of_lt_of_le hg hb.size, fun i v hv => (hb.cell (p := ⟨g, i, none⟩) hg).trans (hc i v hv)⟩

def ListPost (l : List Value) (w : World) (e : Ending) (w' : World) : Prop := ∃ A cap, e = .returned (.slice A l.length cap) ∧ ListAt w' A l ∧ Below w.heap.size w w'
def HeadPost (c : CellD) (w : World) (e : Ending) (w' : World) : Prop := ∃ A cap, e = .returned (.tuple #[.int .i64 (opOf c), .slice A (kidsOf c).length cap]) ∧ ListAt w' A ((kidsOf c).map (.int .i64)) ∧ Below w.heap.size w w'

theorem listAt_new {W : World} {n : Nat} {cs : List Value} {t : TypeId} (hn : n = W.heap.size) : ListAt (W.alloc (.cells cs.toArray t)) (some ⟨n, 0, none⟩) cs := fun _ => by
  subst hn
  refine ⟨_, rfl, by simp, fun i v hv => ?_⟩
  rw [World.cell?_alloc_new]
  simpa using hv

theorem list_post {w W : World} {n : Nat} {cs : List Value} {t : TypeId} {cap : Nat} (hn : n = W.heap.size) (hb : Below w.heap.size w W) :
    ListPost cs w (.returned (.slice (some ⟨n, 0, none⟩) cs.length cap)) (W.alloc (.cells cs.toArray t)) :=
  ⟨_, _, rfl, listAt_new hn, hb.alloc hb.size _⟩

theorem list_post_nil {w W : World} {A : Option Addr} {cap : Nat} (hb : Below w.heap.size w W) : ListPost [] w (.returned (.slice A 0 cap)) W :=
  ⟨_, _, rfl, fun h => absurd rfl h, hb⟩

theorem IsIface.one {g : Value} (h : IsIface g) : g = .nilIface ∨ ∃ t u, g = .iface t u := h

set_option maxRecDepth 100000 in
set_option maxHeartbeats 800000 in
theorem op_any (c : CellD) (xs : List Value) (i : Nat) (v : Value) (hv : ValOf c xs i v) (hg : ∀ m, IsIface (got xs i m)) (w : World) :
    Calls Try.prog 16 #[v] w fun e w' => e = .returned (.int .i64 (opOf c)) ∧ Below w.heap.size w w' := by
  have ga := hg c.a
  have gb := hg c.b
  have gc := hg c.c
  clear hg
  rcases hv with ⟨h, rfl⟩ | ⟨h, rfl⟩ | ⟨h, rfl⟩ | ⟨h, rfl⟩ | ⟨h, rfl⟩ | ⟨h, b, rfl⟩ | ⟨h, rfl⟩ | ⟨h, rfl⟩
  · have ho : opOf c = 1 := by unfold opOf; simp [h]
    rw [ho]
    clear h ho
    go_enter Try.func16, Try.ntmps16
    go_wp2
    go_ret
    exact ⟨rfl, (Below.refl _ _).alloc (Nat.le_refl _) _⟩
  · have ho : opOf c = 2 := by unfold opOf; simp [h]
    rw [ho]
    clear h ho
    go_enter Try.func16, Try.ntmps16
    go_wp2
    go_ret
    exact ⟨rfl, (Below.refl _ _).alloc (Nat.le_refl _) _⟩
  · have ho : opOf c = c.op := by unfold opOf; simp [h]
    rw [ho]
    clear h ho gb gc
    generalize got xs i c.a = g1 at ga
    rcases ga with rfl | ⟨t1, u1, rfl⟩
    all_goals
      go_enter Try.func16, Try.ntmps16
      go_wp2
      go_ret
      exact ⟨rfl, (Below.refl _ _).alloc (Nat.le_refl _) _⟩
  · have ho : opOf c = c.op := by unfold opOf; simp [h]
    rw [ho]
    clear h ho gc
    generalize got xs i c.a = g1 at ga
    generalize got xs i c.b = g2 at gb
    rcases ga with rfl | ⟨t1, u1, rfl⟩ <;> rcases gb with rfl | ⟨t2, u2, rfl⟩
    all_goals
      go_enter Try.func16, Try.ntmps16
      go_wp2
      go_ret
      exact ⟨rfl, (Below.refl _ _).alloc (Nat.le_refl _) _⟩
  · have ho : opOf c = 17 := by unfold opOf; simp [h]
    rw [ho]
    clear h ho
    generalize got xs i c.a = g1 at ga
    generalize got xs i c.b = g2 at gb
    generalize got xs i c.c = g3 at gc
    rcases ga with rfl | ⟨t1, u1, rfl⟩ <;> rcases gb with rfl | ⟨t2, u2, rfl⟩ <;> rcases gc with rfl | ⟨t3, u3, rfl⟩
    all_goals
      go_enter Try.func16, Try.ntmps16
      go_wp2
      go_ret
      exact ⟨rfl, (Below.refl _ _).alloc (Nat.le_refl _) _⟩
  all_goals
    have ho : opOf c = 0 := by unfold opOf; repeat (rw [if_neg (by omega)])
    rw [ho]
    clear h ho
    go_enter Try.func16, Try.ntmps16
    go_wp2
    go_ret
    exact ⟨rfl, Below.refl _ _⟩

set_option maxRecDepth 100000 in
set_option maxHeartbeats 800000 in
theorem parts_any (c : CellD) (xs : List Value) (i : Nat) (v : Value) (hv : ValOf c xs i v) (hg : ∀ m, IsIface (got xs i m)) (w : World) :
    Calls Try.prog 15 #[v] w (ListPost ((kidsOf c).map (got xs i)) w) := by
  have ga := hg c.a
  have gb := hg c.b
  have gc := hg c.c
  clear hg
  rcases hv with ⟨h, rfl⟩ | ⟨h, rfl⟩ | ⟨h, rfl⟩ | ⟨h, rfl⟩ | ⟨h, rfl⟩ | ⟨h, b, rfl⟩ | ⟨h, rfl⟩ | ⟨h, rfl⟩
  case inr.inr.inl =>
    have ho : (kidsOf c).map (got xs i) = [got xs i c.a] := by unfold kidsOf; simp [h]
    rw [ho]
    clear h ho gb gc
    generalize got xs i c.a = g1 at ga
    rcases ga with rfl | ⟨t1, u1, rfl⟩
    all_goals
      go_enter Try.func15, Try.ntmps15
      go_wp2
      go_ret
      exact list_post (by simp) ((Below.refl _ _).alloc (Nat.le_refl _) _)
  case inr.inr.inr.inl =>
    have ho : (kidsOf c).map (got xs i) = [got xs i c.a, got xs i c.b] := by unfold kidsOf; simp [h]
    rw [ho]
    clear h ho gc
    generalize got xs i c.a = g1 at ga
    generalize got xs i c.b = g2 at gb
    rcases ga with rfl | ⟨t1, u1, rfl⟩ <;> rcases gb with rfl | ⟨t2, u2, rfl⟩
    all_goals
      go_enter Try.func15, Try.ntmps15
      go_wp2
      go_ret
      exact list_post (by simp) ((Below.refl _ _).alloc (Nat.le_refl _) _)
  case inr.inr.inr.inr.inl =>
    have ho : (kidsOf c).map (got xs i) = [got xs i c.c, got xs i c.a, got xs i c.b] := by unfold kidsOf; simp [h]
    rw [ho]
    clear h ho
    generalize got xs i c.a = g1 at ga
    generalize got xs i c.b = g2 at gb
    generalize got xs i c.c = g3 at gc
    rcases ga with rfl | ⟨t1, u1, rfl⟩ <;> rcases gb with rfl | ⟨t2, u2, rfl⟩ <;> rcases gc with rfl | ⟨t3, u3, rfl⟩
    all_goals
      go_enter Try.func15, Try.ntmps15
      go_wp2
      go_ret
      exact list_post (by simp) ((Below.refl _ _).alloc (Nat.le_refl _) _)
  all_goals
    have ho : (kidsOf c).map (got xs i) = [] := by unfold kidsOf; (repeat (rw [if_neg (by omega)])); rfl
    rw [ho]
    clear h ho
    go_enter Try.func15, Try.ntmps15
    go_wp2
    go_ret
    exact list_post_nil (Below.refl _ _)

end Go.Proofs.Ythicopkfgefbpaa.Box
