/-
  The walks of head and near (package sorrellaw03), at the values of the law's cells.
-/
import Derived.Test.YthicopkfgefbpaaBoxP
import Derived.LaidEqlPtr
namespace Go.Proofs.Ythicopkfgefbpaa.Box
open Go.RowKit
attribute [local go_sem] y68 y70 y73 y75 y77 y78 y79 n68 n70 n73 n75 n77 n78 n79 e68 e70 e73 e75 e77 e78 e79

set_option maxRecDepth 100000 in
set_option maxHeartbeats 1600000 in
theorem near_same (c : CellD) (xs : List Value) (i : Nat) (v : Value) (hv : ValOf c xs i v) (hg : ∀ m, IsIface (got xs i m)) (w : World) :
    Calls Try.prog 17 #[v, v] w fun e w' => e = .returned (.bool true) ∧ Below w.heap.size w w' := by
  have hee : ∀ W : World, (binOp .eql 37 .nilIface .nilIface).run Try.prog W = .ok (.bool true) W := fun _ => by kernel_rfl
  have ga := hg c.a
  have gb := hg c.b
  have gc := hg c.c
  clear hg
  rcases hv with ⟨h, rfl⟩ | ⟨h, rfl⟩ | ⟨h, rfl⟩ | ⟨h, rfl⟩ | ⟨h, rfl⟩ | ⟨h, b, rfl⟩ | ⟨h, rfl⟩ | ⟨h, rfl⟩
  case inr.inr.inl =>
    clear h gb gc
    generalize got xs i c.a = g1 at ga
    rcases ga with rfl | ⟨t1, u1, rfl⟩
    all_goals
      go_enter Try.func17, Try.ntmps17
      go_wp2
      go_ret
      exact ⟨by simp, ((Below.refl _ _).alloc (Nat.le_refl _) _).alloc (by simp) _⟩
  case inr.inr.inr.inl =>
    clear h gc
    generalize got xs i c.a = g1 at ga
    generalize got xs i c.b = g2 at gb
    rcases ga with rfl | ⟨t1, u1, rfl⟩ <;> rcases gb with rfl | ⟨t2, u2, rfl⟩
    all_goals
      go_enter Try.func17, Try.ntmps17
      go_wp2
      go_ret
      exact ⟨by simp, ((Below.refl _ _).alloc (Nat.le_refl _) _).alloc (by simp) _⟩
  case inr.inr.inr.inr.inl =>
    clear h
    generalize got xs i c.a = g1 at ga
    generalize got xs i c.b = g2 at gb
    generalize got xs i c.c = g3 at gc
    rcases ga with rfl | ⟨t1, u1, rfl⟩ <;> rcases gb with rfl | ⟨t2, u2, rfl⟩ <;> rcases gc with rfl | ⟨t3, u3, rfl⟩
    all_goals
      go_enter Try.func17, Try.ntmps17
      go_wp2
      go_ret
      exact ⟨by simp, ((Below.refl _ _).alloc (Nat.le_refl _) _).alloc (by simp) _⟩
  case inr.inr.inr.inr.inr.inl =>
    clear h ga gb gc
    obtain ⟨j, hj⟩ : ∃ j, Try.prog.info? 68 = some j := ⟨_, rfl⟩
    have hpp := fun W : World => run_eql_ptr_same (P := Try.prog) (w := W) ⟨b, 0, none⟩ Try.underlying78 hj
    go_enter Try.func17, Try.ntmps17
    go_wp2
    go_ret
    exact ⟨by simp, Below.refl _ _⟩
  case inr.inr.inr.inr.inr.inr.inr =>
    clear h ga gb gc
    go_enter Try.func17, Try.ntmps17
    go_wp2
    go_ret
    exact ⟨by simp, Below.refl _ _⟩
  all_goals
    clear h ga gb gc
    go_enter Try.func17, Try.ntmps17
    go_wp2
    go_ret
    exact ⟨by simp, ((Below.refl _ _).alloc (Nat.le_refl _) _).alloc (by simp) _⟩

theorem head_nil {c : CellD} {o : Int} {w W : World} (ho : opOf c = o) (hk : kidsOf c = []) (hb : Below w.heap.size w W) : HeadPost c w (.returned (.tuple #[.int .i64 o, .slice none 0 0])) W := by
  subst ho
  unfold HeadPost
  rw [hk]
  exact ⟨_, _, rfl, fun h => absurd rfl h, hb⟩

theorem head_some {c : CellD} {o : Int} {w W : World} {n : Nat} {k : List Int} {cs : List Value} {t : TypeId} {cap : Nat} (ho : opOf c = o) (hk : kidsOf c = k) (hcs : cs = k.map (.int .i64)) (hn : n = W.heap.size) (hb : Below w.heap.size w W) :
    HeadPost c w (.returned (.tuple #[.int .i64 o, .slice (some ⟨n, 0, none⟩) k.length cap])) ((W.alloc (.cells cs.toArray t)).drew) := by
  subst ho hk hcs
  exact ⟨_, _, rfl, (listAt_new (t := t) hn).later ((Below.refl _ _).drew), (hb.alloc hb.size _).drew⟩

set_option maxRecDepth 100000 in
set_option maxHeartbeats 800000 in
theorem head_any (c : CellD) (w : World) :
    Calls Try.prog 14 #[.agg #[.int .i64 c.kind, .int .i64 c.op, .int .i64 c.n, .string c.name, .int .i64 c.a, .int .i64 c.b, .int .i64 c.c]] w (HeadPost c w) := by
  obtain ⟨kind, op, n, name, ca, cb, cc⟩ := c
  by_cases k1 : kind = 1
  · subst k1
    go_enter Try.func14, Try.ntmps14
    go_wp2
    go_ret2
    exact head_nil (by simp [opOf]) (by simp [kidsOf]) ((Below.refl _ _).alloc (Nat.le_refl _) _)
  by_cases k2 : kind = 2
  · subst k2
    go_enter Try.func14, Try.ntmps14
    go_wp2
    go_ret2
    exact head_nil (by simp [opOf]) (by simp [kidsOf]) ((Below.refl _ _).alloc (Nat.le_refl _) _)
  by_cases k3 : kind = 3
  · subst k3
    go_enter Try.func14, Try.ntmps14
    go_wp2
    go_region
    all_goals
      go_wp2
      go_ret2
      refine head_some (c := ⟨3, op, n, name, ca, cb, cc⟩) (o := op) (k := [ca]) ?_ ?_ ?_ ?_ ?_
      · simp [opOf]
      · simp [kidsOf]
      · rfl
      · simp
      · exact (Below.refl _ _).alloc (Nat.le_refl _) _
  by_cases k4 : kind = 4
  · subst k4
    go_enter Try.func14, Try.ntmps14
    go_wp2
    go_region
    all_goals
      go_wp2
      go_ret2
      refine head_some (c := ⟨4, op, n, name, ca, cb, cc⟩) (o := op) (k := [ca, cb]) ?_ ?_ ?_ ?_ ?_
      · simp [opOf]
      · simp [kidsOf]
      · rfl
      · simp
      · exact (Below.refl _ _).alloc (Nat.le_refl _) _
  by_cases k5 : kind = 5
  · subst k5
    go_enter Try.func14, Try.ntmps14
    go_wp2
    go_region
    all_goals
      go_wp2
      go_ret2
      refine head_some (c := ⟨5, op, n, name, ca, cb, cc⟩) (o := 17) (k := [cc, ca, cb]) ?_ ?_ ?_ ?_ ?_
      · simp [opOf]
      · simp [kidsOf]
      · rfl
      · simp
      · exact (Below.refl _ _).alloc (Nat.le_refl _) _
  have n1 : (kind == 1) = false := by simpa using k1
  have n2 : (kind == 2) = false := by simpa using k2
  have n3 : (kind == 3) = false := by simpa using k3
  have n4 : (kind == 4) = false := by simpa using k4
  have n5 : (kind == 5) = false := by simpa using k5
  go_enter Try.func14, Try.ntmps14
  go_wp2
  go_ret2
  exact head_nil (by simp [opOf, k1, k2, k3, k4, k5]) (by simp [kidsOf, k3, k4, k5]) ((Below.refl _ _).alloc (Nat.le_refl _) _)

end Go.Proofs.Ythicopkfgefbpaa.Box
