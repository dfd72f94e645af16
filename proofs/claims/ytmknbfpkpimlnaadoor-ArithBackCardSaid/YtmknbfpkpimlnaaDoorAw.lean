/-
  The walks of awake and apply (package sorrellaw06); Apply at numbers that the call itself lays.
-/
import Derived.Test.YtmknbfpkpimlnaaDoorAp
namespace Go.Proofs.YtmknbfpkpimlnaaDoor
open Go.RowKit

set_option maxRecDepth 100000 in
set_option maxHeartbeats 400000 in
theorem text_7 (w : World) : Calls Tryd.prog 12 #[.int .i64 7] w fun e w' => e = .returned (.string ⟨#[55]⟩) ∧ w = w' := by
  go_enter Tryd.func12, Tryd.ntmps12
  go_wp2
  go_ret
  exact ⟨rfl, rfl⟩

theorem ints_new (W : World) (n : Nat) (hn : n = W.heap.size) (xs : List Int) (t : TypeId) : Ints (W.alloc (.cells (xs.map (.int .i64)).toArray t)) (some ⟨n, 0, none⟩) xs := fun _ => by
  subst hn
  refine ⟨_, 0, rfl, by simp, fun i hi => ?_⟩
  rw [Nat.zero_add, World.cell?_alloc_new]
  simp [hi]

theorem Keep.trans {a b c : World} (h : Below a.heap.size a b) (k : Below b.heap.size b c) : Below a.heap.size a c := h.trans (k.mono h.size)

/-- Apply of two numbers that lie in a new block. -/
theorem app2 (op a b : Int) (w : World) (n : Nat) (t : TypeId) (hn : n = w.heap.size) :
    Calls Tryd.prog 14 #[.int .i64 op, .slice (some ⟨n, 0, none⟩) 2 2] (w.alloc (.cells #[.int .i64 a, .int .i64 b] t)) fun e w' => e = .returned (.tuple #[.int .i64 (applied op [a, b]).1, .int .i64 (applied op [a, b]).2]) ∧ Below w.heap.size w w' :=
  (apply_any op _ [a, b] 2 _ (ints_new w n hn [a, b] t)).mono fun _ _ ⟨he, hb⟩ => ⟨he, Keep.trans ((Below.refl _ _).alloc (Nat.le_refl _) _) hb⟩

theorem app1 (op a : Int) (w : World) (n : Nat) (t : TypeId) (hn : n = w.heap.size) :
    Calls Tryd.prog 14 #[.int .i64 op, .slice (some ⟨n, 0, none⟩) 1 1] (w.alloc (.cells #[.int .i64 a] t)) fun e w' => e = .returned (.tuple #[.int .i64 (applied op [a]).1, .int .i64 (applied op [a]).2]) ∧ Below w.heap.size w w' :=
  (apply_any op _ [a] 1 _ (ints_new w n hn [a] t)).mono fun _ _ ⟨he, hb⟩ => ⟨he, Keep.trans ((Below.refl _ _).alloc (Nat.le_refl _) _) hb⟩

theorem app3 (op a b c : Int) (w : World) (n : Nat) (t : TypeId) (hn : n = w.heap.size) :
    Calls Tryd.prog 14 #[.int .i64 op, .slice (some ⟨n, 0, none⟩) 3 3] (w.alloc (.cells #[.int .i64 a, .int .i64 b, .int .i64 c] t)) fun e w' => e = .returned (.tuple #[.int .i64 (applied op [a, b, c]).1, .int .i64 (applied op [a, b, c]).2]) ∧ Below w.heap.size w w' :=
  (apply_any op _ [a, b, c] 3 _ (ints_new w n hn [a, b, c] t)).mono fun _ _ ⟨he, hb⟩ => ⟨he, Keep.trans ((Below.refl _ _).alloc (Nat.le_refl _) _) hb⟩

theorem applied_two (op a b : Int) (h5 : 5 ≤ op) (h16 : op ≤ 16) : applied op [a, b] = if (op = 8 ∨ op = 9) ∧ b = 0 then (0, 12) else (two op a b, 0) := by
  have ha : arity op = (2, 0) := by unfold arity; rw [if_neg (by omega), if_neg (by omega), if_neg (by omega), if_pos (by omega)]
  unfold applied
  rw [ha, if_neg (by simp), if_neg (by omega), if_neg (by omega), if_neg (by omega)]
  rfl

set_option maxRecDepth 100000 in
set_option maxHeartbeats 400000 in
theorem awake06 (w : World) : Calls Tryd.prog 9 #[] w fun e w' => e = .returned (.bool true) ∧ Below w.heap.size w w' := by
  have h5 : Hid (applied 5 [2, 3] = (5, 0)) := by rw [Hid, applied_two _ _ _ (by omega) (by omega), if_neg (by decide)]; simp [two]; rw [wrap64_in (by unfold I64; omega)]
  go_enter Tryd.func9, Tryd.ntmps9
  go_wp2_with (first | (go_at_call 14; refine (app2 5 2 3 _ _ _ rfl).mono ?_; rw [h5.out]; rintro e w1 ⟨rfl, hb1⟩) | (go_at_call 12; refine (text_7 _).mono ?_; rintro e w2 ⟨rfl, rfl⟩))
  go_ret
  exact ⟨rfl, hb1⟩

end Go.Proofs.YtmknbfpkpimlnaaDoor
