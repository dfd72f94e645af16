/-
  The walks of EnvMust: what awake, value, caught and Must do.
-/
import Derived.Test.YthicopkfgefbpaaRows
import Derived.WalkKit
import Derived.Lib.Hide
import Derived.WalkSpells
import Derived.WalkLawsBesides
import Derived.Defers
import Derived.Recover
import Derived.Stop.Asserts
import Derived.Test.YthicopkfgefbpaaEnvA
namespace Go.Proofs.Ythicopkfgefbpaa
open Go.RowKit

theorem ta_panics (st dy : Option TypeId) (a : TypeId) (m : String) (w : World) {α : Type} :
    ∃ cs : Array Value, (runtimePanic (α := α) (.typeAssertion st dy a m)).run Try.prog w = .halt (.panic (.iface 15 (.pointer (some ⟨w.heap.size, 0, none⟩)))) (w.alloc (.cells cs 105)) := by
  apply Exists.intro
  simp only [runtimePanic, elemOf, newVar, newRow]
  simp [go_sem, run_underlying Try.underlying15, goPanic]
  case h => exact rfl

theorem ta_int_dies (x : Value) (hx : x = .nilIface ∨ ∃ t v, x = .iface t v ∧ t ≠ 2) (w : World) :
    ∃ cs : Array Value, (Instr.typeAssert x 20 2 false).run Try.prog w = .halt (.panic (.iface 15 (.pointer (some ⟨w.heap.size, 0, none⟩)))) (w.alloc (.cells cs 105)) := by
  rcases hx with rfl | ⟨t, v, rfl, ht⟩
  · obtain ⟨cs, h⟩ := ta_panics (α := Value) (some 20) none 2 "" w
    exact ⟨cs, by simp [Instr.typeAssert, run_underlying Try.underlying2, h]⟩
  · obtain ⟨cs, h⟩ := ta_panics (α := Value) (some 20) (some t) 2 "" w
    exact ⟨cs, by simp [Instr.typeAssert, run_underlying Try.underlying2, ht, h]⟩

set_option maxRecDepth 100000 in
set_option maxHeartbeats 400000 in
theorem must_int (n : Int) (w : World) :
    Calls Try.prog 26 #[.iface 2 (.int .i64 n)] w fun e w' => e = .returned (.int .i64 n) ∧ w' = w := by
  have hta : (Instr.typeAssert (.iface 2 (.int .i64 n)) 20 2 false).run Try.prog w = .ok (.int .i64 n) w := by
    simp [Instr.typeAssert, run_underlying Try.underlying2]
  go_enter Try.func26, Try.ntmps26
  go_wp2
  go_ret
  exact ⟨rfl, rfl⟩

set_option maxRecDepth 100000 in
set_option maxHeartbeats 400000 in
theorem must_dies (x : Value) (hx : x = .nilIface ∨ ∃ t v, x = .iface t v ∧ t ≠ 2) (w : World) :
    Calls Try.prog 26 #[x] w fun e w' => ∃ cs, e = .panicked [{ v := .iface 15 (.pointer (some ⟨w.heap.size, 0, none⟩)), recovered := false }] ∧ w' = w.alloc (.cells cs 105) := by
  obtain ⟨cs, hta⟩ := ta_int_dies x hx w
  clear hx
  go_enter Try.func26, Try.ntmps26
  go_wp2
  exact ⟨rfl, cs, rfl, rfl⟩

theorem catch_panicking (p : Addr) (x : Value) (u : TypeId) (pv : Value) (older : List PanicEntry) (w : World) (hc : w.cell? p = some x) (hz : w.frozen? p = false) :
    CallsD Try.prog 25 #[.pointer (some p)] (.panicking ({ v := .iface u pv, recovered := false } :: older)) w fun e u' w' =>
      e = .returned (.tuple #[]) ∧ u' = .panicking ({ v := .iface u pv, recovered := true } :: older) ∧ w' = w.setCell p (.iface u pv) := by
  refine callsD_of_wpS Try.func25 rfl fun c₀ cs hu => ?_
  apply wpS_region
  simp [wpOpsS, go_sem, recoverD, hu, Try.ntmps25, hc, hz, bodyPostS, results, Try.results25]

theorem catch_idle (p : Addr) (x : Value) (w : World) (hc : w.cell? p = some x) (hz : w.frozen? p = false) :
    CallsD Try.prog 25 #[.pointer (some p)] .returning w fun e u' w' => e = .returned (.tuple #[]) ∧ u' = .returning ∧ w' = w.setCell p .nilIface := by
  refine callsD_of_wpS Try.func25 rfl fun c₀ cs hu => ?_
  apply wpS_region
  simp [wpOpsS, go_sem, recoverD, hu, Try.ntmps25, hc, hz, bodyPostS, results, Try.results25]
  cases c₀
  simp_all

theorem Kp.trans {a b c : World} (h : Below a.heap.size a b) (k : Below b.heap.size b c) : Below a.heap.size a c := h.trans (k.mono h.size)

set_option maxRecDepth 100000 in
set_option maxHeartbeats 400000 in
theorem caught_int (n : Int) (w : World) :
    Calls Try.prog 8 #[.iface 2 (.int .i64 n)] w fun e w' => e = .returned (.tuple #[.int .i64 n, .nilIface]) ∧ Below w.heap.size w w' := by
  have hmf : ∀ (fn : Fn) (first cap : Array Value) (w : World), (Instr.makeFunc fn first cap).run Try.prog w = .ok (.func fn first cap) w := fun _ _ _ _ => rfl
  go_enter_defers Try.func8, Try.ntmps8
  go_wp2_with (go_at_call 26; refine (must_int n _).mono ?_; rintro e w' ⟨rfl, rfl⟩)
  refine leaves_cons (f := 25) (args := #[.pointer (some ⟨w.heap.size, 0, none⟩)]) (by simp) (by simp [go_sem]) ?_
  refine (catch_idle ⟨w.heap.size, 0, none⟩ .nilIface _ (by simp [go_sem]) (by simp [go_sem])).mono ?_
  rintro e u' w'' ⟨rfl, rfl, rfl⟩
  simp [Leaves, settle, results, Try.results8, go_sem]
  exact (Below.refl _ _).alloc (Nat.le_refl _) _

/-- What MustErr gives: a number and a runtime error. -/
def Dies (w : World) (e : Ending) (w' : World) : Prop := ∃ n : Int, ∃ b : Nat, e = .returned (.tuple #[.int .i64 n, .iface 15 (.pointer (some ⟨b, 0, none⟩))]) ∧ Below w.heap.size w w'

set_option maxRecDepth 100000 in
set_option maxHeartbeats 400000 in
theorem caught_dies (x : Value) (hx : x = .nilIface ∨ ∃ t v, x = .iface t v ∧ t ≠ 2) (w : World) :
    Calls Try.prog 8 #[x] w (Dies w) := by
  have hmf : ∀ (fn : Fn) (first cap : Array Value) (w : World), (Instr.makeFunc fn first cap).run Try.prog w = .ok (.func fn first cap) w := fun _ _ _ _ => rfl
  go_enter_defers Try.func8, Try.ntmps8
  go_wp2_with (go_at_call 26; refine (must_dies x hx _).mono ?_; rintro e w' ⟨cs, rfl, rfl⟩)
  refine leaves_cons (f := 25) (args := #[.pointer (some ⟨w.heap.size, 0, none⟩)]) (by simp) (by simp [go_sem]) ?_
  rename_i cs
  refine (catch_panicking ⟨w.heap.size, 0, none⟩ .nilIface _ _ [] _ ?_ ?_).mono ?_
  · rw [World.cell?_alloc_past _ _ _ (by simp)]; simp [go_sem]
  · simp [go_sem]
  rintro e u' w'' ⟨rfl, rfl, rfl⟩
  simp [Leaves, settle, results, Try.results8, go_sem]
  exact ⟨_, _, rfl, ((Below.refl _ _).alloc (Nat.le_refl _) _).alloc (by simp) _⟩

set_option maxRecDepth 100000 in
set_option maxHeartbeats 400000 in
theorem value_zero (key text : ByteArray) (n : Int) (w : World) :
    Calls Try.prog 9 #[.agg #[.string key, .int .i64 0, .int .i64 n, .string text]] w fun e w' => e = .returned (.iface 2 (.int .i64 n)) ∧ Below w.heap.size w w' := by
  go_enter Try.func9, Try.ntmps9
  go_wp2
  go_ret
  exact ⟨rfl, (Below.refl _ _).alloc (Nat.le_refl _) _⟩

def Other (w : World) (e : Ending) (w' : World) : Prop := ∃ x, e = .returned x ∧ (x = .nilIface ∨ ∃ t v, x = .iface t v ∧ t ≠ 2) ∧ Below w.heap.size w w'

set_option maxRecDepth 100000 in
set_option maxHeartbeats 800000 in
theorem value_other (key text : ByteArray) (k n : Int) (h : ¬ k = 0) (w : World) :
    Calls Try.prog 9 #[.agg #[.string key, .int .i64 k, .int .i64 n, .string text]] w (Other w) := by
  have h0 : (k == 0) = false := by simpa using h
  clear h
  have hb := fun W : World => run_bytes_of_string (P := Try.prog) W 9 66 5 text Try.underlying9 Try.underlying66 Try.underlying5
  go_enter Try.func9, Try.ntmps9
  go_wp2
  all_goals go_ret
  all_goals first
    | exact ⟨_, rfl, .inr ⟨_, _, rfl, by decide⟩, (Below.refl _ _).alloc (Nat.le_refl _) _⟩
    | exact ⟨_, rfl, .inl rfl, (Below.refl _ _).alloc (Nat.le_refl _) _⟩
    | exact ⟨_, rfl, .inr ⟨_, _, rfl, by decide⟩, (((Below.refl _ _).alloc (Nat.le_refl _) _).alloc (by simp) _).drew⟩

/-- The box of the argument, as it lies behind each call. -/
def Box (w W : World) (key text : ByteArray) (k n : Int) : Prop :=
  w.heap.size < W.heap.size ∧ W.cell? ⟨w.heap.size, 0, none⟩ = some (.string key) ∧ W.cell? ⟨w.heap.size, 1, none⟩ = some (.int .i64 k) ∧ W.cell? ⟨w.heap.size, 2, none⟩ = some (.int .i64 n) ∧ W.cell? ⟨w.heap.size, 3, none⟩ = some (.string text) ∧ Below w.heap.size w W

theorem box_made (w : World) (key text : ByteArray) (k n : Int) : Box w (w.alloc (.cells #[.string key, .int .i64 k, .int .i64 n, .string text] 23)) key text k n :=
  ⟨by simp, by simp [go_sem], by simp [go_sem], by simp [go_sem], by simp [go_sem], (Below.refl _ _).alloc (Nat.le_refl _) _⟩

theorem box_kept {w W W' : World} {key text : ByteArray} {k n : Int} (h : Box w W key text k n) (hb : Below W.heap.size W W') : Box w W' key text k n := by
  obtain ⟨h0, h1, h2, h3, h4, h5⟩ := h
  have hc : ∀ o, W'.cell? ⟨w.heap.size, o, none⟩ = W.cell? ⟨w.heap.size, o, none⟩ := fun o => hb.cell (p := ⟨_, o, none⟩) h0
  exact ⟨Nat.lt_of_lt_of_le h0 hb.size, by rw [hc, h1], by rw [hc, h2], by rw [hc, h3], by rw [hc, h4], Kp.trans h5 (hb.mono (Nat.le_refl _))⟩

set_option maxRecDepth 100000 in
set_option maxHeartbeats 800000 in
theorem envMust_walk (key text : ByteArray) (k n : Int) (w : World) :
    Calls Try.prog 3 #[.agg #[.string key, .int .i64 k, .int .i64 n, .string text]] w fun e w' => e = .returned (.bool true) ∧ Below w.heap.size w w' := by
  have hta := fun (v : Value) (W : World) => run_typeAssert_hasB (P := Try.prog) (t := 15) Try.underlying28 (by kernel_rfl) v 20 W
  have hb0 := Lib.hid (box_made w key text k n)
  by_cases h : k = 0
  · subst h
    have hnn : ∀ W : World, (binOp .eql 20 .nilIface .nilIface).run Try.prog W = .ok (.bool true) W := fun _ => by kernel_rfl
    go_enter Try.func3, Try.ntmps3
    go_wp2_with (first
      | (go_at_call 7; refine (awake07 _).mono ?_; rintro e w1 ⟨rfl, hb⟩; have hb1 := box_kept hb0.out hb; clear hb hb0; obtain ⟨z1, c10, c11, c12, c13, hk1⟩ := hb1; have hb1 := Lib.hid (show Box w w1 key text 0 n from ⟨z1, c10, c11, c12, c13, hk1⟩); clear hk1)
      | (go_at_call 9; refine (value_zero _ _ _ _).mono ?_; rintro e w2 ⟨rfl, hb⟩; have hb2 := Lib.hid (box_kept hb1.out hb); clear hb hb1 z1 c10 c11 c12 c13)
      | (go_at_call 8; refine (caught_int _ _).mono ?_; rintro e w3 ⟨rfl, hb⟩; have hb3 := box_kept hb2.out hb; clear hb hb2; obtain ⟨z3, c30, c31, c32, c33, hk3⟩ := hb3))
    go_ret
    exact ⟨by simp, hk3⟩
  · have h0 : (k == 0) = false := by simpa using h
    go_enter Try.func3, Try.ntmps3
    go_wp2_with (first
      | (go_at_call 7; refine (awake07 _).mono ?_; rintro e w1 ⟨rfl, hb⟩; have hb1 := box_kept hb0.out hb; clear hb hb0; obtain ⟨z1, c10, c11, c12, c13, hk1⟩ := hb1; have hb1 := Lib.hid (show Box w w1 key text k n from ⟨z1, c10, c11, c12, c13, hk1⟩); clear hk1)
      | (go_at_call 9; refine (value_other _ _ _ _ h _).mono ?_; rintro e w2 ⟨x, rfl, hx, hb⟩; have hx' := Lib.hid hx; clear hx; have hb2 := Lib.hid (box_kept hb1.out hb); clear hb hb1 z1 c10 c11 c12 c13)
      | (go_at_call 8; refine (caught_dies _ hx'.out _).mono ?_; rintro e w3 ⟨m, g, rfl, hb⟩; have hb3 := box_kept hb2.out hb; clear hb hb2; obtain ⟨z3, c30, c31, c32, c33, hk3⟩ := hb3))
    go_ret
    exact ⟨rfl, hk3⟩

end Go.Proofs.Ythicopkfgefbpaa
