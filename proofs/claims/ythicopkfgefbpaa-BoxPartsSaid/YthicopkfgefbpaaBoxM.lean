/-
  The walks of MustLit, MustVar, caught, broken, awake (packages box, sorrellaw03).
-/
import Derived.Test.YthicopkfgefbpaaRows
import Derived.Test.YthicopkfgefbpaaEnvW
import Derived.WalkKit
import Derived.WalkSpells
import Derived.WalkLawsBesides
import Derived.Lib.Hide
import Derived.Defers
import Derived.Recover
import Derived.Stop.Asserts
namespace Go.Proofs.Ythicopkfgefbpaa.Box
open Go.RowKit

theorem ta_dies (T : TypeId) (u : TypeDesc) (hu : Try.prog.underlying T = some u) (hn : ∀ ms, u ≠ .interface ms) (x : Value) (hx : x = .nilIface ∨ ∃ t v, x = .iface t v ∧ t ≠ T) (w : World) :
    ∃ cs : Array Value, (Instr.typeAssert x 37 T false).run Try.prog w = .halt (.panic (.iface 15 (.pointer (some ⟨w.heap.size, 0, none⟩)))) (w.alloc (.cells cs 105)) := by
  rcases hx with rfl | ⟨t, v, rfl, ht⟩
  · obtain ⟨cs, h⟩ := ta_panics (α := Value) (some 37) none T "" w
    refine ⟨cs, ?_⟩
    cases u <;> first | exact absurd rfl (hn _) | simp [Instr.typeAssert, run_underlying hu, h]
  · obtain ⟨cs, h⟩ := ta_panics (α := Value) (some 37) (some t) T "" w
    refine ⟨cs, ?_⟩
    cases u <;> first | exact absurd rfl (hn _) | simp [Instr.typeAssert, run_underlying hu, ht, h]

set_option maxRecDepth 100000 in
set_option maxHeartbeats 400000 in
theorem mustLit_lit (n : Int) (w : World) :
    Calls Try.prog 30 #[.iface 68 (.agg #[.int .i64 n])] w fun e w' => e = .returned (.int .i64 n) ∧ w' = w := by
  have hta : (Instr.typeAssert (.iface 68 (.agg #[.int .i64 n])) 37 68 false).run Try.prog w = .ok (.agg #[.int .i64 n]) w := by
    simp [Instr.typeAssert, run_underlying Try.underlying68]
  have hf : (Instr.field 68 (.agg #[.int .i64 n]) 0).run Try.prog w = .ok (.int .i64 n) w := by kernel_rfl
  go_enter Try.func30, Try.ntmps30
  go_wp2
  go_ret
  exact ⟨rfl, rfl⟩

def Panics (w : World) (e : Ending) (w' : World) : Prop := ∃ cs, e = .panicked [{ v := .iface 15 (.pointer (some ⟨w.heap.size, 0, none⟩)), recovered := false }] ∧ w' = w.alloc (.cells cs 105)

set_option maxRecDepth 100000 in
set_option maxHeartbeats 400000 in
theorem mustLit_dies (x : Value) (hx : x = .nilIface ∨ ∃ t v, x = .iface t v ∧ t ≠ 68) (w : World) : Calls Try.prog 30 #[x] w (Panics w) := by
  obtain ⟨cs, hta⟩ := ta_dies 68 _ Try.underlying68 (fun _ h => by cases h) x hx w
  clear hx
  go_enter Try.func30, Try.ntmps30
  go_wp2
  exact ⟨rfl, cs, rfl, rfl⟩

set_option maxRecDepth 100000 in
set_option maxHeartbeats 400000 in
theorem mustVar_var (s : ByteArray) (w : World) :
    Calls Try.prog 29 #[.iface 70 (.agg #[.string s])] w fun e w' => e = .returned (.string s) ∧ w' = w := by
  have hta : (Instr.typeAssert (.iface 70 (.agg #[.string s])) 37 70 false).run Try.prog w = .ok (.agg #[.string s]) w := by
    simp [Instr.typeAssert, run_underlying Try.underlying70]
  have hf : (Instr.field 70 (.agg #[.string s]) 0).run Try.prog w = .ok (.string s) w := by kernel_rfl
  go_enter Try.func29, Try.ntmps29
  go_wp2
  go_ret
  exact ⟨rfl, rfl⟩

set_option maxRecDepth 100000 in
set_option maxHeartbeats 400000 in
theorem mustVar_dies (x : Value) (hx : x = .nilIface ∨ ∃ t v, x = .iface t v ∧ t ≠ 70) (w : World) : Calls Try.prog 29 #[x] w (Panics w) := by
  obtain ⟨cs, hta⟩ := ta_dies 70 _ Try.underlying70 (fun _ h => by cases h) x hx w
  clear hx
  go_enter Try.func29, Try.ntmps29
  go_wp2
  exact ⟨rfl, cs, rfl, rfl⟩

theorem catch_panicking (p : Addr) (x : Value) (u : TypeId) (pv : Value) (older : List PanicEntry) (w : World) (hc : w.cell? p = some x) (hz : w.frozen? p = false) :
    CallsD Try.prog 28 #[.pointer (some p)] (.panicking ({ v := .iface u pv, recovered := false } :: older)) w fun e u' w' =>
      e = .returned (.tuple #[]) ∧ u' = .panicking ({ v := .iface u pv, recovered := true } :: older) ∧ w' = w.setCell p (.iface u pv) := by
  refine callsD_of_wpS Try.func28 rfl fun c₀ cs hu => ?_
  apply wpS_region
  simp [wpOpsS, go_sem, recoverD, hu, Try.ntmps28, hc, hz, bodyPostS, results, Try.results28]

theorem catch_idle (p : Addr) (x : Value) (w : World) (hc : w.cell? p = some x) (hz : w.frozen? p = false) :
    CallsD Try.prog 28 #[.pointer (some p)] .returning w fun e u' w' => e = .returned (.tuple #[]) ∧ u' = .returning ∧ w' = w.setCell p .nilIface := by
  refine callsD_of_wpS Try.func28 rfl fun c₀ cs hu => ?_
  apply wpS_region
  simp [wpOpsS, go_sem, recoverD, hu, Try.ntmps28, hc, hz, bodyPostS, results, Try.results28]
  cases c₀
  simp_all

set_option maxRecDepth 100000 in
set_option maxHeartbeats 400000 in
theorem caught_lit (n : Int) (w : World) :
    Calls Try.prog 12 #[.iface 68 (.agg #[.int .i64 n]), .bool false] w fun e w' => e = .returned (.tuple #[.int .i64 n, .string ⟨#[]⟩, .nilIface]) ∧ Below w.heap.size w w' := by
  have hmf : ∀ (fn : Fn) (first cap : Array Value) (w : World), (Instr.makeFunc fn first cap).run Try.prog w = .ok (.func fn first cap) w := fun _ _ _ _ => rfl
  go_enter_defers Try.func12, Try.ntmps12
  go_wp2_with (go_at_call 30; refine (mustLit_lit n _).mono ?_; rintro e w' ⟨rfl, rfl⟩)
  refine leaves_cons (f := 28) (args := #[.pointer (some ⟨w.heap.size, 0, none⟩)]) (by simp) (by simp [go_sem]) ?_
  refine (catch_idle ⟨w.heap.size, 0, none⟩ .nilIface _ (by simp [go_sem]) (by simp [go_sem])).mono ?_
  rintro e u' w'' ⟨rfl, rfl, rfl⟩
  simp [Leaves, settle, results, Try.results12, go_sem]
  exact (Below.refl _ _).alloc (Nat.le_refl _) _

set_option maxRecDepth 100000 in
set_option maxHeartbeats 400000 in
theorem caught_var (s : ByteArray) (w : World) :
    Calls Try.prog 12 #[.iface 70 (.agg #[.string s]), .bool true] w fun e w' => e = .returned (.tuple #[.int .i64 0, .string s, .nilIface]) ∧ Below w.heap.size w w' := by
  have hmf : ∀ (fn : Fn) (first cap : Array Value) (w : World), (Instr.makeFunc fn first cap).run Try.prog w = .ok (.func fn first cap) w := fun _ _ _ _ => rfl
  go_enter_defers Try.func12, Try.ntmps12
  go_wp2_with (go_at_call 29; refine (mustVar_var s _).mono ?_; rintro e w' ⟨rfl, rfl⟩)
  refine leaves_cons (f := 28) (args := #[.pointer (some ⟨w.heap.size, 0, none⟩)]) (by simp) (by simp [go_sem]) ?_
  refine (catch_idle ⟨w.heap.size, 0, none⟩ .nilIface _ (by simp [go_sem]) (by simp [go_sem])).mono ?_
  rintro e u' w'' ⟨rfl, rfl, rfl⟩
  simp [Leaves, settle, results, Try.results12, go_sem]
  exact (Below.refl _ _).alloc (Nat.le_refl _) _

/-- A run-time error came out. -/
def Dies3 (w : World) (e : Ending) (w' : World) : Prop := ∃ n : Int, ∃ s : ByteArray, ∃ b : Nat, e = .returned (.tuple #[.int .i64 n, .string s, .iface 15 (.pointer (some ⟨b, 0, none⟩))]) ∧ Below w.heap.size w w'

set_option maxRecDepth 100000 in
set_option maxHeartbeats 400000 in
theorem caught_nolit (x : Value) (hx : x = .nilIface ∨ ∃ t v, x = .iface t v ∧ t ≠ 68) (w : World) :
    Calls Try.prog 12 #[x, .bool false] w (Dies3 w) := by
  have hmf : ∀ (fn : Fn) (first cap : Array Value) (w : World), (Instr.makeFunc fn first cap).run Try.prog w = .ok (.func fn first cap) w := fun _ _ _ _ => rfl
  go_enter_defers Try.func12, Try.ntmps12
  go_wp2_with (go_at_call 30; refine (mustLit_dies x hx _).mono ?_; rintro e w' ⟨cs, rfl, rfl⟩)
  refine leaves_cons (f := 28) (args := #[.pointer (some ⟨w.heap.size, 0, none⟩)]) (by simp) (by simp [go_sem]) ?_
  rename_i cs
  refine (catch_panicking ⟨w.heap.size, 0, none⟩ .nilIface _ _ [] _ ?_ ?_).mono ?_
  · rw [World.cell?_alloc_past _ _ _ (by simp)]; simp [go_sem]
  · simp [go_sem]
  rintro e u' w'' ⟨rfl, rfl, rfl⟩
  simp [Leaves, settle, results, Try.results12, go_sem]
  exact ⟨_, _, _, rfl, ((Below.refl _ _).alloc (Nat.le_refl _) _).alloc (by simp) _⟩

set_option maxRecDepth 100000 in
set_option maxHeartbeats 400000 in
theorem caught_novar (x : Value) (hx : x = .nilIface ∨ ∃ t v, x = .iface t v ∧ t ≠ 70) (w : World) :
    Calls Try.prog 12 #[x, .bool true] w (Dies3 w) := by
  have hmf : ∀ (fn : Fn) (first cap : Array Value) (w : World), (Instr.makeFunc fn first cap).run Try.prog w = .ok (.func fn first cap) w := fun _ _ _ _ => rfl
  go_enter_defers Try.func12, Try.ntmps12
  go_wp2_with (go_at_call 29; refine (mustVar_dies x hx _).mono ?_; rintro e w' ⟨cs, rfl, rfl⟩)
  refine leaves_cons (f := 28) (args := #[.pointer (some ⟨w.heap.size, 0, none⟩)]) (by simp) (by simp [go_sem]) ?_
  rename_i cs
  refine (catch_panicking ⟨w.heap.size, 0, none⟩ .nilIface _ _ [] _ ?_ ?_).mono ?_
  · rw [World.cell?_alloc_past _ _ _ (by simp)]; simp [go_sem]
  · simp [go_sem]
  rintro e u' w'' ⟨rfl, rfl, rfl⟩
  simp [Leaves, settle, results, Try.results12, go_sem]
  exact ⟨_, _, _, rfl, ((Below.refl _ _).alloc (Nat.le_refl _) _).alloc (by simp) _⟩

set_option maxRecDepth 100000 in
set_option maxHeartbeats 400000 in
theorem broken_yes (b : Nat) (w : World) :
    Calls Try.prog 13 #[.iface 15 (.pointer (some ⟨b, 0, none⟩))] w fun e w' => e = .returned (.bool true) ∧ w = w' := by
  have hta := fun (v : Value) (W : World) => run_typeAssert_hasB (P := Try.prog) (t := 15) Try.underlying28 (by kernel_rfl) v 20 W
  go_enter Try.func13, Try.ntmps13
  go_wp2
  go_ret
  exact ⟨rfl, rfl⟩

end Go.Proofs.Ythicopkfgefbpaa.Box
