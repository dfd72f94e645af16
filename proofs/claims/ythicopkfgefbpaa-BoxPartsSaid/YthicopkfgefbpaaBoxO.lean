/-
  The walks of Lit, Op (package box) and awake (package sorrellaw03).
-/
import Derived.Test.YthicopkfgefbpaaRows
import Derived.Test.YthicopkfgefbpaaEnvA
import Derived.WalkKit
import Derived.WalkSpells
import Derived.WalkLawsBesides
import Derived.Lib.Hide
namespace Go.Proofs.Ythicopkfgefbpaa.Box
open Go.RowKit

theorem Keep.trans {a b c : World} (h : Below a.heap.size a b) (k : Below b.heap.size b c) : Below a.heap.size a c := h.trans (k.mono h.size)

theorem ta_yes (T : TypeId) (u : TypeDesc) (hu : Try.prog.underlying T = some u) (hn : ∀ ms, u ≠ .interface ms) (v : Value) (w : World) :
    (Instr.typeAssert (.iface T v) 37 T true).run Try.prog w = .ok (.tuple #[v, .bool true]) w := by
  cases u <;> first | exact absurd rfl (hn _) | simp [Instr.typeAssert, run_underlying hu]

/-- .. e holds another type. -/
theorem ta_no (T : TypeId) (u : TypeDesc) (z : Value) (hu : Try.prog.underlying T = some u) (hn : ∀ ms, u ≠ .interface ms) (hz : ∀ w, (zeroValue T).run Try.prog w = .ok z w) (t : TypeId) (v : Value) (w : World) (ht : ¬ t = T) :
    (Instr.typeAssert (.iface t v) 37 T true).run Try.prog w = .ok (.tuple #[z, .bool false]) w := by
  cases u <;> first | exact absurd rfl (hn _) | simp [Instr.typeAssert, run_underlying hu, ht, hz]

/-- .. e is nil. -/
theorem ta_nil (T : TypeId) (u : TypeDesc) (z : Value) (hu : Try.prog.underlying T = some u) (hn : ∀ ms, u ≠ .interface ms) (hz : ∀ w, (zeroValue T).run Try.prog w = .ok z w) (w : World) :
    (Instr.typeAssert .nilIface 37 T true).run Try.prog w = .ok (.tuple #[z, .bool false]) w := by
  cases u <;> first | exact absurd rfl (hn _) | simp [Instr.typeAssert, run_underlying hu, hz]

theorem z68 (w : World) : (zeroValue 68).run Try.prog w = .ok (.agg #[.int .i64 0]) w := by kernel_rfl
theorem z70 (w : World) : (zeroValue 70).run Try.prog w = .ok (.agg #[.string ⟨#[]⟩]) w := by kernel_rfl
theorem z73 (w : World) : (zeroValue 73).run Try.prog w = .ok (.agg #[.int .i64 0, .nilIface]) w := by kernel_rfl
theorem z75 (w : World) : (zeroValue 75).run Try.prog w = .ok (.agg #[.int .i64 0, .nilIface, .nilIface]) w := by kernel_rfl
theorem z77 (w : World) : (zeroValue 77).run Try.prog w = .ok (.agg #[.nilIface, .nilIface, .nilIface]) w := by kernel_rfl
theorem z78 (w : World) : (zeroValue 78).run Try.prog w = .ok (.pointer none) w := by kernel_rfl
theorem z79 (w : World) : (zeroValue 79).run Try.prog w = .ok (.agg #[.int .i64 0]) w := by kernel_rfl

theorem y68 (v : Value) (w : World) : (Instr.typeAssert (.iface 68 v) 37 68 true).run Try.prog w = .ok (.tuple #[v, .bool true]) w := ta_yes 68 _ Try.underlying68 (fun _ h => by cases h) v w
theorem n68 (t : TypeId) (v : Value) (w : World) (ht : ¬ t = 68) : (Instr.typeAssert (.iface t v) 37 68 true).run Try.prog w = .ok (.tuple #[.agg #[.int .i64 0], .bool false]) w := ta_no 68 _ _ Try.underlying68 (fun _ h => by cases h) z68 t v w ht
theorem e68 (w : World) : (Instr.typeAssert .nilIface 37 68 true).run Try.prog w = .ok (.tuple #[.agg #[.int .i64 0], .bool false]) w := ta_nil 68 _ _ Try.underlying68 (fun _ h => by cases h) z68 w
theorem y70 (v : Value) (w : World) : (Instr.typeAssert (.iface 70 v) 37 70 true).run Try.prog w = .ok (.tuple #[v, .bool true]) w := ta_yes 70 _ Try.underlying70 (fun _ h => by cases h) v w
theorem n70 (t : TypeId) (v : Value) (w : World) (ht : ¬ t = 70) : (Instr.typeAssert (.iface t v) 37 70 true).run Try.prog w = .ok (.tuple #[.agg #[.string ⟨#[]⟩], .bool false]) w := ta_no 70 _ _ Try.underlying70 (fun _ h => by cases h) z70 t v w ht
theorem e70 (w : World) : (Instr.typeAssert .nilIface 37 70 true).run Try.prog w = .ok (.tuple #[.agg #[.string ⟨#[]⟩], .bool false]) w := ta_nil 70 _ _ Try.underlying70 (fun _ h => by cases h) z70 w
theorem y73 (v : Value) (w : World) : (Instr.typeAssert (.iface 73 v) 37 73 true).run Try.prog w = .ok (.tuple #[v, .bool true]) w := ta_yes 73 _ Try.underlying73 (fun _ h => by cases h) v w
theorem n73 (t : TypeId) (v : Value) (w : World) (ht : ¬ t = 73) : (Instr.typeAssert (.iface t v) 37 73 true).run Try.prog w = .ok (.tuple #[.agg #[.int .i64 0, .nilIface], .bool false]) w := ta_no 73 _ _ Try.underlying73 (fun _ h => by cases h) z73 t v w ht
theorem e73 (w : World) : (Instr.typeAssert .nilIface 37 73 true).run Try.prog w = .ok (.tuple #[.agg #[.int .i64 0, .nilIface], .bool false]) w := ta_nil 73 _ _ Try.underlying73 (fun _ h => by cases h) z73 w
theorem y75 (v : Value) (w : World) : (Instr.typeAssert (.iface 75 v) 37 75 true).run Try.prog w = .ok (.tuple #[v, .bool true]) w := ta_yes 75 _ Try.underlying75 (fun _ h => by cases h) v w
theorem n75 (t : TypeId) (v : Value) (w : World) (ht : ¬ t = 75) : (Instr.typeAssert (.iface t v) 37 75 true).run Try.prog w = .ok (.tuple #[.agg #[.int .i64 0, .nilIface, .nilIface], .bool false]) w := ta_no 75 _ _ Try.underlying75 (fun _ h => by cases h) z75 t v w ht
theorem e75 (w : World) : (Instr.typeAssert .nilIface 37 75 true).run Try.prog w = .ok (.tuple #[.agg #[.int .i64 0, .nilIface, .nilIface], .bool false]) w := ta_nil 75 _ _ Try.underlying75 (fun _ h => by cases h) z75 w
theorem y77 (v : Value) (w : World) : (Instr.typeAssert (.iface 77 v) 37 77 true).run Try.prog w = .ok (.tuple #[v, .bool true]) w := ta_yes 77 _ Try.underlying77 (fun _ h => by cases h) v w
theorem n77 (t : TypeId) (v : Value) (w : World) (ht : ¬ t = 77) : (Instr.typeAssert (.iface t v) 37 77 true).run Try.prog w = .ok (.tuple #[.agg #[.nilIface, .nilIface, .nilIface], .bool false]) w := ta_no 77 _ _ Try.underlying77 (fun _ h => by cases h) z77 t v w ht
theorem e77 (w : World) : (Instr.typeAssert .nilIface 37 77 true).run Try.prog w = .ok (.tuple #[.agg #[.nilIface, .nilIface, .nilIface], .bool false]) w := ta_nil 77 _ _ Try.underlying77 (fun _ h => by cases h) z77 w
theorem y78 (v : Value) (w : World) : (Instr.typeAssert (.iface 78 v) 37 78 true).run Try.prog w = .ok (.tuple #[v, .bool true]) w := ta_yes 78 _ Try.underlying78 (fun _ h => by cases h) v w
theorem n78 (t : TypeId) (v : Value) (w : World) (ht : ¬ t = 78) : (Instr.typeAssert (.iface t v) 37 78 true).run Try.prog w = .ok (.tuple #[.pointer none, .bool false]) w := ta_no 78 _ _ Try.underlying78 (fun _ h => by cases h) z78 t v w ht
theorem e78 (w : World) : (Instr.typeAssert .nilIface 37 78 true).run Try.prog w = .ok (.tuple #[.pointer none, .bool false]) w := ta_nil 78 _ _ Try.underlying78 (fun _ h => by cases h) z78 w
theorem y79 (v : Value) (w : World) : (Instr.typeAssert (.iface 79 v) 37 79 true).run Try.prog w = .ok (.tuple #[v, .bool true]) w := ta_yes 79 _ Try.underlying79 (fun _ h => by cases h) v w
theorem n79 (t : TypeId) (v : Value) (w : World) (ht : ¬ t = 79) : (Instr.typeAssert (.iface t v) 37 79 true).run Try.prog w = .ok (.tuple #[.agg #[.int .i64 0], .bool false]) w := ta_no 79 _ _ Try.underlying79 (fun _ h => by cases h) z79 t v w ht
theorem e79 (w : World) : (Instr.typeAssert .nilIface 37 79 true).run Try.prog w = .ok (.tuple #[.agg #[.int .i64 0], .bool false]) w := ta_nil 79 _ _ Try.underlying79 (fun _ h => by cases h) z79 w

attribute [local go_sem] y68 y70 y73 y75 y77 y78 y79 n68 n70 n73 n75 n77 n78 n79 e68 e70 e73 e75 e77 e78 e79

set_option maxRecDepth 100000 in
set_option maxHeartbeats 400000 in
theorem lit_lit (n : Int) (w : World) :
    Calls Try.prog 18 #[.iface 68 (.agg #[.int .i64 n])] w fun e w' => e = .returned (.tuple #[.int .i64 n, .bool true]) ∧ Below w.heap.size w w' := by
  go_enter Try.func18, Try.ntmps18
  go_wp2
  go_ret2
  exact ⟨rfl, (Below.refl _ _).alloc (Nat.le_refl _) _⟩

set_option maxRecDepth 100000 in
set_option maxHeartbeats 400000 in
theorem lit_no (x : Value) (hx : x = .nilIface ∨ ∃ t v, x = .iface t v ∧ t ≠ 68) (w : World) :
    Calls Try.prog 18 #[x] w fun e w' => e = .returned (.tuple #[.int .i64 0, .bool false]) ∧ Below w.heap.size w w' := by
  rcases hx with rfl | ⟨t, v, rfl, ht⟩
  all_goals
    go_enter Try.func18, Try.ntmps18
    go_wp2
    go_ret2
    exact ⟨rfl, (Below.refl _ _).alloc (Nat.le_refl _) _⟩

set_option maxRecDepth 100000 in
set_option maxHeartbeats 400000 in
theorem op_var (s : ByteArray) (w : World) :
    Calls Try.prog 16 #[.iface 70 (.agg #[.string s])] w fun e w' => e = .returned (.int .i64 2) ∧ Below w.heap.size w w' := by
  go_enter Try.func16, Try.ntmps16
  go_wp2
  go_ret
  exact ⟨rfl, (Below.refl _ _).alloc (Nat.le_refl _) _⟩

set_option maxRecDepth 100000 in
set_option maxHeartbeats 400000 in
theorem awake03 (w : World) :
    Calls Try.prog 10 #[] w fun e w' => e = .returned (.bool true) ∧ Below w.heap.size w w' := by
  go_enter Try.func10, Try.ntmps10
  go_wp2_with (first | (go_at_call 18; refine (lit_lit _ _).mono ?_; rintro e w1 ⟨rfl, hb1⟩) | (go_at_call 16; refine (op_var _ _).mono ?_; rintro e w2 ⟨rfl, hb2⟩))
  go_ret
  exact ⟨rfl, Keep.trans hb1 hb2⟩

end Go.Proofs.Ythicopkfgefbpaa.Box
