/-
  Reasons and what tells them (package sorrellaw09: reason, told).
-/
import Derived.Test.YtkgmhkjiblanmaaFh
import Derived.BigQuiet
namespace Go.Proofs.Ytkgmhkjiblanmaa
open Go.RowKit

/-- The value v is the reason of number k; what memory it needs lies in block b. -/
def Told (w : World) (b : Nat) (v : Value) (k : Int) : Prop :=
  (k % 8 = 0 ∧ v = .iface 3 (.int .i64 k)) ∨ (k % 8 = 1 ∧ v = .iface 92 (.agg #[.int .i64 k])) ∨ (k % 8 = 2 ∧ v = .iface 93 (.pointer (some ⟨b, 0, none⟩)) ∧ w.cell? ⟨b, 0, none⟩ = some (.int .i64 k)) ∨
  (k % 8 = 3 ∧ v = .iface 9 (.string (strOfNums [k % 256, k / 256 % 256]))) ∨ (k % 8 = 4 ∧ v = .iface 27 (.slice (some ⟨b, 0, none⟩) 1 1) ∧ w.cell? ⟨b, 0, none⟩ = some (.int .i64 k)) ∨ (k % 8 = 5 ∧ v = .iface 2 (.int .i64 k)) ∨
  (k % 8 = 6 ∧ v = .iface 26 (.func (Fn.func 38) #[] #[.pointer (some ⟨b, 0, none⟩)]) ∧ w.cell? ⟨b, 0, none⟩ = some (.int .i64 k)) ∨ (k % 8 = 7 ∧ v = .nilIface)

theorem Told.one {w : World} {b : Nat} {v : Value} {k : Int} (h : Told w b v k) : v.oneCell' = true := by
  rcases h with ⟨_, rfl⟩ | ⟨_, rfl⟩ | ⟨_, rfl, _⟩ | ⟨_, rfl⟩ | ⟨_, rfl, _⟩ | ⟨_, rfl⟩ | ⟨_, rfl, _⟩ | ⟨_, rfl⟩ <;> rfl
theorem Told.far {w w' : World} {b : Nat} {v : Value} {k : Int} (h : Told w b v k) (hb : w'.heap[b]? = w.heap[b]?) : Told w' b v k := by
  have e : w'.cell? ⟨b, 0, none⟩ = w.cell? ⟨b, 0, none⟩ := World.cell?_of_block hb
  unfold Told
  rw [e]
  exact h

def ReasonTold (k : Int) (w : World) (e : Ending) (w' : World) : Prop := ∃ v b, e = .returned v ∧ Told w' b v k ∧ w.heap.size ≤ b ∧ b < w'.heap.size ∧ Below w.heap.size w w'

theorem two_cell (w : World) (o : Obj) (cs : Array Value) (t : TypeId) : ((w.alloc o).alloc (.cells cs t)).cell? ⟨w.heap.size + 1, 0, none⟩ = cs[0]? := by
  have h0 : (w.alloc o).heap.size = w.heap.size + 1 := by simp
  rw [← h0]
  exact World.cell?_alloc_new _ _ _ _

set_option maxRecDepth 100000 in
set_option maxHeartbeats 800000 in
theorem reason_told (k : Int) (w : World) : Calls Try.prog 21 #[.int .i64 k] w (ReasonTold k w) := by
  have hmf : ∀ (fn : Fn) (first cap : Array Value) (w : World), (Instr.makeFunc fn first cap).run Try.prog w = .ok (.func fn first cap) w := fun _ _ _ _ => rfl
  have h7 := and7 k
  have hr : k % 8 = 0 ∨ k % 8 = 1 ∨ k % 8 = 2 ∨ k % 8 = 3 ∨ k % 8 = 4 ∨ k % 8 = 5 ∨ k % 8 = 6 ∨ k % 8 = 7 := by omega
  have hconv : (convert 95 9 (.slice (some ⟨w.heap.size + 1, 0, none⟩) 2 2)).run Try.prog ((w.alloc (.cells #[.int .i64 k] 3)).alloc (.cells #[.int .u8 (k % 256), .int .u8 (k / 256 % 256)] 5)) = .ok (.string (strOfNums [k % 256, k / 256 % 256])) ((w.alloc (.cells #[.int .i64 k] 3)).alloc (.cells #[.int .u8 (k % 256), .int .u8 (k / 256 % 256)] 5)) :=
    run_convert_bytes_arg _ 95 5 Try.underlying95 Try.underlying5 (w.heap.size + 1) 0 2 2 [k % 256, k / 256 % 256] rfl (fun i hi => by
      have hn : w.heap.size + 1 = (w.alloc (.cells #[.int .i64 k] 3)).heap.size := by simp
      rw [hn, World.cell?_alloc_new]
      have : i = 0 ∨ i = 1 := by omega
      rcases this with rfl | rfl <;> rfl) 9 Try.underlying9
  have Hs1 : Hid (w.heap.size < (w.alloc (.cells #[.int .i64 k] 3)).heap.size) := by unfold Hid; simp
  have Hs2 : Hid (∀ o, w.heap.size + 1 < ((w.alloc (.cells #[.int .i64 k] 3)).alloc o).heap.size) := by intro o; simp
  have Hb1 : Hid (Below w.heap.size w (w.alloc (.cells #[.int .i64 k] 3))) := (Below.refl _ _).alloc (Nat.le_refl _) _
  have Hb2 : Hid (∀ o, Below w.heap.size w ((w.alloc (.cells #[.int .i64 k] 3)).alloc o)) := fun o => ((Below.refl _ _).alloc (Nat.le_refl _) _).alloc (by simp) _
  rcases hr with h | h | h | h | h | h | h | h
  all_goals
    have H := Lib.hid h
    rw [h] at h7
    clear h
    go_enter Try.func21, Try.ntmps21
    go_wp2
    go_ret
  · exact ⟨_, w.heap.size, rfl, .inl ⟨H.out, rfl⟩, Nat.le_refl _, Hs1.out, Hb1.out⟩
  · exact ⟨_, w.heap.size, rfl, .inr (.inl ⟨H.out, rfl⟩), Nat.le_refl _, Hs1.out, Hb1.out⟩
  · exact ⟨_, w.heap.size + 1, rfl, .inr (.inr (.inl ⟨H.out, rfl, two_cell _ _ _ _⟩)), Nat.le_succ _, Hs2.out _, Hb2.out _⟩
  · exact ⟨_, w.heap.size, rfl, .inr (.inr (.inr (.inl ⟨H.out, rfl⟩))), Nat.le_refl _, Nat.lt_of_succ_lt (Hs2.out _), Hb2.out _⟩
  · exact ⟨_, w.heap.size + 1, rfl, .inr (.inr (.inr (.inr (.inl ⟨H.out, rfl, two_cell _ _ _ _⟩)))), Nat.le_succ _, Hs2.out _, Hb2.out _⟩
  · exact ⟨_, w.heap.size, rfl, .inr (.inr (.inr (.inr (.inr (.inl ⟨H.out, rfl⟩))))), Nat.le_refl _, Hs1.out, Hb1.out⟩
  · exact ⟨_, w.heap.size, rfl, .inr (.inr (.inr (.inr (.inr (.inr (.inl ⟨H.out, rfl, World.cell?_alloc_new _ _ _ _⟩)))))), Nat.le_refl _, Hs1.out, Hb1.out⟩
  · exact ⟨_, w.heap.size, rfl, .inr (.inr (.inr (.inr (.inr (.inr (.inr ⟨H.out, rfl⟩)))))), Nat.le_refl _, Hs1.out, Hb1.out⟩

theorem ta3 (v : Value) (w : World) : (Instr.typeAssert (.iface 3 v) 20 3 true).run Try.prog w = .ok (.tuple #[v, .bool true]) w := by simp [Instr.typeAssert, run_underlying Try.underlying3, Result.andThen]
theorem ta92 (v : Value) (w : World) : (Instr.typeAssert (.iface 92 v) 20 92 true).run Try.prog w = .ok (.tuple #[v, .bool true]) w := by simp [Instr.typeAssert, run_underlying Try.underlying92, Result.andThen]
theorem ta93 (v : Value) (w : World) : (Instr.typeAssert (.iface 93 v) 20 93 true).run Try.prog w = .ok (.tuple #[v, .bool true]) w := by simp [Instr.typeAssert, run_underlying Try.underlying93, Result.andThen]
theorem ta9 (v : Value) (w : World) : (Instr.typeAssert (.iface 9 v) 20 9 true).run Try.prog w = .ok (.tuple #[v, .bool true]) w := by simp [Instr.typeAssert, run_underlying Try.underlying9, Result.andThen]
theorem ta27 (v : Value) (w : World) : (Instr.typeAssert (.iface 27 v) 20 27 true).run Try.prog w = .ok (.tuple #[v, .bool true]) w := by simp [Instr.typeAssert, run_underlying Try.underlying27, Result.andThen]
theorem ta2 (v : Value) (w : World) : (Instr.typeAssert (.iface 2 v) 20 2 true).run Try.prog w = .ok (.tuple #[v, .bool true]) w := by simp [Instr.typeAssert, run_underlying Try.underlying2, Result.andThen]
theorem nf26 (b : Nat) (w : World) : (binOp BinOp.neq 26 (.func (Fn.func 38) #[] #[.pointer (some ⟨b, 0, none⟩)]) .nilFunc).run Try.prog w = .ok (.bool true) w := by kernel_rfl
theorem ta26 (v : Value) (w : World) : (Instr.typeAssert (.iface 26 v) 20 26 true).run Try.prog w = .ok (.tuple #[v, .bool true]) w := by simp [Instr.typeAssert, run_underlying Try.underlying26, Result.andThen]

set_option maxRecDepth 100000 in
set_option maxHeartbeats 1600000 in
theorem told_true (b : Nat) (v : Value) (k : Int) (w : World) (h : Told w b v k) : Calls Try.prog 44 #[v, .int .i64 k] w fun e w' => e = .returned (.bool true) ∧ Below w.heap.size w w' := by
  have h7 := and7 k
  have hconv : (convert 95 9 (.slice (some ⟨w.heap.size, 0, none⟩) 2 2)).run Try.prog (w.alloc (.cells #[.int .u8 (k % 256), .int .u8 (k / 256 % 256)] 5)) = .ok (.string (strOfNums [k % 256, k / 256 % 256])) (w.alloc (.cells #[.int .u8 (k % 256), .int .u8 (k / 256 % 256)] 5)) :=
    run_convert_bytes_arg _ 95 5 Try.underlying95 Try.underlying5 w.heap.size 0 2 2 [k % 256, k / 256 % 256] rfl (fun i hi => by
      rw [World.cell?_alloc_new]
      have : i = 0 ∨ i = 1 := by omega
      rcases this with rfl | rfl <;> rfl) 9 Try.underlying9
  rcases h with ⟨h, rfl⟩ | ⟨h, rfl⟩ | ⟨h, rfl, hc⟩ | ⟨h, rfl⟩ | ⟨h, rfl, hc⟩ | ⟨h, rfl⟩ | ⟨h, rfl, hc⟩ | ⟨h, rfl⟩
  all_goals
    rw [h] at h7
    clear h
    have q3 := ta3
    have q92 := ta92
    have q93 := ta93
    have q9 := ta9
    have q27 := ta27
    have q2 := ta2
    have q26 := ta26
    have qn := nf26 b
    go_enter Try.func44, Try.ntmps44
    go_wp2
    first
      | (go_ret; first
          | exact ⟨rfl, Below.refl _ _⟩
          | exact ⟨rfl, (Below.refl _ _).alloc (Nat.le_refl _) _⟩)

end Go.Proofs.Ytkgmhkjiblanmaa
