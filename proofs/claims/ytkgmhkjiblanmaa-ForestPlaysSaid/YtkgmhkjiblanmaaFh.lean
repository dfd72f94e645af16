/-
  The walk of reason (package sorrellaw09): some value of one cell; nothing that was there turns.
-/
import Derived.Test.YtkgmhkjiblanmaaFb
import Derived.Laws.BytesArg
namespace Go.Proofs.Ytkgmhkjiblanmaa
open Go.RowKit

theorem and7 (n : Int) : Go.bits .and .i64 n 7 = n % 8 := by
  have hw : ∀ (n : Int), 0 ≤ n → n < 2 ^ 63 → IntKind.i64.wrap n = n := fun n h0 h1 => by rw [IntKind.wrap_i64]; omega
  show IntKind.i64.wrap (((BitVec.ofInt 64 n) &&& (BitVec.ofInt 64 7)).toNat : Int) = _
  have e : (BitVec.ofInt 64 n &&& BitVec.ofInt 64 7) = BitVec.ofInt 64 (n % 8) := by
    apply BitVec.eq_of_toNat_eq
    rw [BitVec.toNat_and, BitVec.toNat_ofInt, BitVec.toNat_ofInt, BitVec.toNat_ofInt]
    have h7 : ((7 : Int) % ((2 ^ 64 : Nat) : Int)).toNat = 2 ^ 3 - 1 := by decide
    rw [h7, Nat.and_two_pow_sub_one_eq_mod]
    omega
  rw [e, BitVec.toNat_ofInt, hw] <;> omega

def ReasonPost (w : World) (e : Ending) (w' : World) : Prop := ∃ v, e = .returned v ∧ v.oneCell' = true ∧ Below w.heap.size w w'

set_option maxRecDepth 100000 in
set_option maxHeartbeats 800000 in
theorem reason_any (k : Int) (w : World) : Calls Try.prog 21 #[.int .i64 k] w (ReasonPost w) := by
  have hmf : ∀ (fn : Fn) (first cap : Array Value) (w : World), (Instr.makeFunc fn first cap).run Try.prog w = .ok (.func fn first cap) w := fun _ _ _ _ => rfl
  have h7 := and7 k
  have hr : k % 8 = 0 ∨ k % 8 = 1 ∨ k % 8 = 2 ∨ k % 8 = 3 ∨ k % 8 = 4 ∨ k % 8 = 5 ∨ k % 8 = 6 ∨ k % 8 = 7 := by omega
  have hconv : (convert 95 9 (.slice (some ⟨w.heap.size + 1, 0, none⟩) 2 2)).run Try.prog ((w.alloc (.cells #[.int .i64 k] 3)).alloc (.cells #[.int .u8 (k % 256), .int .u8 (k / 256 % 256)] 5)) = .ok (.string (strOfNums [k % 256, k / 256 % 256])) ((w.alloc (.cells #[.int .i64 k] 3)).alloc (.cells #[.int .u8 (k % 256), .int .u8 (k / 256 % 256)] 5)) :=
    run_convert_bytes_arg _ 95 5 Try.underlying95 Try.underlying5 (w.heap.size + 1) 0 2 2 [k % 256, k / 256 % 256] rfl (fun i hi => by
      have hn : w.heap.size + 1 = (w.alloc (.cells #[.int .i64 k] 3)).heap.size := by simp
      rw [hn, World.cell?_alloc_new]
      have : i = 0 ∨ i = 1 := by omega
      rcases this with rfl | rfl <;> rfl) 9 Try.underlying9
  rcases hr with h | h | h | h | h | h | h | h
  all_goals
    rw [h] at h7
    clear h
    go_enter Try.func21, Try.ntmps21
    go_wp2
    go_ret
    first
      | exact ⟨_, rfl, rfl, (Below.refl _ _).alloc (Nat.le_refl _) _⟩
      | exact ⟨_, rfl, rfl, ((Below.refl _ _).alloc (Nat.le_refl _) _).alloc (by simp) _⟩

end Go.Proofs.Ytkgmhkjiblanmaa
