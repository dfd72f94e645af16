/-
  Plain laws on int64 arithmetic: wraps, quotient and rest.
-/
import Derived.WalkKit
namespace Go.Proofs.YtmknbfpkpimlnaaDoor
open Go.RowKit

/-- Within the int64s. -/
def I64 (x : Int) : Prop := -9223372036854775808 ≤ x ∧ x ≤ 9223372036854775807

theorem wrap64_emod (x : Int) : wrap64 x = (x + 9223372036854775808) % 18446744073709551616 - 9223372036854775808 := by unfold wrap64; rfl

theorem wrap64_in {x : Int} (h : I64 x) : wrap64 x = x := by rw [wrap64_emod]; unfold I64 at h; omega

theorem wrap64_I64 (x : Int) : I64 (wrap64 x) := by rw [wrap64_emod]; unfold I64; omega

theorem wrap64_add_left (x y : Int) : wrap64 (wrap64 x + y) = wrap64 (x + y) := by simp only [wrap64_emod]; omega

theorem wrap64_mul_left (x y : Int) : wrap64 (wrap64 x * y) = wrap64 (x * y) := by
  have h : wrap64 x = x - 18446744073709551616 * ((x + 9223372036854775808) / 18446744073709551616) := by rw [wrap64_emod]; omega
  rw [h, Int.sub_mul, Int.mul_assoc, wrap64_emod, wrap64_emod]
  generalize (x + 9223372036854775808) / 18446744073709551616 * y = z
  omega

theorem cut_back (a b : Int) (ha : I64 a) : wrap64 (wrap64 (wrap64 (a.tdiv b) * b) + a.tmod b) = a := by
  rw [wrap64_mul_left, wrap64_add_left, Int.tdiv_mul_add_tmod, wrap64_in ha]

theorem tmod_facts (a b : Int) (hb : b ≠ 0) : (0 ≤ a → 0 ≤ a.tmod b) ∧ (a ≤ 0 → a.tmod b ≤ 0) ∧ (a.tmod b).natAbs < b.natAbs := by
  refine ⟨fun h => Int.tmod_nonneg b h, fun h => ?_, ?_⟩
  · have := Int.tmod_nonneg b (a := -a) (by omega)
    rw [Int.neg_tmod] at this
    omega
  · rw [Int.natAbs_tmod]
    exact Nat.mod_lt _ (by omega)

theorem u64_emod (n : Int) : IntKind.u64.wrap n = n % 18446744073709551616 := by simp [IntKind.wrap, IntKind.bits, IntKind.signed]

/-- The size of a number, as one without a sign. -/
theorem size_neg {x : Int} (h : I64 x) (h0 : x < 0) : IntKind.u64.wrap (-(IntKind.u64.wrap x)) = -x := by
  unfold I64 at h; rw [u64_emod, u64_emod]; omega

theorem size_pos {x : Int} (h : I64 x) (h0 : 0 ≤ x) : IntKind.u64.wrap x = x := by
  unfold I64 at h; rw [u64_emod]; omega

end Go.Proofs.YtmknbfpkpimlnaaDoor
