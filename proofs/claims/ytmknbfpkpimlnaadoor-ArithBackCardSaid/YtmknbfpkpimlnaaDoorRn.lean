/-
  ArithRing's plain law: what two calls of apply come to; sums, products and bits as words of 64 bits.
-/
import Derived.Test.YtmknbfpkpimlnaaDoorAw
namespace Go.Proofs.YtmknbfpkpimlnaaDoor
open Go.RowKit

/-- 'apply' of two numbers, of one, of three. -/
def R (op a b : Int) : Int := if (applied op [a, b]).2 = 0 then (applied op [a, b]).1 else 24301
def R1 (op a : Int) : Int := if (applied op [a]).2 = 0 then (applied op [a]).1 else 24301
def R3 (op a b c : Int) : Int := if (applied op [a, b, c]).2 = 0 then (applied op [a, b, c]).1 else 24301

theorem R_two (op a b : Int) (h5 : 5 ≤ op) (h16 : op ≤ 16) (h : ¬ ((op = 8 ∨ op = 9) ∧ b = 0)) : R op a b = two op a b := by
  unfold R; rw [applied_two op a b h5 h16, if_neg h]; rfl

/-- An int64 as a word. -/
def V (x : Int) : BitVec 64 := BitVec.ofInt 64 x

theorem wrap_V (x : Int) : wrap64 x = (V x).toInt := by
  unfold V
  rw [BitVec.toInt_ofInt, wrap64_emod, Int.bmod_def]
  split <;> omega

theorem wrap_nat (v : BitVec 64) : wrap64 v.toNat = v.toInt := by
  rw [BitVec.toInt_eq_toNat_bmod, wrap64_emod, Int.bmod_def]
  have := v.isLt
  split <;> omega

theorem V_toInt (v : BitVec 64) : V v.toInt = v := BitVec.ofInt_toInt
theorem toInt_I64 (v : BitVec 64) : I64 v.toInt := by rw [← wrap_nat]; exact wrap64_I64 _
theorem I64_V {x : Int} (h : I64 x) : (V x).toInt = x := by rw [← wrap_V, wrap64_in h]
theorem V_add (x y : Int) : V (x + y) = V x + V y := BitVec.ofInt_add x y
theorem V_mul (x y : Int) : V (x * y) = V x * V y := BitVec.ofInt_mul x y
theorem V_neg (x : Int) : V (-x) = - V x := BitVec.ofInt_neg
theorem V_sub (x y : Int) : V (x - y) = V x - V y := by rw [Int.sub_eq_add_neg, V_add, V_neg, BitVec.sub_eq_add_neg]

theorem bits_and (a b : Int) : Go.bits .and .i64 a b = (V a &&& V b).toInt := by
  show IntKind.i64.wrap ((V a &&& V b).toNat : Int) = _
  rw [IntKind.wrap_i64, ← wrap64_emod, wrap_nat]
theorem bits_or (a b : Int) : Go.bits .or .i64 a b = (V a ||| V b).toInt := by
  show IntKind.i64.wrap ((V a ||| V b).toNat : Int) = _
  rw [IntKind.wrap_i64, ← wrap64_emod, wrap_nat]
theorem bits_xor (a b : Int) : Go.bits .xor .i64 a b = (V a ^^^ V b).toInt := by
  show IntKind.i64.wrap ((V a ^^^ V b).toNat : Int) = _
  rw [IntKind.wrap_i64, ← wrap64_emod, wrap_nat]

theorem R5 (a b : Int) : R 5 a b = (V a + V b).toInt := by rw [R_two _ _ _ (by omega) (by omega) (by omega)]; unfold two; rw [if_pos rfl, wrap_V, V_add]
theorem R6 (a b : Int) : R 6 a b = (V a - V b).toInt := by rw [R_two _ _ _ (by omega) (by omega) (by omega), show two 6 a b = wrap64 (a - b) from by simp [two], wrap_V, V_sub]
theorem R7 (a b : Int) : R 7 a b = (V a * V b).toInt := by rw [R_two _ _ _ (by omega) (by omega) (by omega), show two 7 a b = wrap64 (a * b) from by simp [two], wrap_V, V_mul]
theorem R10 (a b : Int) : R 10 a b = (V a &&& V b).toInt := by rw [R_two _ _ _ (by omega) (by omega) (by omega), show two 10 a b = Go.bits .and .i64 a b from by simp [two], bits_and]
theorem R11 (a b : Int) : R 11 a b = (V a ||| V b).toInt := by rw [R_two _ _ _ (by omega) (by omega) (by omega), show two 11 a b = Go.bits .or .i64 a b from by simp [two], bits_or]
theorem R12 (a b : Int) : R 12 a b = (V a ^^^ V b).toInt := by rw [R_two _ _ _ (by omega) (by omega) (by omega), show two 12 a b = Go.bits .xor .i64 a b from by simp [two], bits_xor]
theorem R1_3 (a : Int) : R1 3 a = (- V a).toInt := by
  have h : applied 3 [a] = (wrap64 (-a), 0) := by simp [applied, arity]
  unfold R1; rw [h, if_pos rfl, wrap_V, V_neg]
theorem V_ones : V (-1) = BitVec.allOnes 64 := by decide
theorem R1_4 (a : Int) : R1 4 a = (~~~ V a).toInt := by
  have h : applied 4 [a] = (Go.bits .xor .i64 (-1) a, 0) := by simp [applied, arity]
  unfold R1; rw [h, if_pos rfl, bits_xor, V_ones, BitVec.allOnes_xor]

theorem and_or_parts (x y : BitVec 64) : (x &&& y) + (x ||| y) = x + y := by
  have h1 : x ||| y = x + (y &&& ~~~x) := by
    rw [BitVec.add_eq_or_of_and_eq_zero]
    · ext i hi; simp; try (cases x[i] <;> cases y[i] <;> decide)
    · ext i hi; simp; try (cases x[i] <;> cases y[i] <;> decide)
  have h2 : y = (x &&& y) + (y &&& ~~~x) := by
    rw [BitVec.add_eq_or_of_and_eq_zero]
    · ext i hi; simp; try (cases x[i] <;> cases y[i] <;> decide)
    · ext i hi; simp; try (cases x[i] <;> cases y[i] <;> decide)
  rw [h1]
  generalize y &&& ~~~x = z at *
  generalize x &&& y = u at *
  subst h2
  rw [← BitVec.add_assoc, ← BitVec.add_assoc, BitVec.add_comm u x]

theorem ring1 (a b : Int) : R 5 a b = R 5 b a := by rw [R5, R5, BitVec.add_comm]
theorem ring2 (a b c : Int) : R 5 (R 5 a b) c = R 5 a (R 5 b c) := by simp only [R5, V_toInt, BitVec.add_assoc]
theorem ring3 (a b : Int) : R 6 a b = R 5 a (R1 3 b) := by simp only [R5, R6, R1_3, V_toInt, BitVec.sub_eq_add_neg]
theorem ring4 (a : Int) : R 6 a a = 0 := by rw [R6]; simp
theorem ring5 (a b : Int) : R 7 a b = R 7 b a := by rw [R7, R7, BitVec.mul_comm]
theorem ring6 (a b c : Int) : R 7 a (R 5 b c) = R 5 (R 7 a b) (R 7 a c) := by simp only [R5, R7, V_toInt, BitVec.mul_add]
theorem ring7 (a : Int) : R 7 a (-1) = R1 3 a := by
  rw [R7, R1_3, ← V_mul, ← V_neg]; congr 2; omega
theorem ring8 (a b : Int) : R1 4 (R 10 a b) = R 11 (R1 4 a) (R1 4 b) := by simp only [R10, R11, R1_4, V_toInt, BitVec.not_and]
theorem ring9 (a b : Int) : R 12 a b = R 10 (R 11 a b) (R1 4 (R 10 a b)) := by
  simp only [R10, R11, R12, R1_4, V_toInt]
  congr 1
  generalize V a = x
  generalize V b = y
  ext i hi; simp; try (cases x[i] <;> cases y[i] <;> decide)
theorem ring10 (a : Int) : R1 4 a = R 6 (R1 3 a) 1 := by
  simp only [R6, R1_3, R1_4, V_toInt]
  rw [BitVec.not_eq_neg_add]; rfl
theorem ring11 (a b : Int) : R 5 (R 10 a b) (R 11 a b) = R 5 a b := by simp only [R5, R10, R11, V_toInt, and_or_parts]

end Go.Proofs.YtmknbfpkpimlnaaDoor
