/-
  The walks of the reference's size, signed, shifted, lowered, divide (package sorrelref06).
-/
import Derived.Test.YtmknbfpkpimlnaaDoorSw
namespace Go.Proofs.YtmknbfpkpimlnaaDoor
open Go.RowKit

theorem wrap_twice (z : Int) : wrap64 (wrap64 z + wrap64 z) = wrap64 (z * 2) := by simp only [wrap64_emod]; omega

set_option maxRecDepth 100000 in
set_option maxHeartbeats 400000 in
theorem shifted_any (a : Int) (n : Nat) (hn : n ≤ 64) (ha : I64 a) (w : World) : Calls Tryd.prog 39 #[.int .i64 a, .int .i64 n] w fun e w' => e = .returned (.int .i64 (wrap64 (a * 2 ^ n))) ∧ w = w' := by
  have Ha := Lib.hid ha
  clear ha
  go_enter Tryd.func39, Tryd.ntmps39
  go_wp2
  go_loop [0, 5] (fun x i => ∃ k : Nat, k ≤ n ∧ i = .int .i64 k ∧ ∃ y : Int, x = .int .i64 y ∧ Hid (y = wrap64 (a * 2 ^ k))) (fun _ i => n - (intOf i).toNat)
  case atStart => exact ⟨0, Nat.zero_le _, rfl, a, rfl, by rw [Hid, Int.pow_zero, Int.mul_one, wrap64_in Ha.out]⟩
  case round =>
    obtain ⟨k, hk, rfl, y, rfl, hy⟩ := hrel
    by_cases hlt : k < n
    · go_wp2
      go_round
      case rel => exact ⟨k + 1, by omega, by go_num, _, rfl, by rw [Hid, hy.out, wrap_twice, Int.pow_succ, Int.mul_assoc]⟩
      case measure => simp [intOf]; omega
    · go_wp2
      go_ret
      obtain rfl : k = n := by omega
      exact ⟨by rw [← hy.out]; rfl, rfl⟩

theorem ediv_I64 (a : Int) (h : I64 a) (k : Nat) : I64 (a / 2 ^ k) := by
  have hp : (0 : Int) < 2 ^ k := Int.pow_pos (by decide)
  unfold I64 at h ⊢
  generalize (2 : Int) ^ k = p at hp
  constructor
  · rcases Int.le_total 0 a with h0 | h0
    · have := Int.ediv_nonneg h0 (Int.le_of_lt hp); omega
    · exact Int.le_ediv_of_mul_le hp (a := -9223372036854775808) (b := a) (by
        have : (-9223372036854775808 : Int) * p ≤ -9223372036854775808 * 1 := Int.mul_le_mul_of_nonpos_left (by omega) (by omega)
        omega)
  · rcases Int.le_total 0 a with h0 | h0
    · have := Int.ediv_le_self p h0; omega
    · have : a / p ≤ 0 := by
        have := Int.ediv_le_ediv hp h0
        simpa using this
      omega

theorem ediv_half (a : Int) (k : Nat) : a / 2 ^ k / 2 = a / 2 ^ (k + 1) := by
  rw [Int.pow_succ, Int.ediv_ediv_of_nonneg (Int.pow_nonneg (by decide))]

set_option maxRecDepth 100000 in
set_option maxHeartbeats 400000 in
theorem lowered_any (a : Int) (n : Nat) (hn : n ≤ 64) (ha : I64 a) (w : World) : Calls Tryd.prog 40 #[.int .i64 a, .int .i64 n] w fun e w' => e = .returned (.int .i64 (a / 2 ^ n)) ∧ w = w' := by
  have Ha := Lib.hid ha
  clear ha
  go_enter Tryd.func40, Tryd.ntmps40
  go_wp2
  go_loop [0, 5] (fun x i => ∃ k : Nat, k ≤ n ∧ i = .int .i64 k ∧ ∃ y : Int, x = .int .i64 y ∧ Hid (y = a / 2 ^ k)) (fun _ i => n - (intOf i).toNat)
  case atStart => exact ⟨0, Nat.zero_le _, rfl, a, rfl, by rw [Hid, Int.pow_zero, Int.ediv_one]⟩
  case round =>
    obtain ⟨k, hk, rfl, y, rfl, hy⟩ := hrel
    by_cases hlt : k < n
    · have hI : I64 y := by rw [hy.out]; exact ediv_I64 a Ha.out k
      by_cases h : y.tmod 2 = -1
      · have Hh := Lib.hid (half1 y hI h)
        have h1 : (y.tmod 2 == -1) = true := by simpa using h
        clear h hI
        go_wp2
        go_round
        case rel => exact ⟨k + 1, by omega, by go_num, _, rfl, by rw [Hid, Hh.out, hy.out, ediv_half]⟩
        case measure => simp [intOf]; omega
      · have Hh := Lib.hid (half2 y h)
        have h1 : (y.tmod 2 == -1) = false := by simpa using h
        have hb : -9223372036854775808 ≤ y := hI.1
        have hc : y ≤ 9223372036854775807 := hI.2
        clear h hI
        go_wp2
        go_round
        case rel => exact ⟨k + 1, by omega, by go_num, _, rfl, by rw [Hid, Hh.out, hy.out, ediv_half]⟩
        case measure => simp [intOf]; omega
    · go_wp2
      go_ret
      obtain rfl : k = n := by omega
      exact ⟨by rw [← hy.out]; rfl, rfl⟩

/-- What the division by bits holds behind j of its 64 rounds. -/
def Dv (a b : Int) (j : Nat) (y z : Int) : Prop := y * b + z = a / 2 ^ (64 - j) ∧ 0 ≤ z ∧ z < b ∧ 0 ≤ y

theorem dv_start (a b : Int) (h0 : 0 ≤ a) (h1 : a ≤ 9223372036854775808) (hb : 0 < b) : Dv a b 0 0 0 := by
  refine ⟨?_, by omega, hb, by omega⟩
  rw [Int.zero_mul, Int.zero_add]
  symm
  apply Int.ediv_eq_zero_of_lt h0
  have : (2 : Int) ^ (64 - 0) = 18446744073709551616 := by decide
  omega

theorem dv_end (a b : Int) (y z : Int) (h : Dv a b 64 y z) : y = a / b ∧ z = a % b := by
  obtain ⟨h1, h2, h3, _⟩ := h
  rw [Nat.sub_self, Int.pow_zero, Int.ediv_one] at h1
  subst h1
  rw [Int.add_comm, Int.add_mul_ediv_right _ _ (by omega), Int.add_mul_emod_self_right, Int.ediv_eq_zero_of_lt h2 h3, Int.emod_eq_of_lt h2 h3]
  exact ⟨by omega, rfl⟩

/-- The next bit. -/
theorem dv_bit (a : Int) (j : Nat) (hj : j < 64) : a / 2 ^ (64 - (j + 1)) = 2 * (a / 2 ^ (64 - j)) + (a / 2 ^ (63 - j)) % 2 := by
  have e1 : 64 - (j + 1) = 63 - j := by omega
  have e2 : 64 - j = (63 - j) + 1 := by omega
  rw [e1, e2, Int.pow_succ, ← Int.ediv_ediv_of_nonneg (Int.pow_nonneg (by decide))]
  omega

theorem dv_yes (a b : Int) (j : Nat) (hj : j < 64) (y z : Int) (h : Dv a b j y z) (hc : b ≤ z * 2 + (a / 2 ^ (63 - j)) % 2) : Dv a b (j + 1) (y * 2 + 1) (z * 2 + (a / 2 ^ (63 - j)) % 2 - b) := by
  obtain ⟨h1, h2, h3, h4⟩ := h
  refine ⟨?_, by omega, by omega, by omega⟩
  rw [dv_bit a j hj, ← h1, Int.add_mul, Int.one_mul, Int.mul_assoc, Int.mul_comm 2 b, ← Int.mul_assoc]
  omega

theorem dv_no (a b : Int) (j : Nat) (hj : j < 64) (y z : Int) (h : Dv a b j y z) (hc : ¬ b ≤ z * 2 + (a / 2 ^ (63 - j)) % 2) : Dv a b (j + 1) (y * 2) (z * 2 + (a / 2 ^ (63 - j)) % 2) := by
  obtain ⟨h1, h2, h3, h4⟩ := h
  refine ⟨?_, by omega, by omega, by omega⟩
  rw [dv_bit a j hj, ← h1, Int.mul_assoc, Int.mul_comm 2 b, ← Int.mul_assoc]
  omega

/-- The quotient so far is small. -/
theorem dv_small (a b : Int) (j : Nat) (hj : j < 64) (y z : Int) (h : Dv a b j y z) (h0 : 0 ≤ a) (h1 : a ≤ 9223372036854775808) : y ≤ 4611686018427387904 := by
  obtain ⟨g1, g2, g3, g4⟩ := h
  have e : y ≤ y * b := by
    have := Int.mul_le_mul_of_nonneg_left (show (1 : Int) ≤ b by omega) g4
    omega
  have e2 : a / 2 ^ (64 - j) ≤ a / 2 ^ 1 := by
    have hp : (2 : Int) ^ (64 - j) = 2 ^ (63 - j) * 2 ^ 1 := by rw [← Int.pow_add]; congr 1; omega
    rw [hp, Int.mul_comm, ← Int.ediv_ediv_of_nonneg (Int.pow_nonneg (by decide))]
    exact Int.ediv_le_self _ (Int.ediv_nonneg h0 (Int.pow_nonneg (by decide)))
  have e3 : (2 : Int) ^ 1 = 2 := by decide
  rw [e3] at e2
  omega

set_option maxRecDepth 100000 in
set_option maxHeartbeats 400000 in
theorem divide_any (a b : Int) (h0 : 0 ≤ a) (h1 : a ≤ 9223372036854775808) (hb0 : 0 < b) (hb1 : b ≤ 9223372036854775808) (w : World) : Calls Tryd.prog 38 #[.int .u64 a, .int .u64 b] w fun e w' => e = .returned (.tuple #[.int .u64 (a / b), .int .u64 (a % b)]) ∧ w = w' := by
  go_enter Tryd.func38, Tryd.ntmps38
  go_wp2
  go_loop [6, 7, 8] (fun q r i => ∃ j : Nat, j ≤ 64 ∧ i = .int .i64 (63 - j) ∧ ∃ y z : Int, q = .int .u64 y ∧ r = .int .u64 z ∧ Dv a b j y z) (fun _ _ i => (intOf i + 1).toNat)
  case atStart => exact ⟨0, Nat.zero_le _, by simp, 0, 0, rfl, rfl, dv_start a b h0 h1 hb0⟩
  case round =>
    obtain ⟨j, hj, rfl, y, z, rfl, rfl, hd⟩ := hrel
    by_cases hlt : j < 64
    · have hi0 : (0 : Int) ≤ 63 - j := by omega
      have hi1 : (63 - j : Int) ≤ 64 := by omega
      have hy1 := dv_small a b j hlt y z hd h0 h1
      have hyes := Lib.hid (dv_yes a b j hlt y z hd)
      have hno := Lib.hid (dv_no a b j hlt y z hd)
      obtain ⟨-, hz0, hz1, hy0⟩ := hd
      have hin : (63 - j : Int).toNat = 63 - j := by omega
      have hi := Lib.hid (rfl : (63 - j : Int) = 63 - j)
      have htm : (a / 2 ^ (63 - j)).tmod 2 = (a / 2 ^ (63 - j)) % 2 := Int.tmod_eq_emod_of_nonneg (Int.ediv_nonneg h0 (Int.pow_nonneg (by decide)))
      have ht0 : 0 ≤ (a / 2 ^ (63 - j)) % 2 := by omega
      have ht1 : (a / 2 ^ (63 - j)) % 2 ≤ 1 := by omega
      generalize (a / 2 ^ (63 - j)) % 2 = t at htm ht0 ht1 hyes hno
      generalize hij : (63 - j : Int) = i at hi0 hi1 hin
      have Hij := Lib.hid hij
      clear hij hi
      have hiw : IntKind.u64.wrap i = i := by rw [u64_emod]; omega
      have hz2 : z ≤ 9223372036854775807 := by omega
      have htop : z / 9223372036854775808 = 0 := by omega
      by_cases hc : b ≤ z * 2 + t
      · go_wp2
        go_round
        case rel => exact ⟨j + 1, by omega, by have := Hij.out; congr 1; omega, _, _, rfl, rfl, hyes.out hc⟩
        case measure => simp [intOf]; omega
      · go_wp2
        go_round
        case rel => exact ⟨j + 1, by omega, by have := Hij.out; congr 1; omega, _, _, rfl, rfl, hno.out hc⟩
        case measure => simp [intOf]; omega
    · obtain rfl : j = 64 := by omega
      go_wp2
      go_ret2
      obtain ⟨rfl, rfl⟩ := dv_end a b y z hd
      exact ⟨rfl, rfl⟩

set_option maxRecDepth 100000 in
set_option maxHeartbeats 400000 in
theorem size_any (a : Int) (ha : I64 a) (w : World) : Calls Tryd.prog 26 #[.int .i64 a] w fun e w' => e = .returned (.int .u64 a.natAbs) ∧ w = w' := by
  by_cases h : a < 0
  · have hs := size_neg ha h
    have hn : (a.natAbs : Int) = -a := by omega
    rw [hn, ← hs]
    clear hs hn ha
    go_enter Tryd.func26, Tryd.ntmps26
    go_wp2
    go_ret
    exact ⟨rfl, rfl⟩
  · have hs := size_pos ha (by omega)
    have hn : (a.natAbs : Int) = a := by omega
    rw [hn]
    have Hs := Lib.hid hs
    clear hs hn ha
    go_enter Tryd.func26, Tryd.ntmps26
    go_wp2
    go_ret
    exact ⟨by simp [Hs.out], rfl⟩

/-- A size with a sign. -/
def signedOf (n : Int) (m : Bool) : Int := if m then wrap64 (-n) else wrap64 n

theorem wrap_u64 (n : Int) : wrap64 (IntKind.u64.wrap n) = wrap64 n := by rw [u64_emod]; simp only [wrap64_emod]; omega

set_option maxRecDepth 100000 in
set_option maxHeartbeats 400000 in
theorem signed_any (n : Int) (m : Bool) (w : World) : Calls Tryd.prog 24 #[.int .u64 n, .bool m] w fun e w' => e = .returned (.int .i64 (signedOf n m)) ∧ w = w' := by
  cases m
  · go_enter Tryd.func24, Tryd.ntmps24
    go_wp2
    go_ret
    exact ⟨by simp [signedOf], rfl⟩
  · go_enter Tryd.func24, Tryd.ntmps24
    go_wp2
    go_ret
    exact ⟨by simp [signedOf, wrap_u64], rfl⟩

set_option maxRecDepth 100000 in
set_option maxHeartbeats 400000 in
theorem yes_any (b : Bool) (w : World) : Calls Tryd.prog 41 #[.bool b] w fun e w' => e = .returned (.int .i64 (if b then 1 else 0)) ∧ w = w' := by
  cases b
  all_goals
    go_enter Tryd.func41, Tryd.ntmps41
    go_wp2
    go_ret
    exact ⟨rfl, rfl⟩

end Go.Proofs.YtmknbfpkpimlnaaDoor
