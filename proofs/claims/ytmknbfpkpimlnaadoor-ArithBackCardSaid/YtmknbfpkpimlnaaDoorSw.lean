/-
  ArithShifts: the plain law, and the walk (package sorrellaw06).
-/
import Derived.Test.YtmknbfpkpimlnaaDoorRw
namespace Go.Proofs.YtmknbfpkpimlnaaDoor
open Go.RowKit

theorem wraps_i64 (n : Int) (h₀ : 0 ≤ n) (h₁ : n < 2 ^ 63) : IntKind.i64.wrap n = n := by rw [IntKind.wrap_i64]; omega

/-- 'n & 63', of whatever int64. -/
theorem and63 (n : Int) : Go.bits .and .i64 n 63 = n % 64 := by
  rw [bits_and]
  have h : (V n &&& V 63).toNat = (n % 64).toNat := by
    rw [BitVec.toNat_and]
    have e : (V 63).toNat = 2 ^ 6 - 1 := by decide
    rw [e, Nat.and_two_pow_sub_one_eq_mod]
    unfold V
    rw [BitVec.toNat_ofInt]
    omega
  rw [← wrap_nat, h, wrap64_in (by unfold I64; omega)]
  omega

theorem R13 (a n : Int) : R 13 a n = wrap64 (a * 2 ^ (n % 64).toNat) := by rw [R_two _ _ _ (by omega) (by omega) (by omega)]; simp [two]
theorem R14 (a n : Int) : R 14 a n = a / 2 ^ (n % 64).toNat := by rw [R_two _ _ _ (by omega) (by omega) (by omega)]; simp [two]
theorem R15 (a n : Int) : R 15 a n = if a = n then 1 else 0 := by rw [R_two _ _ _ (by omega) (by omega) (by omega)]; simp [two]
theorem R16 (a n : Int) : R 16 a n = if a < n then 1 else 0 := by rw [R_two _ _ _ (by omega) (by omega) (by omega)]; simp [two]
theorem R17 (c a n : Int) : R3 17 c a n = if c ≠ 0 then a else n := by
  have h : applied 17 [c, a, n] = (if c ≠ 0 then a else n, 0) := by simp [applied, arity]
  unfold R3; rw [h, if_pos rfl]

theorem wrap_mod (n : Int) : wrap64 (n + 64) % 64 = n % 64 := by rw [wrap64_emod]; omega

theorem shift1 (a n : Int) : R 13 a n = R 13 a (wrap64 (n + 64)) := by rw [R13, R13, wrap_mod]
theorem shift2 (a n : Int) : R 14 a n = R 14 a (wrap64 (n + 64)) := by rw [R14, R14, wrap_mod]
theorem shift3 (a n : Int) : R 13 a n = R 13 a (n % 64) := by rw [R13, R13, Int.emod_emod]

theorem shift4 (a k : Int) (h0 : 0 < k) (h1 : k < 64) : R 13 a k = wrap64 (2 * R 13 a (k - 1)) := by
  rw [R13, R13]
  obtain ⟨m, rfl⟩ : ∃ m : Nat, k = (m : Int) + 1 := ⟨(k - 1).toNat, by omega⟩
  have e1 : (((m : Int) + 1) % 64).toNat = m + 1 := by omega
  have e2 : (((m : Int) + 1 - 1) % 64).toNat = m := by omega
  rw [e1, e2, Int.mul_comm 2, wrap64_mul_left, Int.pow_succ, ← Int.mul_assoc]

theorem shift5 (a k : Int) (h0 : 0 < k) (h1 : k < 64) : R 14 a k = R 14 a (k - 1) / 2 := by
  rw [R14, R14]
  obtain ⟨m, rfl⟩ : ∃ m : Nat, k = (m : Int) + 1 := ⟨(k - 1).toNat, by omega⟩
  have e1 : (((m : Int) + 1) % 64).toNat = m + 1 := by omega
  have e2 : (((m : Int) + 1 - 1) % 64).toNat = m := by omega
  rw [e1, e2, Int.pow_succ, Int.ediv_ediv_of_nonneg (Int.pow_nonneg (by decide))]

theorem shift6 (a : Int) (h : I64 a) : R 13 a 0 = a := by
  rw [R13]; have e : ((0 : Int) % 64).toNat = 0 := by decide
  rw [e, Int.pow_zero, Int.mul_one, wrap64_in h]
theorem shift7 (a : Int) : R 14 a 0 = a := by
  rw [R14]; have e : ((0 : Int) % 64).toNat = 0 := by decide
  rw [e, Int.pow_zero, Int.ediv_one]
theorem shift8 (a : Int) (h : I64 a) : R 14 a 63 = if 0 ≤ a then 0 else -1 := by
  rw [R14]; have e : ((63 : Int) % 64).toNat = 63 := by decide
  rw [e]
  unfold I64 at h
  have e2 : (2 : Int) ^ 63 = 9223372036854775808 := by decide
  rw [e2]
  split <;> omega

theorem R14_I64 (a k : Int) (h : I64 a) : I64 (R 14 a k) := by
  rw [R14]
  have hp : (0 : Int) < 2 ^ (k % 64).toNat := Int.pow_pos (by decide)
  unfold I64 at h ⊢
  generalize (2 : Int) ^ (k % 64).toNat = p at hp
  constructor
  · rcases Int.le_total 0 a with h0 | h0
    · have := Int.ediv_nonneg h0 (Int.le_of_lt hp); omega
    · have := Int.le_ediv_of_mul_le hp (a := -9223372036854775808) (b := a) (by
        have : (-9223372036854775808 : Int) * p ≤ -9223372036854775808 * 1 := Int.mul_le_mul_of_nonpos_left (by omega) (by omega)
        omega)
      exact this
  · rcases Int.le_total 0 a with h0 | h0
    · have := Int.ediv_le_self p h0; omega
    · have : a / p ≤ 0 := by
        have := Int.ediv_le_ediv hp h0
        simpa using this
      omega

theorem tdiv2 (x : Int) : (0 ≤ x → x.tdiv 2 = x / 2 ∧ x.tmod 2 = x % 2) ∧ (x ≤ 0 → x.tdiv 2 = -((-x) / 2) ∧ x.tmod 2 = -((-x) % 2)) := by
  refine ⟨fun h => ⟨Int.tdiv_eq_ediv_of_nonneg h, Int.tmod_eq_emod_of_nonneg h⟩, fun h => ?_⟩
  obtain ⟨y, rfl⟩ : ∃ y : Int, x = -y := ⟨-x, by omega⟩
  rw [Int.neg_tdiv, Int.neg_tmod, Int.neg_neg, Int.tdiv_eq_ediv_of_nonneg (by omega), Int.tmod_eq_emod_of_nonneg (by omega)]
  exact ⟨rfl, rfl⟩

theorem half1 (x : Int) (hx : I64 x) (h : x.tmod 2 = -1) : wrap64 ((wrap64 (x - 1)).tdiv 2) = x / 2 := by
  unfold I64 at hx
  have h0 : x < 0 := by
    rcases Int.lt_or_le x 0 with h' | h'
    · exact h'
    · have := ((tdiv2 x).1 h').2; omega
  have h1 := ((tdiv2 x).2 (by omega)).2
  have e : wrap64 (x - 1) = x - 1 := wrap64_in (by unfold I64; omega)
  rw [e, ((tdiv2 (x - 1)).2 (by omega)).1, wrap64_in (by unfold I64; omega)]
  omega

theorem half2 (x : Int) (h : ¬ x.tmod 2 = -1) : x.tdiv 2 = x / 2 := by
  rcases Int.le_total 0 x with h' | h'
  · exact ((tdiv2 x).1 h').1
  · have := (tdiv2 x).2 h'
    omega

set_option maxRecDepth 100000 in
set_option maxHeartbeats 400000 in
theorem half_any (x : Int) (hx : I64 x) (w : World) : Calls Tryd.prog 17 #[.int .i64 x] w fun e w' => e = .returned (.int .i64 (x / 2)) ∧ w = w' := by
  by_cases h : x.tmod 2 = -1
  · rw [← half1 x hx h]
    have h1 : (x.tmod 2 == -1) = true := by simpa using h
    clear h hx
    go_enter Tryd.func17, Tryd.ntmps17
    go_wp2
    go_ret
    exact ⟨rfl, rfl⟩
  · rw [← half2 x h]
    have h1 : (x.tmod 2 == -1) = false := by simpa using h
    have hb : -9223372036854775808 ≤ x := hx.1
    have hc : x ≤ 9223372036854775807 := hx.2
    clear h hx
    go_enter Tryd.func17, Tryd.ntmps17
    go_wp2
    go_ret
    exact ⟨rfl, rfl⟩

set_option maxRecDepth 100000 in
set_option maxHeartbeats 4000000 in
theorem arithShifts_core (a n k : Int) (ha : I64 a) (hk0 : 0 ≤ k) (hk1 : k < 64) (hkn : k = n % 64) (hand : Go.bits .and .i64 n 63 = k) (x y z : Int) (h1 : R 16 a n = x) (h2 : R 16 n a = y) (h3 : R 15 a n = z)
    (hs : wrap64 (wrap64 (x + y) + z) = 1) (hm : R3 17 x a n = min a n) (w : World) :
    Calls Tryd.prog 8 #[.int .i64 a, .int .i64 n] w fun e w' => e = .returned (.bool true) ∧ Below w.heap.size w w' := by
  have s1 : (R 13 a n != R 13 a (wrap64 (n + 64))) = false := by rw [← shift1]; simp
  have s2 : (R 14 a n != R 14 a (wrap64 (n + 64))) = false := by rw [← shift2]; simp
  have s3 : (R 13 a n != R 13 a k) = false := by rw [hkn, ← shift3]; simp
  have s6 : R 13 a 0 = a := shift6 a ha
  have s7 : R 14 a 0 = a := shift7 a
  have s9 : R 15 a a = 1 := by rw [R15, if_pos rfl]
  have s10 : R 16 a a = 0 := by rw [R16, if_neg (by omega)]
  have s8 : ((R 14 a 63 == 0) == decide (a ≥ 0)) = true := by
    rw [shift8 a ha]
    by_cases h : 0 ≤ a
    · rw [if_pos h]; simp [h]
    · rw [if_neg h]; simp; omega
  have HB := Lib.hid (Below.refl w.heap.size w)
  have Ha := Lib.hid ha
  clear hkn ha
  by_cases hk : 0 < k
  · have s4 : (R 13 a k != wrap64 (2 * R 13 a (k - 1))) = false := by rw [← shift4 a k hk hk1]; simp
    have s5 : (R 14 a k != R 14 a (k - 1) / 2) = false := by rw [← shift5 a k hk hk1]; simp
    go_enter Tryd.func8, Tryd.ntmps8
    go_wp2_with (first
      | (go_at_call 9; refine (awake06 _).mono ?_; rintro e w1 ⟨rfl, hb⟩; replace HB := Lib.hid (Keep.trans HB.out hb); clear hb)
      | (go_at_call 16; (with_reducible refine (apply2 _ _ _ _ _ _ rfl).mono ?_); rintro e w1 ⟨rfl, hb⟩; replace HB := Lib.hid (Keep.trans HB.out hb); clear hb)
      | (go_at_call 16; (with_reducible refine (apply3 _ _ _ _ _ _ _ rfl).mono ?_); rintro e w1 ⟨rfl, hb⟩; replace HB := Lib.hid (Keep.trans HB.out hb); clear hb)
      | (go_at_call 17; refine (half_any _ (R14_I64 _ _ Ha.out) _).mono ?_; rintro e w1 ⟨rfl, rfl⟩))
    all_goals
      go_ret
      exact ⟨rfl, HB.out⟩
  · have hk' : ¬ 0 < k := hk
    go_enter Tryd.func8, Tryd.ntmps8
    go_wp2_with (first
      | (go_at_call 9; refine (awake06 _).mono ?_; rintro e w1 ⟨rfl, hb⟩; replace HB := Lib.hid (Keep.trans HB.out hb); clear hb)
      | (go_at_call 16; (with_reducible refine (apply2 _ _ _ _ _ _ rfl).mono ?_); rintro e w1 ⟨rfl, hb⟩; replace HB := Lib.hid (Keep.trans HB.out hb); clear hb)
      | (go_at_call 16; (with_reducible refine (apply3 _ _ _ _ _ _ _ rfl).mono ?_); rintro e w1 ⟨rfl, hb⟩; replace HB := Lib.hid (Keep.trans HB.out hb); clear hb)
      | (go_at_call 17; refine (half_any _ (R14_I64 _ _ Ha.out) _).mono ?_; rintro e w1 ⟨rfl, rfl⟩))
    all_goals
      go_ret
      exact ⟨rfl, HB.out⟩

theorem arithShifts_walk (a n : Int) (ha : I64 a) (_hn : I64 n) (w : World) :
    Calls Tryd.prog 8 #[.int .i64 a, .int .i64 n] w fun e w' => e = .returned (.bool true) ∧ Below w.heap.size w w' := by
  have h0 : 0 ≤ n % 64 := by omega
  have h1 : n % 64 < 64 := by omega
  rcases Int.lt_trichotomy a n with h | h | h
  · refine arithShifts_core a n _ ha h0 h1 rfl (and63 n) 1 0 0 (by rw [R16, if_pos h]) (by rw [R16, if_neg (by omega)]) (by rw [R15, if_neg (by omega)]) (by simp only [wrap64_emod]; omega) ?_ w
    rw [R17, if_pos (by decide)]; omega
  · refine arithShifts_core a n _ ha h0 h1 rfl (and63 n) 0 0 1 (by rw [R16, if_neg (by omega)]) (by rw [R16, if_neg (by omega)]) (by rw [R15, if_pos h]) (by simp only [wrap64_emod]; omega) ?_ w
    rw [R17, if_neg (by decide)]; omega
  · refine arithShifts_core a n _ ha h0 h1 rfl (and63 n) 0 1 0 (by rw [R16, if_neg (by omega)]) (by rw [R16, if_pos h]) (by rw [R15, if_neg (by omega)]) (by simp only [wrap64_emod]; omega) ?_ w
    rw [R17, if_neg (by decide)]; omega

end Go.Proofs.YtmknbfpkpimlnaaDoor
