/-
  The walks of Arity, group, bit, two and Apply (packages expr, arith).
-/
import Derived.Test.YtmknbfpkpimlnaaDoorRows
import Derived.WalkKit
import Derived.WalkSpells
import Derived.WalkLawsBesides
import Derived.Lib.Hide
import Derived.StillTailTactics
import Derived.Test.YtmknbfpkpimlnaaDoorNum
namespace Go.Proofs.YtmknbfpkpimlnaaDoor
open Go.RowKit

/-- How many parts an operator has, and the error. -/
def arity (op : Int) : Int × Int := if op = 1 ∨ op = 2 then (0, 0) else if op = 3 ∨ op = 4 then (1, 0) else if op = 17 then (3, 0) else if 5 ≤ op ∧ op ≤ 16 then (2, 0) else (0, 2)

set_option maxRecDepth 100000 in
set_option maxHeartbeats 400000 in
theorem arity_any (op : Int) (w : World) :
    Calls Tryd.prog 27 #[.int .i64 op] w fun e w' => e = .returned (.tuple #[.int .i64 (arity op).1, .int .i64 (arity op).2]) ∧ w = w' := by
  by_cases h1 : op = 1
  · subst h1
    go_enter Tryd.func27, Tryd.ntmps27
    go_wp2
    go_ret2
    exact ⟨rfl, rfl⟩
  by_cases h2 : op = 2
  · subst h2
    go_enter Tryd.func27, Tryd.ntmps27
    go_wp2
    go_ret2
    exact ⟨rfl, rfl⟩
  by_cases h3 : op = 3
  · subst h3
    go_enter Tryd.func27, Tryd.ntmps27
    go_wp2
    go_ret2
    exact ⟨rfl, rfl⟩
  by_cases h4 : op = 4
  · subst h4
    go_enter Tryd.func27, Tryd.ntmps27
    go_wp2
    go_ret2
    exact ⟨rfl, rfl⟩
  by_cases h17 : op = 17
  · subst h17
    go_enter Tryd.func27, Tryd.ntmps27
    go_wp2
    go_ret2
    exact ⟨rfl, rfl⟩
  have n1 : (op == 1) = false := by simpa using h1
  have n2 : (op == 2) = false := by simpa using h2
  have n3 : (op == 3) = false := by simpa using h3
  have n4 : (op == 4) = false := by simpa using h4
  have n17 : (op == 17) = false := by simpa using h17
  by_cases h5 : 5 ≤ op
  · by_cases h16 : op ≤ 16
    · have ha : arity op = (2, 0) := by unfold arity; rw [if_neg (by omega), if_neg (by omega), if_neg h17, if_pos (by omega)]
      rw [ha]
      clear ha h1 h2 h3 h4 h17
      go_enter Tryd.func27, Tryd.ntmps27
      go_wp2
      go_ret2
      exact ⟨rfl, rfl⟩
    · have ha : arity op = (0, 2) := by unfold arity; rw [if_neg (by omega), if_neg (by omega), if_neg h17, if_neg (by omega)]
      rw [ha]
      clear ha h1 h2 h3 h4 h17
      go_enter Tryd.func27, Tryd.ntmps27
      go_wp2
      go_ret2
      exact ⟨rfl, rfl⟩
  · have ha : arity op = (0, 2) := by unfold arity; rw [if_neg (by omega), if_neg (by omega), if_neg h17, if_neg (by omega)]
    rw [ha]
    clear ha h1 h2 h3 h4 h17
    go_enter Tryd.func27, Tryd.ntmps27
    go_wp2
    go_ret2
    exact ⟨rfl, rfl⟩

set_option maxRecDepth 100000 in
set_option maxHeartbeats 400000 in
theorem bit_any (b : Bool) (w : World) : Calls Tryd.prog 37 #[.bool b] w fun e w' => e = .returned (.int .i64 (if b then 1 else 0)) ∧ w = w' := by
  cases b
  all_goals
    go_enter Tryd.func37, Tryd.ntmps37
    go_wp2
    go_ret
    exact ⟨rfl, rfl⟩

theorem wraps_u64 (n : Int) (h₀ : 0 ≤ n) (h₁ : n < 2 ^ 64) : IntKind.u64.wrap n = n := by
  simp [IntKind.wrap, IntKind.bits, IntKind.signed]; omega
theorem u64_wrap (n : Int) : IntKind.u64.wrap n = n % 18446744073709551616 := by simp [IntKind.wrap, IntKind.bits, IntKind.signed]

/-- The count of a shift. -/
theorem count_eq (b : Int) : Go.bits .and .u64 (IntKind.u64.wrap b) 63 = b % 64 := by
  have h := bits_mask .u64 64 (by decide) wraps_u64 6 (by decide) (IntKind.u64.wrap b) (by rw [u64_wrap]; omega) (by rw [u64_wrap]; omega)
  have e : ((2 : Int) ^ 6 - 1) = 63 := by decide
  rw [e] at h
  rw [h, u64_wrap]
  have e2 : ((2 : Int) ^ 6) = 64 := by decide
  rw [e2]
  omega

/-- What an operator makes of two numbers. -/
def two (op a b : Int) : Int :=
  if op = 5 then wrap64 (a + b) else if op = 6 then wrap64 (a - b) else if op = 7 then wrap64 (a * b) else if op = 8 then wrap64 (a.tdiv b) else if op = 9 then a.tmod b else
  if op = 10 then Go.bits .and .i64 a b else if op = 11 then Go.bits .or .i64 a b else if op = 12 then Go.bits .xor .i64 a b else if op = 13 then wrap64 (a * 2 ^ (b % 64).toNat) else if op = 14 then a / 2 ^ (b % 64).toNat else
  if op = 15 then (if a == b then 1 else 0) else (if decide (a < b) then 1 else 0)

set_option maxRecDepth 100000 in
set_option maxHeartbeats 1600000 in
theorem two_any (op a b : Int) (w : World) (h5 : 5 ≤ op) (h16 : op ≤ 16) (hb : op = 8 ∨ op = 9 → b ≠ 0) : Calls Tryd.prog 29 #[.int .i64 op, .int .i64 a, .int .i64 b] w fun e w' => e = .returned (.int .i64 (two op a b)) ∧ w = w' := by
  have hc := count_eq b
  have hc0 : 0 ≤ b % 64 := by omega
  have hc1 : b % 64 ≤ 64 := by omega
  have hop : op = 5 ∨ op = 6 ∨ op = 7 ∨ op = 8 ∨ op = 9 ∨ op = 10 ∨ op = 11 ∨ op = 12 ∨ op = 13 ∨ op = 14 ∨ op = 15 ∨ op = 16 := by omega
  clear h5 h16
  rcases hop with rfl | rfl | rfl | rfl | rfl | rfl | rfl | rfl | rfl | rfl | rfl | rfl
  case inr.inr.inr.inl | inr.inr.inr.inr.inl =>
    have hb0 : ¬ b = 0 := hb (by omega)
    clear hb hc hc0 hc1
    go_enter Tryd.func29, Tryd.ntmps29
    go_wp2
    go_ret
    exact ⟨by simp [two], rfl⟩
  case inr.inr.inr.inr.inr.inr.inr.inr.inr.inr.inl | inr.inr.inr.inr.inr.inr.inr.inr.inr.inr.inr =>
    clear hb hc hc0 hc1
    go_enter Tryd.func29, Tryd.ntmps29
    go_wp2_with (go_at_call 37; refine (bit_any _ _).mono ?_; rintro e w' ⟨rfl, rfl⟩)
    all_goals
      go_ret
      exact ⟨by simp [two, *]; try omega, rfl⟩
  all_goals
    clear hb
    go_enter Tryd.func29, Tryd.ntmps29
    go_wp2
    go_ret
    exact ⟨by simp [two], rfl⟩

/-- The cells of a slice of numbers. -/
def Ints (w : World) (A : Option Addr) (xs : List Int) : Prop :=
  xs ≠ [] → ∃ b off, A = some ⟨b, off, none⟩ ∧ b < w.heap.size ∧ ∀ i (h : i < xs.length), w.cell? ⟨b, off + i, none⟩ = some (.int .i64 xs[i])

theorem Ints.later {w w' : World} {A : Option Addr} {xs : List Int} (h : Ints w A xs) (hb : Below w.heap.size w w') : Ints w' A xs := fun hn => by
  obtain ⟨b, off, hA, hlt, hc⟩ := h hn
  exact ⟨b, off, hA, Nat.lt_of_lt_of_le hlt hb.size, fun i hi => (hb.cell (p := ⟨b, _, none⟩) hlt).trans (hc i hi)⟩

/-- What Apply answers. -/
def applied (op : Int) (xs : List Int) : Int × Int :=
  if (arity op).2 ≠ 0 ∨ (arity op).1 = 0 ∨ (arity op).1 ≠ xs.length then (0, 2)
  else if op = 3 then (wrap64 (-xs.getD 0 0), 0)
  else if op = 4 then (Go.bits .xor .i64 (-1) (xs.getD 0 0), 0)
  else if op = 17 then (if xs.getD 0 0 ≠ 0 then xs.getD 1 0 else xs.getD 2 0, 0)
  else if (op = 8 ∨ op = 9) ∧ xs.getD 1 0 = 0 then (0, 12)
  else (two op (xs.getD 0 0) (xs.getD 1 0), 0)

theorem arity_cases (op : Int) : ((op = 1 ∨ op = 2) ∧ arity op = (0, 0)) ∨ ((op = 3 ∨ op = 4) ∧ arity op = (1, 0)) ∨ (op = 17 ∧ arity op = (3, 0)) ∨ ((5 ≤ op ∧ op ≤ 16) ∧ arity op = (2, 0)) ∨ arity op = (0, 2) := by
  unfold arity
  by_cases h1 : op = 1 ∨ op = 2
  · rw [if_pos h1]; exact .inl ⟨h1, rfl⟩
  rw [if_neg h1]
  by_cases h2 : op = 3 ∨ op = 4
  · rw [if_pos h2]; exact .inr (.inl ⟨h2, rfl⟩)
  rw [if_neg h2]
  by_cases h3 : op = 17
  · rw [if_pos h3]; exact .inr (.inr (.inl ⟨h3, rfl⟩))
  rw [if_neg h3]
  by_cases h4 : 5 ≤ op ∧ op ≤ 16
  · rw [if_pos h4]; exact .inr (.inr (.inr (.inl ⟨h4, rfl⟩)))
  rw [if_neg h4]; exact .inr (.inr (.inr (.inr rfl)))

def AppliedPost (r : Int × Int) (w : World) (e : Ending) (w' : World) : Prop := e = .returned (.tuple #[.int .i64 r.1, .int .i64 r.2]) ∧ Below w.heap.size w w'

set_option maxRecDepth 100000 in
set_option maxHeartbeats 400000 in
theorem group_any (op : Int) (w : World) (h5 : 5 ≤ op) (h16 : op ≤ 16) :
    Calls Tryd.prog 28 #[.int .i64 op] w fun e w' => e = .returned (.int .i64 (if op = 8 ∨ op = 9 then 1 else if 13 ≤ op then 2 else 0)) ∧ w = w' := by
  have hop : op = 5 ∨ op = 6 ∨ op = 7 ∨ op = 8 ∨ op = 9 ∨ op = 10 ∨ op = 11 ∨ op = 12 ∨ op = 13 ∨ op = 14 ∨ op = 15 ∨ op = 16 := by omega
  clear h5 h16
  rcases hop with rfl | rfl | rfl | rfl | rfl | rfl | rfl | rfl | rfl | rfl | rfl | rfl
  all_goals
    go_enter Tryd.func28, Tryd.ntmps28
    go_wp2
    go_ret
    exact ⟨by simp, rfl⟩

set_option maxRecDepth 100000 in
set_option maxHeartbeats 400000 in
/-- Not so many numbers as the operator wants. -/
theorem apply_bad (op : Int) (A : Option Addr) (xs : List Int) (cap : Nat) (w : World) (h : (arity op).2 ≠ 0 ∨ (arity op).1 = 0 ∨ (arity op).1 ≠ xs.length) :
    Calls Tryd.prog 14 #[.int .i64 op, .slice A xs.length cap] w (AppliedPost (0, 2) w) := by
  rcases h with h | h | h
  · have h' : ((arity op).2 != 0) = true := by simpa using h
    clear h
    go_enter Tryd.func14, Tryd.ntmps14
    go_wp2_with (go_at_call 27; refine (arity_any op _).mono ?_; rintro e w' ⟨rfl, rfl⟩)
    go_ret2
    exact ⟨rfl, Below.refl _ _⟩
  · have h' : ((arity op).1 == 0) = true := by simpa using h
    clear h
    by_cases h2 : (arity op).2 = 0
    · have h2' : ((arity op).2 != 0) = false := by simpa using h2
      clear h2
      go_enter Tryd.func14, Tryd.ntmps14
      go_wp2_with (go_at_call 27; refine (arity_any op _).mono ?_; rintro e w' ⟨rfl, rfl⟩)
      go_ret2
      exact ⟨rfl, Below.refl _ _⟩
    · have h2' : ((arity op).2 != 0) = true := by simpa using h2
      clear h2
      go_enter Tryd.func14, Tryd.ntmps14
      go_wp2_with (go_at_call 27; refine (arity_any op _).mono ?_; rintro e w' ⟨rfl, rfl⟩)
      go_ret2
      exact ⟨rfl, Below.refl _ _⟩
  · have h3 : ((arity op).1 != (xs.length : Int)) = true := by simpa using h
    clear h
    by_cases h2 : (arity op).2 = 0
    · have h2' : ((arity op).2 != 0) = false := by simpa using h2
      clear h2
      by_cases h1 : (arity op).1 = 0
      · have h1' : ((arity op).1 == 0) = true := by simpa using h1
        clear h1
        go_enter Tryd.func14, Tryd.ntmps14
        go_wp2_with (go_at_call 27; refine (arity_any op _).mono ?_; rintro e w' ⟨rfl, rfl⟩)
        go_ret2
        exact ⟨rfl, Below.refl _ _⟩
      · have h1' : ((arity op).1 == 0) = false := by simpa using h1
        clear h1
        go_enter Tryd.func14, Tryd.ntmps14
        go_wp2_with (go_at_call 27; refine (arity_any op _).mono ?_; rintro e w' ⟨rfl, rfl⟩)
        go_ret2
        exact ⟨rfl, Below.refl _ _⟩
    · have h2' : ((arity op).2 != 0) = true := by simpa using h2
      clear h2
      go_enter Tryd.func14, Tryd.ntmps14
      go_wp2_with (go_at_call 27; refine (arity_any op _).mono ?_; rintro e w' ⟨rfl, rfl⟩)
      go_ret2
      exact ⟨rfl, Below.refl _ _⟩

theorem arity_is (op k e : Int) (h : arity op = (k, e)) (w : World) :
    Calls Tryd.prog 27 #[.int .i64 op] w fun e' w' => e' = .returned (.tuple #[.int .i64 k, .int .i64 e]) ∧ w = w' := by
  have := arity_any op w
  rw [h] at this
  exact this

set_option maxRecDepth 100000 in
set_option maxHeartbeats 400000 in
theorem apply_one (op : Int) (hop : op = 3 ∨ op = 4) (b off cap : Nat) (x : Int) (w : World) (hc : w.cell? ⟨b, off, none⟩ = some (.int .i64 x)) :
    Calls Tryd.prog 14 #[.int .i64 op, .slice (some ⟨b, off, none⟩) 1 cap] w (AppliedPost (if op = 3 then wrap64 (-x) else Go.bits .xor .i64 (-1) x, 0) w) := by
  rcases hop with rfl | rfl
  all_goals
    go_enter Tryd.func14, Tryd.ntmps14
    go_wp2_with (go_at_call 27; refine (arity_is _ 1 0 (by rfl) _).mono ?_; rintro e w' ⟨rfl, rfl⟩)
    go_ret2
    exact ⟨by simp, Below.refl _ _⟩

set_option maxRecDepth 100000 in
set_option maxHeartbeats 400000 in
theorem apply_if (b off cap : Nat) (x y z : Int) (w : World) (h0 : w.cell? ⟨b, off, none⟩ = some (.int .i64 x)) (h1 : w.cell? ⟨b, off + 1, none⟩ = some (.int .i64 y)) (h2 : w.cell? ⟨b, off + 2, none⟩ = some (.int .i64 z)) :
    Calls Tryd.prog 14 #[.int .i64 17, .slice (some ⟨b, off, none⟩) 3 cap] w (AppliedPost (if x ≠ 0 then y else z, 0) w) := by
  by_cases hx : x = 0
  · subst hx
    go_enter Tryd.func14, Tryd.ntmps14
    go_wp2_with (go_at_call 27; refine (arity_is _ 3 0 (by rfl) _).mono ?_; rintro e w' ⟨rfl, rfl⟩)
    go_ret2
    exact ⟨by simp, Below.refl _ _⟩
  · have hx' : (x != 0) = true := by simpa using hx
    go_enter Tryd.func14, Tryd.ntmps14
    go_wp2_with (go_at_call 27; refine (arity_is _ 3 0 (by rfl) _).mono ?_; rintro e w' ⟨rfl, rfl⟩)
    go_ret2
    exact ⟨by simp, Below.refl _ _⟩

set_option maxRecDepth 100000 in
set_option maxHeartbeats 800000 in
theorem apply_two (op : Int) (h5 : 5 ≤ op) (h16 : op ≤ 16) (b off cap : Nat) (x y : Int) (w : World) (h0 : w.cell? ⟨b, off, none⟩ = some (.int .i64 x)) (h1 : w.cell? ⟨b, off + 1, none⟩ = some (.int .i64 y)) :
    Calls Tryd.prog 14 #[.int .i64 op, .slice (some ⟨b, off, none⟩) 2 cap] w (AppliedPost (if (op = 8 ∨ op = 9) ∧ y = 0 then (0, 12) else (two op x y, 0)) w) := by
  have ha : arity op = (2, 0) := by unfold arity; rw [if_neg (by omega), if_neg (by omega), if_neg (by omega), if_pos (by omega)]
  have Ha := Lib.hid ha
  clear ha
  have n3 : (op == 3) = false := beq_eq_false_iff_ne.2 (by omega)
  have n4 : (op == 4) = false := beq_eq_false_iff_ne.2 (by omega)
  have n17 : (op == 17) = false := beq_eq_false_iff_ne.2 (by omega)
  by_cases hd : op = 8 ∨ op = 9
  · have hg : Hid ((if op = 8 ∨ op = 9 then (1 : Int) else if 13 ≤ op then 2 else 0) = 1) := if_pos hd
    by_cases hy : y = 0
    · subst hy
      rw [if_pos ⟨hd, rfl⟩]
      clear hd
      go_enter Tryd.func14, Tryd.ntmps14
      go_wp2_with (first | (go_at_call 27; refine (arity_is _ 2 0 Ha.out _).mono ?_; rintro e w' ⟨rfl, rfl⟩) | (go_at_call 28; refine (group_any op _ h5 h16).mono ?_; rw [hg.out]; rintro e w' ⟨rfl, rfl⟩))
      go_ret2
      exact ⟨rfl, Below.refl _ _⟩
    · rw [if_neg (by omega)]
      have hy' : (y == 0) = false := by simpa using hy
      clear hd
      go_enter Tryd.func14, Tryd.ntmps14
      go_wp2_with (first | (go_at_call 27; refine (arity_is _ 2 0 Ha.out _).mono ?_; rintro e w' ⟨rfl, rfl⟩) | (go_at_call 28; refine (group_any op _ h5 h16).mono ?_; rw [hg.out]; rintro e w' ⟨rfl, rfl⟩))
      refine wp_region_still_tail 7 (by kernel_rfl) (by kernel_rfl) ?_
      show wpStill _ _ (World.drew _) _ _ _
      simp only [List.take_succ_cons, List.take_zero, List.drop_succ_cons, List.drop_zero]
      repeat still_step
      refine wpStill_nil ?_
      show wpList _ _ _ _ _ (World.drew _)
      go_wp2_with (go_at_call 29; refine (two_any op x y _ h5 h16 (fun _ => hy)).mono ?_; rintro e w' ⟨rfl, rfl⟩)
      go_ret2
      exact ⟨rfl, (Below.refl _ _).drew⟩
  · rw [if_neg (by omega)]
    by_cases h13 : 13 ≤ op
    · have hg : Hid ((if op = 8 ∨ op = 9 then (1 : Int) else if 13 ≤ op then 2 else 0) = 2) := by rw [Hid, if_neg hd, if_pos h13]
      have hd' : Hid (¬ (op = 8 ∨ op = 9)) := hd
      clear hd
      go_enter Tryd.func14, Tryd.ntmps14
      go_wp2_with (first | (go_at_call 27; refine (arity_is _ 2 0 Ha.out _).mono ?_; rintro e w' ⟨rfl, rfl⟩) | (go_at_call 28; refine (group_any op _ h5 h16).mono ?_; rw [hg.out]; rintro e w' ⟨rfl, rfl⟩))
      refine wp_region_still_tail 7 (by kernel_rfl) (by kernel_rfl) ?_
      show wpStill _ _ (World.drew _) _ _ _
      simp only [List.take_succ_cons, List.take_zero, List.drop_succ_cons, List.drop_zero]
      repeat still_step
      refine wpStill_nil ?_
      show wpList _ _ _ _ _ (World.drew _)
      go_wp2_with (go_at_call 29; refine (two_any op x y _ h5 h16 (fun h => absurd h hd'.out)).mono ?_; rintro e w' ⟨rfl, rfl⟩)
      go_ret2
      exact ⟨rfl, (Below.refl _ _).drew⟩
    · have hg : Hid ((if op = 8 ∨ op = 9 then (1 : Int) else if 13 ≤ op then 2 else 0) = 0) := by rw [Hid, if_neg hd, if_neg h13]
      have hd' : Hid (¬ (op = 8 ∨ op = 9)) := hd
      clear hd
      go_enter Tryd.func14, Tryd.ntmps14
      go_wp2_with (first | (go_at_call 27; refine (arity_is _ 2 0 Ha.out _).mono ?_; rintro e w' ⟨rfl, rfl⟩) | (go_at_call 28; refine (group_any op _ h5 h16).mono ?_; rw [hg.out]; rintro e w' ⟨rfl, rfl⟩))
      refine wp_region_still_tail 7 (by kernel_rfl) (by kernel_rfl) ?_
      show wpStill _ _ (World.drew _) _ _ _
      simp only [List.take_succ_cons, List.take_zero, List.drop_succ_cons, List.drop_zero]
      repeat still_step
      refine wpStill_nil ?_
      show wpList _ _ _ _ _ (World.drew _)
      go_wp2_with (go_at_call 29; refine (two_any op x y _ h5 h16 (fun h => absurd h hd'.out)).mono ?_; rintro e w' ⟨rfl, rfl⟩)
      go_ret2
      exact ⟨rfl, (Below.refl _ _).drew⟩

theorem cell_at {w : World} {A : Option Addr} {xs : List Int} (h : Ints w A xs) (hn : 0 < xs.length) : ∃ b off, A = some ⟨b, off, none⟩ ∧ ∀ i, i < xs.length → w.cell? ⟨b, off + i, none⟩ = some (.int .i64 (xs.getD i 0)) := by
  obtain ⟨b, off, hA, _, hc⟩ := h (by rintro rfl; simp at hn)
  exact ⟨b, off, hA, fun i hi => by rw [hc i hi, List.getD_eq_getElem?_getD, List.getElem?_eq_getElem hi]; rfl⟩

/-- Every Apply. -/
theorem apply_any (op : Int) (A : Option Addr) (xs : List Int) (cap : Nat) (w : World) (hx : Ints w A xs) :
    Calls Tryd.prog 14 #[.int .i64 op, .slice A xs.length cap] w (AppliedPost (applied op xs) w) := by
  unfold applied
  by_cases hbad : (arity op).2 ≠ 0 ∨ (arity op).1 = 0 ∨ (arity op).1 ≠ xs.length
  · rw [if_pos hbad]; exact apply_bad op A xs cap w hbad
  rw [if_neg hbad]
  rcases arity_cases op with ⟨_, h⟩ | ⟨ho, h⟩ | ⟨ho, h⟩ | ⟨ho, h⟩ | h
  · rw [h] at hbad; exact absurd (.inr (.inl rfl)) hbad
  · have hl : xs.length = 1 := by rw [h] at hbad; simp at hbad; omega
    obtain ⟨b, off, rfl, hc⟩ := cell_at hx (by omega)
    have h0 := hc 0 (by omega)
    rw [hl]
    have := apply_one op ho b off cap (xs.getD 0 0) w h0
    rcases ho with rfl | rfl <;> exact this
  · subst ho
    have hl : xs.length = 3 := by rw [h] at hbad; simp at hbad; omega
    obtain ⟨b, off, rfl, hc⟩ := cell_at hx (by omega)
    rw [hl]
    exact apply_if b off cap _ _ _ w (hc 0 (by omega)) (hc 1 (by omega)) (hc 2 (by omega))
  · have hl : xs.length = 2 := by rw [h] at hbad; simp at hbad; omega
    obtain ⟨b, off, rfl, hc⟩ := cell_at hx (by omega)
    rw [hl, if_neg (by omega), if_neg (by omega), if_neg (by omega)]
    have := apply_two op ho.1 ho.2 b off cap _ _ w (hc 0 (by omega)) (hc 1 (by omega))
    split at this <;> rename_i hh
    · rw [if_pos hh]; exact this
    · rw [if_neg hh]; exact this
  · rw [h] at hbad; exact absurd (.inl (by decide)) hbad

end Go.Proofs.YtmknbfpkpimlnaaDoor
