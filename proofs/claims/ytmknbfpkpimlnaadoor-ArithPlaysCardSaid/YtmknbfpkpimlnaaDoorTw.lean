/-
  The walks of the reference's two, Arity and Apply (packages sorrelref06, sorrelref02).
-/
import Derived.Test.YtmknbfpkpimlnaaDoorFw
namespace Go.Proofs.YtmknbfpkpimlnaaDoor
open Go.RowKit

theorem signed_quo (a b : Int) : signedOf ((a.natAbs : Int) / (b.natAbs : Int)) (!(decide (a < 0) == decide (b < 0))) = wrap64 (a.tdiv b) := by
  unfold signedOf
  by_cases ha : a < 0 <;> by_cases hb : b < 0
  · obtain ⟨x, rfl⟩ : ∃ x : Int, a = -x := ⟨-a, by omega⟩
    obtain ⟨y, rfl⟩ : ∃ y : Int, b = -y := ⟨-b, by omega⟩
    have e1 : ((-x).natAbs : Int) = x := by omega
    have e2 : ((-y).natAbs : Int) = y := by omega
    rw [e1, e2, Int.neg_tdiv, Int.tdiv_neg, Int.neg_neg, Int.tdiv_eq_ediv_of_nonneg (by omega), decide_eq_true ha, decide_eq_true hb]
    rfl
  · obtain ⟨x, rfl⟩ : ∃ x : Int, a = -x := ⟨-a, by omega⟩
    have e1 : ((-x).natAbs : Int) = x := by omega
    have e2 : (b.natAbs : Int) = b := by omega
    rw [e1, e2, Int.neg_tdiv, Int.tdiv_eq_ediv_of_nonneg (by omega), decide_eq_true ha, decide_eq_false hb]
    rfl
  · obtain ⟨y, rfl⟩ : ∃ y : Int, b = -y := ⟨-b, by omega⟩
    have e1 : (a.natAbs : Int) = a := by omega
    have e2 : ((-y).natAbs : Int) = y := by omega
    rw [e1, e2, Int.tdiv_neg, Int.tdiv_eq_ediv_of_nonneg (by omega), decide_eq_false ha, decide_eq_true hb]
    rfl
  · have e1 : (a.natAbs : Int) = a := by omega
    have e2 : (b.natAbs : Int) = b := by omega
    rw [e1, e2, Int.tdiv_eq_ediv_of_nonneg (by omega), decide_eq_false ha, decide_eq_false hb]
    rfl

theorem signed_rem (a b : Int) (ha : I64 a) : signedOf ((a.natAbs : Int) % (b.natAbs : Int)) (decide (a < 0)) = a.tmod b := by
  have h1 : a.tmod b = a.tmod (b.natAbs : Int) := by
    rcases Int.natAbs_eq b with h | h
    · rw [← h]
    · generalize b.natAbs = n at h
      subst h
      rw [Int.tmod_neg]
  rw [h1]
  have hlt : (a.natAbs : Int) % (b.natAbs : Int) ≤ (a.natAbs : Int) := by
    rw [← Int.natCast_emod]; exact Int.ofNat_le.mpr (Nat.mod_le _ _)
  have hge : 0 ≤ (a.natAbs : Int) % (b.natAbs : Int) := by
    rw [← Int.natCast_emod]; exact Int.natCast_nonneg _
  unfold I64 at ha
  unfold signedOf
  generalize b.natAbs = n at *
  by_cases h : a < 0
  · obtain ⟨x, rfl⟩ : ∃ x : Int, a = -x := ⟨-a, by omega⟩
    have e1 : ((-x).natAbs : Int) = x := by omega
    rw [e1] at hlt hge ⊢
    rw [Int.neg_tmod, Int.tmod_eq_emod_of_nonneg (by omega)]
    simp only [h, decide_true, if_true]
    exact wrap64_in (by unfold I64; omega)
  · have e1 : (a.natAbs : Int) = a := by omega
    rw [e1] at hlt hge ⊢
    rw [Int.tmod_eq_emod_of_nonneg (by omega)]
    simp only [h, decide_false, Bool.false_eq_true, if_false]
    exact wrap64_in (by unfold I64; omega)

theorem shifted_int (a n : Int) (h0 : 0 ≤ n) (h1 : n ≤ 64) (ha : I64 a) (w : World) : Calls Tryd.prog 39 #[.int .i64 a, .int .i64 n] w fun e w' => e = .returned (.int .i64 (wrap64 (a * 2 ^ n.toNat))) ∧ w = w' := by
  obtain ⟨m, rfl⟩ : ∃ m : Nat, n = (m : Int) := ⟨n.toNat, by omega⟩
  exact shifted_any a m (by omega) ha w

theorem lowered_int (a n : Int) (h0 : 0 ≤ n) (h1 : n ≤ 64) (ha : I64 a) (w : World) : Calls Tryd.prog 40 #[.int .i64 a, .int .i64 n] w fun e w' => e = .returned (.int .i64 (a / 2 ^ n.toNat)) ∧ w = w' := by
  obtain ⟨m, rfl⟩ : ∃ m : Nat, n = (m : Int) := ⟨n.toNat, by omega⟩
  exact lowered_any a m (by omega) ha w

set_option maxRecDepth 100000 in
set_option maxHeartbeats 1600000 in
theorem two_ref (op a b : Int) (w : World) (h5 : 5 ≤ op) (h16 : op ≤ 16) (ha : I64 a) (hI : I64 b) (hb : op = 8 ∨ op = 9 → b ≠ 0) : Calls Tryd.prog 31 #[.int .i64 op, .int .i64 a, .int .i64 b] w fun e w' => e = .returned (.int .i64 (two op a b)) ∧ w = w' := by
  have hc := and63 b
  have hc0 : 0 ≤ b % 64 := by omega
  have hc1 : b % 64 ≤ 64 := by omega
  have Ha := Lib.hid ha
  have Hb := Lib.hid hI
  clear ha hI
  have hop : op = 5 ∨ op = 6 ∨ op = 7 ∨ op = 8 ∨ op = 9 ∨ op = 10 ∨ op = 11 ∨ op = 12 ∨ op = 13 ∨ op = 14 ∨ op = 15 ∨ op = 16 := by omega
  clear h5 h16
  rcases hop with rfl | rfl | rfl | rfl | rfl | rfl | rfl | rfl | rfl | rfl | rfl | rfl
  case inr.inr.inr.inl =>
    have hb0 : ¬ b = 0 := hb (by omega)
    have ht : two 8 a b = wrap64 (a.tdiv b) := by simp [two]
    rw [ht, ← signed_quo a b]
    have h1 := Ha.out
    have h2 := Hb.out
    unfold I64 at h1 h2
    clear hb hc hc0 hc1 ht
    go_enter Tryd.func31, Tryd.ntmps31
    go_wp2_with fail
    refine (size_any a Ha.out _).mono ?_; rintro e w' ⟨rfl, rfl⟩
    go_wp2_with fail
    refine (size_any b Hb.out _).mono ?_; rintro e w' ⟨rfl, rfl⟩
    go_wp2_with fail
    refine (divide_any _ _ (by omega) (by omega) (by omega) (by omega) _).mono ?_; rintro e w' ⟨rfl, rfl⟩
    go_wp2_with fail
    refine (signed_any _ _ _).mono ?_; rintro e w' ⟨rfl, rfl⟩
    go_wp2
    go_ret
    exact ⟨rfl, rfl⟩
  case inr.inr.inr.inr.inl =>
    have hb0 : ¬ b = 0 := hb (by omega)
    have ht : two 9 a b = a.tmod b := by simp [two]
    rw [ht, ← signed_rem a b Ha.out]
    have h1 := Ha.out
    have h2 := Hb.out
    unfold I64 at h1 h2
    clear hb hc hc0 hc1 ht
    go_enter Tryd.func31, Tryd.ntmps31
    go_wp2_with fail
    refine (size_any a Ha.out _).mono ?_; rintro e w' ⟨rfl, rfl⟩
    go_wp2_with fail
    refine (size_any b Hb.out _).mono ?_; rintro e w' ⟨rfl, rfl⟩
    go_wp2_with fail
    refine (divide_any _ _ (by omega) (by omega) (by omega) (by omega) _).mono ?_; rintro e w' ⟨rfl, rfl⟩
    go_wp2_with fail
    refine (signed_any _ _ _).mono ?_; rintro e w' ⟨rfl, rfl⟩
    go_wp2
    go_ret
    exact ⟨rfl, rfl⟩
  case inr.inr.inr.inr.inr.inr.inr.inr.inl =>
    clear hb
    go_enter Tryd.func31, Tryd.ntmps31
    go_wp2_with (go_at_call 39; refine (shifted_int a _ hc0 hc1 Ha.out _).mono ?_; rintro e w' ⟨rfl, rfl⟩)
    go_ret
    exact ⟨by simp [two], rfl⟩
  case inr.inr.inr.inr.inr.inr.inr.inr.inr.inl =>
    clear hb
    go_enter Tryd.func31, Tryd.ntmps31
    go_wp2_with (go_at_call 40; refine (lowered_int a _ hc0 hc1 Ha.out _).mono ?_; rintro e w' ⟨rfl, rfl⟩)
    go_ret
    exact ⟨by simp [two], rfl⟩
  case inr.inr.inr.inr.inr.inr.inr.inr.inr.inr.inl | inr.inr.inr.inr.inr.inr.inr.inr.inr.inr.inr =>
    clear hb hc hc0 hc1
    go_enter Tryd.func31, Tryd.ntmps31
    go_wp2_with (go_at_call 41; refine (yes_any _ _).mono ?_; rintro e w' ⟨rfl, rfl⟩)
    all_goals
      go_ret
      exact ⟨by simp [two, *]; try omega, rfl⟩
  all_goals
    clear hb hc hc0 hc1
    go_enter Tryd.func31, Tryd.ntmps31
    go_wp2
    go_ret
    exact ⟨by simp [two], rfl⟩

/-- How many parts, to the reference: none for what is no operator. -/
def arityRef (op : Int) : Int := if (arity op).2 ≠ 0 then -1 else (arity op).1

set_option maxRecDepth 100000 in
set_option maxHeartbeats 400000 in
theorem arity_ref (op : Int) (w : World) : Calls Tryd.prog 30 #[.int .i64 op] w fun e w' => e = .returned (.int .i64 (arityRef op)) ∧ w = w' := by
  by_cases h1 : op = 1
  · subst h1
    go_enter Tryd.func30, Tryd.ntmps30
    go_wp2
    go_ret
    exact ⟨rfl, rfl⟩
  by_cases h2 : op = 2
  · subst h2
    go_enter Tryd.func30, Tryd.ntmps30
    go_wp2
    go_ret
    exact ⟨rfl, rfl⟩
  by_cases h3 : op = 3
  · subst h3
    go_enter Tryd.func30, Tryd.ntmps30
    go_wp2
    go_ret
    exact ⟨rfl, rfl⟩
  by_cases h4 : op = 4
  · subst h4
    go_enter Tryd.func30, Tryd.ntmps30
    go_wp2
    go_ret
    exact ⟨rfl, rfl⟩
  by_cases h17 : op = 17
  · subst h17
    go_enter Tryd.func30, Tryd.ntmps30
    go_wp2
    go_ret
    exact ⟨rfl, rfl⟩
  have n1 : (op == 1) = false := by simpa using h1
  have n2 : (op == 2) = false := by simpa using h2
  have n3 : (op == 3) = false := by simpa using h3
  have n4 : (op == 4) = false := by simpa using h4
  have n17 : (op == 17) = false := by simpa using h17
  by_cases h5 : 5 ≤ op
  · by_cases h16 : op ≤ 16
    · have ha : arityRef op = 2 := by
        have hh : arity op = (2, 0) := by unfold arity; rw [if_neg (by omega), if_neg (by omega), if_neg h17, if_pos (by omega)]
        unfold arityRef; rw [hh]; rfl
      rw [ha]
      clear ha h1 h2 h3 h4 h17
      go_enter Tryd.func30, Tryd.ntmps30
      go_wp2
      go_ret
      exact ⟨rfl, rfl⟩
    · have ha : arityRef op = -1 := by
        have hh : arity op = (0, 2) := by unfold arity; rw [if_neg (by omega), if_neg (by omega), if_neg h17, if_neg (by omega)]
        unfold arityRef; rw [hh]; rfl
      rw [ha]
      clear ha h1 h2 h3 h4 h17
      go_enter Tryd.func30, Tryd.ntmps30
      go_wp2
      go_ret
      exact ⟨rfl, rfl⟩
  · have ha : arityRef op = -1 := by
        have hh : arity op = (0, 2) := by unfold arity; rw [if_neg (by omega), if_neg (by omega), if_neg h17, if_neg (by omega)]
        unfold arityRef; rw [hh]; rfl
    rw [ha]
    clear ha h1 h2 h3 h4 h17
    go_enter Tryd.func30, Tryd.ntmps30
    go_wp2
    go_ret
    exact ⟨rfl, rfl⟩

theorem neg_zero (x : Int) : wrap64 (0 - x) = wrap64 (-x) := by rw [Int.zero_sub]
theorem V_one : V (-1) = -1#64 := by decide
theorem not_sub (x : Int) : wrap64 (-1 - x) = Go.bits .xor .i64 (-1) x := by
  rw [wrap_V, V_sub, bits_xor]
  generalize V x = v
  rw [V_ones, BitVec.allOnes_xor, BitVec.not_eq_neg_add, ← V_ones, V_one]
  have h : -1#64 - v = -v - 1#64 := by rw [BitVec.sub_eq_add_neg, BitVec.sub_eq_add_neg, BitVec.add_comm]
  rw [h]

set_option maxRecDepth 100000 in
set_option maxHeartbeats 400000 in
theorem ref_bad (op : Int) (A : Option Addr) (xs : List Int) (cap : Nat) (w : World) (h : arityRef op ≤ 0 ∨ arityRef op ≠ xs.length) :
    Calls Tryd.prog 15 #[.int .i64 op, .slice A xs.length cap] w (AppliedPost (0, 2) w) := by
  by_cases h1 : arityRef op ≤ 0
  · clear h
    go_enter Tryd.func15, Tryd.ntmps15
    go_wp2_with (go_at_call 30; refine (arity_ref op _).mono ?_; rintro e w' ⟨rfl, rfl⟩)
    go_ret2
    exact ⟨rfl, Below.refl _ _⟩
  · have h2 : (arityRef op != (xs.length : Int)) = true := by
      rcases h with h | h
      · exact absurd h h1
      · simpa using h
    clear h
    go_enter Tryd.func15, Tryd.ntmps15
    go_wp2_with (go_at_call 30; refine (arity_ref op _).mono ?_; rintro e w' ⟨rfl, rfl⟩)
    go_ret2
    exact ⟨rfl, Below.refl _ _⟩

theorem ref_is (op k : Int) (h : arityRef op = k) (w : World) : Calls Tryd.prog 30 #[.int .i64 op] w fun e' w' => e' = .returned (.int .i64 k) ∧ w = w' := h ▸ arity_ref op w

set_option maxRecDepth 100000 in
set_option maxHeartbeats 400000 in
theorem ref_one (op : Int) (hop : op = 3 ∨ op = 4) (b off cap : Nat) (x : Int) (w : World) (hc : w.cell? ⟨b, off, none⟩ = some (.int .i64 x)) :
    Calls Tryd.prog 15 #[.int .i64 op, .slice (some ⟨b, off, none⟩) 1 cap] w (AppliedPost (if op = 3 then wrap64 (-x) else Go.bits .xor .i64 (-1) x, 0) w) := by
  rw [← neg_zero, ← not_sub]
  rcases hop with rfl | rfl
  all_goals
    go_enter Tryd.func15, Tryd.ntmps15
    go_wp2_with (go_at_call 30; refine (ref_is _ 1 (by rfl) _).mono ?_; rintro e w' ⟨rfl, rfl⟩)
    go_ret2
    exact ⟨by simp, Below.refl _ _⟩

set_option maxRecDepth 100000 in
set_option maxHeartbeats 400000 in
theorem ref_if (b off cap : Nat) (x y z : Int) (w : World) (h0 : w.cell? ⟨b, off, none⟩ = some (.int .i64 x)) (h1 : w.cell? ⟨b, off + 1, none⟩ = some (.int .i64 y)) (h2 : w.cell? ⟨b, off + 2, none⟩ = some (.int .i64 z)) :
    Calls Tryd.prog 15 #[.int .i64 17, .slice (some ⟨b, off, none⟩) 3 cap] w (AppliedPost (if x ≠ 0 then y else z, 0) w) := by
  by_cases hx : x = 0
  · subst hx
    go_enter Tryd.func15, Tryd.ntmps15
    go_wp2_with (go_at_call 30; refine (ref_is _ 3 (by rfl) _).mono ?_; rintro e w' ⟨rfl, rfl⟩)
    go_ret2
    exact ⟨by simp, Below.refl _ _⟩
  · have hx' : (x != 0) = true := by simpa using hx
    go_enter Tryd.func15, Tryd.ntmps15
    go_wp2_with (go_at_call 30; refine (ref_is _ 3 (by rfl) _).mono ?_; rintro e w' ⟨rfl, rfl⟩)
    go_ret2
    exact ⟨by simp, Below.refl _ _⟩

set_option maxRecDepth 100000 in
set_option maxHeartbeats 800000 in
theorem ref_two (op : Int) (h5 : 5 ≤ op) (h16 : op ≤ 16) (b off cap : Nat) (x y : Int) (hx : I64 x) (hy : I64 y) (w : World) (h0 : w.cell? ⟨b, off, none⟩ = some (.int .i64 x)) (h1 : w.cell? ⟨b, off + 1, none⟩ = some (.int .i64 y)) :
    Calls Tryd.prog 15 #[.int .i64 op, .slice (some ⟨b, off, none⟩) 2 cap] w (AppliedPost (if (op = 8 ∨ op = 9) ∧ y = 0 then (0, 12) else (two op x y, 0)) w) := by
  have ha : arityRef op = 2 := by
    have hh : arity op = (2, 0) := by unfold arity; rw [if_neg (by omega), if_neg (by omega), if_neg (by omega), if_pos (by omega)]
    unfold arityRef; rw [hh]; rfl
  have Ha := Lib.hid ha
  have Hx := Lib.hid hx
  have Hy := Lib.hid hy
  clear ha hx hy
  have n3 : (op == 3) = false := beq_eq_false_iff_ne.2 (by omega)
  have n4 : (op == 4) = false := beq_eq_false_iff_ne.2 (by omega)
  have n17 : (op == 17) = false := beq_eq_false_iff_ne.2 (by omega)
  by_cases hd : op = 8 ∨ op = 9
  · by_cases hy0 : y = 0
    · subst hy0
      rw [if_pos ⟨hd, rfl⟩]
      rcases hd with rfl | rfl
      all_goals
        go_enter Tryd.func15, Tryd.ntmps15
        go_wp2_with (go_at_call 30; refine (ref_is _ 2 Ha.out _).mono ?_; rintro e w' ⟨rfl, rfl⟩)
        go_ret2
        exact ⟨rfl, Below.refl _ _⟩
    · rw [if_neg (by omega)]
      have hy' : (y == 0) = false := by simpa using hy0
      rcases hd with rfl | rfl
      all_goals
        go_enter Tryd.func15, Tryd.ntmps15
        go_wp2_with (go_at_call 30; refine (ref_is _ 2 Ha.out _).mono ?_; rintro e w' ⟨rfl, rfl⟩)
        refine wp_region_still_tail 7 (by kernel_rfl) (by kernel_rfl) ?_
        show wpStill _ _ (World.drew _) _ _ _
        simp only [List.take_succ_cons, List.take_zero, List.drop_succ_cons, List.drop_zero]
        repeat still_step
        refine wpStill_nil ?_
        show wpList _ _ _ _ _ (World.drew _)
        go_wp2_with (go_at_call 31; refine (two_ref _ x y _ h5 h16 Hx.out Hy.out (fun _ => hy0)).mono ?_; rintro e w' ⟨rfl, rfl⟩)
        go_ret2
        exact ⟨rfl, (Below.refl _ _).drew⟩
  · rw [if_neg (by omega)]
    have n8 : (op == 8) = false := beq_eq_false_iff_ne.2 (by omega)
    have n9 : (op == 9) = false := beq_eq_false_iff_ne.2 (by omega)
    have hd' : Hid (¬ (op = 8 ∨ op = 9)) := hd
    clear hd
    go_enter Tryd.func15, Tryd.ntmps15
    go_wp2_with (go_at_call 30; refine (ref_is _ 2 Ha.out _).mono ?_; rintro e w' ⟨rfl, rfl⟩)
    refine wp_region_still_tail 7 (by kernel_rfl) (by kernel_rfl) ?_
    show wpStill _ _ (World.drew _) _ _ _
    simp only [List.take_succ_cons, List.take_zero, List.drop_succ_cons, List.drop_zero]
    repeat still_step
    refine wpStill_nil ?_
    show wpList _ _ _ _ _ (World.drew _)
    go_wp2_with (go_at_call 31; refine (two_ref op x y _ h5 h16 Hx.out Hy.out (fun h => absurd h hd'.out)).mono ?_; rintro e w' ⟨rfl, rfl⟩)
    go_ret2
    exact ⟨rfl, (Below.refl _ _).drew⟩

/-- Every Apply of the reference's. -/
theorem ref_any (op : Int) (A : Option Addr) (xs : List Int) (cap : Nat) (w : World) (hi : ∀ x ∈ xs, I64 x) (hx : Ints w A xs) :
    Calls Tryd.prog 15 #[.int .i64 op, .slice A xs.length cap] w (AppliedPost (applied op xs) w) := by
  have hD : ∀ i, i < xs.length → I64 (xs.getD i 0) := fun i h => by
    rw [List.getD_eq_getElem?_getD, List.getElem?_eq_getElem h]; exact hi _ (List.getElem_mem h)
  unfold applied
  by_cases hbad : (arity op).2 ≠ 0 ∨ (arity op).1 = 0 ∨ (arity op).1 ≠ xs.length
  · rw [if_pos hbad]
    refine ref_bad op A xs cap w ?_
    unfold arityRef
    by_cases h2 : (arity op).2 ≠ 0
    · rw [if_pos h2]; exact .inl (by decide)
    · rw [if_neg h2]; omega
  rw [if_neg hbad]
  rcases arity_cases op with ⟨_, h⟩ | ⟨ho, h⟩ | ⟨ho, h⟩ | ⟨ho, h⟩ | h
  · rw [h] at hbad; exact absurd (.inr (.inl rfl)) hbad
  · have hl : xs.length = 1 := by rw [h] at hbad; simp at hbad; omega
    obtain ⟨b, off, rfl, hc⟩ := cell_at hx (by omega)
    have h0 := hc 0 (by omega)
    rw [hl]
    have := ref_one op ho b off cap (xs.getD 0 0) w h0
    rcases ho with rfl | rfl <;> exact this
  · subst ho
    have hl : xs.length = 3 := by rw [h] at hbad; simp at hbad; omega
    obtain ⟨b, off, rfl, hc⟩ := cell_at hx (by omega)
    rw [hl]
    exact ref_if b off cap _ _ _ w (hc 0 (by omega)) (hc 1 (by omega)) (hc 2 (by omega))
  · have hl : xs.length = 2 := by rw [h] at hbad; simp at hbad; omega
    obtain ⟨b, off, rfl, hc⟩ := cell_at hx (by omega)
    rw [hl, if_neg (by omega), if_neg (by omega), if_neg (by omega)]
    have := ref_two op ho.1 ho.2 b off cap _ _ (hD 0 (by omega)) (hD 1 (by omega)) w (hc 0 (by omega)) (hc 1 (by omega))
    split at this <;> rename_i hh
    · rw [if_pos hh]; exact this
    · rw [if_neg hh]; exact this
  · rw [h] at hbad; exact absurd (.inl (by decide)) hbad

end Go.Proofs.YtmknbfpkpimlnaaDoor
