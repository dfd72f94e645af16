/-
  The walk of ArithCuts (package sorrellaw06).
-/
import Derived.Test.YtmknbfpkpimlnaaDoorAw
namespace Go.Proofs.YtmknbfpkpimlnaaDoor
open Go.RowKit

theorem dec_true {p : Prop} [Decidable p] (h : p) : Ending.returned (.bool (decide p)) = .returned (.bool true) := by rw [decide_eq_true h]

set_option maxRecDepth 100000 in
set_option maxHeartbeats 1600000 in
theorem arithCuts_walk (a b : Int) (ha : I64 a) (hb : I64 b) (w : World) :
    Calls Tryd.prog 6 #[.int .i64 a, .int .i64 b] w fun e w' => e = .returned (.bool true) ∧ Below w.heap.size w w' := by
  by_cases h0 : b = 0
  · subst h0
    have h8 : Hid (applied 8 [a, 0] = (0, 12)) := by rw [Hid, applied_two _ _ _ (by omega) (by omega), if_pos (by decide)]
    have h9 : Hid (applied 9 [a, 0] = (0, 12)) := by rw [Hid, applied_two _ _ _ (by omega) (by omega), if_pos (by decide)]
    go_enter Tryd.func6, Tryd.ntmps6
    go_wp2_with fail
    refine (awake06 _).mono ?_
    rintro e w1 ⟨rfl, hb1⟩
    have Hb1 := Lib.hid hb1
    clear hb1
    go_wp2_with fail
    refine (app2 8 a 0 _ _ _ rfl).mono ?_
    rw [h8.out]
    rintro e w2 ⟨rfl, hb2⟩
    have Hb2 := Lib.hid (Keep.trans Hb1.out hb2)
    clear hb2 Hb1
    go_wp2_with fail
    refine (app2 9 a 0 _ _ _ rfl).mono ?_
    rw [h9.out]
    rintro e w3 ⟨rfl, hb3⟩
    have Hb3 := Lib.hid (Keep.trans Hb2.out hb3)
    clear hb3 Hb2
    go_wp2_with fail
    go_ret
    exact ⟨rfl, Hb3.out⟩
  · have hb0 : (b == 0) = false := by simpa using h0
    have h8 : applied 8 [a, b] = (wrap64 (a.tdiv b), 0) := by rw [applied_two _ _ _ (by omega) (by omega), if_neg (by omega)]; simp [two]
    have h9 : applied 9 [a, b] = (a.tmod b, 0) := by rw [applied_two _ _ _ (by omega) (by omega), if_neg (by omega)]; simp [two]
    have hback := cut_back a b ha
    obtain ⟨hr1, hr2, hr3⟩ := tmod_facts a b h0
    generalize wrap64 (a.tdiv b) = q at h8 hback
    generalize a.tmod b = r at h9 hback hr1 hr2 hr3
    have hbk : (wrap64 (wrap64 (q * b) + r) != a) = false := by simpa using hback
    have H8 := Lib.hid h8
    have H9 := Lib.hid h9
    have hr : I64 r := by unfold I64 at ha hb ⊢; omega
    have hI := Lib.hid (And.intro ha (And.intro hb hr))
    have hR := Lib.hid (And.intro hr1 (And.intro hr2 hr3))
    clear h8 h9 hback ha hb hr hr1 hr2 hr3 h0
    go_enter Tryd.func6, Tryd.ntmps6
    go_wp2_with fail
    refine (awake06 _).mono ?_
    rintro e w1 ⟨rfl, hb1⟩
    have Hb1 := Lib.hid hb1
    clear hb1
    go_wp2_with fail
    refine (app2 8 a b _ _ _ rfl).mono ?_
    rw [H8.out]
    rintro e w2 ⟨rfl, hb2⟩
    have Hb2 := Lib.hid (Keep.trans Hb1.out hb2)
    clear hb2 Hb1
    go_wp2_with fail
    refine (app2 9 a b _ _ _ rfl).mono ?_
    rw [H9.out]
    rintro e w3 ⟨rfl, hb3⟩
    have Hb3 := Lib.hid (Keep.trans Hb2.out hb3)
    clear hb3 Hb2
    by_cases hr0 : r < 0
    · have ha0 : a < 0 := by have := hR.out; omega
      have hrn : (r != 0) = true := by simp; omega
      by_cases hbn : b < 0
      · skip
        go_wp2_with fail
        go_ret
        exact ⟨dec_true (by obtain ⟨_, hb, hr⟩ := hI.out; have := hR.out; rw [size_neg hr hr0, size_neg hb hbn]; omega), Hb3.out⟩
      · skip
        go_wp2_with fail
        go_ret
        exact ⟨dec_true (by obtain ⟨_, hb, hr⟩ := hI.out; have := hR.out; rw [size_neg hr hr0, size_pos hb (by omega)]; omega), Hb3.out⟩
    · have hrge : 0 ≤ r := by omega
      by_cases hz : r = 0
      · have hrn : (r != 0) = false := by simpa using hz
        have hz' := Lib.hid hz
        clear hz
        by_cases hbn : b < 0
        · skip
          go_wp2_with fail
          go_ret
          exact ⟨dec_true (by obtain ⟨_, hb, hr⟩ := hI.out; have := hR.out; rw [size_pos hr (by omega), size_neg hb hbn]; omega), Hb3.out⟩
        · skip
          go_wp2_with fail
          go_ret
          exact ⟨dec_true (by obtain ⟨_, hb, hr⟩ := hI.out; have := hR.out; rw [size_pos hr (by omega), size_pos hb (by omega)]; omega), Hb3.out⟩
      · have hrn : (r != 0) = true := by simpa using hz
        have ha0 : ¬ a < 0 := by have := hR.out; omega
        have hne : (!decide (r < 0) == decide (a < 0)) = false := by rw [decide_eq_false hr0, decide_eq_false ha0]; rfl
        clear hz
        by_cases hbn : b < 0
        · skip
          go_wp2_with fail
          go_ret
          exact ⟨dec_true (by obtain ⟨_, hb, hr⟩ := hI.out; have := hR.out; rw [size_pos hr (by omega), size_neg hb hbn]; omega), Hb3.out⟩
        · skip
          go_wp2_with fail
          go_ret
          exact ⟨dec_true (by obtain ⟨_, hb, hr⟩ := hI.out; have := hR.out; rw [size_pos hr (by omega), size_pos hb (by omega)]; omega), Hb3.out⟩

end Go.Proofs.YtmknbfpkpimlnaaDoor
