/-
  The walk of Number (package runes), from place 0.
-/
import Derived.Test.YtmknbfpkpimlnaaDoorZr
import Derived.Laws.DeepStrings4
import Derived.Deep.Cut
namespace Go.Proofs.YtmknbfpkpimlnaaDoor
open Go.RowKit

def numOf (s : ByteArray) : Int × Int × Int := if script s = 0 then (0, 0, 11) else if 18446744073709551616 ≤ (whole s).1 then (0, 0, 10) else (((whole s).1 : Nat), ((whole s).2 : Nat), 0)

theorem go_script (s : ByteArray) : scr ((Lib.decodeGo s).1 : Nat) = script s := by
  unfold Lib.decodeGo script
  by_cases h : s.size = 0
  · rw [if_pos h, if_neg (by omega)]; decide
  · rw [if_neg h, if_pos (by omega)]; rfl
theorem go_in (s : ByteArray) : (-2147483648 : Int) ≤ ((Lib.decodeGo s).1 : Nat) ∧ (((Lib.decodeGo s).1 : Nat) : Int) ≤ 2147483647 := by
  unfold Lib.decodeGo
  by_cases h : s.size = 0
  · rw [if_pos h]; omega
  · rw [if_neg h]; have := Lib.rune_le s 0; omega

theorem all_extract (s : ByteArray) : s.extract 0 s.size = s := by
  have := drop_extract s 0
  rw [← this]
  rfl

theorem step_num (V N D : Nat) (hN : V % 18446744073709551616 = N) (hD : D ≤ 9) : ∃ M Lm Y : Int, IntKind.u64.wrap (18446744073709551615 - (D : Int)) = M ∧ IntKind.u64.wrap (M.tdiv 10) = Lm ∧ (Lm < (N : Int) ↔ 18446744073709551616 ≤ 10 * N + D) ∧
    IntKind.u64.wrap (10 * (N : Int)) = Y ∧ IntKind.u64.wrap (Y + (D : Int)) = (((10 * V + D) % 18446744073709551616 : Nat) : Int) := by
  refine ⟨18446744073709551615 - (D : Int), (18446744073709551615 - (D : Int)) / 10, (10 * (N : Int)) % 18446744073709551616, ?_, ?_, ?_, ?_, ?_⟩
  · rw [u64_emod]; omega
  · rw [u64_emod, Int.tdiv_eq_ediv_of_nonneg (by omega)]; omega
  · omega
  · rw [u64_emod]
  · rw [u64_emod]; omega

set_option maxRecDepth 100000 in
set_option maxHeartbeats 1600000 in
theorem number_any (s : ByteArray) (w : World) (hT : Tabs w) (hlen : s.size ≤ 4096) :
    Calls Tryd.prog 19 #[.string s, .int .i64 0] w fun e w' => e = .returned (.tuple #[.int .u64 (numOf s).1, .int .i64 (numOf s).2.1, .int .i64 (numOf s).2.2]) ∧ Below w.heap.size w w' := by
  have hx0 := all_extract s
  have hsz0 : ¬ ((s.size : Int) < 0) := by omega
  have hT1 := hT.u8
  have HT := Lib.hid hT
  clear hT
  go_enter Tryd.func19, Tryd.ntmps19
  go_wp2_with fail
  refine (Tryd.utf8_DecodeRuneInString s w hT1).mono ?_
  rintro e w1 ⟨rfl, hb1⟩
  have Hb1 := Lib.hid hb1
  clear hb1 hT1
  go_wp2_with fail
  refine (zero_any _ w1 (HT.out.below Hb1.out) (go_in s)).mono ?_
  rw [go_script]
  rintro e w2 ⟨rfl, rfl⟩
  by_cases ht : script s = 0
  · have H : Hid (numOf s = (0, 0, 11)) := if_pos ht
    rw [ht]
    clear ht
    go_wp2
    go_ret3
    rw [H.out]
    exact ⟨rfl, Hb1.out⟩
  · have ht0 : (script s != 0) = true := by simp [ht]
    have Hwh : Hid (run s (script s) (s.size + 1) 0 0 = whole s) := rfl
    have Hnum : Hid (numOf s = if 18446744073709551616 ≤ (whole s).1 then ((0 : Int), (0 : Int), (10 : Int)) else ((((whole s).1 : Nat) : Int), (((whole s).2 : Nat) : Int), (0 : Int))) := if_neg ht
    have Ht := Lib.hid ht
    clear ht
    generalize script s = t at *
    go_wp2
    go_loopw [11, 12, 13] (fun nv ev lg wr => ∃ f p V, ev = .int .i64 (s.size : Nat) ∧ nv = .int .u64 ((V % 18446744073709551616 : Nat) : Int) ∧ lg = .bool (decide (18446744073709551616 ≤ V)) ∧ s.size + 1 ≤ f + p ∧ p ≤ s.size ∧ run s t f p V = whole s ∧ wr = w1.iter s p) (fun _ _ _ wr => s.size - wr.iterPos w1.heap.size)
    case atStart => exact ⟨s.size + 1, 0, 0, rfl, rfl, rfl, by omega, by omega, Hwh.out, rfl⟩
    case round =>
      obtain ⟨f, p, V, rfl, rfl, rfl, hf, hp, hrun, rfl⟩ := hrel
      have Hrun := Lib.hid hrun
      have HbI : Hid (Below w.heap.size w (w1.iter s p)) := Hb1.out.alloc Hb1.out.size _
      clear hrun
      obtain ⟨N, hN⟩ : ∃ N : Nat, V % 18446744073709551616 = N := ⟨_, rfl⟩
      have HN := Lib.hid hN
      rw [hN]
      have hNl : (N : Int) < 18446744073709551616 := by omega
      clear hN
      by_cases hps : p < s.size
      · have hnx : ∀ ty, (Instr.next (.pointer (some ⟨w1.heap.size, 0, none⟩)) true ty).run Tryd.prog (w1.iter s p) = .ok (.tuple #[.bool true, .int .i64 p, .int .i32 (rn s p)]) (w1.iter s (p + wd s p)) := fun ty => run_next_any w1 s p ty hps
        have hwi := wd_in hps
        have hwp := wd_pos s p
        have hrr := rn_in s p
        have HTi : Hid (Tabs (w1.iter s (p + wd s p))) := (HT.out.below Hb1.out).below ((Below.refl _ _).alloc (Nat.le_refl _) _)
        by_cases hs : scr (rn s p) = t
        · obtain ⟨f', hf', hst⟩ := run_step hf hps hs (V := V)
          obtain ⟨h1, h2, h3⟩ := scr_in hs Ht.out
          obtain ⟨D, hD⟩ : ∃ D : Nat, rn s p = t + D := ⟨(rn s p - t).toNat, by omega⟩
          have hDt : (rn s p - t).toNat = D := by omega
          have hD9 : D ≤ 9 := by omega
          rw [hDt] at hst
          rw [hst] at Hrun
          have Hf' := Lib.hid hf'
          have Hs : Hid (scr (t + (D : Int)) = t) := by unfold Hid; rw [← hD]; exact hs
          have htD : 48 ≤ t ∧ t ≤ 65296 := by omega
          generalize wd s p = k at *
          clear hst hf' hs hDt h1 h2 h3
          go_wp2_with fail
          refine (zero_any (t + (D : Int)) _ HTi.out (by omega)).mono ?_
          rw [Hs.out]
          rintro e w2 ⟨rfl, rfl⟩
          have hsub : t + (D : Int) - t = D := by omega
          obtain ⟨M, Lm, Y, hA, hB, hC, hE, hF⟩ := step_num V N D HN.out hD9
          obtain ⟨Z, hZ⟩ : ∃ Z : Int, (((10 * V + D) % 18446744073709551616 : Nat) : Int) = Z := ⟨_, rfl⟩
          rw [hZ] at hF
          obtain ⟨bV, hbV⟩ : ∃ bV : Bool, decide (18446744073709551616 ≤ V) = bV := ⟨_, rfl⟩
          rw [hbV]
          have HZ := Lib.hid hZ
          have HbV := Lib.hid hbV
          by_cases hbig : Lm < (N : Int)
          · have hb2 : Hid (18446744073709551616 ≤ 10 * N + D) := hC.1 hbig
            clear hC hZ hbV
            go_wp2
            go_roundw
            case rel => exact ⟨f', p + k, 10 * V + D, rfl, by rw [HZ.out], by have h1 := HN.out; have h2 := hb2.out; rw [decide_eq_true]; omega, Hf'.out, hwi, Hrun.out, rfl⟩
            case measure => simp; omega
          · have hb2 : Hid (¬ 18446744073709551616 ≤ 10 * N + D) := fun h => hbig (hC.2 h)
            have hgt : decide (Lm < (N : Int)) = false := decide_eq_false hbig
            clear hC hZ hbV hbig hNl
            go_wp2
            go_roundw
            case rel => exact ⟨f', p + k, 10 * V + D, rfl, by rw [HZ.out], by have h1 := HN.out; have h2 : ¬ 18446744073709551616 ≤ 10 * N + D := hb2.out; rw [← HbV.out]; congr 1; apply decide_eq_decide.2; omega, Hf'.out, hwi, Hrun.out, rfl⟩
            case measure => simp; omega
        · have Hw' : Hid (whole s = (V, p)) := by unfold Hid; rw [← Hrun.out]; exact run_stop hf hps hs
          have hp0 : (0 : Int) + (p : Int) = p := by omega
          have hbi : Below w.heap.size w (w1.iter s (p + wd s p)) := Hb1.out.alloc Hb1.out.size _
          have Hbi := Lib.hid hbi
          clear hbi
          generalize wd s p = k at *
          go_wp2_with fail
          refine (zero_any (rn s p) _ HTi.out (by omega)).mono ?_
          rintro e w2 ⟨rfl, rfl⟩
          obtain ⟨z, hz⟩ : ∃ z, scr (rn s p) = z := ⟨_, rfl⟩
          rw [hz] at hs ⊢
          have hzt : (z != t) = true := by simp [hs]
          clear hz
          by_cases hV : 18446744073709551616 ≤ V
          · have H : Hid (numOf s = (0, 0, 10)) := by unfold Hid; rw [Hnum.out, Hw'.out, if_pos hV]
            have hdV : decide (18446744073709551616 ≤ V) = true := decide_eq_true hV
            rw [hdV]
            clear hV hdV
            by_cases hz0 : z = 0
            · have hz1 : (z != 0) = false := by simp [hz0]
              clear hz0
              go_wp2
              go_ret3
              rw [H.out]
              exact ⟨rfl, Hbi.out⟩
            · have hz1 : (z != 0) = true := by simp [hz0]
              clear hz0
              go_wp2
              go_ret3
              rw [H.out]
              exact ⟨rfl, Hbi.out⟩
          · have hNV : N = V := by have := HN.out; omega
            have H : Hid (numOf s = (((N : Nat) : Int), ((p : Nat) : Int), (0 : Int))) := by unfold Hid; rw [Hnum.out, Hw'.out, if_neg hV, hNV]
            have hdV : decide (18446744073709551616 ≤ V) = false := decide_eq_false hV
            rw [hdV]
            clear hV hdV hNV
            by_cases hz0 : z = 0
            · have hz1 : (z != 0) = false := by simp [hz0]
              clear hz0
              go_wp2
              go_ret3
              rw [H.out]
              exact ⟨rfl, Hbi.out⟩
            · have hz1 : (z != 0) = true := by simp [hz0]
              clear hz0
              go_wp2
              go_ret3
              rw [H.out]
              exact ⟨rfl, Hbi.out⟩
      · have Hw' : Hid (whole s = (V, s.size)) := by unfold Hid; rw [← Hrun.out]; exact run_end hf hp hps
        have hnx : ∀ ty, (Instr.next (.pointer (some ⟨w1.heap.size, 0, none⟩)) true ty).run Tryd.prog (w1.iter s p) = .ok (.tuple #[.bool false]) (w1.iter s p) := fun ty => run_next_end w1 s p ty hps
        by_cases hV : 18446744073709551616 ≤ V
        · have H : Hid (numOf s = (0, 0, 10)) := by unfold Hid; rw [Hnum.out, Hw'.out, if_pos hV]
          have hdV : decide (18446744073709551616 ≤ V) = true := decide_eq_true hV
          rw [hdV]
          clear hV hdV
          go_wp2
          go_ret3
          rw [H.out]
          exact ⟨rfl, HbI.out⟩
        · have hNV : N = V := by have := HN.out; omega
          have H : Hid (numOf s = (((N : Nat) : Int), ((s.size : Nat) : Int), (0 : Int))) := by unfold Hid; rw [Hnum.out, Hw'.out, if_neg hV, hNV]
          have hdV : decide (18446744073709551616 ≤ V) = false := decide_eq_false hV
          rw [hdV]
          clear hV hdV hNV
          go_wp2
          go_ret3
          rw [H.out]
          exact ⟨rfl, HbI.out⟩
end Go.Proofs.YtmknbfpkpimlnaaDoor
