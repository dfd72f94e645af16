/-
  The walk of Value (package sorrelref06).
-/
import Derived.Test.YtmknbfpkpimlnaaDoorWd
namespace Go.Proofs.YtmknbfpkpimlnaaDoor
open Go.RowKit

/-- Value's answer. -/
def ValueTold (s : ByteArray) (n : Int) (lg ok : Bool) : Prop :=
  (reads s = none ∧ ok = false) ∨ (∃ V : Nat, reads s = some V ∧ ok = true ∧ (lg = false → n = (V : Int) ∧ V < 18446744073709551616) ∧ (lg = true → 10000000000000000000 < V))

def Valued (s : ByteArray) (w : World) (e : Ending) (w' : World) : Prop := (∃ n lg ok, e = .returned (.tuple #[.int .u64 n, .bool lg, .bool ok]) ∧ ValueTold s n lg ok) ∧ Below w.heap.size w w'

theorem val_step (V N D : Nat) (lg : Bool) (hN : V % 18446744073709551616 = N) (hD : D ≤ 9) (hf : lg = false → V ≤ 10000000000000000009) (ht : lg = true → 10000000000000000000 < V) :
    (∃ Y : Int, IntKind.u64.wrap (10 * (N : Int)) = Y ∧ IntKind.u64.wrap (Y + (D : Int)) = (((10 * V + D) % 18446744073709551616 : Nat) : Int)) ∧
    ((1000000000000000000 : Int) < N → 10000000000000000000 < 10 * V + D) ∧ (lg = true → 10000000000000000000 < 10 * V + D) ∧ (¬ (1000000000000000000 : Int) < N → lg = false → 10 * V + D ≤ 10000000000000000009) := by
  refine ⟨⟨(10 * (N : Int)) % 18446744073709551616, by rw [u64_emod], by rw [u64_emod]; omega⟩, fun h => by omega, fun h => by have := ht h; omega, fun h1 h2 => by have := hf h2; omega⟩

set_option maxRecDepth 100000 in
set_option maxHeartbeats 1600000 in
theorem value_any (s : ByteArray) (w : World) (hlen : s.size ≤ 4096) :
    Calls Tryd.prog 23 #[.string s] w (Valued s w) := by
  go_enter Tryd.func23, Tryd.ntmps23
  go_wp2_with fail
  refine (rune_any s 0 w hlen (Nat.zero_le _)).mono ?_
  rintro e w1 ⟨⟨x, rfl, hx⟩, hb1⟩
  have Hb1 := Lib.hid hb1
  have hscr : scr x = script s := hx.scr
  have hx32 := hx.in32
  clear hb1 hx
  go_wp2_with fail
  refine (digit_any x w1 hx32).mono ?_
  rw [hscr]
  rintro e w2 ⟨rfl, rfl⟩
  generalize digOf x = d0
  clear hscr hx32
  by_cases ht : script s = 0
  · have H : Hid (ValueTold s 0 false false) := .inl ⟨by unfold reads; rw [if_pos ht], rfl⟩
    rw [ht]
    clear ht
    go_wp2
    go_ret3
    exact ⟨⟨_, _, _, rfl, H.out⟩, Hb1.out⟩
  · have ht0 : (script s == 0) = false := by simp [ht]
    have Hwh : Hid (run s (script s) (s.size + 1) 0 0 = whole s) := rfl
    have Hre : Hid (reads s = if (whole s).2 = s.size then some (whole s).1 else none) := if_neg ht
    have Ht := Lib.hid ht
    clear ht
    generalize script s = t at *
    go_wp2
    go_loopw [2, 3, 7] (fun nv lv pv wr => ∃ f p V lg, pv = .int .i64 (p : Nat) ∧ nv = .int .u64 ((V % 18446744073709551616 : Nat) : Int) ∧ lv = .bool lg ∧ s.size + 1 ≤ f + p ∧ p ≤ s.size ∧ run s t f p V = whole s ∧ (lg = false → V ≤ 10000000000000000009) ∧ (lg = true → 10000000000000000000 < V) ∧ Below w.heap.size w wr) (fun _ _ pv _ => s.size - (intOf pv).toNat)
    case atStart => exact ⟨s.size + 1, 0, 0, false, rfl, rfl, rfl, by omega, by omega, Hwh.out, fun _ => by omega, fun h => (by cases h), Hb1.out⟩
    case round =>
      obtain ⟨f, p, V, lg, rfl, rfl, rfl, hf, hp, hrun, hlf, hlt, hb⟩ := hrel
      have Hrun := Lib.hid hrun
      have Hb := Lib.hid hb
      have Hlf := Lib.hid hlf
      have Hlt := Lib.hid hlt
      clear hrun hb hlf hlt
      obtain ⟨N, hN⟩ : ∃ N : Nat, V % 18446744073709551616 = N := ⟨_, rfl⟩
      have HN := Lib.hid hN
      rw [hN]
      clear hN
      by_cases hps : p < s.size
      · have hpi : (p : Int) < s.size := by omega
        go_wp2_with fail
        refine (rune_any s p wr hlen hp).mono ?_
        rintro e w2 ⟨⟨y, rfl, hy⟩, hb2⟩
        have Hb2 : Hid (Below w.heap.size w w2) := Hb.out.trans (hb2.mono Hb.out.size)
        have hys := hy.scr
        rw [if_pos hps] at hys
        have hy32 := hy.in32
        clear hb2
        by_cases hs : scr (rn s p) = t
        · have hyr : y = rn s p := by
            rcases hy with ⟨_, h⟩ | ⟨_, hbad⟩
            · exact h
            · rw [hbad hps] at hs
              exact absurd (hs.symm.trans (by decide)) Ht.out
          have hrr := rn_in s p
          have hwi := wd_in hps
          have hwp := wd_pos s p
          obtain ⟨f', hf', hst⟩ := run_step hf hps hs (V := V)
          obtain ⟨h1, h2, h3⟩ := scr_in hs Ht.out
          obtain ⟨D, hD⟩ : ∃ D : Nat, rn s p = t + D := ⟨(rn s p - t).toNat, by omega⟩
          have hDt : (rn s p - t).toNat = D := by omega
          have hD9 : D ≤ 9 := by omega
          rw [hDt] at hst
          rw [hst] at Hrun
          have hdig : digOf y = D := by unfold digOf; rw [hys, hs, if_neg Ht.out]; omega
          have hne : rn s p ≠ 65533 := fun h => by rw [h] at hs; exact Ht.out (hs.symm.trans (by decide))
          have Hne := Lib.hid hne
          have Hf' := Lib.hid hf'
          rw [hs] at hys
          clear hst hf' hs hDt h1 h2 h3 hyr hy hD hrr hne
          go_wp2_with fail
          refine (digit_any y w2 hy32).mono ?_
          rw [hys, hdig]
          rintro e w3 ⟨rfl, rfl⟩
          obtain ⟨⟨Y, hE, hF⟩, hA, hB, hC⟩ := val_step V N D lg HN.out hD9 Hlf.out Hlt.out
          obtain ⟨Z, hZ⟩ : ∃ Z : Int, (((10 * V + D) % 18446744073709551616 : Nat) : Int) = Z := ⟨_, rfl⟩
          rw [hZ] at hF
          have HZ := Lib.hid hZ
          have HA := Lib.hid hA
          have HB := Lib.hid hB
          have HC := Lib.hid hC
          clear hZ hA hB hC hys hdig hy32
          by_cases hbig : (1000000000000000000 : Int) < N
          · have hgt : decide ((1000000000000000000 : Int) < (N : Int)) = true := decide_eq_true hbig
            have Hbig := Lib.hid hbig
            clear hbig
            go_wp2_with fail
            refine (width_any s p w2 hlen hp).mono ?_
            rintro e w4 ⟨⟨k, rfl, hk⟩, hb4⟩
            have Hb4 : Hid (Below w.heap.size w w4) := Hb2.out.trans (hb4.mono Hb2.out.size)
            have hkw : k = (wd s p : Nat) := by
              rcases hk with ⟨h, _⟩ | ⟨_, hbad⟩
              · exact h
              · exact absurd (hbad hps) Hne.out
            subst hkw
            clear hk hb4
            generalize wd s p = k at *
            go_wp2
            go_roundw
            case rel => exact ⟨f', p + k, 10 * V + D, true, by go_num, by rw [HZ.out], rfl, Hf'.out, hwi, Hrun.out, fun h => (by cases h), fun _ => HA.out Hbig.out, Hb4.out⟩
            case measure => simp [intOf]; omega
          · have hgt : decide ((1000000000000000000 : Int) < (N : Int)) = false := decide_eq_false hbig
            have Hbig := Lib.hid hbig
            clear hbig
            go_wp2_with fail
            refine (width_any s p w2 hlen hp).mono ?_
            rintro e w4 ⟨⟨k, rfl, hk⟩, hb4⟩
            have Hb4 : Hid (Below w.heap.size w w4) := Hb2.out.trans (hb4.mono Hb2.out.size)
            have hkw : k = (wd s p : Nat) := by
              rcases hk with ⟨h, _⟩ | ⟨_, hbad⟩
              · exact h
              · exact absurd (hbad hps) Hne.out
            subst hkw
            clear hk hb4
            generalize wd s p = k at *
            go_wp2
            go_roundw
            case rel => exact ⟨f', p + k, 10 * V + D, lg, by go_num, by rw [HZ.out], rfl, Hf'.out, hwi, Hrun.out, HC.out Hbig.out, HB.out, Hb4.out⟩
            case measure => simp [intOf]; omega
        · have H : Hid (ValueTold s 0 false false) := .inl ⟨by
            rw [Hre.out, if_neg]
            rw [← Hrun.out, run_stop hf hps hs]
            exact Nat.ne_of_lt hps, rfl⟩
          have hyt : (scr y != t) = true := by rw [hys]; simp [hs]
          clear hs hys hy
          go_wp2_with fail
          refine (digit_any y w2 hy32).mono ?_
          rintro e w3 ⟨rfl, rfl⟩
          go_wp2
          go_ret3
          exact ⟨⟨_, _, _, rfl, H.out⟩, Hb2.out⟩
      · have hpi : ¬ (p : Int) < s.size := by omega
        have H : Hid (ValueTold s N lg true) := .inr ⟨V, by
          rw [Hre.out, ← Hrun.out, run_end hf hp hps]
          rw [if_pos rfl], rfl, fun h => by have h1 := Hlf.out h; have h2 := HN.out; omega, Hlt.out⟩
        go_wp2
        go_ret3
        exact ⟨⟨_, _, _, rfl, H.out⟩, Hb.out⟩

end Go.Proofs.YtmknbfpkpimlnaaDoor
