/-
  The walk of the reference's Read (package sorrelref06).
-/
import Derived.Test.YtmknbfpkpimlnaaDoorVl
import Derived.Test.YtmknbfpkpimlnaaDoorFw
namespace Go.Proofs.YtmknbfpkpimlnaaDoor
open Go.RowKit

theorem minus_of {s : ByteArray} {c : Int} (h : RuneTold s 0 c) : minusOf s = (c == 45 || c == 8722) := by
  unfold minusOf
  rcases h with ⟨hp, rfl⟩ | ⟨rfl, hb⟩
  · rw [decide_eq_true hp]; rfl
  · by_cases hp : 0 < s.size
    · rw [hb hp]; simp
    · rw [decide_eq_false hp]; rfl

def valueOf (V : Nat) (m : Bool) : Int := if m then -(V : Int) else V
theorem signed_of {V : Nat} {m : Bool} (h : ¬ topOf m < V) : signedOf V m = valueOf V m := by
  unfold topOf at h
  cases m <;> simp only [signedOf, valueOf, if_true, if_false, Bool.false_eq_true, wrap64_emod] at h ⊢ <;> omega
theorem large_iff {V : Nat} {m : Bool} : (decide ((9223372036854775808 : Int) < V) || ((V : Int) == 9223372036854775808 && !m)) = decide (topOf m < V) := by
  rw [Bool.eq_iff_iff]
  unfold topOf
  cases m <;> simp <;> omega

set_option maxRecDepth 100000 in
set_option maxHeartbeats 1600000 in
theorem rread_any (s : ByteArray) (w : World) : Calls Tryd.prog 11 #[.string s] w fun e w' => e = .returned (.tuple #[.int .i64 (readOf s).1, .int .i64 (readOf s).2]) ∧ Below w.heap.size w w' := by
  by_cases hlen : 4096 < s.size
  · have H : Hid (readOf s = (0, 3)) := if_pos hlen
    have hi : (4096 : Int) < s.size := by omega
    clear hlen
    go_enter Tryd.func11, Tryd.ntmps11
    go_wp2
    go_ret2
    exact ⟨by rw [H.out]; rfl, Below.refl _ _⟩
  · have hi : ¬ (4096 : Int) < s.size := by omega
    have hle : s.size ≤ 4096 := by omega
    have H : Hid (readOf s = readRest (restOf s) (minusOf s)) := if_neg hlen
    clear hlen
    go_enter Tryd.func11, Tryd.ntmps11
    go_wp2_with fail
    refine (rune_any s 0 w hle (Nat.zero_le _)).mono ?_
    rintro e w1 ⟨⟨c, rfl, hc⟩, hb1⟩
    have hm := minus_of hc
    have Hb1 := Lib.hid hb1
    clear hb1
    by_cases hmi : minusOf s = true
    · rw [hmi] at hm
      have h0 : 0 < s.size := by unfold minusOf at hmi; rw [Bool.and_eq_true, decide_eq_true_eq] at hmi; exact hmi.1
      have hrn : rn s 0 ≠ 65533 := by unfold minusOf at hmi; rw [Bool.and_eq_true, Bool.or_eq_true, beq_iff_eq, beq_iff_eq] at hmi; omega
      have Hr : Hid (readOf s = readRest (s.extract (wd s 0) s.size) true) := by unfold Hid; rw [H.out]; unfold restOf; rw [hmi, if_pos rfl]
      have hwi := wd_in h0
      have Hrn := Lib.hid hrn
      rw [Nat.zero_add] at hwi
      clear hc hmi hrn H
      have hcases : (c == 45) = true ∨ ((c == 45) = false ∧ (c == 8722) = true) := by
        cases h1 : (c == 45) with
        | true => exact .inl rfl
        | false => rw [h1, Bool.false_or] at hm; exact .inr ⟨rfl, hm.symm⟩
      have Hsz : Hid ((s.extract (wd s 0) s.size).size ≤ 4096) := by unfold Hid; rw [Lib.tail_size]; omega
      clear hm
      rcases hcases with h1 | ⟨h1, h2⟩
      all_goals
        go_wp2_with fail
        refine (width_any s 0 w1 hle (Nat.zero_le _)).mono ?_
        rintro e w2 ⟨⟨k, rfl, hk⟩, hb2⟩
        have Hb2 : Hid (Below w.heap.size w w2) := Hb1.out.trans (hb2.mono Hb1.out.size)
        have hkw : k = (wd s 0 : Nat) := by
          rcases hk with ⟨h, _⟩ | ⟨_, hbad⟩
          · exact h
          · exact absurd (hbad h0) Hrn.out
        subst hkw
        clear hk hb2
        generalize hR : s.extract (wd s 0) s.size = R at *
        generalize wd s 0 = kk at *
        have hkk : (kk : Int) ≤ s.size := by omega
        go_wp2_with fail
        refine (value_any R w2 Hsz.out).mono ?_
        rintro e w3 ⟨⟨n, lg, ok, rfl, hv⟩, hb3⟩
        have Hb3 : Hid (Below w.heap.size w w3) := Hb2.out.trans (hb3.mono Hb2.out.size)
        clear hb3
        rcases hv with ⟨hv, rfl⟩ | ⟨V, hv, rfl, h3, h4⟩
        · have Hx : Hid (readOf s = (0, 6)) := by unfold Hid; rw [Hr.out]; unfold readRest; rw [hv]
          clear hv
          go_wp2
          go_ret2
          exact ⟨by rw [Hx.out]; rfl, Hb3.out⟩
        · cases lg with
          | true =>
            have Hx : Hid (readOf s = (0, 10)) := by unfold Hid; rw [Hr.out]; unfold readRest; rw [hv]; dsimp only; rw [if_pos]; have := h4 rfl; unfold topOf; simp; omega
            clear hv h3 h4
            go_wp2
            go_ret2
            exact ⟨by rw [Hx.out]; rfl, Hb3.out⟩
          | false =>
            obtain ⟨rfl, hVl⟩ := h3 rfl
            have hlg := @large_iff V true
            by_cases hb : topOf true < V
            · have Hx : Hid (readOf s = (0, 10)) := by unfold Hid; rw [Hr.out]; unfold readRest; rw [hv]; dsimp only; rw [if_pos hb]
              have hbi : (9223372036854775808 : Int) < V := by have : topOf true = 9223372036854775808 := rfl; omega
              clear hv h3 h4 hlg hb
              go_wp2
              go_ret2
              exact ⟨by rw [Hx.out]; rfl, Hb3.out⟩
            · have Hx : Hid (readOf s = (valueOf V true, 0)) := by unfold Hid; rw [Hr.out]; unfold readRest; rw [hv]; dsimp only; rw [if_neg hb]; rfl
              have hdec : decide ((9223372036854775808 : Int) < V) = false := decide_eq_false (by have : topOf true = 9223372036854775808 := rfl; omega)
              have Hsg := Lib.hid (signed_of hb)
              clear hv h3 h4 hlg hb hVl
              obtain ⟨Vi, hVi⟩ : ∃ Vi : Int, (V : Int) = Vi := ⟨_, rfl⟩
              rw [hVi] at hdec Hsg ⊢
              clear hVi
              cases hq : (Vi == 9223372036854775808)
              all_goals
                go_wp2_with fail
                refine (signed_any Vi true w3).mono ?_
                rintro e w4 ⟨rfl, rfl⟩
                rw [Hsg.out]
                clear hdec hq
                generalize valueOf V true = Vo at *
                go_wp2
                go_ret2
                exact ⟨by rw [Hx.out]; rfl, Hb3.out⟩
    · have hmf : minusOf s = false := by simpa using hmi
      rw [hmf] at hm
      have hm' := hm.symm
      rw [Bool.or_eq_false_iff] at hm'
      obtain ⟨h1, h2⟩ := hm'
      have Hr : Hid (readOf s = readRest s false) := by unfold Hid; rw [H.out]; unfold restOf; rw [hmf]; rfl
      clear hc hmi H hm hmf
      go_wp2_with fail
      refine (value_any s w1 hle).mono ?_
      rintro e w3 ⟨⟨n, lg, ok, rfl, hv⟩, hb3⟩
      have Hb3 : Hid (Below w.heap.size w w3) := Hb1.out.trans (hb3.mono Hb1.out.size)
      clear hb3
      rcases hv with ⟨hv, rfl⟩ | ⟨V, hv, rfl, h3, h4⟩
      · have Hx : Hid (readOf s = (0, 6)) := by unfold Hid; rw [Hr.out]; unfold readRest; rw [hv]
        clear hv
        go_wp2
        go_ret2
        exact ⟨by rw [Hx.out]; rfl, Hb3.out⟩
      · cases lg with
        | true =>
          have Hx : Hid (readOf s = (0, 10)) := by unfold Hid; rw [Hr.out]; unfold readRest; rw [hv]; dsimp only; rw [if_pos]; have := h4 rfl; unfold topOf; simp; omega
          clear hv h3 h4
          go_wp2
          go_ret2
          exact ⟨by rw [Hx.out]; rfl, Hb3.out⟩
        | false =>
          obtain ⟨rfl, hVl⟩ := h3 rfl
          have ht0 : topOf false = 9223372036854775807 := rfl
          by_cases hb : topOf false < V
          · have Hx : Hid (readOf s = (0, 10)) := by unfold Hid; rw [Hr.out]; unfold readRest; rw [hv]; dsimp only; rw [if_pos hb]
            have hor : decide ((9223372036854775808 : Int) < V) = true ∨ (decide ((9223372036854775808 : Int) < V) = false ∧ ((V : Int) == 9223372036854775808) = true) := by
              by_cases h : (9223372036854775808 : Int) < V
              · exact .inl (decide_eq_true h)
              · exact .inr ⟨decide_eq_false h, by rw [beq_iff_eq]; omega⟩
            obtain ⟨Vi, hVi⟩ : ∃ Vi : Int, (V : Int) = Vi := ⟨_, rfl⟩
            rw [hVi] at hor ⊢
            clear hv h3 h4 hb hVl hVi ht0
            rcases hor with hq | ⟨hq, hq2⟩
            all_goals
              go_wp2
              go_ret2
              exact ⟨by rw [Hx.out]; rfl, Hb3.out⟩
          · have Hx : Hid (readOf s = (valueOf V false, 0)) := by unfold Hid; rw [Hr.out]; unfold readRest; rw [hv]; dsimp only; rw [if_neg hb]; rfl
            have hdec : decide ((9223372036854775808 : Int) < V) = false := decide_eq_false (by omega)
            have hq : ((V : Int) == 9223372036854775808) = false := beq_eq_false_iff_ne.2 (by omega)
            have Hsg := Lib.hid (signed_of hb)
            obtain ⟨Vi, hVi⟩ : ∃ Vi : Int, (V : Int) = Vi := ⟨_, rfl⟩
            rw [hVi] at hdec Hsg hq ⊢
            clear hv h3 h4 hb hVl ht0 hVi
            go_wp2_with fail
            refine (signed_any Vi false w3).mono ?_
            rintro e w4 ⟨rfl, rfl⟩
            rw [Hsg.out]
            clear hdec hq
            generalize valueOf V false = Vo at *
            go_wp2
            go_ret2
            exact ⟨by rw [Hx.out]; rfl, Hb3.out⟩
end Go.Proofs.YtmknbfpkpimlnaaDoor
