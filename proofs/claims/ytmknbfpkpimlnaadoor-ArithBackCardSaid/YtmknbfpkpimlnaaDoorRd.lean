/-
  The walk of Read (package arith).
-/
import Derived.Test.YtmknbfpkpimlnaaDoorRf
import Derived.Test.YtmknbfpkpimlnaaDoorSm
import Derived.Lib.OthersKept
namespace Go.Proofs.YtmknbfpkpimlnaaDoor
open Go.RowKit

theorem reads_some {R : ByteArray} (ht : script R ≠ 0) (he : (whole R).2 = R.size) : reads R = some (whole R).1 := by unfold reads; rw [if_neg ht, if_pos he]
theorem reads_off {R : ByteArray} (he : (whole R).2 ≠ R.size) : reads R = none := by
  unfold reads
  rw [if_neg he]
  split <;> rfl
theorem readRest_none {R : ByteArray} {m : Bool} (h : reads R = none) : readRest R m = (0, 6) := by unfold readRest; rw [h]
theorem readRest_large {R : ByteArray} {m : Bool} {V : Nat} (h : reads R = some V) (ht : topOf m < V) : readRest R m = (0, 10) := by unfold readRest; rw [h]; dsimp only; rw [if_pos ht]
theorem readRest_some {R : ByteArray} {m : Bool} {V : Nat} (h : reads R = some V) (ht : ¬ topOf m < V) : readRest R m = (valueOf V m, 0) := by unfold readRest; rw [h]; dsimp only; rw [if_neg ht]; rfl
theorem script_pos {R : ByteArray} (ht : script R ≠ 0) : 0 < R.size ∧ scr (rn R 0) = script R := by
  unfold script at ht ⊢
  by_cases h : 0 < R.size
  · rw [if_pos h] at ht ⊢; exact ⟨h, rfl⟩
  · rw [if_neg h] at ht; exact absurd rfl ht

/-- The last scan: as far as place p all are digits of the script. -/
structure Scan (R : ByteArray) (w : World) (K f p V : Nat) (wr : World) : Prop where
  fuel : R.size + 1 ≤ f + p
  le : p ≤ R.size
  run : run R (script R) f p V = whole R
  at_ : wr.heap[K]? = some (.stringIter R p)
  low : w.heap.size ≤ K
  below : Below w.heap.size w wr

theorem Scan.next {R : ByteArray} {w wr w3 : World} {K f p V : Nat} (h : Scan R w K f p V wr) (hp : p < R.size) (hs : scr (rn R p) = script R) (hb : Below (wr.iterAt K R (p + wd R p)).heap.size (wr.iterAt K R (p + wd R p)) w3) :
    ∃ f' V', Scan R w K f' (p + wd R p) V' w3 := by
  obtain ⟨f', h1, h2⟩ := run_step h.fuel hp hs (V := V)
  have hK : K < wr.heap.size := (Array.getElem?_eq_some_iff.1 h.at_).1
  have hb2 : Below w.heap.size w (wr.iterAt K R (p + wd R p)) := Lib.below_iterAt h.below h.low R _
  refine ⟨f', _, h1, wd_in hp, by rw [← h2]; exact h.run, ?_, h.low, hb2.trans (hb.mono hb2.size)⟩
  rw [hb.block K (by rw [Lib.iterAt_size]; exact hK)]
  exact Lib.iterAt_heap wr K R p _ h.at_

set_option maxRecDepth 100000 in
set_option maxHeartbeats 3200000 in
theorem aread_any (s : ByteArray) (w : World) (hT : Tabs w) : Calls Tryd.prog 10 #[.string s] w fun e w' => e = .returned (.tuple #[.int .i64 (readOf s).1, .int .i64 (readOf s).2]) ∧ Below w.heap.size w w' := by
  by_cases hlen : 4096 < s.size
  · have H : Hid (readOf s = (0, 3)) := if_pos hlen
    have hi : (4096 : Int) < s.size := by omega
    clear hlen
    go_enter Tryd.func10, Tryd.ntmps10
    go_wp2
    go_ret2
    exact ⟨by rw [H.out]; rfl, Below.refl _ _⟩
  · have hi : ¬ (4096 : Int) < s.size := by omega
    have hle : s.size ≤ 4096 := by omega
    have H : Hid (readOf s = readRest (restOf s) (minusOf s)) := if_neg hlen
    have HT := Lib.hid hT
    clear hlen hT
    have d1 := dash_iff s
    have d2 := bar_iff s
    have d3 : Hid (Lib.hasPrefix s.data.toList [45] = true → wd s 0 = 1) := dash_wd
    have d4 : Hid (Lib.hasPrefix s.data.toList [226, 136, 146] = true → wd s 0 = 3) := bar_wd
    have d5 := drop_extract s
    by_cases hd : Lib.hasPrefix s.data.toList [45] = true
    · have hm : minusOf s = true := by obtain ⟨h0, h1⟩ := d1.1 hd; unfold minusOf; rw [decide_eq_true h0, h1]; rfl
      have hw1 := d3.out hd
      have Hr : Hid (readOf s = readRest (s.extract 1 s.size) true) := by unfold Hid; rw [H.out]; unfold restOf; rw [hm, if_pos rfl, hw1]
      have ht : (⟨(Lib.trimPrefix s.data.toList [45]).toArray⟩ : ByteArray) = s.extract 1 s.size := by unfold Lib.trimPrefix; rw [if_pos hd]; exact d5 1
      have Hsz : Hid ((s.extract 1 s.size).size ≤ 4096) := by unfold Hid; rw [Lib.tail_size]; omega
      clear d1 d2 d3 d4 d5 hm hw1 H
      go_enter Tryd.func10, Tryd.ntmps10
      go_wp2_with fail
      refine (Tryd.strings_CutPrefix s ⟨#[45]⟩ w).mono ?_
      rw [ht, hd]
      rintro e w1 ⟨rfl, hw1⟩
      obtain rfl := hw1.symm
      clear ht hd
      generalize s.extract 1 s.size = R at *
      go_wp2_with fail
      refine (number_any R w HT.out Hsz.out).mono ?_
      rintro e w2 ⟨rfl, hb2⟩
      have Hb2 := Lib.hid hb2
      have Hnum : Hid (numOf R = if script R = 0 then ((0 : Int), (0 : Int), (11 : Int)) else if 18446744073709551616 ≤ (whole R).1 then ((0 : Int), (0 : Int), (10 : Int)) else ((((whole R).1 : Nat) : Int), (((whole R).2 : Nat) : Int), (0 : Int))) := rfl
      clear hb2
      by_cases ht : script R = 0
      · have hn : numOf R = (0, 0, 11) := by rw [Hnum.out, if_pos ht]
        have Hx : Hid (readOf s = (0, 6)) := by unfold Hid; rw [Hr.out, readRest_none]; unfold reads; rw [if_pos ht]
        rw [hn]
        clear hn ht
        go_wp2
        go_ret2
        exact ⟨by rw [Hx.out]; rfl, Hb2.out⟩
      obtain ⟨hpos, hs0⟩ := script_pos ht
      by_cases hV : 18446744073709551616 ≤ (whole R).1
      · have hn : numOf R = (0, 0, 10) := by rw [Hnum.out, if_neg ht, if_pos hV]
        have hsc : Scan R w w2.heap.size (R.size + 1) 0 0 (w2.iter R 0) := ⟨by omega, by omega, rfl, World.iter_heap _ _ _, Hb2.out.size, Hb2.out.alloc Hb2.out.size _⟩
        have Hsc := Lib.hid hsc
        have Hs0 := Lib.hid hs0
        have Ht := Lib.hid ht
        have HV := Lib.hid hV
        rw [hn]
        clear hn hsc hs0 ht hV
        go_wp2
        go_loopw [9, 10] (fun _ _ wr => ∃ f p V, Scan R w w2.heap.size f p V wr) (fun _ _ wr => R.size - wr.iterPos w2.heap.size)
        case atStart => exact ⟨_, _, _, Hsc.out⟩
        case round =>
          obtain ⟨f, p, V, hsc⟩ := hrel
          have HS := Lib.hid hsc
          have hpos' : wr.iterPos w2.heap.size = p := by unfold World.iterPos; rw [hsc.at_]
          have Hpos := Lib.hid hpos'
          clear Hsc hsc hpos'
          by_cases hps : p < R.size
          · have hnx : ∀ ty, (Instr.next (.pointer (some ⟨w2.heap.size, 0, none⟩)) true ty).run Tryd.prog wr = .ok (.tuple #[.bool true, .int .i64 p, .int .i32 (rn R p)]) (wr.iterAt w2.heap.size R (p + wd R p)) := fun ty => Lib.run_next_any_at wr _ R p ty HS.out.at_ hps
            have hrr := rn_in R p
            have hwp := wd_pos R p
            by_cases hp0 : p = 0
            · have hsn : ∃ f' V', Scan R w w2.heap.size f' (p + wd R p) V' (wr.iterAt w2.heap.size R (p + wd R p)) := HS.out.next hps (by rw [hp0]; exact Hs0.out) (Below.refl _ _)
              have Hsn := Lib.hid hsn
              have hpi : ¬ (0 : Int) < p := by omega
              clear hsn hp0
              generalize wr.iterAt w2.heap.size R (p + wd R p) = w4 at *
              go_wp2
              go_roundw
              case rel => obtain ⟨f', V', h⟩ := Hsn.out; exact ⟨f', _, V', h⟩
              case measure => obtain ⟨f', V', h⟩ := Hsn.out; have e1 : w4.iterPos w2.heap.size = p + wd R p := by unfold World.iterPos; rw [h.at_]
                              rw [e1, Hpos.out]; omega
            · have hpi : (0 : Int) < p := by omega
              go_wp2_with fail
              refine (same_any R (rn R p) _ hpos (by rw [Hs0.out]; exact Ht.out) hrr).mono ?_
              rw [Hs0.out]
              rintro e w4 ⟨rfl, hb4⟩
              by_cases hs : scr (rn R p) = script R
              · have Hsn := Lib.hid (HS.out.next hps hs hb4)
                have hq : (scr (rn R p) == script R) = true := by simp [hs]
                rw [hq]
                clear hq hs hb4 hp0
                go_wp2
                go_roundw
                case rel => obtain ⟨f', V', h⟩ := Hsn.out; exact ⟨f', _, V', h⟩
                case measure => obtain ⟨f', V', h⟩ := Hsn.out; have e1 : w4.iterPos w2.heap.size = p + wd R p := by unfold World.iterPos; rw [h.at_]
                                rw [e1, Hpos.out]; omega
              · have hq : (scr (rn R p) == script R) = false := by simp [hs]
                have Hx : Hid (readOf s = (0, 6)) := by unfold Hid; rw [Hr.out, readRest_none]; apply reads_off; rw [← HS.out.run, run_stop HS.out.fuel hps hs]; exact Nat.ne_of_lt hps
                have Hb4 : Hid (Below w.heap.size w w4) := (Lib.below_iterAt HS.out.below HS.out.low R _).trans (hb4.mono (Lib.below_iterAt HS.out.below HS.out.low R _).size)
                rw [hq]
                clear hq hs hb4 hp0
                go_wp2
                go_ret2
                exact ⟨by rw [Hx.out]; rfl, Hb4.out⟩
          · have hnx : ∀ ty, (Instr.next (.pointer (some ⟨w2.heap.size, 0, none⟩)) true ty).run Tryd.prog wr = .ok (.tuple #[.bool false]) wr := fun ty => Lib.run_next_end_at wr _ R p ty HS.out.at_ hps
            have Hx : Hid (readOf s = (0, 10)) := by
              have he : whole R = (V, R.size) := by rw [← HS.out.run, run_end HS.out.fuel HS.out.le hps]
              unfold Hid
              rw [Hr.out, readRest_large (reads_some Ht.out (by rw [he]))]
              have := HV.out
              unfold topOf
              simp
              omega
            clear hps
            go_wp2
            go_ret2
            exact ⟨by rw [Hx.out]; rfl, HS.out.below⟩
      · have hn : numOf R = ((((whole R).1 : Nat) : Int), (((whole R).2 : Nat) : Int), (0 : Int)) := by rw [Hnum.out, if_neg ht, if_neg hV]
        rw [hn]
        by_cases he : (whole R).2 = R.size
        · have hre := reads_some ht he
          rw [he]
          have Hre := Lib.hid hre
          clear he hre hn ht hs0
          generalize (whole R).1 = V at *
          by_cases hb : topOf true < V
          · have Hx : Hid (readOf s = (0, 10)) := by unfold Hid; rw [Hr.out, readRest_large Hre.out hb]
            have hbi : ((topOf true : Nat) : Int) < V := by omega
            have e0 : ((topOf true : Nat) : Int) = 9223372036854775808 := rfl
            rw [e0] at hbi
            have hgt : decide ((9223372036854775808 : Int) < (V : Int)) = true := decide_eq_true hbi
            obtain ⟨Vi, hVi⟩ : ∃ Vi : Int, (V : Int) = Vi := ⟨_, rfl⟩
            rw [hVi] at hgt ⊢
            clear hb hbi e0 hVi hV Hre Hnum
            go_wp2
            go_ret2
            exact ⟨by rw [Hx.out]; rfl, Hb2.out⟩
          · have Hx : Hid (readOf s = (valueOf V true, 0)) := by unfold Hid; rw [Hr.out, readRest_some Hre.out hb]
            have hbi : ¬ ((topOf true : Nat) : Int) < V := by omega
            have e0 : ((topOf true : Nat) : Int) = 9223372036854775808 := rfl
            rw [e0] at hbi
            have hgt : decide ((9223372036854775808 : Int) < (V : Int)) = false := decide_eq_false hbi
            have Hv : Hid (wrap64 (-(wrap64 V)) = valueOf V true) := by unfold Hid; unfold valueOf; simp only [wrap64_emod, if_true, if_false, Bool.false_eq_true]; omega
            obtain ⟨Vi, hVi⟩ : ∃ Vi : Int, (V : Int) = Vi := ⟨_, rfl⟩
            rw [hVi] at hgt Hv ⊢
            generalize valueOf V true = Vo at *
            clear hb hbi e0 hVi hV Hre Hnum
            go_wp2
            go_ret2
            exact ⟨by rw [Hx.out, ← Hv.out]; simp, Hb2.out⟩
        · have Hx : Hid (readOf s = (0, 6)) := by unfold Hid; rw [Hr.out, readRest_none (reads_off he)]
          have hei : ((((whole R).2 : Nat) : Int) != (R.size : Int)) = true := by simp; omega
          clear hn he ht hV hs0 Hnum
          generalize (whole R).1 = V at *
          generalize (whole R).2 = E at *
          go_wp2
          go_ret2
          exact ⟨by rw [Hx.out]; rfl, Hb2.out⟩
    · have hdf : Lib.hasPrefix s.data.toList [45] = false := by simpa using hd
      have ht1 : (⟨(Lib.trimPrefix s.data.toList [45]).toArray⟩ : ByteArray) = s := by unfold Lib.trimPrefix; rw [if_neg hd]
      by_cases hb : Lib.hasPrefix s.data.toList [226, 136, 146] = true
      · have hm : minusOf s = true := by obtain ⟨h0, h1⟩ := d2.1 hb; unfold minusOf; rw [decide_eq_true h0, h1]; rfl
        have hw1 := d4.out hb
        have Hr : Hid (readOf s = readRest (s.extract 3 s.size) true) := by unfold Hid; rw [H.out]; unfold restOf; rw [hm, if_pos rfl, hw1]
        have ht : (⟨(Lib.trimPrefix s.data.toList [226, 136, 146]).toArray⟩ : ByteArray) = s.extract 3 s.size := by unfold Lib.trimPrefix; rw [if_pos hb]; exact d5 3
        have Hsz : Hid ((s.extract 3 s.size).size ≤ 4096) := by unfold Hid; rw [Lib.tail_size]; omega
        clear d1 d2 d3 d4 d5 hm hw1 H
        go_enter Tryd.func10, Tryd.ntmps10
        go_wp2_with fail
        refine (Tryd.strings_CutPrefix s ⟨#[45]⟩ w).mono ?_
        rw [ht1, hdf]
        rintro e w1 ⟨rfl, hw1⟩
        obtain rfl := hw1.symm
        go_wp2_with fail
        refine (Tryd.strings_CutPrefix s ⟨#[226, 136, 146]⟩ w).mono ?_
        rw [ht, hb]
        rintro e w1 ⟨rfl, hw1⟩
        obtain rfl := hw1.symm
        clear ht ht1 hd hdf hb
        generalize s.extract 3 s.size = R at *
        go_wp2_with fail
        refine (number_any R w HT.out Hsz.out).mono ?_
        rintro e w2 ⟨rfl, hb2⟩
        have Hb2 := Lib.hid hb2
        have Hnum : Hid (numOf R = if script R = 0 then ((0 : Int), (0 : Int), (11 : Int)) else if 18446744073709551616 ≤ (whole R).1 then ((0 : Int), (0 : Int), (10 : Int)) else ((((whole R).1 : Nat) : Int), (((whole R).2 : Nat) : Int), (0 : Int))) := rfl
        clear hb2
        by_cases ht : script R = 0
        · have hn : numOf R = (0, 0, 11) := by rw [Hnum.out, if_pos ht]
          have Hx : Hid (readOf s = (0, 6)) := by unfold Hid; rw [Hr.out, readRest_none]; unfold reads; rw [if_pos ht]
          rw [hn]
          clear hn ht
          go_wp2
          go_ret2
          exact ⟨by rw [Hx.out]; rfl, Hb2.out⟩
        obtain ⟨hpos, hs0⟩ := script_pos ht
        by_cases hV : 18446744073709551616 ≤ (whole R).1
        · have hn : numOf R = (0, 0, 10) := by rw [Hnum.out, if_neg ht, if_pos hV]
          have hsc : Scan R w w2.heap.size (R.size + 1) 0 0 (w2.iter R 0) := ⟨by omega, by omega, rfl, World.iter_heap _ _ _, Hb2.out.size, Hb2.out.alloc Hb2.out.size _⟩
          have Hsc := Lib.hid hsc
          have Hs0 := Lib.hid hs0
          have Ht := Lib.hid ht
          have HV := Lib.hid hV
          rw [hn]
          clear hn hsc hs0 ht hV
          go_wp2
          go_loopw [9, 10] (fun _ _ wr => ∃ f p V, Scan R w w2.heap.size f p V wr) (fun _ _ wr => R.size - wr.iterPos w2.heap.size)
          case atStart => exact ⟨_, _, _, Hsc.out⟩
          case round =>
            obtain ⟨f, p, V, hsc⟩ := hrel
            have HS := Lib.hid hsc
            have hpos' : wr.iterPos w2.heap.size = p := by unfold World.iterPos; rw [hsc.at_]
            have Hpos := Lib.hid hpos'
            clear Hsc hsc hpos'
            by_cases hps : p < R.size
            · have hnx : ∀ ty, (Instr.next (.pointer (some ⟨w2.heap.size, 0, none⟩)) true ty).run Tryd.prog wr = .ok (.tuple #[.bool true, .int .i64 p, .int .i32 (rn R p)]) (wr.iterAt w2.heap.size R (p + wd R p)) := fun ty => Lib.run_next_any_at wr _ R p ty HS.out.at_ hps
              have hrr := rn_in R p
              have hwp := wd_pos R p
              by_cases hp0 : p = 0
              · have hsn : ∃ f' V', Scan R w w2.heap.size f' (p + wd R p) V' (wr.iterAt w2.heap.size R (p + wd R p)) := HS.out.next hps (by rw [hp0]; exact Hs0.out) (Below.refl _ _)
                have Hsn := Lib.hid hsn
                have hpi : ¬ (0 : Int) < p := by omega
                clear hsn hp0
                generalize wr.iterAt w2.heap.size R (p + wd R p) = w4 at *
                go_wp2
                go_roundw
                case rel => obtain ⟨f', V', h⟩ := Hsn.out; exact ⟨f', _, V', h⟩
                case measure => obtain ⟨f', V', h⟩ := Hsn.out; have e1 : w4.iterPos w2.heap.size = p + wd R p := by unfold World.iterPos; rw [h.at_]
                                rw [e1, Hpos.out]; omega
              · have hpi : (0 : Int) < p := by omega
                go_wp2_with fail
                refine (same_any R (rn R p) _ hpos (by rw [Hs0.out]; exact Ht.out) hrr).mono ?_
                rw [Hs0.out]
                rintro e w4 ⟨rfl, hb4⟩
                by_cases hs : scr (rn R p) = script R
                · have Hsn := Lib.hid (HS.out.next hps hs hb4)
                  have hq : (scr (rn R p) == script R) = true := by simp [hs]
                  rw [hq]
                  clear hq hs hb4 hp0
                  go_wp2
                  go_roundw
                  case rel => obtain ⟨f', V', h⟩ := Hsn.out; exact ⟨f', _, V', h⟩
                  case measure => obtain ⟨f', V', h⟩ := Hsn.out; have e1 : w4.iterPos w2.heap.size = p + wd R p := by unfold World.iterPos; rw [h.at_]
                                  rw [e1, Hpos.out]; omega
                · have hq : (scr (rn R p) == script R) = false := by simp [hs]
                  have Hx : Hid (readOf s = (0, 6)) := by unfold Hid; rw [Hr.out, readRest_none]; apply reads_off; rw [← HS.out.run, run_stop HS.out.fuel hps hs]; exact Nat.ne_of_lt hps
                  have Hb4 : Hid (Below w.heap.size w w4) := (Lib.below_iterAt HS.out.below HS.out.low R _).trans (hb4.mono (Lib.below_iterAt HS.out.below HS.out.low R _).size)
                  rw [hq]
                  clear hq hs hb4 hp0
                  go_wp2
                  go_ret2
                  exact ⟨by rw [Hx.out]; rfl, Hb4.out⟩
            · have hnx : ∀ ty, (Instr.next (.pointer (some ⟨w2.heap.size, 0, none⟩)) true ty).run Tryd.prog wr = .ok (.tuple #[.bool false]) wr := fun ty => Lib.run_next_end_at wr _ R p ty HS.out.at_ hps
              have Hx : Hid (readOf s = (0, 10)) := by
                have he : whole R = (V, R.size) := by rw [← HS.out.run, run_end HS.out.fuel HS.out.le hps]
                unfold Hid
                rw [Hr.out, readRest_large (reads_some Ht.out (by rw [he]))]
                have := HV.out
                unfold topOf
                simp
                omega
              clear hps
              go_wp2
              go_ret2
              exact ⟨by rw [Hx.out]; rfl, HS.out.below⟩
        · have hn : numOf R = ((((whole R).1 : Nat) : Int), (((whole R).2 : Nat) : Int), (0 : Int)) := by rw [Hnum.out, if_neg ht, if_neg hV]
          rw [hn]
          by_cases he : (whole R).2 = R.size
          · have hre := reads_some ht he
            rw [he]
            have Hre := Lib.hid hre
            clear he hre hn ht hs0
            generalize (whole R).1 = V at *
            by_cases hb : topOf true < V
            · have Hx : Hid (readOf s = (0, 10)) := by unfold Hid; rw [Hr.out, readRest_large Hre.out hb]
              have hbi : ((topOf true : Nat) : Int) < V := by omega
              have e0 : ((topOf true : Nat) : Int) = 9223372036854775808 := rfl
              rw [e0] at hbi
              have hgt : decide ((9223372036854775808 : Int) < (V : Int)) = true := decide_eq_true hbi
              obtain ⟨Vi, hVi⟩ : ∃ Vi : Int, (V : Int) = Vi := ⟨_, rfl⟩
              rw [hVi] at hgt ⊢
              clear hb hbi e0 hVi hV Hre Hnum
              go_wp2
              go_ret2
              exact ⟨by rw [Hx.out]; rfl, Hb2.out⟩
            · have Hx : Hid (readOf s = (valueOf V true, 0)) := by unfold Hid; rw [Hr.out, readRest_some Hre.out hb]
              have hbi : ¬ ((topOf true : Nat) : Int) < V := by omega
              have e0 : ((topOf true : Nat) : Int) = 9223372036854775808 := rfl
              rw [e0] at hbi
              have hgt : decide ((9223372036854775808 : Int) < (V : Int)) = false := decide_eq_false hbi
              have Hv : Hid (wrap64 (-(wrap64 V)) = valueOf V true) := by unfold Hid; unfold valueOf; simp only [wrap64_emod, if_true, if_false, Bool.false_eq_true]; omega
              obtain ⟨Vi, hVi⟩ : ∃ Vi : Int, (V : Int) = Vi := ⟨_, rfl⟩
              rw [hVi] at hgt Hv ⊢
              generalize valueOf V true = Vo at *
              clear hb hbi e0 hVi hV Hre Hnum
              go_wp2
              go_ret2
              exact ⟨by rw [Hx.out, ← Hv.out]; simp, Hb2.out⟩
          · have Hx : Hid (readOf s = (0, 6)) := by unfold Hid; rw [Hr.out, readRest_none (reads_off he)]
            have hei : ((((whole R).2 : Nat) : Int) != (R.size : Int)) = true := by simp; omega
            clear hn he ht hV hs0 Hnum
            generalize (whole R).1 = V at *
            generalize (whole R).2 = E at *
            go_wp2
            go_ret2
            exact ⟨by rw [Hx.out]; rfl, Hb2.out⟩
      · have hbf : Lib.hasPrefix s.data.toList [226, 136, 146] = false := by simpa using hb
        have ht : (⟨(Lib.trimPrefix s.data.toList [226, 136, 146]).toArray⟩ : ByteArray) = s := by unfold Lib.trimPrefix; rw [if_neg hb]
        have hm : minusOf s = false := by
          cases hm : minusOf s with
          | false => rfl
          | true =>
            unfold minusOf at hm
            rw [Bool.and_eq_true, decide_eq_true_eq, Bool.or_eq_true, beq_iff_eq, beq_iff_eq] at hm
            rcases hm with ⟨h0, h1 | h1⟩
            · exact absurd (d1.2 ⟨h0, h1⟩) hd
            · exact absurd (d2.2 ⟨h0, h1⟩) hb
        have Hr : Hid (readOf s = readRest s false) := by unfold Hid; rw [H.out]; unfold restOf; rw [hm]; rfl
        have Hsz : Hid (s.size ≤ 4096) := hle
        clear d1 d2 d3 d4 d5 hm H
        go_enter Tryd.func10, Tryd.ntmps10
        go_wp2_with fail
        refine (Tryd.strings_CutPrefix s ⟨#[45]⟩ w).mono ?_
        rw [ht1, hdf]
        rintro e w1 ⟨rfl, hw1⟩
        obtain rfl := hw1.symm
        go_wp2_with fail
        refine (Tryd.strings_CutPrefix s ⟨#[226, 136, 146]⟩ w).mono ?_
        rw [ht, hbf]
        rintro e w1 ⟨rfl, hw1⟩
        obtain rfl := hw1.symm
        clear ht ht1 hd hdf hb hbf
        go_wp2_with fail
        refine (number_any s w HT.out Hsz.out).mono ?_
        rintro e w2 ⟨rfl, hb2⟩
        have Hb2 := Lib.hid hb2
        have Hnum : Hid (numOf s = if script s = 0 then ((0 : Int), (0 : Int), (11 : Int)) else if 18446744073709551616 ≤ (whole s).1 then ((0 : Int), (0 : Int), (10 : Int)) else ((((whole s).1 : Nat) : Int), (((whole s).2 : Nat) : Int), (0 : Int))) := rfl
        clear hb2
        by_cases ht : script s = 0
        · have hn : numOf s = (0, 0, 11) := by rw [Hnum.out, if_pos ht]
          have Hx : Hid (readOf s = (0, 6)) := by unfold Hid; rw [Hr.out, readRest_none]; unfold reads; rw [if_pos ht]
          rw [hn]
          clear hn ht
          go_wp2
          go_ret2
          exact ⟨by rw [Hx.out]; rfl, Hb2.out⟩
        obtain ⟨hpos, hs0⟩ := script_pos ht
        by_cases hV : 18446744073709551616 ≤ (whole s).1
        · have hn : numOf s = (0, 0, 10) := by rw [Hnum.out, if_neg ht, if_pos hV]
          have hsc : Scan s w w2.heap.size (s.size + 1) 0 0 (w2.iter s 0) := ⟨by omega, by omega, rfl, World.iter_heap _ _ _, Hb2.out.size, Hb2.out.alloc Hb2.out.size _⟩
          have Hsc := Lib.hid hsc
          have Hs0 := Lib.hid hs0
          have Ht := Lib.hid ht
          have HV := Lib.hid hV
          rw [hn]
          clear hn hsc hs0 ht hV
          go_wp2
          go_loopw [9, 10] (fun _ _ wr => ∃ f p V, Scan s w w2.heap.size f p V wr) (fun _ _ wr => s.size - wr.iterPos w2.heap.size)
          case atStart => exact ⟨_, _, _, Hsc.out⟩
          case round =>
            obtain ⟨f, p, V, hsc⟩ := hrel
            have HS := Lib.hid hsc
            have hpos' : wr.iterPos w2.heap.size = p := by unfold World.iterPos; rw [hsc.at_]
            have Hpos := Lib.hid hpos'
            clear Hsc hsc hpos'
            by_cases hps : p < s.size
            · have hnx : ∀ ty, (Instr.next (.pointer (some ⟨w2.heap.size, 0, none⟩)) true ty).run Tryd.prog wr = .ok (.tuple #[.bool true, .int .i64 p, .int .i32 (rn s p)]) (wr.iterAt w2.heap.size s (p + wd s p)) := fun ty => Lib.run_next_any_at wr _ s p ty HS.out.at_ hps
              have hrr := rn_in s p
              have hwp := wd_pos s p
              by_cases hp0 : p = 0
              · have hsn : ∃ f' V', Scan s w w2.heap.size f' (p + wd s p) V' (wr.iterAt w2.heap.size s (p + wd s p)) := HS.out.next hps (by rw [hp0]; exact Hs0.out) (Below.refl _ _)
                have Hsn := Lib.hid hsn
                have hpi : ¬ (0 : Int) < p := by omega
                clear hsn hp0
                generalize wr.iterAt w2.heap.size s (p + wd s p) = w4 at *
                go_wp2
                go_roundw
                case rel => obtain ⟨f', V', h⟩ := Hsn.out; exact ⟨f', _, V', h⟩
                case measure => obtain ⟨f', V', h⟩ := Hsn.out; have e1 : w4.iterPos w2.heap.size = p + wd s p := by unfold World.iterPos; rw [h.at_]
                                rw [e1, Hpos.out]; omega
              · have hpi : (0 : Int) < p := by omega
                go_wp2_with fail
                refine (same_any s (rn s p) _ hpos (by rw [Hs0.out]; exact Ht.out) hrr).mono ?_
                rw [Hs0.out]
                rintro e w4 ⟨rfl, hb4⟩
                by_cases hs : scr (rn s p) = script s
                · have Hsn := Lib.hid (HS.out.next hps hs hb4)
                  have hq : (scr (rn s p) == script s) = true := by simp [hs]
                  rw [hq]
                  clear hq hs hb4 hp0
                  go_wp2
                  go_roundw
                  case rel => obtain ⟨f', V', h⟩ := Hsn.out; exact ⟨f', _, V', h⟩
                  case measure => obtain ⟨f', V', h⟩ := Hsn.out; have e1 : w4.iterPos w2.heap.size = p + wd s p := by unfold World.iterPos; rw [h.at_]
                                  rw [e1, Hpos.out]; omega
                · have hq : (scr (rn s p) == script s) = false := by simp [hs]
                  have Hx : Hid (readOf s = (0, 6)) := by unfold Hid; rw [Hr.out, readRest_none]; apply reads_off; rw [← HS.out.run, run_stop HS.out.fuel hps hs]; exact Nat.ne_of_lt hps
                  have Hb4 : Hid (Below w.heap.size w w4) := (Lib.below_iterAt HS.out.below HS.out.low s _).trans (hb4.mono (Lib.below_iterAt HS.out.below HS.out.low s _).size)
                  rw [hq]
                  clear hq hs hb4 hp0
                  go_wp2
                  go_ret2
                  exact ⟨by rw [Hx.out]; rfl, Hb4.out⟩
            · have hnx : ∀ ty, (Instr.next (.pointer (some ⟨w2.heap.size, 0, none⟩)) true ty).run Tryd.prog wr = .ok (.tuple #[.bool false]) wr := fun ty => Lib.run_next_end_at wr _ s p ty HS.out.at_ hps
              have Hx : Hid (readOf s = (0, 10)) := by
                have he : whole s = (V, s.size) := by rw [← HS.out.run, run_end HS.out.fuel HS.out.le hps]
                unfold Hid
                rw [Hr.out, readRest_large (reads_some Ht.out (by rw [he]))]
                have := HV.out
                unfold topOf
                simp
                omega
              clear hps
              go_wp2
              go_ret2
              exact ⟨by rw [Hx.out]; rfl, HS.out.below⟩
        · have hn : numOf s = ((((whole s).1 : Nat) : Int), (((whole s).2 : Nat) : Int), (0 : Int)) := by rw [Hnum.out, if_neg ht, if_neg hV]
          rw [hn]
          by_cases he : (whole s).2 = s.size
          · have hre := reads_some ht he
            rw [he]
            have Hre := Lib.hid hre
            clear he hre hn ht hs0
            generalize (whole s).1 = V at *
            by_cases hb : topOf false < V
            · have Hx : Hid (readOf s = (0, 10)) := by unfold Hid; rw [Hr.out, readRest_large Hre.out hb]
              have hbi : ((topOf false : Nat) : Int) < V := by omega
              have e0 : ((topOf false : Nat) : Int) = 9223372036854775807 := rfl
              rw [e0] at hbi
              have hgt : decide ((9223372036854775807 : Int) < (V : Int)) = true := decide_eq_true hbi
              obtain ⟨Vi, hVi⟩ : ∃ Vi : Int, (V : Int) = Vi := ⟨_, rfl⟩
              rw [hVi] at hgt ⊢
              clear hb hbi e0 hVi hV Hre Hnum
              go_wp2
              go_ret2
              exact ⟨by rw [Hx.out]; rfl, Hb2.out⟩
            · have Hx : Hid (readOf s = (valueOf V false, 0)) := by unfold Hid; rw [Hr.out, readRest_some Hre.out hb]
              have hbi : ¬ ((topOf false : Nat) : Int) < V := by omega
              have e0 : ((topOf false : Nat) : Int) = 9223372036854775807 := rfl
              rw [e0] at hbi
              have hgt : decide ((9223372036854775807 : Int) < (V : Int)) = false := decide_eq_false hbi
              have Hv : Hid (wrap64 V = valueOf V false) := by unfold Hid; unfold valueOf; simp only [wrap64_emod, if_true, if_false, Bool.false_eq_true]; omega
              obtain ⟨Vi, hVi⟩ : ∃ Vi : Int, (V : Int) = Vi := ⟨_, rfl⟩
              rw [hVi] at hgt Hv ⊢
              generalize valueOf V false = Vo at *
              clear hb hbi e0 hVi hV Hre Hnum
              go_wp2
              go_ret2
              exact ⟨by rw [Hx.out, ← Hv.out]; simp, Hb2.out⟩
          · have Hx : Hid (readOf s = (0, 6)) := by unfold Hid; rw [Hr.out, readRest_none (reads_off he)]
            have hei : ((((whole s).2 : Nat) : Int) != (s.size : Int)) = true := by simp; omega
            clear hn he ht hV hs0 Hnum
            generalize (whole s).1 = V at *
            generalize (whole s).2 = E at *
            go_wp2
            go_ret2
            exact ⟨by rw [Hx.out]; rfl, Hb2.out⟩

end Go.Proofs.YtmknbfpkpimlnaaDoor
