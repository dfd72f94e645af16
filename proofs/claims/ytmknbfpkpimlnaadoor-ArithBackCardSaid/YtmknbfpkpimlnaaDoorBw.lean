/-
  The walk of ArithBack (package sorrellaw06).
-/
import Derived.Test.YtmknbfpkpimlnaaDoorBq
import Derived.Test.YtmknbfpkpimlnaaDoorAw
namespace Go.Proofs.YtmknbfpkpimlnaaDoor
open Go.RowKit

def three : ByteArray := ⟨#[48, 217, 160, 239, 188, 144]⟩

theorem three_at {p : Nat} (hp : p = 0 ∨ p = 1 ∨ p = 3) : ∃ (t : Int) (p' : Nat), (t = 48 ∨ t = 1632 ∨ t = 65296) ∧ (p' = 1 ∨ p' = 3 ∨ p' = 6) ∧ p < p' ∧ ∀ (wr : World) (K : Nat) (ty : TypeId), wr.heap[K]? = some (.stringIter three p) →
    (Instr.next (.pointer (some ⟨K, 0, none⟩)) true ty).run Tryd.prog wr = .ok (.tuple #[.bool true, .int .i64 p, .int .i32 t]) (wr.iterAt K three p') := by
  rcases hp with rfl | rfl | rfl
  · exact ⟨48, 1, .inl rfl, .inl rfl, by decide, fun wr K ty hk => Lib.run_next_any_at wr K three 0 ty hk (by decide)⟩
  · exact ⟨1632, 3, .inr (.inl rfl), .inr (.inl rfl), by decide, fun wr K ty hk => Lib.run_next_any_at wr K three 1 ty hk (by decide)⟩
  · exact ⟨65296, 6, .inr (.inr rfl), .inr (.inr rfl), by decide, fun wr K ty hk => Lib.run_next_any_at wr K three 3 ty hk (by decide)⟩

theorem dig_at (n : Int) {i : Nat} (h : i < (digitsOf n).size) : ∃ d : Nat, d ≤ 9 ∧ (((digitsOf n)[i]'h).toNat : Int) = 48 + d ∧ val ((Lib.decDigits n.natAbs).take (i + 1)) = 10 * val ((Lib.decDigits n.natAbs).take i) + d := by
  have hl : i < (Lib.decDigits n.natAbs).length := by unfold digitsOf at h; rwa [bytes_size] at h
  have e : (digitsOf n)[i]'h = (Lib.decDigits n.natAbs)[i]'hl := by simp [digitsOf, bytes, ByteArray.getElem_eq_getElem_data]
  obtain ⟨h1, h2⟩ := dec_bytes n.natAbs _ (List.getElem_mem hl)
  refine ⟨((Lib.decDigits n.natAbs)[i]'hl).toNat - 48, by omega, by rw [e]; omega, ?_⟩
  rw [List.take_succ_eq_append_getElem hl, val_snoc]

theorem val_all (n : Int) : val ((Lib.decDigits n.natAbs).take (digitsOf n).size) = n.natAbs := by
  unfold digitsOf
  rw [bytes_size, List.take_length]
  exact val_dec _

theorem dig_head (n : Int) (hn : n ≠ 0) (h : 0 < (digitsOf n).size) : ((digitsOf n)[0]'h).toNat ≠ 48 := by
  obtain ⟨b, l, e, hb⟩ := dec_head n.natAbs (by omega)
  have e2 : (digitsOf n)[0]'h = b := by simp [digitsOf, bytes, ByteArray.getElem_eq_getElem_data, e]
  rw [e2]; exact hb

theorem dig_zero (t : Int) : dig t 0 = Utf8.encode t := by unfold dig; simp

theorem iter_keep {wr w4 : World} {K p : Nat} (h : wr.heap[K]? = some (.stringIter three p)) (hb : Below wr.heap.size wr w4) : w4.heap[K]? = some (.stringIter three p) :=
  (hb.block K (Array.getElem?_eq_some_iff.1 h).1).trans h

set_option maxRecDepth 100000 in
set_option maxHeartbeats 3200000 in
theorem arithBack_walk (n k : Int) (hn : I64 n) (hk : 0 ≤ k ∧ k ≤ 255) (w : World) (hT : Tabs w) : Calls Tryd.prog 4 #[.int .i64 n, .int .u8 k] w fun e w' => e = .returned (.bool true) ∧ Below w.heap.size w w' := by
  have HT := Lib.hid hT
  have Hn := Lib.hid hn
  have Hrt := Lib.hid (read_text n hn)
  have Hrs := Lib.hid (read_space n hn)
  obtain ⟨hD0, hD20⟩ := digits_size n hn
  have HDat : Hid (∀ (i : Nat) (h : i < (digitsOf n).size), ∃ d : Nat, d ≤ 9 ∧ (((digitsOf n)[i]'h).toNat : Int) = 48 + d ∧ val ((Lib.decDigits n.natAbs).take (i + 1)) = 10 * val ((Lib.decDigits n.natAbs).take i) + d) := fun i h => dig_at n h
  have HVal := Lib.hid (val_all n)
  have HDh : Hid (∀ (_ : n ≠ 0) (h : 0 < (digitsOf n).size), ((digitsOf n)[0]'h).toNat ≠ 48) := fun a h => dig_head n a h
  have HDd := Lib.hid (fun (t : Int) (x : ByteArray) => @read_other t x n hn)
  obtain ⟨K, hK⟩ : ∃ K : Nat, k % 30 = K := ⟨(k % 30).toNat, by omega⟩
  have hK29 : K ≤ 29 := by omega
  clear hT hn
  go_enter Tryd.func4, Tryd.ntmps4
  go_wp2_with fail
  refine (awake06 w).mono ?_
  rintro e w1 ⟨rfl, hb1⟩
  have Hb1 := Lib.hid hb1
  clear hb1
  go_wp2_with fail
  refine (atext_any n Hn.out w1 (HT.out.below Hb1.out)).mono ?_
  rintro e w2 ⟨rfl, hb2⟩
  have Hb2 : Hid (Below w.heap.size w w2) := Hb1.out.trans (hb2.mono Hb1.out.size)
  clear hb2
  go_wp2_with fail
  refine (aread_any (textOf n) w2 (HT.out.below Hb2.out)).mono ?_
  rw [Hrt.out]
  rintro e w3 ⟨rfl, hb3⟩
  have Hb3 : Hid (Below w.heap.size w w3) := Hb2.out.trans (hb3.mono Hb2.out.size)
  have hnn : (n != n) = false := by simp
  clear hb3
  by_cases hneg : n < 0
  · have hT1 : (textOf n).extract 1 (textOf n).size = digitsOf n := by rw [text_neg hneg]; exact tail_append ⟨#[45]⟩ (digitsOf n)
    have hTs : (textOf n).size = 1 + (digitsOf n).size := by rw [text_neg hneg, ByteArray.size_append]; rfl
    have hTi : (1 : Int) ≤ (textOf n).size := by omega
    have HTs : Hid ((textOf n).size ≤ 30) := by unfold Hid; omega
    generalize textOf n = T at *
    clear hTs
    generalize hD : digitsOf n = D at *
    clear hD
    go_wp2
    go_loopw [11] (fun _ wr => ∃ p : Nat, (p = 0 ∨ p = 1 ∨ p = 3 ∨ p = 6) ∧ wr.heap[w3.heap.size]? = some (.stringIter three p) ∧ Below w.heap.size w wr) (fun _ wr => 7 - wr.iterPos w3.heap.size)
    case atStart => exact ⟨0, .inl rfl, World.iter_heap _ _ _, Hb3.out.alloc Hb3.out.size _⟩
    case round =>
      obtain ⟨p, hp, hit, hb⟩ := hrel
      have Hit := Lib.hid hit
      have Hb := Lib.hid hb
      have Hpos : Hid (wr.iterPos w3.heap.size = p) := by unfold Hid World.iterPos; rw [hit]
      clear hit hb
      by_cases hp6 : p = 6
      · subst hp6
        have hnx : ∀ ty, (Instr.next (.pointer (some ⟨w3.heap.size, 0, none⟩)) true ty).run Tryd.prog wr = .ok (.tuple #[.bool false]) wr := fun ty => Lib.run_next_end_at wr _ three 6 ty Hit.out (by decide)
        have hcat1 : (⟨#[43]⟩ : ByteArray).size + T.size ≤ 9223372036854775807 := by have := HTs.out; show 1 + _ ≤ _; omega
        have hcat2 : T.size + (⟨#[32]⟩ : ByteArray).size ≤ 9223372036854775807 := by have := HTs.out; show _ + 1 ≤ _; omega
        have Hrp : Hid (readOf (⟨#[43]⟩ ++ T) = (0, 6)) := read_plus T (by have := HTs.out; omega)
        go_wp2_with fail
        refine (aread_any _ wr (HT.out.below Hb.out)).mono ?_
        rw [Hrp.out]
        rintro e w4 ⟨rfl, hb4⟩
        have Hb4 : Hid (Below w.heap.size w w4) := Hb.out.trans (hb4.mono Hb.out.size)
        clear hb4 hnx
        go_wp2_with fail
        refine (aread_any _ w4 (HT.out.below Hb4.out)).mono ?_
        rw [Hrs.out]
        rintro e w5 ⟨rfl, hb5⟩
        have Hb5 : Hid (Below w.heap.size w w5) := Hb4.out.trans (hb5.mono Hb4.out.size)
        clear hb5
        by_cases hn0 : n = 0
        · have hq : (n == 0) = true := by simp [hn0]
          clear hn0
          go_wp2
          go_ret
          exact ⟨rfl, Hb5.out⟩
        · have hq : (n == 0) = false := by simp [hn0]
          have hDi : (0 : Int) < D.size := by omega
          have hh := HDh.out hn0 hD0
          have hq2 : ((((D)[0]'hD0).toNat : Int) != 48) = true := by simp; omega
          clear hn0 hh
          go_wp2
          go_ret
          exact ⟨rfl, Hb5.out⟩
      · obtain ⟨t, p', ht, hp', hlt, hnext⟩ := three_at (p := p) (by omega)
        have hnx := fun ty => hnext wr w3.heap.size ty Hit.out
        have hit4 := Lib.iterAt_heap wr w3.heap.size three p p' Hit.out
        have hb4 : Below w.heap.size w (wr.iterAt w3.heap.size three p') := Lib.below_iterAt Hb.out Hb3.out.size three p'
        have Hit4 := Lib.hid hit4
        have Hb4 := Lib.hid hb4
        have Ht := Lib.hid ht
        have ht1 : 48 ≤ t ∧ t ≤ 65296 := by omega
        have henc : ∀ d : Nat, d ≤ 9 → 1 ≤ (dig t d).size ∧ (dig t d).size ≤ 3 := fun d hd => ⟨(dig_dec ht hd ⟨#[]⟩).2.2.1, (dig_dec ht hd ⟨#[]⟩).2.2.2⟩
        have Henc := Lib.hid henc
        clear hnext hit4 hb4 ht henc hp6 hp
        generalize wr.iterAt w3.heap.size three p' = w4 at *
        go_wp2
        go_loopw [12, 13] (fun xv iv wq => ∃ j X, j ≤ K ∧ iv = .int .i64 (j : Nat) ∧ xv = .string X ∧ Digs t X 0 ∧ X.size ≤ 3 * j ∧ wq = w4) (fun _ iv _ => K - (intOf iv).toNat)
        case atStart => exact ⟨0, ⟨#[]⟩, Nat.zero_le _, rfl, rfl, Digs.nil t, Nat.le_refl _, rfl⟩
        case round =>
          obtain ⟨j, X, hj, rfl, rfl, hX, hXs, hwq⟩ := hrel
          obtain rfl := hwq.symm
          have HX := Lib.hid hX
          clear hX
          by_cases hjK : j < K
          · have hjK' : (j : Int) < K := by omega
            obtain ⟨he1, he2⟩ := Henc.out 0 (by decide)
            rw [dig_zero] at he1 he2
            have hcat : X.size + (Utf8.encode t).size ≤ 9223372036854775807 := by omega
            have Hnew : Hid (Digs t (X ++ Utf8.encode t) 0) := by
              have := HX.out.snoc Ht.out (d := 0) (by decide)
              rw [dig_zero] at this
              exact this
            have Hsz : Hid ((X ++ Utf8.encode t).size ≤ 3 * (j + 1)) := by unfold Hid; rw [ByteArray.size_append]; omega
            clear he1 he2
            go_wp2
            go_roundw
            case rel => exact ⟨j + 1, _, by omega, by go_num, rfl, Hnew.out, Hsz.out, by first | rfl | trivial⟩
            case measure => simp [intOf]; omega
          · have hjK' : ¬ (j : Int) < K := by omega
            have hjS : X.size ≤ 87 := by omega
            have HXs := Lib.hid hjS
            clear hjS hXs
            go_wp2
            go_loopw [12, 14] (fun xv iv wq => ∃ i Y, i ≤ D.size ∧ iv = .int .i64 (i : Nat) ∧ xv = .string Y ∧ Digs t Y (val ((Lib.decDigits n.natAbs).take i)) ∧ Y.size ≤ 87 + 3 * i ∧ (0 < i → 0 < Y.size) ∧ wq = w4) (fun _ iv _ => D.size - (intOf iv).toNat)
            case atStart => exact ⟨0, X, Nat.zero_le _, rfl, rfl, HX.out, HXs.out, fun h => absurd h (Nat.lt_irrefl _), rfl⟩
            case round =>
              obtain ⟨i, Y, hi, rfl, rfl, hY, hYs, hY0, hwq⟩ := hrel
              obtain rfl := hwq.symm
              have HY := Lib.hid hY
              have HY0 := Lib.hid hY0
              clear hY hY0
              by_cases hiD : i < D.size
              · have hiD' : (i : Int) < D.size := by omega
                obtain ⟨d, hd9, hdb, hdv⟩ := HDat.out _ hiD
                obtain ⟨he1, he2⟩ := Henc.out d hd9
                have henc2 : Utf8.encode (t + (d : Int)) = dig t d := rfl
                have hcat : Y.size + (dig t d).size ≤ 9223372036854775807 := by omega
                have Hnew : Hid (Digs t (Y ++ dig t d) (val ((Lib.decDigits n.natAbs).take (i + 1)))) := by unfold Hid; rw [hdv]; exact HY.out.snoc Ht.out hd9
                have Hsz : Hid ((Y ++ dig t d).size ≤ 87 + 3 * (i + 1) ∧ 0 < (Y ++ dig t d).size) := by unfold Hid; rw [ByteArray.size_append]; omega
                have hsum : t + (48 + (d : Int)) - 48 = t + d := by omega
                clear he1 he2 hdv
                go_wp2
                go_roundw
                case rel => exact ⟨i + 1, _, by omega, by go_num, rfl, Hnew.out, Hsz.out.1, fun _ => Hsz.out.2, by first | rfl | trivial⟩
                case measure => simp [intOf]; omega
              · have hie : i = D.size := by omega
                have hiD' : ¬ (i : Int) < D.size := by omega
                have Hro := Lib.hid (HDd.out t Y (by have := HY.out; rw [hie, HVal.out] at this; exact this) (by omega) (HY0.out (by omega)) (by omega))
                have hYl : Y.size ≤ 4000 := by omega
                clear hie hYs
                have hcat3 : (⟨#[226, 136, 146]⟩ : ByteArray).size + Y.size ≤ 9223372036854775807 := by show 3 + _ ≤ _; omega
                go_wp2_with fail
                refine (aread_any _ _ (HT.out.below Hb4.out)).mono ?_
                rw [Hro.out.1 (by omega)]
                rintro e w5 ⟨rfl, hb5⟩
                have Hit5 := Lib.hid (iter_keep Hit4.out hb5)
                have Hb5 : Hid (Below w.heap.size w w5) := Hb4.out.trans (hb5.mono Hb4.out.size)
                clear hb5
                go_wp2
                go_roundw
                case rel => exact ⟨p', by omega, Hit5.out, Hb5.out⟩
                case measure => have e1 : w5.iterPos w3.heap.size = p' := by unfold World.iterPos; rw [Hit5.out]
                                rw [e1, Hpos.out]; omega
  · have hTe : textOf n = digitsOf n := text_pos hneg
    have HTs : Hid ((digitsOf n).size ≤ 30) := by unfold Hid; omega
    rw [hTe] at Hrs ⊢
    clear hTe Hrt
    generalize hD : digitsOf n = D at *
    clear hD
    go_wp2
    go_loopw [11] (fun _ wr => ∃ p : Nat, (p = 0 ∨ p = 1 ∨ p = 3 ∨ p = 6) ∧ wr.heap[w3.heap.size]? = some (.stringIter three p) ∧ Below w.heap.size w wr) (fun _ wr => 7 - wr.iterPos w3.heap.size)
    case atStart => exact ⟨0, .inl rfl, World.iter_heap _ _ _, Hb3.out.alloc Hb3.out.size _⟩
    case round =>
      obtain ⟨p, hp, hit, hb⟩ := hrel
      have Hit := Lib.hid hit
      have Hb := Lib.hid hb
      have Hpos : Hid (wr.iterPos w3.heap.size = p) := by unfold Hid World.iterPos; rw [hit]
      clear hit hb
      by_cases hp6 : p = 6
      · subst hp6
        have hnx : ∀ ty, (Instr.next (.pointer (some ⟨w3.heap.size, 0, none⟩)) true ty).run Tryd.prog wr = .ok (.tuple #[.bool false]) wr := fun ty => Lib.run_next_end_at wr _ three 6 ty Hit.out (by decide)
        have hcat1 : (⟨#[43]⟩ : ByteArray).size + D.size ≤ 9223372036854775807 := by have := HTs.out; show 1 + _ ≤ _; omega
        have hcat2 : D.size + (⟨#[32]⟩ : ByteArray).size ≤ 9223372036854775807 := by have := HTs.out; show _ + 1 ≤ _; omega
        have Hrp : Hid (readOf (⟨#[43]⟩ ++ D) = (0, 6)) := read_plus D (by have := HTs.out; omega)
        go_wp2_with fail
        refine (aread_any _ wr (HT.out.below Hb.out)).mono ?_
        rw [Hrp.out]
        rintro e w4 ⟨rfl, hb4⟩
        have Hb4 : Hid (Below w.heap.size w w4) := Hb.out.trans (hb4.mono Hb.out.size)
        clear hb4 hnx
        go_wp2_with fail
        refine (aread_any _ w4 (HT.out.below Hb4.out)).mono ?_
        rw [Hrs.out]
        rintro e w5 ⟨rfl, hb5⟩
        have Hb5 : Hid (Below w.heap.size w w5) := Hb4.out.trans (hb5.mono Hb4.out.size)
        clear hb5
        by_cases hn0 : n = 0
        · have hq : (n == 0) = true := by simp [hn0]
          clear hn0
          go_wp2
          go_ret
          exact ⟨rfl, Hb5.out⟩
        · have hq : (n == 0) = false := by simp [hn0]
          have hDi : (0 : Int) < D.size := by omega
          have hh := HDh.out hn0 hD0
          have hq2 : ((((D)[0]'hD0).toNat : Int) != 48) = true := by simp; omega
          clear hn0 hh
          go_wp2
          go_ret
          exact ⟨rfl, Hb5.out⟩
      · obtain ⟨t, p', ht, hp', hlt, hnext⟩ := three_at (p := p) (by omega)
        have hnx := fun ty => hnext wr w3.heap.size ty Hit.out
        have hit4 := Lib.iterAt_heap wr w3.heap.size three p p' Hit.out
        have hb4 : Below w.heap.size w (wr.iterAt w3.heap.size three p') := Lib.below_iterAt Hb.out Hb3.out.size three p'
        have Hit4 := Lib.hid hit4
        have Hb4 := Lib.hid hb4
        have Ht := Lib.hid ht
        have ht1 : 48 ≤ t ∧ t ≤ 65296 := by omega
        have henc : ∀ d : Nat, d ≤ 9 → 1 ≤ (dig t d).size ∧ (dig t d).size ≤ 3 := fun d hd => ⟨(dig_dec ht hd ⟨#[]⟩).2.2.1, (dig_dec ht hd ⟨#[]⟩).2.2.2⟩
        have Henc := Lib.hid henc
        clear hnext hit4 hb4 ht henc hp6 hp
        generalize wr.iterAt w3.heap.size three p' = w4 at *
        go_wp2
        go_loopw [12, 13] (fun xv iv wq => ∃ j X, j ≤ K ∧ iv = .int .i64 (j : Nat) ∧ xv = .string X ∧ Digs t X 0 ∧ X.size ≤ 3 * j ∧ wq = w4) (fun _ iv _ => K - (intOf iv).toNat)
        case atStart => exact ⟨0, ⟨#[]⟩, Nat.zero_le _, rfl, rfl, Digs.nil t, Nat.le_refl _, rfl⟩
        case round =>
          obtain ⟨j, X, hj, rfl, rfl, hX, hXs, hwq⟩ := hrel
          obtain rfl := hwq.symm
          have HX := Lib.hid hX
          clear hX
          by_cases hjK : j < K
          · have hjK' : (j : Int) < K := by omega
            obtain ⟨he1, he2⟩ := Henc.out 0 (by decide)
            rw [dig_zero] at he1 he2
            have hcat : X.size + (Utf8.encode t).size ≤ 9223372036854775807 := by omega
            have Hnew : Hid (Digs t (X ++ Utf8.encode t) 0) := by
              have := HX.out.snoc Ht.out (d := 0) (by decide)
              rw [dig_zero] at this
              exact this
            have Hsz : Hid ((X ++ Utf8.encode t).size ≤ 3 * (j + 1)) := by unfold Hid; rw [ByteArray.size_append]; omega
            clear he1 he2
            go_wp2
            go_roundw
            case rel => exact ⟨j + 1, _, by omega, by go_num, rfl, Hnew.out, Hsz.out, by first | rfl | trivial⟩
            case measure => simp [intOf]; omega
          · have hjK' : ¬ (j : Int) < K := by omega
            have hjS : X.size ≤ 87 := by omega
            have HXs := Lib.hid hjS
            clear hjS hXs
            go_wp2
            go_loopw [12, 14] (fun xv iv wq => ∃ i Y, i ≤ D.size ∧ iv = .int .i64 (i : Nat) ∧ xv = .string Y ∧ Digs t Y (val ((Lib.decDigits n.natAbs).take i)) ∧ Y.size ≤ 87 + 3 * i ∧ (0 < i → 0 < Y.size) ∧ wq = w4) (fun _ iv _ => D.size - (intOf iv).toNat)
            case atStart => exact ⟨0, X, Nat.zero_le _, rfl, rfl, HX.out, HXs.out, fun h => absurd h (Nat.lt_irrefl _), rfl⟩
            case round =>
              obtain ⟨i, Y, hi, rfl, rfl, hY, hYs, hY0, hwq⟩ := hrel
              obtain rfl := hwq.symm
              have HY := Lib.hid hY
              have HY0 := Lib.hid hY0
              clear hY hY0
              by_cases hiD : i < D.size
              · have hiD' : (i : Int) < D.size := by omega
                obtain ⟨d, hd9, hdb, hdv⟩ := HDat.out _ hiD
                obtain ⟨he1, he2⟩ := Henc.out d hd9
                have henc2 : Utf8.encode (t + (d : Int)) = dig t d := rfl
                have hcat : Y.size + (dig t d).size ≤ 9223372036854775807 := by omega
                have Hnew : Hid (Digs t (Y ++ dig t d) (val ((Lib.decDigits n.natAbs).take (i + 1)))) := by unfold Hid; rw [hdv]; exact HY.out.snoc Ht.out hd9
                have Hsz : Hid ((Y ++ dig t d).size ≤ 87 + 3 * (i + 1) ∧ 0 < (Y ++ dig t d).size) := by unfold Hid; rw [ByteArray.size_append]; omega
                have hsum : t + (48 + (d : Int)) - 48 = t + d := by omega
                clear he1 he2 hdv
                go_wp2
                go_roundw
                case rel => exact ⟨i + 1, _, by omega, by go_num, rfl, Hnew.out, Hsz.out.1, fun _ => Hsz.out.2, by first | rfl | trivial⟩
                case measure => simp [intOf]; omega
              · have hie : i = D.size := by omega
                have hiD' : ¬ (i : Int) < D.size := by omega
                have Hro := Lib.hid (HDd.out t Y (by have := HY.out; rw [hie, HVal.out] at this; exact this) (by omega) (HY0.out (by omega)) (by omega))
                have hYl : Y.size ≤ 4000 := by omega
                clear hie hYs
                go_wp2_with fail
                refine (aread_any _ _ (HT.out.below Hb4.out)).mono ?_
                rw [Hro.out.2 (by omega)]
                rintro e w5 ⟨rfl, hb5⟩
                have Hit5 := Lib.hid (iter_keep Hit4.out hb5)
                have Hb5 : Hid (Below w.heap.size w w5) := Hb4.out.trans (hb5.mono Hb4.out.size)
                clear hb5
                go_wp2
                go_roundw
                case rel => exact ⟨p', by omega, Hit5.out, Hb5.out⟩
                case measure => have e1 : w5.iterPos w3.heap.size = p' := by unfold World.iterPos; rw [Hit5.out]
                                rw [e1, Hpos.out]; omega

end Go.Proofs.YtmknbfpkpimlnaaDoor
