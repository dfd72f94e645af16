/-
  The walk of BoxParts (package sorrellaw03).
-/
import Derived.Test.YthicopkfgefbpaaBoxH
import Derived.Test.YthicopkfgefbpaaBoxW
namespace Go.Proofs.Ythicopkfgefbpaa.Box
open Go.RowKit
attribute [local go_sem] y68 y70 y73 y75 y77 y78 y79 n68 n70 n73 n75 n77 n78 n79 e68 e70 e73 e75 e77 e78 e79

theorem lies_start {w w1 w2 : World} {bs len : Nat} {xs : List Value} (hb1 : Below w.heap.size w w1) (hm : Mem w1 w2 bs len xs) : Lies w w2 bs xs :=
  ⟨hb1.trans (hm.below.mono hb1.size), by have := hm.lt; omega, fun i v hv => by rw [cell_row hm.row]; exact hv⟩

theorem kids_le (c : CellD) : (kidsOf c).length ≤ 3 := by
  unfold kidsOf
  split
  · simp
  · split
    · simp
    · split <;> simp

theorem got_in {xs : List Value} {k : Nat} {m : Nat} (h : m < k) : got xs k m = xs.getD m .nilIface := by
  unfold got; rw [if_pos ⟨by omega, by omega⟩]; simp

theorem got_out {xs : List Value} {k : Nat} {m : Int} (h : m < 0 ∨ (k : Int) ≤ m) : got xs k m = .nilIface := by
  unfold got; rw [if_neg (by omega)]

theorem got_iface2 {l : List CellD} {xs : List Value} {n k : Nat} (h : Vals l xs n) (hk : k ≤ n) (hn : n ≤ l.length) (m : Int) : IsIface (got xs k m) := by
  unfold got
  split
  · exact (h.done m.toNat (by omega) (by omega)).iface
  · exact .inl rfl

theorem parts_len (c : CellD) (xs : List Value) (i : Nat) (v : Value) (hv : ValOf c xs i v) (hg : ∀ m, IsIface (got xs i m)) (w : World) :
    Calls Try.prog 15 #[v] w fun e w' => ∃ A cap, e = .returned (.slice A (kidsOf c).length cap) ∧ ListAt w' A ((kidsOf c).map (got xs i)) ∧ Below w.heap.size w w' :=
  (parts_any c xs i v hv hg w).mono fun e w' ⟨A, cap, he, hl, hb⟩ => ⟨A, cap, by rw [he, List.length_map], hl, hb⟩

set_option maxRecDepth 100000 in
set_option maxHeartbeats 400000 in
theorem op_nil (w : World) : Calls Try.prog 16 #[.nilIface] w fun e w' => e = .returned (.int .i64 0) ∧ w = w' := by
  go_enter Try.func16, Try.ntmps16
  go_wp2
  go_ret
  exact ⟨rfl, rfl⟩

set_option maxRecDepth 100000 in
set_option maxHeartbeats 400000 in
theorem parts_nil (w : World) : Calls Try.prog 15 #[.nilIface] w fun e w' => e = .returned (.slice none 0 0) ∧ w = w' := by
  go_enter Try.func15, Try.ntmps15
  go_wp2
  go_ret
  exact ⟨rfl, rfl⟩

set_option maxRecDepth 100000 in
set_option maxHeartbeats 1600000 in
theorem boxParts_walk (A : Option Addr) (len cap : Nat) (l : List CellD) (w : World) (hin : CellsIn w A len l) (hreach : len * 64 ≤ 140737488351232) :
    Calls Try.prog 5 #[.slice A len cap] w fun e w' => e = .returned (.bool true) ∧ Below w.heap.size w w' := by
  have Hlen := Lib.hid hin.len_eq
  have hm : len ≤ maxLen := by unfold maxLen; omega
  go_enter Try.func5, Try.ntmps5
  go_wp2_with fail
  refine (awake03 _).mono ?_
  rintro e w1 ⟨rfl, hb1⟩
  have Hb1 := Lib.hid hb1
  clear hb1
  go_wp2_with fail
  refine (values_any A len cap l _ (hin.later Hb1.out) hreach).mono ?_
  rintro e w2 ⟨bs, xs, rfl, hvals, hmem⟩
  rw [Hlen.out] at hvals hmem ⊢
  have Hl2 := Lib.hid (lies_start Hb1.out hmem)
  have Hvals := Lib.hid hvals
  clear hvals hmem Hb1
  go_wp2_with fail
  go_loopw [4] (fun i wr => ∃ k : Nat, k ≤ len ∧ i = .int .i64 k ∧ Lies w wr bs xs) (fun i _ => len - (intOf i).toNat)
  case atStart => exact ⟨0, by omega, rfl, Hl2.out⟩
  case round =>
    obtain ⟨k, hk, rfl, hl⟩ := hrel
    clear Hl2
    have Hl := Lib.hid hl
    clear hl
    by_cases hlt : k < len
    · have hkl : k < l.length := by have := Hlen.out; omega
      obtain ⟨b, off, rfl, hb, hat⟩ := hin.at_ (by omega)
      have hval := Hvals.out.done k hkl hlt
      have hiface : ∀ m, IsIface (got xs k m) := fun m => got_iface2 Hvals.out (by omega) (by have := Hlen.out; omega) m
      have hvk : ∀ W', Lies w W' bs xs → W'.cell? ⟨bs, k, none⟩ = some (xs.getD k .nilIface) := fun W' hL => hL.cell k _ (by
        rw [List.getD_eq_getElem?_getD, List.getElem?_eq_getElem (by have := Hvals.out.len; omega)]; rfl)
      replace hat := hat k hkl
      have hat' : ∀ W', Below w.heap.size w W' → W'.cell? ⟨b, off + k * 7, none⟩ = some (.int .i64 l[k].kind) ∧ W'.cell? ⟨b, off + k * 7 + 1, none⟩ = some (.int .i64 l[k].op) ∧ W'.cell? ⟨b, off + k * 7 + 2, none⟩ = some (.int .i64 l[k].n) ∧
          W'.cell? ⟨b, off + k * 7 + 3, none⟩ = some (.string l[k].name) ∧ W'.cell? ⟨b, off + k * 7 + 4, none⟩ = some (.int .i64 l[k].a) ∧ W'.cell? ⟨b, off + k * 7 + 5, none⟩ = some (.int .i64 l[k].b) ∧ W'.cell? ⟨b, off + k * 7 + 6, none⟩ = some (.int .i64 l[k].c) := fun W' hB => by
        have he : ∀ o, W'.cell? ⟨b, o, none⟩ = w.cell? ⟨b, o, none⟩ := fun o => hB.cell (p := ⟨b, o, none⟩) hb
        simp only [he]; exact hat
      generalize l[k] = c at hval hat'
      generalize hvv : xs.getD k .nilIface = v at hval hvk
      have Hval := Lib.hid hval
      have Hif := Lib.hid hiface
      have Hvk := Lib.hid hvk
      have Hat := Lib.hid hat'
      clear hval hiface hvk hat hat' hvv
      obtain ⟨g0, g1, g2, g3, g4, g5, g6⟩ := Hat.out _ Hl.out.below
      go_wp2_with fail
      refine (head_any c _).mono ?_
      rintro e w4 ⟨A1, c1, rfl, hl1, hb4⟩
      have Hl4 := Lib.hid (Hl.out.later hb4)
      have HA1 := Lib.hid hl1
      clear hb4 Hl hl1 g0 g1 g2 g3 g4 g5 g6
      have hvc := Hvk.out _ Hl4.out
      go_wp2_with fail
      refine (parts_len c xs k v Hval.out Hif.out _).mono ?_
      rintro e w5 ⟨A2, c2, rfl, hl2, hb5⟩
      have Hl5 := Lib.hid (Hl4.out.later hb5)
      have HA1 := Lib.hid (HA1.out.later hb5)
      have HA2 := Lib.hid hl2
      have hvc := Hvk.out _ Hl5.out
      clear hb5 Hl4 hl2
      go_wp2_with fail
      refine (op_any c xs k v Hval.out Hif.out _).mono ?_
      rintro e w6 ⟨rfl, hb6⟩
      have Hl6 := Lib.hid (Hl5.out.later hb6)
      have HA1 := Lib.hid (HA1.out.later hb6)
      have HA2 := Lib.hid (HA2.out.later hb6)
      clear hb6 Hl5 hvc
      have hK := kids_le c
      generalize kidsOf c = K at HA1 HA2 hK
      generalize opOf c = o
      go_wp2_with fail
      obtain ⟨wo, rfl⟩ : ∃ wo : World, wo = wr := ⟨_, rfl⟩
      go_loopw [8] (fun j wr => ∃ m : Nat, m ≤ K.length ∧ j = .int .i64 m ∧ Lies w wr bs xs ∧ ListAt wr A1 (K.map (.int .i64)) ∧ ListAt wr A2 (K.map (got xs k))) (fun j _ => K.length - (intOf j).toNat)
      case atStart => exact ⟨0, by omega, rfl, Hl6.out, HA1.out, HA2.out⟩
      case round =>
        obtain ⟨m, hm', rfl, hl, ha1, ha2⟩ := hrel
        have Hl := Lib.hid hl
        have HA1 := Lib.hid ha1
        have HA2 := Lib.hid ha2
        clear hl ha1 ha2 Hl6
        by_cases hmk : m < K.length
        · have hne : K ≠ [] := by rintro rfl; simp at hmk
          obtain ⟨x1, rfl, hx1, hc1⟩ := HA1.out (by simpa using hne)
          obtain ⟨x2, rfl, hx2, hc2⟩ := HA2.out (by simpa using hne)
          replace hc1 := hc1 m (.int .i64 K[m]) (by simp [hmk])
          replace hc2 := hc2 m (got xs k K[m]) (by simp [hmk])
          clear hne
          generalize K[m] = q at hc1 hc2
          by_cases hq : q < 0 ∨ (k : Int) ≤ q
          · rw [got_out hq] at hc2
            have hnn : ∀ W : World, (binOp .neq 37 .nilIface .nilIface).run Try.prog W = .ok (.bool false) W := fun _ => by kernel_rfl
            by_cases hq0 : q < 0
            · clear hq
              go_wp2_with fail
              go_roundw
              case rel => exact ⟨m + 1, by omega, by go_num, Hl.out, HA1.out, HA2.out⟩
              case measure => simp [intOf]; omega
            · have hq1 : (k : Int) ≤ q := by omega
              clear hq
              go_wp2_with fail
              go_roundw
              case rel => exact ⟨m + 1, by omega, by go_num, Hl.out, HA1.out, HA2.out⟩
              case measure => simp [intOf]; omega
          · obtain ⟨q, rfl⟩ : ∃ n : Nat, q = (n : Int) := ⟨q.toNat, by omega⟩
            have hqk : q < k := by omega
            rw [got_in hqk] at hc2
            have hvq : wr.cell? ⟨bs, q, none⟩ = some (xs.getD q .nilIface) := Hl.out.cell q _ (by
              rw [List.getD_eq_getElem?_getD, List.getElem?_eq_getElem (by have := Hvals.out.len; omega)]; rfl)
            have hnear := Lib.hid (near_same _ _ _ _ (Hvals.out.done q (by omega) (by omega)) (fun m => got_iface2 Hvals.out (by omega) (by have := Hlen.out; omega) m))
            generalize xs.getD q .nilIface = vq at hc2 hvq hnear
            have hql : q < len := by omega
            have hq0 : ¬ ((q : Int) < 0) := by omega
            have hq1 : ¬ ((k : Int) ≤ (q : Int)) := by omega
            clear hq
            go_wp2_with fail
            refine wp_region_still_tail 11 (by kernel_rfl) (by kernel_rfl) ?_
            show wpStill _ _ (World.drew _) _ _ _
            simp only [List.take_succ_cons, List.take_zero, List.drop_succ_cons, List.drop_zero]
            repeat still_step
            refine wpStill_nil ?_
            show wpList _ _ _ _ _ (World.drew _)
            go_wp2_with fail
            refine (hnear.out _).mono ?_
            rintro e w7 ⟨rfl, hb7⟩
            have hb8 : Below wr.heap.size wr w7 := (Below.refl _ wr).drew.trans hb7
            have Hl7 := Lib.hid (Hl.out.later hb8)
            have HA1 := Lib.hid (HA1.out.later hb8)
            have HA2 := Lib.hid (HA2.out.later hb8)
            clear hb7 hb8 hc1 hc2 hvq
            go_wp2_with fail
            go_roundw
            case rel => exact ⟨m + 1, by omega, by go_num, Hl7.out, HA1.out, HA2.out⟩
            case measure => simp [intOf]; omega
        · have hvc := Hvk.out _ Hl.out
          clear HA1 HA2
          by_cases hc : c.kind = 1
          · have hv1 : v = .iface 68 (.agg #[.int .i64 c.n]) := by
              rcases Hval.out with ⟨_, h⟩ | ⟨h, _⟩ | ⟨h, _⟩ | ⟨h, _⟩ | ⟨h, _⟩ | ⟨h, _⟩ | ⟨h, _⟩ | ⟨h, _⟩
              · exact h
              all_goals omega
            rw [hv1] at hvc
            clear hv1
            have Hc := Lib.hid hc
            clear hc
            go_wp2_with fail
            refine (lit_lit c.n _).mono ?_
            rintro e w7 ⟨rfl, hb7⟩
            have Hl7 := Lib.hid (Hl.out.later hb7)
            clear hb7 Hl hvc
            obtain ⟨g0, -, g2, -, -, -, -⟩ := Hat.out _ Hl7.out.below
            rw [Hc.out] at g0
            go_wp2_with fail
            go_roundw
            case rel => exact ⟨k + 1, by omega, by go_num, Hl7.out⟩
            case measure => simp [intOf]; omega
          · have hv68 : v = .nilIface ∨ ∃ t u, v = .iface t u ∧ t ≠ 68 := by
              rcases Hval.out with ⟨h, _⟩ | ⟨_, rfl⟩ | ⟨_, rfl⟩ | ⟨_, rfl⟩ | ⟨_, rfl⟩ | ⟨_, _, rfl⟩ | ⟨_, rfl⟩ | ⟨_, rfl⟩
              case inl => exact absurd h hc
              all_goals first | exact .inl rfl | exact .inr ⟨_, _, rfl, by decide⟩
            have Hv68 := Lib.hid hv68
            have hc0 : (c.kind == 1) = false := by simpa using hc
            clear hv68 hc
            go_wp2_with fail
            refine (lit_no v Hv68.out _).mono ?_
            rintro e w7 ⟨rfl, hb7⟩
            have Hl7 := Lib.hid (Hl.out.later hb7)
            clear hb7 Hl hvc
            obtain ⟨g0, -, g2, -, -, -, -⟩ := Hat.out _ Hl7.out.below
            go_wp2_with fail
            go_roundw
            case rel => exact ⟨k + 1, by omega, by go_num, Hl7.out⟩
            case measure => simp [intOf]; omega
    · go_wp2_with fail
      refine (lit_no .nilIface (.inl rfl) _).mono ?_
      rintro e w7 ⟨rfl, hb7⟩
      have Hl7 := Lib.hid (Hl.out.later hb7)
      clear hb7 Hl
      go_wp2_with (first | (go_at_call 16; refine (op_nil _).mono ?_; rintro e w8 ⟨rfl, rfl⟩) | (go_at_call 15; refine (parts_nil _).mono ?_; rintro e w9 ⟨rfl, rfl⟩))
      go_ret
      exact ⟨rfl, Hl7.out.below⟩

end Go.Proofs.Ythicopkfgefbpaa.Box
