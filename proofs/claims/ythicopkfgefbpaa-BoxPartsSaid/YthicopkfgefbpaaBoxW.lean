/-
  The walk of BoxMusts (package sorrellaw03).
-/
import Derived.Test.YthicopkfgefbpaaBoxV
import Derived.Test.YthicopkfgefbpaaBoxM
import Derived.Test.YthicopkfgefbpaaBoxO
import Derived.Deep.AppendLies
namespace Go.Proofs.Ythicopkfgefbpaa.Box
open Go.RowKit

theorem info37 : (Try.prog.info? 37).map (fun i => (i.zero, i.size, i.bytes)) = some (some .nilIface, 1, 16) := by kernel_rfl

theorem Mem.own {w wr : World} {bs len : Nat} {xs : List Value} (h : Mem w wr bs len xs) (hx : xs.length = len) (hm : len ≤ maxLen) (B : Nat) (hB : B ≤ w.heap.size) : wr.ownsRow B 37 1 (.slice (some ⟨bs, 0, none⟩) len len) len xs :=
  ⟨by omega, .inr ⟨bs, len, xs.toArray, rfl, Nat.le_trans hB h.base, h.row, Nat.le_refl _, hm, by simp [hx], by simp [← hx]⟩⟩

/-- What lies behind each call of the loop: the values' row; nothing old has turned. -/
structure Lies (w wr : World) (g : Nat) (ys : List Value) : Prop where
  below : Below w.heap.size w wr
  lt : g < wr.heap.size
  cell : ∀ i v, ys[i]? = some v → wr.cell? ⟨g, i, none⟩ = some v

theorem Lies.later {w wr wr' : World} {g : Nat} {ys : List Value} (h : Lies w wr g ys) (hb : Below wr.heap.size wr wr') : Lies w wr' g ys :=
  ⟨Keep.trans h.below hb, Nat.lt_of_lt_of_le h.lt hb.size, fun i v hv => (hb.cell (p := ⟨g, i, none⟩) h.lt).trans (h.cell i v hv)⟩

theorem lies_of {w w1 w2 w3 : World} {bs len : Nat} {xs : List Value} {v' : Value} (hb1 : Below w.heap.size w w1) (hm : Mem w1 w2 bs len xs) (hg : (w2.alloc (.cells #[.nilIface] 37)).grownBy w3 (some bs))
    (hown : w3.ownsRow w.heap.size 37 1 v' (len + 1) (xs ++ [.nilIface])) : ∃ g c, v' = .slice (some ⟨g, 0, none⟩) (len + 1) c ∧ Lies w w3 g (xs ++ [.nilIface]) := by
  obtain ⟨g, c, hv, hg0, hlt⟩ := hown.form (by omega)
  refine ⟨g, c, hv, ?_, hlt, fun i u hu => by rw [← hown.cells (g := g) (by rw [hv]; rfl) i u hu]; unfold Addr.add; split <;> simp_all⟩
  have h2 : Below w.heap.size w w2 := hb1.trans (hm.below.mono hb1.size)
  refine (h2.alloc h2.size _).grown hg (by have := h2.size; simp; omega) ?_
  intro k hk
  cases hk
  have := hm.base; have := hb1.size
  omega

/-- The cells that the round reads, behind a call. -/
theorem cells_later {W W' : World} {b g o o2 o3 k : Nat} {x y z v : Value} (h : W.cell? ⟨b, o, none⟩ = some x ∧ W.cell? ⟨b, o2, none⟩ = some y ∧ W.cell? ⟨b, o3, none⟩ = some z ∧ b < W.heap.size ∧ W.cell? ⟨g, k, none⟩ = some v ∧ g < W.heap.size) (hb : Below W.heap.size W W') :
    W'.cell? ⟨b, o, none⟩ = some x ∧ W'.cell? ⟨b, o2, none⟩ = some y ∧ W'.cell? ⟨b, o3, none⟩ = some z ∧ b < W'.heap.size ∧ W'.cell? ⟨g, k, none⟩ = some v ∧ g < W'.heap.size := by
  obtain ⟨h1, h2, h3, h4, h5, h6⟩ := h
  have e1 : ∀ o, W'.cell? ⟨b, o, none⟩ = W.cell? ⟨b, o, none⟩ := fun o => hb.cell (p := ⟨b, o, none⟩) h4
  have e2 : ∀ o, W'.cell? ⟨g, o, none⟩ = W.cell? ⟨g, o, none⟩ := fun o => hb.cell (p := ⟨g, o, none⟩) h6
  have := hb.size
  exact ⟨by rw [e1, h1], by rw [e1, h2], by rw [e1, h3], by omega, by rw [e2, h5], by omega⟩

set_option maxRecDepth 100000 in
set_option maxHeartbeats 800000 in
theorem boxMusts_walk (A : Option Addr) (len cap : Nat) (l : List CellD) (w : World) (hin : CellsIn w A len l) (hreach : len * 64 ≤ 140737488351232) :
    Calls Try.prog 4 #[.slice A len cap] w fun e w' => e = .returned (.bool true) ∧ Below w.heap.size w w' := by
  obtain ⟨i0, hi, hz0, hz1, hz2⟩ := info_parts info37
  have Hlen := Lib.hid hin.len_eq
  have hm : len ≤ maxLen := by unfold maxLen; omega
  go_enter Try.func4, Try.ntmps4
  go_wp2_with fail
  refine (awake03 _).mono ?_
  rintro e w1 ⟨rfl, hb1⟩
  have Hb1 := Lib.hid hb1
  clear hb1
  go_wp2_with fail
  refine (values_any A len cap l _ (hin.later Hb1.out) hreach).mono ?_
  rintro e w2 ⟨bs, xs, rfl, hvals, hmem⟩
  rw [Hlen.out] at hvals hmem ⊢
  have Hvals := Lib.hid hvals
  have Hmem := Lib.hid hmem
  clear hvals hmem
  go_wp2_with (at_builtin; (refine wpList_append_own _ rfl _ _ 32 rfl w.heap.size 37 i0 .nilIface 1 16 Try.underlying32 hi hz0 hz1 hz2 rfl (by decide) _ len xs rfl ?c0 ⟨w2.heap.size, 0, none⟩ 1 1 [.nilIface] rfl rfl ?c1 ?c2 ?c3 ?c4 ?c5 ?_); rotate_right 1; intro v' w3 hown hgrow _)
  case c0 => exact (Hmem.out.own (Hvals.out.len.trans Hlen.out) hm _ Hb1.out.size).alloc _
  case c1 => exact cell_one_new _ _ _
  case c2 => simp [Value.oneCell']
  case c3 => unfold maxLen at hm ⊢; omega
  case c4 => omega
  case c5 => have h1 := Hb1.out.size; have h2 := Hmem.out.below.size; simp; omega
  obtain ⟨g, c, rfl, hlies⟩ := lies_of Hb1.out Hmem.out hgrow hown
  have hpt := hlies.below
  have Hv : Hid (∀ i (h : i < l.length), ValOf l[i] xs i (xs.getD i .nilIface)) := fun i h => Hvals.out.done i h (by have := Hlen.out; omega)
  have Hx := Lib.hid (Hvals.out.len.trans Hlen.out)
  clear hown hgrow Hmem Hb1 hpt Hvals hi hz0 hz1 hz2 i0
  go_loopw [4] (fun i wr => ∃ k : Nat, k ≤ len + 1 ∧ i = .int .i64 k ∧ Lies w wr g (xs ++ [.nilIface])) (fun i _ => len + 1 - (intOf i).toNat)
  case atStart => exact ⟨0, by omega, rfl, hlies⟩
  case round =>
    obtain ⟨k, hk, rfl, hl⟩ := hrel
    clear hlies
    by_cases hlt : k < len + 1
    · have hnn : ∀ W : World, (binOp .neq 20 .nilIface .nilIface).run Try.prog W = .ok (.bool false) W := fun _ => by kernel_rfl
      by_cases hin' : k < len
      · have hkl : k < l.length := by have := Hlen.out; omega
        obtain ⟨b, off, rfl, hb, hat⟩ := (hin.later hl.below).at_ (by omega)
        have hval := Hv.out k hkl
        have hvc : wr.cell? ⟨g, k, none⟩ = some (xs.getD k .nilIface) := hl.cell k _ (by
          rw [List.getElem?_append_left (by have := Hx.out; omega), List.getD_eq_getElem?_getD, List.getElem?_eq_getElem (by have := Hx.out; omega)]; rfl)
        obtain ⟨g0, g1, g2, g3, g4, g5, g6⟩ := hat k hkl
        have hbg := hl.lt
        clear hat g1 g4 g5 g6
        generalize hvv : xs.getD k .nilIface = v at hval hvc
        clear hvv
        generalize l[k] = ck at g0 g2 g3 hval
        obtain ⟨kind, op, n, name, ca, cb, cc⟩ := ck
        dsimp only at g0 g2 g3
        have Hl := Lib.hid hl
        have Hg : Hid (wr.cell? ⟨b, off + k * 7, none⟩ = some (.int .i64 kind) ∧ wr.cell? ⟨b, off + k * 7 + 2, none⟩ = some (.int .i64 n) ∧ wr.cell? ⟨b, off + k * 7 + 3, none⟩ = some (.string name) ∧ b < wr.heap.size ∧ wr.cell? ⟨g, k, none⟩ = some v ∧ g < wr.heap.size) := ⟨g0, g2, g3, hb, hvc, hbg⟩
        have hnlt : ((k : Int) < len) := by omega
        clear hl g0 g2 g3
        by_cases k1 : kind = 1
        · subst k1
          have hv1 : v = .iface 68 (.agg #[.int .i64 n]) := by
            rcases hval with ⟨_, h⟩ | ⟨h, _⟩ | ⟨h, _⟩ | ⟨h, _⟩ | ⟨h, _⟩ | ⟨h, _⟩ | ⟨h, _⟩ | ⟨h, _⟩
            · exact h
            all_goals (dsimp only at h; omega)
          subst hv1
          clear hval
          go_wp2_with fail
          refine (caught_lit n _).mono ?_
          rintro e w4 ⟨rfl, hb4⟩
          have Hl4 := Lib.hid (Hl.out.later hb4)
          have Hg4 := Lib.hid (cells_later Hg.out hb4)
          have hvc := Hg4.out.2.2.2.2.1
          clear hb4 Hl Hg
          go_wp2_with fail
          refine (caught_novar (.iface 68 (.agg #[.int .i64 n])) (.inr ⟨_, _, rfl, by decide⟩) _).mono ?_
          rintro e w5 ⟨m5, s5, b5, rfl, hb5⟩
          have Hl5 := Lib.hid (Hl4.out.later hb5)
          have Hg5 := Lib.hid (cells_later Hg4.out hb5)
          have g0 := Hg5.out.1
          have g2 := Hg5.out.2.1
          have g3 := Hg5.out.2.2.1
          clear hb5 Hl4 Hg4
          go_wp2_with (go_at_call 13; refine (broken_yes b5 _).mono ?_; rintro e w' ⟨rfl, rfl⟩)
          go_roundw
          case rel => exact ⟨k + 1, by omega, by go_num, Hl5.out⟩
          case measure => simp [intOf]; omega
        by_cases k2 : kind = 2
        · subst k2
          have hv1 : v = .iface 70 (.agg #[.string name]) := by
            rcases hval with ⟨h, _⟩ | ⟨_, h⟩ | ⟨h, _⟩ | ⟨h, _⟩ | ⟨h, _⟩ | ⟨h, _⟩ | ⟨h, _⟩ | ⟨h, _⟩
            case inr.inl => exact h
            all_goals (dsimp only at h; omega)
          subst hv1
          clear hval
          go_wp2_with fail
          refine (caught_nolit (.iface 70 (.agg #[.string name])) (.inr ⟨_, _, rfl, by decide⟩) _).mono ?_
          rintro e w4 ⟨m4, s4, b4, rfl, hb4⟩
          have Hl4 := Lib.hid (Hl.out.later hb4)
          have Hg4 := Lib.hid (cells_later Hg.out hb4)
          have hvc := Hg4.out.2.2.2.2.1
          clear hb4 Hl Hg
          go_wp2_with fail
          refine (caught_var name _).mono ?_
          rintro e w5 ⟨rfl, hb5⟩
          have Hl5 := Lib.hid (Hl4.out.later hb5)
          have Hg5 := Lib.hid (cells_later Hg4.out hb5)
          have g0 := Hg5.out.1
          have g2 := Hg5.out.2.1
          have g3 := Hg5.out.2.2.1
          clear hb5 Hl4 Hg4
          go_wp2_with (go_at_call 13; refine (broken_yes b4 _).mono ?_; rintro e w' ⟨rfl, rfl⟩)
          go_roundw
          case rel => exact ⟨k + 1, by omega, by go_num, Hl5.out⟩
          case measure => simp [intOf]; omega
        have n1 : (kind == 1) = false := by simpa using k1
        have n2 : (kind == 2) = false := by simpa using k2
        have hv68 : v = .nilIface ∨ ∃ t u, v = .iface t u ∧ t ≠ 68 := by
          rcases hval with ⟨h, _⟩ | ⟨h, _⟩ | ⟨_, rfl⟩ | ⟨_, rfl⟩ | ⟨_, rfl⟩ | ⟨_, _, rfl⟩ | ⟨_, rfl⟩ | ⟨_, rfl⟩
          case inl => exact absurd h k1
          case inr.inl => exact absurd h k2
          all_goals first | exact .inl rfl | exact .inr ⟨_, _, rfl, by decide⟩
        have hv70 : v = .nilIface ∨ ∃ t u, v = .iface t u ∧ t ≠ 70 := by
          rcases hval with ⟨h, _⟩ | ⟨h, _⟩ | ⟨_, rfl⟩ | ⟨_, rfl⟩ | ⟨_, rfl⟩ | ⟨_, _, rfl⟩ | ⟨_, rfl⟩ | ⟨_, rfl⟩
          case inl => exact absurd h k1
          case inr.inl => exact absurd h k2
          all_goals first | exact .inl rfl | exact .inr ⟨_, _, rfl, by decide⟩
        have Hv68 := Lib.hid hv68
        have Hv70 := Lib.hid hv70
        clear hval hv68 hv70 k1 k2
        go_wp2_with fail
        refine (caught_nolit v Hv68.out _).mono ?_
        rintro e w4 ⟨m4, s4, b4, rfl, hb4⟩
        have Hl4 := Lib.hid (Hl.out.later hb4)
        have Hg4 := Lib.hid (cells_later Hg.out hb4)
        have hvc := Hg4.out.2.2.2.2.1
        clear hb4 Hl Hg
        go_wp2_with fail
        refine (caught_novar v Hv70.out _).mono ?_
        rintro e w5 ⟨m5, s5, b5, rfl, hb5⟩
        have Hl5 := Lib.hid (Hl4.out.later hb5)
        have Hg5 := Lib.hid (cells_later Hg4.out hb5)
        have g0 := Hg5.out.1
        have g2 := Hg5.out.2.1
        have g3 := Hg5.out.2.2.1
        clear hb5 Hl4 Hg4
        go_wp2_with (go_at_call 13; refine (broken_yes _ _).mono ?_; rintro e w' ⟨rfl, rfl⟩)
        go_roundw
        case rel => exact ⟨k + 1, by omega, by go_num, Hl5.out⟩
        case measure => simp [intOf]; omega
      · obtain rfl : len = k := by omega
        have hvc : wr.cell? ⟨g, len, none⟩ = some .nilIface := hl.cell len _ (by rw [List.getElem?_append_right (by have := Hx.out; omega)]; simp [Hx.out])
        have Hl := Lib.hid hl
        clear hl
        go_wp2_with fail
        refine (caught_nolit .nilIface (.inl rfl) _).mono ?_
        rintro e w4 ⟨m4, s4, b4, rfl, hb4⟩
        have Hl4 := Lib.hid (Hl.out.later hb4)
        have hvc := Hl4.out.cell len .nilIface (by rw [List.getElem?_append_right (by have := Hx.out; omega)]; simp [Hx.out])
        clear hb4 Hl
        go_wp2_with fail
        refine (caught_novar .nilIface (.inl rfl) _).mono ?_
        rintro e w5 ⟨m5, s5, b5, rfl, hb5⟩
        have Hl5 := Lib.hid (Hl4.out.later hb5)
        clear hb5 Hl4
        go_wp2_with (go_at_call 13; refine (broken_yes _ _).mono ?_; rintro e w' ⟨rfl, rfl⟩)
        go_roundw
        case rel => exact ⟨len + 1, by omega, by go_num, Hl5.out⟩
        case measure => simp [intOf]
    · go_wp2
      go_ret
      exact ⟨rfl, hl.below⟩

end Go.Proofs.Ythicopkfgefbpaa.Box
