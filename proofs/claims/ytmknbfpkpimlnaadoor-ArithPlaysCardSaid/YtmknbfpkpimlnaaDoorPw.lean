/-
  The walk of ArithPlays (package sorrellaw06).
-/
import Derived.Test.YtmknbfpkpimlnaaDoorTw
import Derived.Test.YtmknbfpkpimlnaaDoorAw
import Derived.Deep.OwnRows
import Derived.Deep.AppendLies
import Derived.BigQuiet
namespace Go.Proofs.YtmknbfpkpimlnaaDoor
open Go.RowKit

theorem info2 : (Tryd.prog.info? 2).map (fun i => (i.zero, i.size, i.bytes)) = some (some (.int .i64 0), 1, 8) := by kernel_rfl


theorem own_empty (w w1 : World) (h : w.heap.size ≤ w1.heap.size) : (w1.alloc (.cells #[] 2)).ownsRow w.heap.size 2 1 (.slice (some ⟨w1.heap.size, 0, none⟩) 0 0) 0 [] :=
  World.ownsRow_made w1 #[] 0 h (by decide) (by rfl)

theorem news_two (W : World) (n : Nat) (hn : n = W.heap.size) : ∀ j u, [Value.int .i64 71, .int .i64 72][j]? = some u → (W.alloc (.cells #[.int .i64 71, .int .i64 72] 2)).cell? ((⟨n, 0, none⟩ : Addr).add j) = some u := by
  subst hn
  exact World.news_of_block (heap_alloc_new W _)

/-- The numbers with 71 and 72 behind them lie in a row of the call's own; nothing old has turned. -/
structure Full (w wr : World) (g : Nat) (xs : List Int) : Prop where
  below : Below w.heap.size w wr
  lt : g < wr.heap.size
  cell : ∀ i v, (xs.map (Value.int .i64) ++ [.int .i64 71, .int .i64 72])[i]? = some v → wr.cell? ⟨g, i, none⟩ = some v

theorem Full.later {w wr wr' : World} {g : Nat} {xs : List Int} (h : Full w wr g xs) (hb : Below wr.heap.size wr wr') : Full w wr' g xs :=
  ⟨Keep.trans h.below hb, Nat.lt_of_lt_of_le h.lt hb.size, fun i v hv => (hb.cell (p := ⟨g, i, none⟩) h.lt).trans (h.cell i v hv)⟩

theorem Full.ints {w wr : World} {g : Nat} {xs : List Int} (h : Full w wr g xs) : Ints wr (some ⟨g, 0, none⟩) xs := fun _ =>
  ⟨g, 0, rfl, h.lt, fun i hi => by rw [Nat.zero_add]; exact h.cell i _ (by rw [List.getElem?_append_left (by simpa using hi)]; simp [hi])⟩

theorem Full.at_ {w wr : World} {g : Nat} {xs : List Int} (h : Full w wr g xs) (i : Nat) (hi : i < xs.length) : wr.cell? ⟨g, i, none⟩ = some (.int .i64 xs[i]) :=
  h.cell i _ (by rw [List.getElem?_append_left (by simpa using hi)]; simp [hi])
theorem Full.at71 {w wr : World} {g : Nat} {xs : List Int} (h : Full w wr g xs) : wr.cell? ⟨g, xs.length, none⟩ = some (.int .i64 71) :=
  h.cell _ _ (by rw [List.getElem?_append_right (by simp)]; simp)
theorem Full.at72 {w wr : World} {g : Nat} {xs : List Int} (h : Full w wr g xs) : wr.cell? ⟨g, xs.length + 1, none⟩ = some (.int .i64 72) :=
  h.cell _ _ (by rw [List.getElem?_append_right (by simp)]; simp)

theorem full_drawn {w wr : World} {g : Nat} {xs : List Int} (h : Full w wr g xs) (n : Nat) : Full w (wr.drewN n) g xs :=
  ⟨⟨h.below.os, h.below.tape, h.below.output, h.below.size, h.below.block⟩, h.lt, h.cell⟩

theorem full_of {w w2 w3 : World} {xs : List Int} {o : Obj} {v v' : Value} {m : Nat} (hb : Below w.heap.size w w2) (hv : ∀ k, v.ownBlock = some k → w.heap.size ≤ k) (hg : (w2.alloc o).grownBy w3 v.ownBlock)
    (hown : w3.ownsRow w.heap.size 2 1 v' m (xs.map (.int .i64) ++ [.int .i64 71, .int .i64 72])) (hm : m = xs.length + 2) : ∃ g c, v' = .slice (some ⟨g, 0, none⟩) (xs.length + 2) c ∧ xs.length + 2 ≤ c ∧ Full w w3 g xs := by
  obtain ⟨g, c, hv', hg0, hlt⟩ := hown.form (by omega)
  have hc : m ≤ c := by
    rcases hown.2 with ⟨h, _⟩ | ⟨_, _, _, h, _, _, hle, _⟩
    · rw [hv'] at h; cases h
    · rw [hv'] at h; cases h; exact hle
  refine ⟨g, c, by rw [hv', hm], by omega, ?_, hlt, fun i u hu => by rw [← hown.cells (g := g) (by rw [hv']; rfl) i u hu]; unfold Addr.add; split <;> simp_all⟩
  exact (hb.alloc hb.size _).grown hg (by have := hb.size; simp; omega) hv

set_option maxRecDepth 100000 in
set_option maxHeartbeats 800000 in
theorem plays_nil (op : Int) (A : Option Addr) (cap : Nat) (w : World) :
    Calls Tryd.prog 5 #[.int .i64 op, .slice A 0 cap] w fun e w' => e = .returned (.bool true) ∧ Below w.heap.size w w' := by
  obtain ⟨i0, hi, hz0, hz1, hz2⟩ := info_parts info2
  rcases A with _ | A
  all_goals
    go_enter Tryd.func5, Tryd.ntmps5
    go_wp2_with fail
    refine (awake06 _).mono ?_
    rintro e w1 ⟨rfl, hb1⟩
    have Hb1 := Lib.hid hb1
    clear hb1
    go_wp2_with (at_builtin; (refine wpList_append_own _ rfl _ _ 29 rfl w.heap.size 2 i0 (.int .i64 0) 1 8 Tryd.underlying29 hi hz0 hz1 hz2 rfl (by decide) _ 0 [] rfl ?c0 ⟨w1.heap.size + 1, 0, none⟩ 2 2 [.int .i64 71, .int .i64 72] rfl rfl ?c1 ?c2 ?c3 ?c4 ?c5 ?_); rotate_right 1; intro v' w3 hown hgrow _; obtain ⟨g, c, rfl, hc, hf⟩ := full_of (xs := []) (Hb1.out.alloc Hb1.out.size _) (by rintro k hk; cases hk; exact Hb1.out.size) hgrow hown rfl; have Hf := Lib.hid hf; clear hown hgrow hf hi hz0 hz1 hz2 i0)
    case c0 => exact (own_empty w w1 Hb1.out.size).alloc _
    case c1 => exact news_two _ _ (by simp)
    case c2 => simp [Value.oneCell']
    case c3 => decide
    case c4 => decide
    case c5 => have h1 := Hb1.out.size; simp; omega
    refine (apply_any op (some ⟨g, 0, none⟩) [] c _ Hf.out.ints).mono ?_
    rintro e w4 ⟨rfl, hb4⟩
    have Hf4 := Lib.hid (Hf.out.later hb4)
    clear hb4 Hf
    go_wp2_with fail
    refine (ref_any op _ [] cap _ (by simp) (fun h => absurd rfl h)).mono ?_
    rintro e w5 ⟨rfl, hb5⟩
    have Hf5 := Lib.hid (Hf4.out.later hb5)
    have h71 := Hf5.out.at71
    have h72 := Hf5.out.at72
    clear hb5 Hf4
    simp only [List.length_nil, Nat.zero_add] at h71 h72 hc
    go_wp2
    refine wp_loop_rounds 1 ?_
    rw [rounds_succ]
    go_wp2
    go_ret
    exact ⟨rfl, Hf5.out.below⟩

/-- The args' cells lie in a row of the call's own. -/
theorem row_of {w w1 w2 : World} {xs : List Int} {v : Value} (hb : Below w.heap.size w w1) (hne : xs ≠ []) (hg : (w1.alloc (.cells #[] 2)).grownBy w2 (some w1.heap.size))
    (hown : w2.ownsRow w.heap.size 2 1 v (0 + xs.length) ([] ++ xs.map (.int .i64))) : ∃ g c, v = .slice (some ⟨g, 0, none⟩) xs.length c ∧ w.heap.size ≤ g ∧ w2.ownsRow w.heap.size 2 1 (.slice (some ⟨g, 0, none⟩) xs.length c) xs.length (xs.map (.int .i64)) ∧ Below w.heap.size w w2 := by
  have hpos : 0 < xs.length := List.length_pos_iff.2 hne
  rw [Nat.zero_add, List.nil_append] at hown
  obtain ⟨g, c, rfl, hg0, hlt⟩ := hown.form (by omega)
  exact ⟨g, c, rfl, by omega, hown, (hb.alloc hb.size _).grown hg (by have := hb.size; simp; omega) (by rintro k hk; cases hk; exact hb.size)⟩

set_option maxRecDepth 100000 in
set_option maxHeartbeats 800000 in
theorem plays_some (op : Int) (b off cap : Nat) (xs : List Int) (w : World) (hi : ∀ x ∈ xs, I64 x) (hne : xs ≠ []) (hb : b < w.heap.size) (hx : ∀ i (h : i < xs.length), w.cell? ⟨b, off + i, none⟩ = some (.int .i64 xs[i])) (hreach : xs.length * 8 ≤ 140737488351232) :
    Calls Tryd.prog 5 #[.int .i64 op, .slice (some ⟨b, off, none⟩) xs.length cap] w fun e w' => e = .returned (.bool true) ∧ Below w.heap.size w w' := by
  obtain ⟨i0, hi0, hz0, hz1, hz2⟩ := info_parts info2
  have hm : xs.length + 2 ≤ maxLen := by unfold maxLen; omega
  have Hx : Hid (∀ w', Below w.heap.size w w' → ∀ i (h : i < xs.length), w'.cell? ⟨b, off + i, none⟩ = some (.int .i64 xs[i])) := fun w' h i hl => (h.cell (p := ⟨b, _, none⟩) hb).trans (hx i hl)
  have HI : Hid (∀ w', Below w.heap.size w w' → Ints w' (some ⟨b, off, none⟩) xs) := fun w' h _ => ⟨b, off, rfl, by have := h.size; omega, Hx.out w' h⟩
  have Hi := Lib.hid hi
  have Hne := Lib.hid hne
  clear hx hb hi hne
  go_enter Tryd.func5, Tryd.ntmps5
  go_wp2_with fail
  refine (awake06 _).mono ?_
  rintro e w1 ⟨rfl, hb1⟩
  have Hb1 := Lib.hid hb1
  clear hb1
  go_wp2_with (at_builtin; first
    | (refine wpList_append_own _ rfl _ _ 29 rfl w.heap.size 2 i0 (.int .i64 0) 1 8 Tryd.underlying29 hi0 hz0 hz1 hz2 rfl (by decide) _ 0 [] rfl ?a0 ⟨b, off, none⟩ xs.length cap (xs.map (.int .i64)) rfl (by simp) ?a1 ?a2 ?a3 ?a4 ?a5 ?_; rotate_right 1; intro v2 w2 hown2 hgrow2 _; obtain ⟨g0, c0, rfl, hg0, hown2, hb2⟩ := row_of Hb1.out Hne.out hgrow2 hown2; have Hg0 := Lib.hid hg0; have Ho2 := Lib.hid hown2; have Hb2 := Lib.hid hb2; clear hown2 hgrow2 hg0 hb2)
    | (refine wpList_append_own _ rfl _ _ 29 rfl w.heap.size 2 i0 (.int .i64 0) 1 8 Tryd.underlying29 hi0 hz0 hz1 hz2 rfl (by decide) _ xs.length (xs.map (.int .i64)) rfl ?b0 ⟨w2.heap.size, 0, none⟩ 2 2 [.int .i64 71, .int .i64 72] rfl rfl ?b1 ?b2 ?b3 ?b4 ?b5 ?_; rotate_right 1; intro v' w3 hown hgrow _; obtain ⟨g, c, rfl, hc, hf⟩ := full_of (v := .slice (some ⟨g0, 0, none⟩) xs.length c0) Hb2.out (by rintro k hk; cases hk; exact Hg0.out) hgrow hown rfl; have Hf := Lib.hid hf; clear hown hgrow hf hi0 hz0 hz1 hz2 i0))
  case a0 => exact own_empty w w1 Hb1.out.size
  case a1 =>
    intro j u hj
    obtain ⟨hj1, rfl⟩ := List.getElem?_eq_some_iff.1 hj
    rw [List.length_map] at hj1
    rw [Addr.add_lit, List.getElem_map]
    exact Hx.out _ (Hb1.out.alloc Hb1.out.size _) j hj1
  case a2 => simp [Value.oneCell']
  case a3 => omega
  case a4 => omega
  case a5 => have h1 := Hb1.out.size; simp; omega
  case b0 => exact Ho2.out.alloc _
  case b1 => exact news_two _ _ rfl
  case b2 => simp [Value.oneCell']
  case b3 => omega
  case b4 => omega
  case b5 => have h1 := Hb2.out.size; simp; omega
  clear hown2 Ho2 Hg0 Hb2 Hne hm
  refine (apply_any op (some ⟨g, 0, none⟩) xs c _ Hf.out.ints).mono ?_
  rintro e w4 ⟨rfl, hb4⟩
  have Hf4 := Lib.hid (Hf.out.later hb4)
  clear hb4 Hf
  go_wp2_with fail
  refine (ref_any op _ xs cap _ Hi.out (HI.out _ Hf4.out.below)).mono ?_
  rintro e w5 ⟨rfl, hb5⟩
  have Hf5 := Lib.hid (Hf4.out.later hb5)
  clear hb5 Hf4 HI Hi
  go_wp2
  go_loopw [10] (fun i wr => ∃ k : Nat, k ≤ xs.length ∧ i = .int .i64 k ∧ Full w wr g xs) (fun i _ => xs.length - (intOf i).toNat)
  case atStart => exact ⟨0, by omega, rfl, Hf5.out⟩
  case round =>
    obtain ⟨k, hk, rfl, hf⟩ := hrel
    have Hf := Lib.hid hf
    clear Hf5 hf
    by_cases hlt : k < xs.length
    · have hlt' : ((k : Int) < xs.length) := by omega
      have hlt2 : ((k : Int) < xs.length + 2) := by omega
      have h1 := Hx.out _ Hf.out.below k hlt
      have h2 := Hf.out.at_ k hlt
      generalize xs[k] = x at h1 h2
      clear hk
      go_wp2
      go_quiet (fail)
      go_wp2
      go_roundw
      case rel => exact ⟨k + 1, by omega, by go_num, full_drawn Hf.out _⟩
      case measure => simp [intOf]; omega
    · have hk' : k = xs.length := by omega
      subst hk'
      have h71 := Hf.out.at71
      have h72 := Hf.out.at72
      clear hk
      go_wp2
      go_ret
      exact ⟨rfl, Hf.out.below⟩

theorem arithPlays_walk (op : Int) (A : Option Addr) (xs : List Int) (cap : Nat) (w : World) (hi : ∀ x ∈ xs, I64 x) (hx : Ints w A xs) (hreach : xs.length * 8 ≤ 140737488351232) :
    Calls Tryd.prog 5 #[.int .i64 op, .slice A xs.length cap] w fun e w' => e = .returned (.bool true) ∧ Below w.heap.size w w' := by
  by_cases hne : xs = []
  · subst hne; exact plays_nil op A cap w
  · obtain ⟨b, off, rfl, hb, hc⟩ := hx hne
    exact plays_some op b off cap xs w hi hne hb hc hreach

end Go.Proofs.YtmknbfpkpimlnaaDoor
