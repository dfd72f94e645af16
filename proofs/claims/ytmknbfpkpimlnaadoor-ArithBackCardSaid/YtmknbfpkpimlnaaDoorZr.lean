/-
  The tables that the texts' functions read; the walks of zero, Digit (packages runes, sorrelref01).
-/
import Derived.Test.YtmknbfpkpimlnaaDoorDc
import Derived.Test.YtmknbfpkpimlnaaDoorSh
import Derived.Test.YtmknbfpkpimlnaaDoorNum
import Derived.Shelf.Unicode.PredsPay
import Derived.ProofKit
namespace Go.Proofs.YtmknbfpkpimlnaaDoor
open Go.RowKit

structure Tabs (w : World) : Prop where
  u8 : Lib.Utf8Tabs 1 2 w
  z0 : w.cell? ⟨0, 0, none⟩ = some (.int .i32 48)
  z1 : w.cell? ⟨0, 1, none⟩ = some (.int .i32 1632)
  z2 : w.cell? ⟨0, 2, none⟩ = some (.int .i32 65296)
  p10 : Lib.TabIs Tryd.prog w "internal/strconv.uint64pow10" .u64 Lib.pow10Tab

theorem pow10_global : Tryd.prog.globalNamed "internal/strconv.uint64pow10" = some (Tryd.prog.globalNamed "internal/strconv.uint64pow10" |>.getD 0) := by kernel_rfl
theorem Tabs.below {w w' : World} (h : Tabs w) (hb : Below w.heap.size w w') : Tabs w' := by
  have hl : 0 < w.heap.size := World.block_lt_of_cell? w ⟨0, 0, none⟩ h.z0
  have hc : ∀ i, w'.cell? ⟨0, i, none⟩ = w.cell? ⟨0, i, none⟩ := fun i => hb.cell (p := ⟨0, i, none⟩) hl
  exact ⟨Utf8Tabs_below h.u8 hb, (hc 0).trans h.z0, (hc 1).trans h.z1, (hc 2).trans h.z2, TabIs_below pow10_global h.p10 hb⟩

set_option maxRecDepth 100000 in
set_option maxHeartbeats 800000 in
theorem zero_any (r : Int) (w : World) (hT : Tabs w) (hr : -2147483648 ≤ r ∧ r ≤ 2147483647) :
    Calls Tryd.prog 34 #[.int .i32 r] w fun e w' => e = .returned (.tuple #[.int .i32 (scr r), .bool (scr r != 0)]) ∧ w = w' := by
  have z0 := hT.z0
  have z1 := hT.z1
  have z2 := hT.z2
  clear hT
  have x0 : ∀ w : World, (Instr.index 67 (.agg #[.int .i32 48, .int .i32 1632, .int .i32 65296]) (.int .i64 0)).run Tryd.prog w = .ok (.int .i32 48) w := fun _ => by kernel_rfl
  have x1 : ∀ w : World, (Instr.index 67 (.agg #[.int .i32 48, .int .i32 1632, .int .i32 65296]) (.int .i64 1)).run Tryd.prog w = .ok (.int .i32 1632) w := fun _ => by kernel_rfl
  have x2 : ∀ w : World, (Instr.index 67 (.agg #[.int .i32 48, .int .i32 1632, .int .i32 65296]) (.int .i64 2)).run Tryd.prog w = .ok (.int .i32 65296) w := fun _ => by kernel_rfl
  go_enter Tryd.func34, Tryd.ntmps34
  go_wp2
  go_loopw [7] (fun i wr => w = wr ∧ ((i = .int .i64 0) ∨ (i = .int .i64 1 ∧ ¬ (48 ≤ r ∧ r ≤ 57)) ∨ (i = .int .i64 2 ∧ ¬ (48 ≤ r ∧ r ≤ 57) ∧ ¬ (1632 ≤ r ∧ r ≤ 1641)) ∨ (i = .int .i64 3 ∧ ¬ (48 ≤ r ∧ r ≤ 57) ∧ ¬ (1632 ≤ r ∧ r ≤ 1641) ∧ ¬ (65296 ≤ r ∧ r ≤ 65305)))) (fun i _ => 3 - (intOf i).toNat)
  case atStart => exact ⟨rfl, .inl rfl⟩
  case round =>
    obtain ⟨rfl, hor⟩ := hrel
    rcases hor with rfl | ⟨rfl, h1⟩ | ⟨rfl, h1, h2⟩ | ⟨rfl, h1, h2, h3⟩
    · by_cases a1 : (48 : Int) ≤ r
      · by_cases a2 : r ≤ (57 : Int)
        · have H : Hid (scr r = 48) := by unfold Hid scr; rw [if_pos ⟨a1, a2⟩]
          go_wp2
          go_ret2
          exact ⟨by rw [H.out]; rfl, rfl⟩
        · go_wp2
          go_roundw
          case rel => exact ⟨trivial, .inr (.inl ⟨by go_num, by omega⟩)⟩
          case measure => simp [intOf]
      · go_wp2
        go_roundw
        case rel => exact ⟨trivial, .inr (.inl ⟨by go_num, by omega⟩)⟩
        case measure => simp [intOf]
    · by_cases a1 : (1632 : Int) ≤ r
      · by_cases a2 : r ≤ (1641 : Int)
        · have H : Hid (scr r = 1632) := by unfold Hid scr; rw [if_neg h1, if_pos ⟨a1, a2⟩]
          clear h1
          go_wp2
          go_ret2
          exact ⟨by rw [H.out]; rfl, rfl⟩
        · have H1 := Lib.hid h1
          clear h1
          go_wp2
          go_roundw
          case rel => exact ⟨trivial, .inr (.inr (.inl ⟨by go_num, H1.out, by omega⟩))⟩
          case measure => simp [intOf]
      · have H1 := Lib.hid h1
        clear h1
        go_wp2
        go_roundw
        case rel => exact ⟨trivial, .inr (.inr (.inl ⟨by go_num, H1.out, by omega⟩))⟩
        case measure => simp [intOf]
    · by_cases a1 : (65296 : Int) ≤ r
      · by_cases a2 : r ≤ (65305 : Int)
        · have H : Hid (scr r = 65296) := by unfold Hid scr; rw [if_neg h1, if_neg h2, if_pos ⟨a1, a2⟩]
          clear h1 h2
          go_wp2
          go_ret2
          exact ⟨by rw [H.out]; rfl, rfl⟩
        · have H1 := Lib.hid h1
          have H2 := Lib.hid h2
          clear h1 h2
          go_wp2
          go_roundw
          case rel => exact ⟨trivial, .inr (.inr (.inr ⟨by go_num, H1.out, H2.out, by omega⟩))⟩
          case measure => simp [intOf]
      · have H1 := Lib.hid h1
        have H2 := Lib.hid h2
        clear h1 h2
        go_wp2
        go_roundw
        case rel => exact ⟨trivial, .inr (.inr (.inr ⟨by go_num, H1.out, H2.out, by omega⟩))⟩
        case measure => simp [intOf]
    · have H : Hid (scr r = 0) := by unfold Hid scr; rw [if_neg h1, if_neg h2, if_neg h3]
      clear h1 h2 h3
      go_wp2
      go_ret2
      exact ⟨by rw [H.out]; rfl, rfl⟩

/-- The reference's Digit. -/
def digOf (r : Int) : Int := if scr r = 0 then -1 else r - scr r
set_option maxRecDepth 100000 in
set_option maxHeartbeats 800000 in
theorem digit_any (r : Int) (w : World) (hr : -2147483648 ≤ r ∧ r ≤ 2147483647) :
    Calls Tryd.prog 35 #[.int .i32 r] w fun e w' => e = .returned (.tuple #[.int .i64 (digOf r), .int .i32 (scr r)]) ∧ w = w' := by
  rcases scr_cases r with ⟨h, h1, h2⟩ | ⟨h, h1, h2⟩ | ⟨h, h1, h2⟩ | ⟨h, h1, h2, h3⟩
  · have H : Hid (digOf r = r - 48 ∧ scr r = 48) := ⟨by unfold digOf; rw [h, if_neg (by decide)], h⟩
    clear h
    go_enter Tryd.func35, Tryd.ntmps35
    go_wp2
    go_ret2
    exact ⟨by rw [H.out.1, H.out.2]; go_num, rfl⟩
  · have H : Hid (digOf r = r - 1632 ∧ scr r = 1632) := ⟨by unfold digOf; rw [h, if_neg (by decide)], h⟩
    have h3 : ¬ r ≤ 57 := by omega
    clear h
    go_enter Tryd.func35, Tryd.ntmps35
    go_wp2
    go_ret2
    exact ⟨by rw [H.out.1, H.out.2]; go_num, rfl⟩
  · have H : Hid (digOf r = r - 65296 ∧ scr r = 65296) := ⟨by unfold digOf; rw [h, if_neg (by decide)], h⟩
    have h3 : ¬ r ≤ 57 := by omega
    have h4 : ¬ r ≤ 1641 := by omega
    clear h
    go_enter Tryd.func35, Tryd.ntmps35
    go_wp2
    go_ret2
    exact ⟨by rw [H.out.1, H.out.2]; go_num, rfl⟩
  · have H : Hid (digOf r = -1 ∧ scr r = 0) := ⟨by unfold digOf; rw [h, if_pos rfl], h⟩
    have g1 : (decide (48 ≤ r) && decide (r ≤ 57)) = false := by simp; omega
    have g2 : (decide (1632 ≤ r) && decide (r ≤ 1641)) = false := by simp; omega
    have g3 : (decide (65296 ≤ r) && decide (r ≤ 65305)) = false := by simp; omega
    clear h
    go_enter Tryd.func35, Tryd.ntmps35
    go_wp2
    all_goals
      go_ret2
      exact ⟨by rw [H.out.1, H.out.2]; rfl, rfl⟩

end Go.Proofs.YtmknbfpkpimlnaaDoor
