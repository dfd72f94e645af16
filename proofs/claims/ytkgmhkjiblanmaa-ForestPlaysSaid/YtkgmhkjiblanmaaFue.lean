/-
  The walk of step (package sorrellaw09): a call on both forests answers alike.
-/
import Derived.Test.YtkgmhkjiblanmaaFud
import Derived.Test.YtkgmhkjiblanmaaFkg
import Derived.Deep.RegionHeld3
namespace Go.Proofs.Ytkgmhkjiblanmaa
open Go.RowKit

/-- The call's own box. -/
theorem op_box (w : World) (cs : Array Value) : ∀ w', Below (w.alloc (.cells cs 61)).heap.size (w.alloc (.cells cs 61)) w' → ∀ i, w'.cell? ⟨w.heap.size, i, none⟩ = cs[i]? := fun w' hb i =>
  (hb.cell (p := ⟨w.heap.size, i, none⟩) (by simp)).trans (World.cell?_alloc_new _ _ _ _)

theorem op_box' {w w2 w3 : World} {L L' : Lay} {cs : Array Value} (h : ∀ i, w2.cell? ⟨w.heap.size, i, none⟩ = cs[i]?) (hlt : w.heap.size < w2.heap.size) (hL : ¬ L.Has w.heap.size) (hm : Moves w2 w3 L L') : ∀ i, w3.cell? ⟨w.heap.size, i, none⟩ = cs[i]? := fun i =>
  (hm.fr.cell hlt hL).trans (h i)

def Stepped (w0 : World) (p pw : Nat) (e : Ending) (w' : World) : Prop :=
  e = .returned (.bool true) ∧ ∃ L n rt m es jv js, L.p = p ∧ Half w0 w' L n rt m es n rt es pw jv js

set_option maxRecDepth 100000 in
set_option maxHeartbeats 3200000 in
theorem step_join {w0 w : World} {L : Lay} {n : Nat} {rt m : Nat → Nat} {es : List Ed} {pw : Nat} {jv : Value} {js : List JN} (h : Half w0 w L n rt m es n rt es pw jv js) (a b k : Int) :
    Calls Try.prog 20 #[.pointer (some ⟨L.p, 0, none⟩), .pointer (some ⟨pw, 0, none⟩), .agg #[.int .i64 1, .int .i64 a, .int .i64 b, .int .i64 k]] w (Stepped w0 L.p pw) := by
  have Hbox := Lib.hid (op_box w #[.int .i64 1, .int .i64 a, .int .i64 b, .int .i64 k])
  have hb1 : Below w.heap.size w (w.alloc (.cells #[.int .i64 1, .int .i64 a, .int .i64 b, .int .i64 k] 61)) := (Below.refl _ _).alloc (Nat.le_refl _) _
  have HL : Hid (¬ L.Has w.heap.size) := fun hx => by have := h.cur.lt _ hx; omega
  have H := Lib.hid (h.later hb1)
  have hws : w.heap.size < (w.alloc (.cells #[.int .i64 1, .int .i64 a, .int .i64 b, .int .i64 k] 61)).heap.size := by simp
  have Hws := Lib.hid hws
  clear h hb1 hws
  go_enter Try.func20, Try.ntmps20
  go_upto_region 3 with fail
  go_region_with (first
    | (go_at_call 21; refine (reason_told k _).mono ?_; rintro e w2 ⟨v, bt, rfl, ht, hl1, hl2, hb2⟩; replace hb2 := drew_below hb2; have d := Hbox.out w2 hb2; have d1 : w2.cell? ⟨w.heap.size, 1, none⟩ = some (.int .i64 a) := d 1; have d2 : w2.cell? ⟨w.heap.size, 2, none⟩ = some (.int .i64 b) := d 2; have Hd := Lib.hid d; have Ht := Lib.hid ht; have Hl1 := Lib.hid hl1; have Hl2 := Lib.hid hl2; have Hb2 := Lib.hid hb2; clear d ht hl1 hl2 hb2)
    | (go_at_call 14; refine (join_p (H.out.cur.later Hb2.out) a b Ht.out.one).mono ?_; rintro e w3 ⟨rfl, L3, rt3, m3, es3, hp3, hc3, hm3, hor3⟩; have d := op_box' Hd.out (Nat.lt_of_lt_of_le Hws.out Hb2.out.size) HL.out hm3; clear d1 d2; have d1 : w3.cell? ⟨w.heap.size, 1, none⟩ = some (.int .i64 a) := d 1; have d2 : w3.cell? ⟨w.heap.size, 2, none⟩ = some (.int .i64 b) := d 2; have d3 : w3.cell? ⟨w.heap.size, 3, none⟩ = some (.int .i64 k) := d 3; have Hp3 := Lib.hid hp3; have Hc3 := Lib.hid hc3; have Hm3 := Lib.hid hm3; have Hor3 := Lib.hid hor3; clear d hp3 hc3 hm3 hor3))
  all_goals
    go_wp2_with fail
    refine (join_r ((H.out.later Hb2.out).prog Hc3.out Hm3.out).side a b k).mono ?_
    rintro e w4 ⟨rfl, hor4⟩
    obtain ⟨jv', js', hh⟩ := H.out.join Hb2.out Ht.out Hl1.out Hl2.out Hc3.out Hm3.out Hor3.out hor4
    have Hend : Hid (Stepped w0 L.p pw (.returned (.bool true)) w4) := ⟨rfl, L3, n, rt3, m3, es3, jv', js', Hp3.out, hh⟩
    clear hh hor4 Hor3 Hm3 Hc3 Hp3 d1 d2 d3
    have hjb : (joinB n rt a b == joinB n rt a b) = true := by simp
    have hje : (twoE n a b == twoE n a b) = true := by simp
    go_wp2
    go_ret
    exact Hend.out
end Go.Proofs.Ytkgmhkjiblanmaa
