/-
  The walk of ForestPlays (package sorrellaw09).
-/
import Derived.Test.YtkgmhkjiblanmaaFuf
namespace Go.Proofs.Ytkgmhkjiblanmaa
open Go.RowKit

theorem half0 {w1 w2 : World} (hr : Rep w2 (lay0 w1.heap.size) fs0) (hb : Below w1.heap.size w1 w2) :
    ∃ m, Half w1 (w2.alloc (.cells #[.int .i64 0, .slice none 0 0] 58)) (lay0 w1.heap.size) 0 (fun i => i) m [] 0 (fun i => i) [] w2.heap.size (.slice none 0 0) [] := by
  have hc : ∃ m, Cur w1 w2 (lay0 w1.heap.size) 0 (fun i => i) m [] := ⟨_, fs0, rfl, hr, Own.new hb, good0⟩
  obtain ⟨m, hc⟩ := hc
  refine ⟨m, hc.later ((Below.refl _ _).alloc (Nat.le_refl _) _), ⟨⟨heap_alloc_new _ _, World.ownsRow_nil _ _ _ _, hb.size⟩, ⟨rfl, fun i e j he => by simp at he⟩, .nil, by decide⟩, fun i e j he => by simp at he, fun x hx => ?_⟩
  rintro (rfl | h)
  · have := hc.lt _ hx; omega
  · cases h

set_option maxRecDepth 100000 in
set_option maxHeartbeats 3200000 in
theorem forestPlays_walk (A : Option Addr) (cap : Nat) (l : List OpD) (w : World) (hin : OpsIn w A l) (hmax : l.length ≤ 4398046511104) :
    Calls Try.prog 6 #[.slice A l.length cap] w fun e w' => e = .returned (.bool true) ∧ Below w.heap.size w w' := by
  have Hin := Lib.hid hin
  clear hin
  go_enter Try.func6, Try.ntmps6
  go_wp2_with fail
  refine (awake09 _).mono ?_
  rintro e w1 ⟨rfl, hb1⟩
  have Hb1 := Lib.hid hb1
  clear hb1
  go_wp2_with fail
  refine (new_any _).mono ?_
  rintro e w2 ⟨rfl, hr2, hb2⟩
  obtain ⟨m0, hh0⟩ := half0 hr2 hb2
  have H0 := Lib.hid hh0
  clear hr2 hb2 hh0
  go_wp2
  go_loopw [5] (fun v wr => ∃ k : Nat, k ≤ l.length ∧ v = .int .i64 k ∧ ∃ L n rt m es jv js, L.p = w1.heap.size ∧ Half w1 wr L n rt m es n rt es w2.heap.size jv js) (fun v _ => l.length - (intOf v).toNat)
  case atStart => exact ⟨0, Nat.zero_le _, rfl, _, _, _, _, _, _, _, rfl, H0.out⟩
  case round =>
    obtain ⟨k, hk, rfl, L, n, rt, m, es, jv, js, hp, hh⟩ := hrel
    have H := Lib.hid hh
    have Hp := Lib.hid hp
    clear hh hp H0
    have hbw : Below w.heap.size w wr := Hb1.out.trans ((cur_below H.out.cur).mono Hb1.out.size)
    have Hbw := Lib.hid hbw
    by_cases hlt : k < l.length
    · obtain ⟨b, off, rfl, hb, hc⟩ := (Hin.out.later hbw) (by rintro rfl; simp at hlt)
      obtain ⟨c0, c1, c2, c3⟩ := hc k hlt
      have hlt' : ((k : Int) < l.length) := by omega
      clear hc hbw
      generalize l[k] = op at c0 c1 c2 c3
      obtain ⟨kind, a, bb, why⟩ := op
      dsimp only at c0 c1 c2 c3
      go_upto_region 10 with fail
      go_region_with (first
        | (go_at_call 20; rw [← Hp.out]; refine (step_any (H.out.later ((Below.refl _ _).drew)) kind a bb why).mono ?_; rintro e w4 ⟨rfl, L4, n4, rt4, m4, es4, jv4, js4, hp4, hh4⟩; have d0 := hh4.side.refs.cells.1; have Hp4 := Lib.hid (hp4.trans Hp.out); have H4 := Lib.hid hh4; clear hp4 hh4; rw [Hp.out])
        | (go_at_call 10; rw [← Hp4.out]; refine (cur_len H4.out.cur).mono ?_; rintro e w5 ⟨rfl, rfl⟩; rw [Hp4.out]))
      all_goals
        go_wp2
        go_roundw
        case rel => exact ⟨k + 1, by omega, by go_num, _, _, _, _, _, _, _, Hp4.out, H4.out⟩
        case measure => simp [intOf]; omega
    · have hk' : k = l.length := by omega
      subst hk'
      clear hbw
      go_wp2
      go_ret
      exact ⟨rfl, Hbw.out⟩

end Go.Proofs.Ytkgmhkjiblanmaa
