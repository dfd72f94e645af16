/-
  The walks of awake and of ForestNil (package sorrellaw09); what a nil forest answers.
-/
import Derived.Test.YtkgmhkjiblanmaaFe
namespace Go.Proofs.Ytkgmhkjiblanmaa
open Go.RowKit

/-- A forest of the call's own: nothing that was there has turned. -/
structure Own (w0 w : World) (L : Lay) : Prop where
  below : Below w0.heap.size w0 w
  mine : ∀ b, L.Has b → w0.heap.size ≤ b

theorem Own.moves {w0 w w' : World} {L L' : Lay} (h : Own w0 w L) (k : Moves w w' L L') : Own w0 w' L' :=
  ⟨h.below.trans (k.fr.below h.mine h.below.size), fun b hb => by
    rcases k.own b hb with h1 | h1
    · exact h.mine b h1
    · exact Nat.le_trans h.below.size h1⟩

theorem Own.new {w w1 : World} (h : Below w.heap.size w w1) : Own w w1 (lay0 w.heap.size) :=
  ⟨h, fun b ⟨s, hs⟩ => by
    rcases s with _ | _ | _ | _ | s
    · cases hs; exact Nat.le_refl _
    all_goals simp [Lay.slot, lay0, Value.ownBlock] at hs⟩

theorem even0 : Even fs0 := ⟨rfl, rfl, by decide⟩

theorem tree2 : Tree [0, 1] (fun i => i) (fun _ => 0) := by
  refine ⟨?_, ?_, ?_, ?_⟩
  all_goals
    intro i hi
    have : i = 0 ∨ i = 1 := by simp at hi; omega
    rcases this with rfl | rfl <;> simp

theorem len_rep (L : Lay) (F : FS) (w : World) (h : Rep w L F) : Calls Try.prog 10 #[.pointer (some ⟨L.p, 0, none⟩)] w fun e w' => e = .returned (.int .i64 F.up.length) ∧ w = w' := by
  obtain ⟨A, c, hv⟩ := own_form h.up
  exact len_any L.p F.up.length c A w (by rw [← hv]; exact h.cells.1)

set_option maxRecDepth 100000 in
set_option maxHeartbeats 400000 in
theorem awake09 (w : World) : Calls Try.prog 9 #[] w fun e w' => e = .returned (.bool true) ∧ Below w.heap.size w w' := by
  go_enter Try.func9, Try.ntmps9
  go_wp2_with fail
  refine (new_any _).mono ?_
  rintro e w1 ⟨rfl, hr1, hb1⟩
  have Ho1 := Lib.hid (Own.new hb1)
  have Hr1 := Lib.hid hr1
  clear hr1 hb1
  go_wp2_with fail
  refine (add_any _ _ _ Hr1.out even0 (by decide)).mono ?_
  rintro e w2 ⟨rfl, L2, hr2, hm2⟩
  have hp2 := Lib.hid (show w.heap.size = L2.p from hm2.p.symm)
  have Ho2 := Lib.hid (Ho1.out.moves hm2)
  have Hr2 := Lib.hid hr2
  clear hr2 hm2 Ho1 Hr1
  go_wp2_with fail
  rw [hp2.out]
  refine (add_any _ _ _ Hr2.out (even_add even0 (by decide)) (by decide)).mono ?_
  rintro e w3 ⟨rfl, L3, hr3, hm3⟩
  have hp3 := Lib.hid (show L2.p = L3.p from hm3.p.symm)
  have Ho3 := Lib.hid (Ho2.out.moves hm3)
  have Hr3 := Lib.hid hr3
  clear hr3 hm3 Ho2 Hr2
  rw [hp3.out]
  go_wp2_with fail
  refine (join_new L3 _ (fun i => i) (fun _ => 0) 0 1 .nilIface _ Hr3.out (even_add (even_add even0 (by decide)) (by decide)) tree2 (by decide) (by decide) (by decide) rfl ?_).mono ?_
  · intro k l hk
    rcases k with _ | _ | k <;> simp [fs0] at hk <;> subst hk <;> decide
  rintro e w4 ⟨rfl, L4, F4, x, y, _, hr4, hm4, hl4, _⟩
  have hp4 := Lib.hid (show L3.p = L4.p from hm4.p.symm)
  have Ho4 := Lib.hid (Ho3.out.moves hm4)
  have Hr4 := Lib.hid hr4
  have Hl4 : Hid (F4.up.length = 2) := hl4
  clear hr4 hm4 hl4 Ho3 Hr3
  rw [hp4.out]
  go_wp2_with fail
  refine (len_rep L4 F4 _ Hr4.out).mono ?_
  rw [Hl4.out]
  rintro e w5 ⟨rfl, rfl⟩
  go_wp2
  go_ret
  exact ⟨rfl, Ho4.out.below⟩

set_option maxRecDepth 100000 in
set_option maxHeartbeats 400000 in
theorem add_nil (w : World) : Calls Try.prog 18 #[.pointer none] w fun e w' => e = .returned (.tuple #[.int .i64 0, .int .i64 2]) ∧ w = w' := by
  go_enter Try.func18, Try.ntmps18
  go_wp2
  go_ret2
  exact ⟨rfl, rfl⟩

theorem has_nil2 (w : World) (cs : Array Value) (t : TypeId) (B : Option Addr) (n cap : Nat) : Calls Try.prog 22 #[.pointer none, .slice B n cap] (w.alloc (.cells cs t)) fun e w' => e = .returned (.bool false) ∧ Below w.heap.size w w' :=
  (has_nil B n cap _).mono fun _ _ ⟨he, hb⟩ => by
    have h1 : Below w.heap.size w (w.alloc (.cells cs t)) := (Below.refl _ _).alloc (Nat.le_refl _) _
    exact ⟨he, h1.trans (hb.mono h1.size)⟩

set_option maxRecDepth 100000 in
set_option maxHeartbeats 400000 in
theorem join_nil (a b : Int) (why : Value) (w : World) : Calls Try.prog 14 #[.pointer none, .int .i64 a, .int .i64 b, why] w fun e w' => e = .returned (.tuple #[.bool false, .int .i64 2]) ∧ Below w.heap.size w w' := by
  go_enter Try.func14, Try.ntmps14
  go_wp2_with fail
  refine (has_nil2 w _ _ _ _ _).mono ?_
  rintro e w1 ⟨rfl, hb1⟩
  go_wp2
  go_ret2
  exact ⟨rfl, hb1⟩

set_option maxRecDepth 100000 in
set_option maxHeartbeats 400000 in
theorem same_nil (a b : Int) (w : World) : Calls Try.prog 13 #[.pointer none, .int .i64 a, .int .i64 b] w fun e w' => e = .returned (.tuple #[.bool false, .int .i64 2]) ∧ Below w.heap.size w w' := by
  go_enter Try.func13, Try.ntmps13
  go_wp2_with fail
  refine (has_nil2 w _ _ _ _ _).mono ?_
  rintro e w1 ⟨rfl, hb1⟩
  go_wp2
  go_ret2
  exact ⟨rfl, hb1⟩

set_option maxRecDepth 100000 in
set_option maxHeartbeats 400000 in
theorem group_nil (a : Int) (w : World) : Calls Try.prog 11 #[.pointer none, .int .i64 a] w fun e w' => e = .returned (.tuple #[.slice none 0 0, .int .i64 2]) ∧ Below w.heap.size w w' := by
  go_enter Try.func11, Try.ntmps11
  go_wp2_with fail
  refine (has_nil2 w _ _ _ _ _).mono ?_
  rintro e w1 ⟨rfl, hb1⟩
  go_wp2
  go_ret2
  exact ⟨rfl, hb1⟩

set_option maxRecDepth 100000 in
set_option maxHeartbeats 400000 in
theorem path_nil (a b : Int) (w : World) : Calls Try.prog 15 #[.pointer none, .int .i64 a, .int .i64 b] w fun e w' => e = .returned (.tuple #[.slice none 0 0, .int .i64 2]) ∧ Below w.heap.size w w' := by
  go_enter Try.func15, Try.ntmps15
  go_wp2_with fail
  refine (has_nil2 w _ _ _ _ _).mono ?_
  rintro e w1 ⟨rfl, hb1⟩
  go_wp2
  go_ret2
  exact ⟨rfl, hb1⟩

set_option maxRecDepth 100000 in
set_option maxHeartbeats 400000 in
theorem least_nil (a : Int) (w : World) : Calls Try.prog 12 #[.pointer none, .int .i64 a] w fun e w' => e = .returned (.tuple #[.int .i64 0, .int .i64 2]) ∧ Below w.heap.size w w' := by
  go_enter Try.func12, Try.ntmps12
  go_wp2_with fail
  refine (group_nil a w).mono ?_
  rintro e w1 ⟨rfl, hb1⟩
  go_wp2
  go_ret2
  exact ⟨rfl, hb1⟩

theorem Keep.trans {a b c : World} (h : Below a.heap.size a b) (k : Below b.heap.size b c) : Below a.heap.size a c := h.trans (k.mono h.size)

set_option maxRecDepth 100000 in
set_option maxHeartbeats 800000 in
theorem forestNil_walk (w : World) : Calls Try.prog 7 #[] w fun e w' => e = .returned (.bool true) ∧ Below w.heap.size w w' := by
  go_enter Try.func7, Try.ntmps7
  go_wp2_with fail
  refine (add_nil _).mono ?_
  rintro e w1 ⟨rfl, rfl⟩
  go_wp2_with fail
  refine (join_nil 0 0 _ _).mono ?_
  rintro e w2 ⟨rfl, hb2⟩
  have H2 := Lib.hid hb2
  clear hb2
  go_wp2_with fail
  refine (same_nil 0 0 _).mono ?_
  rintro e w3 ⟨rfl, hb3⟩
  have H3 := Lib.hid (Keep.trans H2.out hb3)
  clear hb3 H2
  go_wp2_with fail
  refine (least_nil 0 _).mono ?_
  rintro e w4 ⟨rfl, hb4⟩
  have H4 := Lib.hid (Keep.trans H3.out hb4)
  clear hb4 H3
  go_wp2_with fail
  refine (group_nil 0 _).mono ?_
  rintro e w5 ⟨rfl, hb5⟩
  have H5 := Lib.hid (Keep.trans H4.out hb5)
  clear hb5 H4
  go_wp2_with fail
  refine (path_nil 0 0 _).mono ?_
  rintro e w6 ⟨rfl, hb6⟩
  have H6 := Lib.hid (Keep.trans H5.out hb6)
  clear hb6 H5
  go_wp2_with fail
  refine (awake09 _).mono ?_
  rintro e w7 ⟨rfl, hb7⟩
  have H7 := Lib.hid (Keep.trans H6.out hb7)
  clear hb7 H6
  go_wp2_with fail
  refine (len_nil _).mono ?_
  rintro e w8 ⟨rfl, rfl⟩
  go_wp2
  go_ret
  exact ⟨rfl, H7.out⟩

end Go.Proofs.Ytkgmhkjiblanmaa
