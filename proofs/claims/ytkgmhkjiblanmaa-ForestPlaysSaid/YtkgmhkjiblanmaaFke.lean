/-
  The walk of Book.Apart (package sorrelref02) over two rows of ints.
-/
import Derived.Test.YtkgmhkjiblanmaaFkd
namespace Go.Proofs.Ytkgmhkjiblanmaa
open Go.RowKit

set_option maxRecDepth 100000 in
set_option maxHeartbeats 800000 in
theorem apartNodes_nil (w : World) : Calls Try.prog 26 #[.slice none 0 0] w fun e w' => e = .returned (.bool true) ∧ w = w' := by
  go_enter Try.func26, Try.ntmps26
  go_wp2
  refine wp_loop_rounds 1 ?_
  rw [rounds_succ]
  go_wp2
  refine wp_loop_rounds 1 ?_
  rw [rounds_succ]
  go_wp2
  refine wp_loop_rounds 1 ?_
  rw [rounds_succ]
  go_wp2
  refine wp_loop_rounds 1 ?_
  rw [rounds_succ]
  go_wp2
  go_ret
  exact ⟨rfl, rfl⟩

set_option maxRecDepth 100000 in
set_option maxHeartbeats 800000 in
theorem apartTexts_nil (w : World) : Calls Try.prog 27 #[.slice none 0 0] w fun e w' => e = .returned (.bool true) ∧ w = w' := by
  go_enter Try.func27, Try.ntmps27
  go_wp2
  refine wp_loop_rounds 1 ?_
  rw [rounds_succ]
  go_wp2
  refine wp_loop_rounds 1 ?_
  rw [rounds_succ]
  go_wp2
  refine wp_loop_rounds 1 ?_
  rw [rounds_succ]
  go_wp2
  refine wp_loop_rounds 1 ?_
  rw [rounds_succ]
  go_wp2
  go_ret
  exact ⟨rfl, rfl⟩

set_option maxRecDepth 100000 in
set_option maxHeartbeats 800000 in
theorem apartBinds_nil (w : World) : Calls Try.prog 28 #[.slice none 0 0] w fun e w' => e = .returned (.bool true) ∧ w = w' := by
  go_enter Try.func28, Try.ntmps28
  go_wp2
  refine wp_loop_rounds 1 ?_
  rw [rounds_succ]
  go_wp2
  refine wp_loop_rounds 1 ?_
  rw [rounds_succ]
  go_wp2
  refine wp_loop_rounds 1 ?_
  rw [rounds_succ]
  go_wp2
  refine wp_loop_rounds 1 ?_
  rw [rounds_succ]
  go_wp2
  go_ret
  exact ⟨rfl, rfl⟩

set_option maxRecDepth 100000 in
set_option maxHeartbeats 800000 in
theorem apartClasses_nil (w : World) : Calls Try.prog 29 #[.slice none 0 0] w fun e w' => e = .returned (.bool true) ∧ w = w' := by
  go_enter Try.func29, Try.ntmps29
  go_wp2
  refine wp_loop_rounds 1 ?_
  rw [rounds_succ]
  go_wp2
  refine wp_loop_rounds 1 ?_
  rw [rounds_succ]
  go_wp2
  refine wp_loop_rounds 1 ?_
  rw [rounds_succ]
  go_wp2
  refine wp_loop_rounds 1 ?_
  rw [rounds_succ]
  go_wp2
  go_ret
  exact ⟨rfl, rfl⟩

set_option maxRecDepth 100000 in
set_option maxHeartbeats 800000 in
theorem apartNums_nil (w : World) : Calls Try.prog 30 #[.slice none 0 0] w fun e w' => e = .returned (.bool true) ∧ w = w' := by
  go_enter Try.func30, Try.ntmps30
  go_wp2
  refine wp_loop_rounds 1 ?_
  rw [rounds_succ]
  go_wp2
  refine wp_loop_rounds 1 ?_
  rw [rounds_succ]
  go_wp2
  refine wp_loop_rounds 1 ?_
  rw [rounds_succ]
  go_wp2
  refine wp_loop_rounds 1 ?_
  rw [rounds_succ]
  go_wp2
  go_ret
  exact ⟨rfl, rfl⟩

set_option maxRecDepth 100000 in
set_option maxHeartbeats 800000 in
theorem apart_true (vs : List Value) (lens : List Nat) (cs : List (List Value)) (p bl cap : Nat) (w : World) (hb : Both w vs cs [] []) (hl : cs.map List.length = lens) (hbl : bl < w.heap.size) (hno : ¬ Ours vs bl) (hcells : ∀ i, i < lens.length → w.cell? ⟨bl, i, none⟩ = vs[i]?)
    (hsum : lens.sum ≤ 1099511627776) (hK : lens.length ≤ 1048576) (hp : w.heap[p]? = some (.cells #[.slice none 0 0, .slice (some ⟨bl, 0, none⟩) lens.length cap, .slice none 0 0, .slice none 0 0, .slice none 0 0, .slice none 0 0] 51 (0, 0))) (hpo : ¬ Ours vs p) :
    Calls Try.prog 17 #[.pointer (some ⟨p, 0, none⟩)] w fun e w' => e = .returned (.bool true) ∧ Fr (Ours vs) w w' := by
  have HI := Lib.hid (apartInts_true vs lens cs bl cap w hb hl hbl hno hcells hsum hK)
  have hpl : p < w.heap.size := (Array.getElem?_eq_some_iff.1 hp).1
  have Hc : Hid (∀ w', Fr (Ours vs) w w' → ∀ i, w'.cell? ⟨p, i, none⟩ = (#[Value.slice none 0 0, .slice (some ⟨bl, 0, none⟩) lens.length cap, .slice none 0 0, .slice none 0 0, .slice none 0 0, .slice none 0 0] : Array Value)[i]?) := fun w' hf i => by
    rw [hf.cell hpl hpo, cell_of_row w p i _ 51 (0, 0) hp]
  have c1 := Hc.out w (Fr.refl _ _) 1
  simp only [List.getElem?_toArray, List.getElem?_cons_zero, List.getElem?_cons_succ] at c1
  clear hb hl hbl hno hcells hsum hK hp hpo
  go_enter Try.func17, Try.ntmps17
  go_wp2_with fail
  refine HI.out.mono ?_
  rintro e w1 ⟨rfl, hfr⟩
  have c0 := Hc.out w1 hfr 0
  have c2 := Hc.out w1 hfr 2
  have c3 := Hc.out w1 hfr 3
  have c4 := Hc.out w1 hfr 4
  have c5 := Hc.out w1 hfr 5
  simp only [List.getElem?_toArray, List.getElem?_cons_zero, List.getElem?_cons_succ] at c0 c2 c3 c4 c5
  have Hfr := Lib.hid hfr
  clear hfr c1
  go_wp2_with (first
    | (go_at_call 26; refine (apartNodes_nil _).mono ?_; rintro e w' ⟨rfl, rfl⟩)
    | (go_at_call 27; refine (apartTexts_nil _).mono ?_; rintro e w' ⟨rfl, rfl⟩)
    | (go_at_call 28; refine (apartBinds_nil _).mono ?_; rintro e w' ⟨rfl, rfl⟩)
    | (go_at_call 29; refine (apartClasses_nil _).mono ?_; rintro e w' ⟨rfl, rfl⟩)
    | (go_at_call 30; refine (apartNums_nil _).mono ?_; rintro e w' ⟨rfl, rfl⟩))
  go_ret
  exact ⟨rfl, Hfr.out⟩

end Go.Proofs.Ytkgmhkjiblanmaa
