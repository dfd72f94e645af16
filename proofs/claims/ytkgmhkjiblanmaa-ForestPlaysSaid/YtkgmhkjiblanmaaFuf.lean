/-
  The walk of step (package sorrellaw09), the other kinds.
-/
import Derived.Test.YtkgmhkjiblanmaaFue
namespace Go.Proofs.Ytkgmhkjiblanmaa
open Go.RowKit

section
variable {w0 w : World} {L : Lay} {n : Nat} {rt m : Nat → Nat} {es : List Ed} {pw : Nat} {jv : Value} {js : List JN}

theorem op_now (w : World) (cs : Array Value) : ∀ i, (w.alloc (.cells cs 61)).cell? ⟨w.heap.size, i, none⟩ = cs[i]? := fun i => World.cell?_alloc_new _ _ _ _

set_option maxRecDepth 100000 in
set_option maxHeartbeats 1600000 in
theorem step_same (h : Half w0 w L n rt m es n rt es pw jv js) (a b k : Int) :
    Calls Try.prog 20 #[.pointer (some ⟨L.p, 0, none⟩), .pointer (some ⟨pw, 0, none⟩), .agg #[.int .i64 2, .int .i64 a, .int .i64 b, .int .i64 k]] w (Stepped w0 L.p pw) := by
  have hb1 : Below w.heap.size w (w.alloc (.cells #[.int .i64 2, .int .i64 a, .int .i64 b, .int .i64 k] 61)) := (Below.refl _ _).alloc (Nat.le_refl _) _
  have HL : Hid (¬ L.Has w.heap.size) := fun hx => by have := h.cur.lt _ hx; omega
  have H := Lib.hid (h.later hb1)
  have Hws : Hid (w.heap.size < (w.alloc (.cells #[.int .i64 2, .int .i64 a, .int .i64 b, .int .i64 k] 61)).heap.size) := by unfold Hid; simp
  clear h hb1
  go_enter Try.func20, Try.ntmps20
  go_wp2_with fail
  refine (same_p H.out.cur a b).mono ?_
  rintro e w3 ⟨rfl, hc3, hm3⟩
  have d := op_box' (op_now w #[.int .i64 2, .int .i64 a, .int .i64 b, .int .i64 k]) Hws.out HL.out hm3
  have d1 : w3.cell? ⟨w.heap.size, 1, none⟩ = some (.int .i64 a) := d 1
  have d2 : w3.cell? ⟨w.heap.size, 2, none⟩ = some (.int .i64 b) := d 2
  have H3 := Lib.hid (H.out.prog hc3 hm3)
  clear d hc3 hm3 H
  go_wp2_with fail
  refine (same_r H3.out.side a b).mono ?_
  rintro e w4 ⟨rfl, hb4⟩
  have Hend : Hid (Stepped w0 L.p pw (.returned (.bool true)) w4) := ⟨rfl, L, n, rt, m, es, jv, js, rfl, H3.out.later hb4⟩
  have hjb : (sameB n rt a b == sameB n rt a b) = true := by simp
  have hje : (twoE n a b == twoE n a b) = true := by simp
  clear hb4 d1 d2
  go_wp2
  go_ret
  exact Hend.out

set_option maxRecDepth 100000 in
set_option maxHeartbeats 1600000 in
theorem step_least (h : Half w0 w L n rt m es n rt es pw jv js) (a b k : Int) :
    Calls Try.prog 20 #[.pointer (some ⟨L.p, 0, none⟩), .pointer (some ⟨pw, 0, none⟩), .agg #[.int .i64 3, .int .i64 a, .int .i64 b, .int .i64 k]] w (Stepped w0 L.p pw) := by
  have hb1 : Below w.heap.size w (w.alloc (.cells #[.int .i64 3, .int .i64 a, .int .i64 b, .int .i64 k] 61)) := (Below.refl _ _).alloc (Nat.le_refl _) _
  have HL : Hid (¬ L.Has w.heap.size) := fun hx => by have := h.cur.lt _ hx; omega
  have H := Lib.hid (h.later hb1)
  have Hws : Hid (w.heap.size < (w.alloc (.cells #[.int .i64 3, .int .i64 a, .int .i64 b, .int .i64 k] 61)).heap.size) := by unfold Hid; simp
  clear h hb1
  go_enter Try.func20, Try.ntmps20
  go_wp2_with fail
  refine (least_p H.out.cur a).mono ?_
  rintro e w3 ⟨rfl, hc3, hm3⟩
  have d := op_box' (op_now w #[.int .i64 3, .int .i64 a, .int .i64 b, .int .i64 k]) Hws.out HL.out hm3
  have d1 : w3.cell? ⟨w.heap.size, 1, none⟩ = some (.int .i64 a) := d 1
  have H3 := Lib.hid (H.out.prog hc3 hm3)
  clear d hc3 hm3 H
  go_wp2_with fail
  refine (least_r H3.out.side a).mono ?_
  rintro e w4 ⟨rfl, hb4⟩
  have Hend : Hid (Stepped w0 L.p pw (.returned (.bool true)) w4) := ⟨rfl, L, n, rt, m, es, jv, js, rfl, H3.out.later hb4⟩
  have hjb : (leastI n rt a == leastI n rt a) = true := by simp
  have hje : (errOf n a == errOf n a) = true := by simp
  clear hb4 d1
  go_wp2
  go_ret
  exact Hend.out

set_option maxRecDepth 100000 in
set_option maxHeartbeats 1600000 in
theorem step_group (h : Half w0 w L n rt m es n rt es pw jv js) (a b k : Int) :
    Calls Try.prog 20 #[.pointer (some ⟨L.p, 0, none⟩), .pointer (some ⟨pw, 0, none⟩), .agg #[.int .i64 4, .int .i64 a, .int .i64 b, .int .i64 k]] w (Stepped w0 L.p pw) := by
  have hb1 : Below w.heap.size w (w.alloc (.cells #[.int .i64 4, .int .i64 a, .int .i64 b, .int .i64 k] 61)) := (Below.refl _ _).alloc (Nat.le_refl _) _
  have HL : Hid (¬ L.Has w.heap.size) := fun hx => by have := h.cur.lt _ hx; omega
  have H := Lib.hid (h.later hb1)
  have Hws : Hid (w.heap.size < (w.alloc (.cells #[.int .i64 4, .int .i64 a, .int .i64 b, .int .i64 k] 61)).heap.size) := by unfold Hid; simp
  have HqG : Hid (((groupOf n rt a).map fun x : Nat => (x : Int)).length ≤ 1048576) := by unfold Hid; rw [List.length_map]; exact Nat.le_trans (groupOf_le n rt a) h.side.most
  clear h hb1
  go_enter Try.func20, Try.ntmps20
  go_wp2_with fail
  refine (group_all H.out.cur a).mono ?_
  rintro e w3 ⟨A1, c1, rfl, hrow1, hc3, hm3⟩
  have d := op_box' (op_now w #[.int .i64 4, .int .i64 a, .int .i64 b, .int .i64 k]) Hws.out HL.out hm3
  have d1 : w3.cell? ⟨w.heap.size, 1, none⟩ = some (.int .i64 a) := d 1
  have H3 := Lib.hid (H.out.prog hc3 hm3)
  have Hrow1 := Lib.hid hrow1
  clear d hc3 hm3 H hrow1
  go_wp2_with fail
  refine (group_r H3.out.side a).mono ?_
  rintro e w4 ⟨v2, rfl, hrow2, hb4⟩
  have H4 := Lib.hid (H3.out.later hb4)
  have Hrow1' := Lib.hid (own_later Hrow1.out hb4)
  have Hrow2 := Lib.hid hrow2
  obtain ⟨A2, c2, rfl⟩ := row_form hrow2
  clear hb4 d1 Hrow1 H3 hrow2
  go_wp2_with fail
  refine (sameInts_true _ _ _ _ (IntsAt.of_up Hrow1'.out) (IntsAt.of_up Hrow2.out) HqG.out).mono ?_
  rintro e w5 ⟨rfl, hb5⟩
  have Hend : Hid (Stepped w0 L.p pw (.returned (.bool true)) w5) := ⟨rfl, L, n, rt, m, es, jv, js, rfl, H4.out.later hb5⟩
  have hje : (errOf n a == errOf n a) = true := by simp
  clear hb5
  go_wp2
  go_ret
  exact Hend.out

set_option maxRecDepth 100000 in
set_option maxHeartbeats 1600000 in
theorem step_path (h : Half w0 w L n rt m es n rt es pw jv js) (a b k : Int) :
    Calls Try.prog 20 #[.pointer (some ⟨L.p, 0, none⟩), .pointer (some ⟨pw, 0, none⟩), .agg #[.int .i64 5, .int .i64 a, .int .i64 b, .int .i64 k]] w (Stepped w0 L.p pw) := by
  have hb1 : Below w.heap.size w (w.alloc (.cells #[.int .i64 5, .int .i64 a, .int .i64 b, .int .i64 k] 61)) := (Below.refl _ _).alloc (Nat.le_refl _) _
  have HL : Hid (¬ L.Has w.heap.size) := fun hx => by have := h.cur.lt _ hx; omega
  have H := Lib.hid (h.later hb1)
  have Hws : Hid (w.heap.size < (w.alloc (.cells #[.int .i64 5, .int .i64 a, .int .i64 b, .int .i64 k] 61)).heap.size) := by unfold Hid; simp
  clear h hb1
  go_enter Try.func20, Try.ntmps20
  go_wp2_with fail
  refine (path_all H.out.cur H.out.vals a b).mono ?_
  rintro e w3 ⟨A1, c1, l1, e1, rfl, hp1, hrow1, hc3, hm3⟩
  have d := op_box' (op_now w #[.int .i64 5, .int .i64 a, .int .i64 b, .int .i64 k]) Hws.out HL.out hm3
  have d1 : w3.cell? ⟨w.heap.size, 1, none⟩ = some (.int .i64 a) := d 1
  have d2 : w3.cell? ⟨w.heap.size, 2, none⟩ = some (.int .i64 b) := d 2
  have H3 := Lib.hid (H.out.prog hc3 hm3)
  have Hrow1 := Lib.hid hrow1
  have Hp1 := Lib.hid hp1
  clear d hc3 hm3 H hrow1 hp1
  go_wp2_with fail
  refine (path_r H3.out.side a b).mono ?_
  rintro e w4 ⟨A2, c2, l2, e2, rfl, hp2, hg2, hrow2, hb4⟩
  have hw := H3.out.side.wood
  have hl : l1 = l2.map Prod.fst := Hp1.out.one hw hp2
  have he : e1 = e2 := Hp1.out.err hp2
  have hsm : l2.length ≤ 1048576 := by have := hp2.small hw; rw [List.length_map] at this; exact Nat.le_trans this H3.out.side.most
  subst he hl
  have H4 := Lib.hid (H3.out.later hb4)
  have hrow1' := own_later Hrow1.out hb4
  have hgood := H4.out.good hg2
  rw [List.length_map] at hrow1'
  have Hed := Lib.hid (edges_all hrow1' hrow2 hgood hsm)
  clear hb4 d1 d2 Hrow1 H3 hrow2 hrow1' hp2 hg2 hw hsm hgood Hp1
  rw [List.length_map]
  go_wp2_with fail
  refine Hed.out.mono ?_
  rintro e w5 ⟨rfl, hb5⟩
  have Hend : Hid (Stepped w0 L.p pw (.returned (.bool true)) w5) := ⟨rfl, L, n, rt, m, es, jv, js, rfl, H4.out.later hb5⟩
  have hje : (e1 == e1) = true := by simp
  clear hb5 Hed
  go_wp2
  go_ret
  exact Hend.out

set_option maxRecDepth 100000 in
set_option maxHeartbeats 1600000 in
theorem step_add (h : Half w0 w L n rt m es n rt es pw jv js) (kind a b k : Int) (k1 : kind ≠ 1) (k2 : kind ≠ 2) (k3 : kind ≠ 3) (k4 : kind ≠ 4) (k5 : kind ≠ 5) :
    Calls Try.prog 20 #[.pointer (some ⟨L.p, 0, none⟩), .pointer (some ⟨pw, 0, none⟩), .agg #[.int .i64 kind, .int .i64 a, .int .i64 b, .int .i64 k]] w (Stepped w0 L.p pw) := by
  have hb1 : Below w.heap.size w (w.alloc (.cells #[.int .i64 kind, .int .i64 a, .int .i64 b, .int .i64 k] 61)) := (Below.refl _ _).alloc (Nat.le_refl _) _
  have H := Lib.hid (h.later hb1)
  have n1 : (kind == 1) = false := beq_eq_false_iff_ne.2 k1
  have n2 : (kind == 2) = false := beq_eq_false_iff_ne.2 k2
  have n3 : (kind == 3) = false := beq_eq_false_iff_ne.2 k3
  have n4 : (kind == 4) = false := beq_eq_false_iff_ne.2 k4
  have n5 : (kind == 5) = false := beq_eq_false_iff_ne.2 k5
  clear h hb1 k1 k2 k3 k4 k5
  go_enter Try.func20, Try.ntmps20
  go_wp2_with fail
  refine (add_p H.out.cur).mono ?_
  rintro e w3 ⟨rfl, L3, hp3, hc3, hm3⟩
  have Hp3 := Lib.hid hp3
  have Hc3 := Lib.hid hc3
  have Hm3 := Lib.hid hm3
  clear hp3 hc3 hm3
  go_wp2_with fail
  refine (add_r (H.out.prog Hc3.out Hm3.out).side).mono ?_
  rintro e w4 ⟨rfl, hr4, hm4⟩
  have Hend : Hid (Stepped w0 L.p pw (.returned (.bool true)) w4) := ⟨rfl, L3, addN n, rt, m, es, jv, js, Hp3.out, H.out.add Hc3.out Hm3.out hr4 hm4⟩
  have hjb : (addI n == addI n) = true := by simp
  have hje : (addE n == addE n) = true := by simp
  clear hr4 hm4 Hm3 Hc3 Hp3
  go_wp2
  go_ret
  exact Hend.out

theorem step_any (h : Half w0 w L n rt m es n rt es pw jv js) (kind a b k : Int) :
    Calls Try.prog 20 #[.pointer (some ⟨L.p, 0, none⟩), .pointer (some ⟨pw, 0, none⟩), .agg #[.int .i64 kind, .int .i64 a, .int .i64 b, .int .i64 k]] w (Stepped w0 L.p pw) := by
  by_cases k1 : kind = 1
  · subst k1; exact step_join h a b k
  by_cases k2 : kind = 2
  · subst k2; exact step_same h a b k
  by_cases k3 : kind = 3
  · subst k3; exact step_least h a b k
  by_cases k4 : kind = 4
  · subst k4; exact step_group h a b k
  by_cases k5 : kind = 5
  · subst k5; exact step_path h a b k
  exact step_add h kind a b k k1 k2 k3 k4 k5
end

end Go.Proofs.Ytkgmhkjiblanmaa
