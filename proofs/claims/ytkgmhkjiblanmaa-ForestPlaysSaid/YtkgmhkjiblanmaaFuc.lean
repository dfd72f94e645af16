/-
  Path's other answers (package sorrelref09), and the walk of edges (package sorrellaw09).
-/
import Derived.Test.YtkgmhkjiblanmaaFub
import Derived.Test.YtkgmhkjiblanmaaFp
import Derived.StillTailTactics
namespace Go.Proofs.Ytkgmhkjiblanmaa
open Go.RowKit

section
variable {w : World} {base pw n : Nat} {jv : Value} {js : List JN} {es : List Ed} {rt : Nat → Nat}

set_option maxRecDepth 100000 in
set_option maxHeartbeats 800000 in
theorem rpath_none (h : Side w base pw n jv js es rt) {a b : Nat} (ha : a < n) (hb : b < n) (hr : rt a ≠ rt b) : Calls Try.prog 35 #[.pointer (some ⟨pw, 0, none⟩), .int .i64 a, .int .i64 b] w fun e w' =>
    e = .returned (.tuple #[.slice none 0 0, .int .i64 11]) ∧ Below w.heap.size w w' := by
  have H := Lib.hid h
  have Hr := Lib.hid hr
  clear h hr
  go_enter Try.func35, Try.ntmps35
  go_wp2_with fail
  refine (has_in H.out ha).mono ?_
  rintro e w1 ⟨rfl, rfl⟩
  go_wp2_with fail
  refine (has_in H.out hb).mono ?_
  rintro e w1 ⟨rfl, rfl⟩
  go_wp2_with fail
  refine (reach_walk es rt b n base pw _ js w H.out.refs H.out.mat H.out.wood hb H.out.most).mono ?_
  rintro e w1 ⟨rfl, O, f, mk, hs, hO⟩
  obtain ⟨va, hva, hiff⟩ := hs.reach.known ha
  obtain ⟨hcb, _, hgl⟩ := hs.at_ hva
  have hai : (a : Int) < n := by omega
  rw [hO] at hiff
  have hq : (va == 0) = true := by
    have : va = 0 := Decidable.byContradiction fun h0 => Hr.out (hiff.2 h0)
    simp [this]
  have Hb := Lib.hid hs.below
  clear hs hO hva hiff
  go_wp2
  go_ret2
  exact ⟨rfl, Hb.out⟩

set_option maxRecDepth 100000 in
set_option maxHeartbeats 800000 in
theorem rpath_out (h : Side w base pw n jv js es rt) {a b : Int} (hin : (!([a, b].any (out n))) = false) : Calls Try.prog 35 #[.pointer (some ⟨pw, 0, none⟩), .int .i64 a, .int .i64 b] w fun e w' =>
    e = .returned (.tuple #[.slice none 0 0, .int .i64 2]) ∧ w = w' := by
  have H := Lib.hid h
  clear h
  go_enter Try.func35, Try.ntmps35
  by_cases ha : out n a = true
  · go_wp2_with fail
    refine (has_off H.out ha).mono ?_
    rintro e w1 ⟨rfl, rfl⟩
    go_wp2
    go_ret2
    exact ⟨rfl, rfl⟩
  · have hb : out n b = true := by simp [ha] at hin; exact hin
    obtain ⟨x, rfl, hx⟩ := in_one ha
    go_wp2_with fail
    refine (has_in H.out hx).mono ?_
    rintro e w1 ⟨rfl, rfl⟩
    go_wp2_with fail
    refine (has_off H.out hb).mono ?_
    rintro e w1 ⟨rfl, rfl⟩
    go_wp2
    go_ret2
    exact ⟨rfl, rfl⟩
end

theorem numCells_at : ∀ (l : List Ns) (i q : Nat), q < 4 → (numCells l)[i * 4 + q]? = (l[i]?).bind fun s => s.cells[q]?
  | [], i, q, _ => by simp [numCells]
  | s :: l, 0, q, hq => by
    unfold numCells
    rw [List.flatMap_cons, List.getElem?_append_left (by simp [Ns.cells]; omega)]
    simp
  | s :: l, i + 1, q, hq => by
    have := numCells_at l i q hq
    unfold numCells at this ⊢
    rw [List.flatMap_cons, List.getElem?_append_right (by simp [Ns.cells]; omega)]
    have e : (i + 1) * 4 + q - s.cells.length = i * 4 + q := by simp [Ns.cells]; omega
    rw [e, this, List.getElem?_cons_succ]

theorem row_num {w : World} {B g c n : Nat} {l : List Ns} (h : w.ownsRow B 114 4 (.slice (some ⟨g, 0, none⟩) n c) n (numCells l)) (hn : n = l.length) {q : Nat} {s : Ns} (hq : l[q]? = some s) :
    w.cell? ⟨g, q * 4, none⟩ = some (.int .i64 (s.1.fr : Nat)) ∧ w.cell? ⟨g, q * 4 + 1, none⟩ = some (.int .i64 (s.1.dst : Nat)) ∧ w.cell? ⟨g, q * 4 + 2, none⟩ = some (.int .i64 s.2) ∧ w.cell? ⟨g, q * 4 + 3, none⟩ = some (.bool s.1.back) := by
  have hl := (List.getElem?_eq_some_iff.1 hq).1
  refine ⟨?_, ?_, ?_, ?_⟩
  · have := h.cellAt (q * 4 + 0) (by omega)
    rw [numCells_at l q 0 (by decide), hq] at this
    exact this
  · rw [h.cellAt (q * 4 + 1) (by omega), numCells_at l q 1 (by decide), hq]; rfl
  · rw [h.cellAt (q * 4 + 2) (by omega), numCells_at l q 2 (by decide), hq]; rfl
  · rw [h.cellAt (q * 4 + 3) (by omega), numCells_at l q 3 (by decide), hq]; rfl

theorem own_blk {w : World} {B n c : Nat} {e : TypeId} {size : Nat} {A : Option Addr} {xs : List Value} (h : w.ownsRow B e size (.slice A n c) n xs) (hpos : 0 < n) : ∃ g, A = some ⟨g, 0, none⟩ ∧ g < w.heap.size := by
  rcases h.2 with ⟨_, h2⟩ | ⟨g, cap, cur, hv, hb', hg, rest⟩
  · omega
  · cases hv
    exact ⟨g, rfl, (Array.getElem?_eq_some_iff.1 hg).1⟩

theorem own_later {w w' : World} {B n : Nat} {e : TypeId} {size : Nat} {v : Value} {xs : List Value} (h : w.ownsRow B e size v n xs) (hb : Below w.heap.size w w') : w'.ownsRow B e size v n xs := own_far h (Fr.of_below (fun _ => False) hb) (fun _ _ h => h)

set_option maxRecDepth 100000 in
set_option maxHeartbeats 3200000 in
theorem edges_all {w : World} {B1 B2 c1 c2 : Nat} {A1 A2 : Option Addr} {l : List Ns} (h1 : w.ownsRow B1 42 4 (.slice A1 l.length c1) l.length (stepCells (l.map Prod.fst))) (h2 : w.ownsRow B2 114 4 (.slice A2 l.length c2) l.length (numCells l)) (ht : ∀ p ∈ l, ∃ b, Told w b p.1.why p.2 ∧ b < w.heap.size) (hlen : l.length ≤ 1048576) :
    Calls Try.prog 36 #[.slice A1 l.length c1, .slice A2 l.length c2] w fun e w' => e = .returned (.bool true) ∧ Below w.heap.size w w' := by
  have H1 := Lib.hid h1
  have H2 := Lib.hid h2
  have Ht := Lib.hid ht
  clear h1 h2 ht
  go_enter Try.func36, Try.ntmps36
  go_wp2
  go_loopw [5] (fun i wq => ∃ q, q ≤ l.length ∧ i = .int .i64 (q : Nat) ∧ Below w.heap.size w wq) (fun i _ => l.length - (intOf i).toNat)
  case atStart => exact ⟨0, Nat.zero_le _, rfl, Below.refl _ _⟩
  case round =>
    obtain ⟨q, hq, rfl, hb⟩ := hrel
    have Hb := Lib.hid hb
    by_cases hql : q < l.length
    · obtain ⟨p, hp⟩ : ∃ p, l[q]? = some p := ⟨_, List.getElem?_eq_getElem hql⟩
      obtain ⟨g1, rfl, hg1⟩ := own_blk H1.out (by omega)
      obtain ⟨g2, rfl, hg2⟩ := own_blk H2.out (by omega)
      obtain ⟨c11, c12, c13, c14⟩ := row_step (own_later H1.out hb) (by simp) (show (l.map Prod.fst)[q]? = some p.1 by rw [List.getElem?_map, hp]; rfl)
      obtain ⟨c21, c22, c23, c24⟩ := row_num (own_later H2.out hb) rfl hp
      obtain ⟨bt, htold, hbt⟩ := Ht.out p (List.mem_of_getElem? hp)
      have Htold : Hid (Told wr.drew bt p.1.why p.2) := htold.far (hb.block _ hbt)
      have hwhy := htold.one
      obtain ⟨⟨sf, sd, sw, sb⟩, k⟩ := p
      dsimp only at c11 c12 c13 c14 c21 c22 c23 c24 Htold hwhy
      have hqi : ((q : Nat) : Int) < l.length := by omega
      have hsb : (sb != sb) = false := by simp
      have hsf : ((sf : Int) != (sf : Int)) = false := by simp
      have hsd : ((sd : Int) != (sd : Int)) = false := by simp
      clear hp htold hb
      go_wp2
      refine wp_region_still_tail 48 (by kernel_rfl) (by kernel_rfl) ?_
      show wpStill _ _ (World.drew _) _ _ _
      simp only [List.take_succ_cons, List.take_zero, List.drop_succ_cons, List.drop_zero]
      repeat still_step
      refine wpStill_nil ?_
      show wpList _ _ _ _ _ (World.drew _)
      go_wp2_with fail
      refine (told_true bt sw k _ Htold.out).mono ?_
      rintro e w2 ⟨rfl, hb2⟩
      have Hb2 : Hid (Below w.heap.size w w2) := Hb.out.drew.trans (hb2.mono Hb.out.size)
      clear hb2
      go_wp2
      go_roundw
      case rel => exact ⟨q + 1, by omega, by go_num, Hb2.out⟩
      case measure => simp [intOf]; omega
    · have hqe : q = l.length := by omega
      subst hqe
      clear hb
      go_wp2
      go_ret
      exact ⟨rfl, Hb.out⟩

end Go.Proofs.Ytkgmhkjiblanmaa
