/-
  The walks of the reference's Named and Mask (package sorrelref17).
-/
import Derived.Test.YthicopkfgefbpaaRnD
import Derived.Test.YthicopkfgefbpaaRnB
import Derived.Test.YthicopkfgefbpaaRnC
namespace Go.Proofs.Ythicopkfgefbpaa.Rn
open Go.RowKit

/-- The reference's names. -/
def refNames : List ByteArray := refTable.map fun r => r.headD ByteArray.empty
theorem refNames_len : refNames.length = 44 := by decide +kernel
def refHeads : List (Option Value) := (List.range 44).map fun k => refCells[k * 4]?
theorem refHeads_is : refHeads = refNames.map fun s => some (Value.string s) := by kernel_rfl
theorem ref_cell {k : Nat} (h : k < 44) : refCells[k * 4]? = some (.string (refNames[k]'(by rw [refNames_len]; exact h))) := by
  have h1 : refHeads[k]? = some (refCells[k * 4]?) := by simp [refHeads, h]
  rw [refHeads_is, List.getElem?_map, List.getElem?_eq_getElem (by rw [refNames_len]; exact h)] at h1
  simpa using h1.symm

/-- What the reference's Named answers, the names from the i-th on. -/
def rnamed (name : ByteArray) : List ByteArray → Nat → Int × Int
  | [], _ => (0, 7)
  | x :: l, i => if x.toList == name.toList then (i, 0) else rnamed name l (i + 1)

/-- A line begins with a name that has no semicolon. -/
def good (p : ByteArray × ByteArray) : Bool := (p.2.data.toList ++ [59]).isPrefixOf p.1.data.toList && !p.2.data.toList.contains 59

theorem hit_good {p : ByteArray × ByteArray} (h : good p = true) (name : ByteArray) : hit p.1 name = (p.2.toList == name.toList) := by
  obtain ⟨line, n⟩ := p
  simp only [good, Bool.and_eq_true, List.isPrefixOf_iff_prefix, Bool.not_eq_true', List.contains_eq_mem, decide_eq_false_iff_not] at h
  obtain ⟨⟨rest, hr⟩, hn⟩ := h
  have hb := begins_iff 59 n.data.toList rest name.data.toList hn
  have hr' : line.data.toList = n.data.toList ++ 59 :: rest := by rw [← hr]; simp
  rw [Bool.eq_iff_iff, beq_iff_eq, Lib.toList_data, Lib.toList_data]
  have e : hit line name = true ↔ ((name.data.toList ++ [59]) <+: (n.data.toList ++ 59 :: rest) ∧ (59 : UInt8) ∉ name.data.toList) := by
    unfold hit begins
    rw [Bool.and_eq_true, List.isPrefixOf_iff_prefix, hr', Bool.not_eq_true', ← Bool.not_eq_true, indexByte_mem]
    simp
  rw [e, hb]
  exact ⟨Eq.symm, Eq.symm⟩

theorem named_pairs (name : ByteArray) : ∀ (ps : List (ByteArray × ByteArray)) (i : Nat), (∀ p ∈ ps, good p = true) → named name (ps.map (·.1)) i = rnamed name (ps.map (·.2)) i
  | [], _, _ => rfl
  | p :: ps, i, h => by
    have ih := named_pairs name ps (i + 1) fun q hq => h q (List.mem_cons_of_mem _ hq)
    simp only [List.map_cons, named, rnamed]
    rw [hit_good (h p (List.mem_cons_self ..)), ih]

theorem all_good : (lines.zip refNames).all good = true := by decide +kernel
theorem named_eq (name : ByteArray) : named name lines 0 = rnamed name refNames 0 := by
  have h := named_pairs name (lines.zip refNames) 0 (fun p hp => List.all_eq_true.1 all_good p hp)
  rwa [List.map_fst_zip (by rw [lines_len, refNames_len]; exact Nat.le_refl _), List.map_snd_zip (by rw [lines_len, refNames_len]; exact Nat.le_refl _)] at h

theorem rnamed_bd (name : ByteArray) : ∀ (l : List ByteArray) (i : Nat), 0 ≤ (rnamed name l i).1 ∧ (rnamed name l i).1 ≤ i + l.length ∧ ((rnamed name l i).2 = 0 → (rnamed name l i).1 < i + l.length) ∧ ((rnamed name l i).2 = 0 ∨ (rnamed name l i).2 = 7)
  | [], i => by simp [rnamed]
  | x :: l, i => by
    have ih := rnamed_bd name l (i + 1)
    unfold rnamed
    split
    · simp; omega
    · rw [List.length_cons]; omega

set_option maxRecDepth 100000 in
set_option maxHeartbeats 800000 in
theorem refNamed_any (name : ByteArray) (w : World) : Calls Try.prog 23 #[.string name] w fun e w' => e = .returned (.tuple #[.int .i64 (rnamed name refNames 0).1, .int .i64 (rnamed name refNames 0).2]) ∧ Below w.heap.size w w' := by
  go_enter Try.func23, Try.ntmps23
  go_wp2_with fail
  refine (refTable_any _).mono ?_
  rintro e w1 ⟨rfl, hw1⟩
  have hcell : ∀ k (h : k < 44), w1.cell? ⟨w.heap.size, k * 4, none⟩ = some (.string (refNames[k]'(by rw [refNames_len]; exact h))) := fun k h => by
    rw [hw1, World.cell?_alloc_new]; exact ref_cell h
  have Hcell := Lib.hid hcell
  have Hb : Hid (Below w.heap.size w w1) := by rw [Hid, hw1]; exact (Below.refl _ _).alloc (Nat.le_refl _) _
  clear hcell hw1
  go_wp2
  go_loop [5] (fun i => ∃ k : Nat, k ≤ 44 ∧ i = .int .i64 (k : Nat) ∧ Hid (rnamed name refNames 0 = rnamed name (refNames.drop k) k)) (fun i => 44 - (intOf i).toNat)
  case atStart => exact ⟨0, by omega, rfl, rfl⟩
  case round =>
    obtain ⟨k, hk, rfl, Hn⟩ := hrel
    by_cases hlt : k < 44
    · have hki : ((k : Nat) : Int) < 44 := by omega
      have hc := Hcell.out k hlt
      have hkl : k < refNames.length := by rw [refNames_len]; exact hlt
      have hd : Hid (refNames.drop k = refNames[k] :: refNames.drop (k + 1)) := List.drop_eq_getElem_cons hkl
      have hstep : Hid (rnamed name refNames 0 = if refNames[k].toList == name.toList then ((k : Int), 0) else rnamed name (refNames.drop (k + 1)) (k + 1)) := by rw [Hid, Hn.out, hd.out]; rfl
      clear hd Hn
      generalize refNames[k] = x at hc hstep
      cases hx : (x.toList == name.toList)
      · have Hs : Hid (rnamed name refNames 0 = rnamed name (refNames.drop (k + 1)) (k + 1)) := by rw [Hid, hstep.out, hx]; rfl
        clear hstep
        go_wp2
        go_round
        case rel => exact ⟨k + 1, by omega, by go_num, Hs⟩
        case measure => simp [intOf]; omega
      · have Hs : Hid (rnamed name refNames 0 = ((k : Int), 0)) := by rw [Hid, hstep.out, hx]; rfl
        clear hstep
        go_wp2
        go_ret2
        exact ⟨by rw [Hs.out]; rfl, Hb.out⟩
    · have hke : k = 44 := by omega
      subst hke
      have Hs : Hid (rnamed name refNames 0 = (0, 7)) := by
        rw [Hid, Hn.out, List.drop_of_length_le (by rw [refNames_len]; exact Nat.le_refl _)]; rfl
      go_wp2
      go_ret2
      exact ⟨by rw [Hs.out]; rfl, Hb.out⟩

end Go.Proofs.Ythicopkfgefbpaa.Rn
