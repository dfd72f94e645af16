/-
  The walk of Named (package rules).
-/
import Derived.Test.YthicopkfgefbpaaRnA
import Derived.Test.YthicopkfgefbpaaRnT
namespace Go.Proofs.Ythicopkfgefbpaa.Rn
open Go.RowKit Go.Shelf Go.Proofs.Ythicopkfgefbpaa.PRulesNames Go.Proofs.YthicopkfgefbpaaW.PrintWords Go.Proofs.YthicopkfgefbpaaW.PrintLast Go.Proofs.YthicopkfgefbpaaW.PrintMore

/-- The table's lines. -/
def lines : List ByteArray := rules_table.f.getD []
theorem lines_f : rules_table.f = some lines := rfl
theorem lines_len : lines.length = 44 := by decide +kernel

/-- Does a text begin with another? -/
def begins (s p : ByteArray) : Bool := p.data.toList.isPrefixOf s.data.toList

theorem begins_f (s p : ByteArray) : strings_HasPrefix.f s p = some (begins s p) := by
  unfold strings_HasPrefix.f stringslite_HasPrefix.f begins
  by_cases h : (s.size : Int) ≥ (p.size : Int)
  · rw [if_pos h, if_pos (by omega), if_pos (by omega)]
    show some _ = some _
    congr 1
    rw [Lib.extract_toList, Lib.toList_data, Bool.eq_iff_iff, List.isPrefixOf_iff_prefix]
    simp only [List.drop_zero, Nat.sub_zero, Int.toNat_natCast, beq_iff_eq]
    rw [Lib.size_eq p]
    constructor
    · intro e; rw [← e]; exact List.take_prefix _ _
    · intro e; exact (List.prefix_iff_eq_take.1 e).symm
  · rw [if_neg h]
    show some _ = some _
    congr 1
    symm
    rw [← Bool.not_eq_true, List.isPrefixOf_iff_prefix]
    intro e
    have := e.length_le
    rw [← Lib.size_eq, ← Lib.size_eq] at this
    omega

/-- A line of the table is the rule's of that name. -/
def hit (line name : ByteArray) : Bool := begins line (name ++ ⟨#[59]⟩) && !decide (0 ≤ Lib.indexByte name.data.toList 59)

/-- What Named answers, the lines from the i-th on. -/
def named (name : ByteArray) : List ByteArray → Nat → Int × Int
  | [], _ => (0, 7)
  | x :: l, i => if hit x name then (i, 0) else named name l (i + 1)

set_option maxRecDepth 100000 in
set_option maxHeartbeats 800000 in
theorem named_any (name : ByteArray) (hns : name.size ≤ 140737488355328) (w : World) :
    Calls Try.prog 22 #[.string name] w fun e w' => e = .returned (.tuple #[.int .i64 (named name lines 0).1, .int .i64 (named name lines 0).2]) ∧ Below w.heap.size w w' := by
  go_enter Try.func22, Try.ntmps22
  go_wp2_with fail
  refine (rules_table.calls lines _ lines_f).mono ?_
  rintro e w1 ⟨v0, rfl, hR, hb1⟩
  obtain ⟨A, c, rfl⟩ := Kd.R_slice hR
  have hC := (Kd.R_reads' hR).2.2
  have HC := Lib.hid hC
  have Hb1 := Lib.hid hb1
  clear hR hC hb1
  have hcat : ¬ (9223372036854775807 < name.size + 1) := by omega
  clear hns
  have Hend : Hid (named name lines 0 = named name (lines.drop 0) 0) := rfl
  rw [lines_len]
  go_wp2
  go_loopw [8] (fun v wr => ∃ k : Nat, k ≤ 44 ∧ v = .int .i64 k ∧ named name lines 0 = named name (lines.drop k) k ∧ Below w1.heap.size w1 wr) (fun v _ => 44 - (intOf v).toNat)
  case atStart => exact ⟨0, by omega, rfl, Hend.out, Below.refl _ _⟩
  case round =>
    obtain ⟨k, hk, rfl, hn, hb⟩ := hrel
    have Hn := Lib.hid hn
    have Hb := Lib.hid hb
    clear hn hb Hend
    by_cases hlt : k < 44
    · have hki : ((k : Nat) : Int) < 44 := by omega
      have hkl : k < lines.length := by rw [lines_len]; exact hlt
      obtain ⟨ad, rfl, hc⟩ := Kd.at_string HC.out (k : Int) (by omega) (by omega)
      have hc' := (Hb.out.cell (World.block_lt_of_cell? w1 _ hc)).trans hc
      rw [Int.toNat_natCast] at hc'
      have hrd : rdOf ByteArray.empty lines (k : Int) = lines[k] := by
        simp [rdOf, hkl]
      rw [hrd] at hc'
      have hd : Hid (lines.drop k = lines[k] :: lines.drop (k + 1)) := List.drop_eq_getElem_cons hkl
      clear hc hrd
      generalize lines[k] = line at hc' hd
      have hstep : named name lines 0 = if hit line name then ((k : Int), 0) else named name (lines.drop (k + 1)) (k + 1) := by rw [Hn.out, hd.out]; rfl
      have Hstep := Lib.hid hstep
      clear hstep hd Hn
      go_wp2_with fail
      refine (strings_HasPrefix.calls line (name ++ ⟨#[59]⟩) (begins line (name ++ ⟨#[59]⟩)) _ (begins_f _ _)).mono ?_
      rintro e w2 ⟨rfl, ⟨⟨d, rfl⟩⟩⟩
      cases hb1 : begins line (name ++ ⟨#[59]⟩)
      · have Hno : Hid (hit line name = false) := by rw [Hid, hit, hb1]; rfl
        clear hb1
        go_wp2
        go_roundw
        case rel => exact ⟨k + 1, by omega, by go_num, by rw [Hstep.out, if_neg (by rw [Hno.out]; decide)], Hb.out.trans ⟨rfl, rfl, rfl, Nat.le_refl _, fun _ _ => rfl⟩⟩
        case measure => simp [intOf]; omega
      · have Hhit : Hid (hit line name = !decide (0 ≤ Lib.indexByte name.data.toList 59)) := by rw [Hid, hit, hb1]; rfl
        clear hb1
        go_wp2_with fail
        refine (contains_one name 59 _).mono ?_
        rintro e w3 ⟨rfl, rfl⟩
        have HB : Hid (Below w1.heap.size w1 (wr.drewN d)) := Hb.out.trans ⟨rfl, rfl, rfl, Nat.le_refl _, fun _ _ => rfl⟩
        cases hi : decide (0 ≤ Lib.indexByte name.data.toList 59)
        · have Hyes : Hid (hit line name = true) := by rw [Hid, Hhit.out, hi]; rfl
          clear hi
          go_wp2
          go_ret2
          exact ⟨by rw [Hstep.out, if_pos Hyes.out]; rfl, Hb1.out.trans (HB.out.mono Hb1.out.size)⟩
        · have Hno : Hid (hit line name = false) := by rw [Hid, Hhit.out, hi]; rfl
          clear hi
          go_wp2
          go_roundw
          case rel => exact ⟨k + 1, by omega, by go_num, by rw [Hstep.out, if_neg (by rw [Hno.out]; decide)], HB.out⟩
          case measure => simp [intOf]; omega
    · have hk' : k = 44 := by omega
      subst hk'
      have hz : named name lines 0 = (0, 7) := by
        rw [Hn.out, List.drop_of_length_le (by rw [lines_len]; exact Nat.le_refl _)]; rfl
      have Hz := Lib.hid hz
      have HB := Lib.hid (Hb1.out.trans (Hb.out.mono Hb1.out.size))
      clear hz
      go_wp2
      go_ret2
      exact ⟨by rw [Hz.out]; rfl, HB.out⟩

end Go.Proofs.Ythicopkfgefbpaa.Rn
