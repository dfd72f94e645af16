/-
  The walks of strings.Contains and its callees, at a text of one byte.
-/
import Derived.Test.YthicopkfgefbpaaRows
import Derived.WalkKit
import Derived.WalkSpells
import Derived.WalkLawsBesides
import Derived.Lib.Hide
import Derived.Lib.Bytealg
import Derived.Lib.Strings
import Derived.Shelf.Lay
namespace Go.Proofs.Ythicopkfgefbpaa.Rn
open Go.RowKit Go.Shelf

set_option maxRecDepth 100000 in
set_option maxHeartbeats 400000 in
theorem indexByte_any (s : ByteArray) (c : Int) (w : World) :
    Calls Try.prog 39 #[.string s, .int .u8 c] w fun e w' => e = .returned (.int .i64 (Lib.indexByte s.data.toList c.toNat.toUInt8)) ∧ w = w' := by
  go_enter Try.func39, Try.ntmps39
  go_wp2
  rw [run_callFunc_extern Try.func43 (by kernel_rfl) (by kernel_rfl) (by kernel_rfl) (e := Extern.BytealgIndexByte.indexByte) (by kernel_rfl), Lib.run_indexByteString]
  simp only [Result.andThen]
  rw [Oper.upon_value]
  go_wp2
  go_ret
  exact ⟨rfl, rfl⟩

set_option maxRecDepth 100000 in
set_option maxHeartbeats 400000 in
theorem slIndex_one (s : ByteArray) (c : UInt8) (w : World) :
    Calls Try.prog 38 #[.string s, .string ⟨#[c]⟩] w fun e w' => e = .returned (.int .i64 (Lib.indexByte s.data.toList c)) ∧ w = w' := by
  go_enter Try.func38, Try.ntmps38
  go_wp2_with (go_at_call 39; refine (indexByte_any s _ _).mono ?_; rintro e w' ⟨rfl, rfl⟩)
  · rename_i h
    have hs : s.data.toList = [c] := by
      have h1 : [c] = s.toList := by simpa using h
      rw [Lib.toList_data] at h1
      exact h1.symm
    rw [hs]
    go_ret
    exact ⟨by simp [Lib.indexByte], rfl⟩
  · go_ret
    exact ⟨rfl, rfl⟩

set_option maxRecDepth 100000 in
set_option maxHeartbeats 400000 in
theorem index_one (s : ByteArray) (c : UInt8) (w : World) :
    Calls Try.prog 37 #[.string s, .string ⟨#[c]⟩] w fun e w' => e = .returned (.int .i64 (Lib.indexByte s.data.toList c)) ∧ w = w' := by
  go_enter Try.func37, Try.ntmps37
  go_wp2_with fail
  refine (slIndex_one s c _).mono ?_
  rintro e w' ⟨rfl, rfl⟩
  go_wp2
  go_ret
  exact ⟨rfl, rfl⟩

set_option maxRecDepth 100000 in
set_option maxHeartbeats 400000 in
theorem contains_one (s : ByteArray) (c : UInt8) (w : World) :
    Calls Try.prog 33 #[.string s, .string ⟨#[c]⟩] w fun e w' => e = .returned (.bool (decide (0 ≤ Lib.indexByte s.data.toList c))) ∧ w = w' := by
  go_enter Try.func33, Try.ntmps33
  go_wp2_with fail
  refine (index_one s c _).mono ?_
  rintro e w' ⟨rfl, rfl⟩
  go_wp2
  go_ret
  exact ⟨rfl, rfl⟩

theorem indexByte_mem (c : UInt8) : ∀ l : List UInt8, (decide (0 ≤ Lib.indexByte l c) = true ↔ c ∈ l)
  | [] => by simp [Lib.indexByte]
  | b :: l => by
    have ih := indexByte_mem c l
    have hge : ∀ l : List UInt8, -1 ≤ Lib.indexByte l c := fun l => by
      induction l with
      | nil => simp [Lib.indexByte]
      | cons x l ih => unfold Lib.indexByte; split; · omega
                       · split <;> omega
    unfold Lib.indexByte
    by_cases hb : (b == c) = true
    · rw [if_pos hb]; simp at hb; simp [hb]
    · rw [if_neg hb]
      have hbc : ¬ c = b := fun e => hb (by simp [e])
      rw [List.mem_cons, or_iff_right hbc, ← ih]
      by_cases h1 : (Lib.indexByte l c == -1) = true
      · rw [if_pos h1]; have : Lib.indexByte l c = -1 := by simpa using h1
        simp [this]
      · rw [if_neg h1]
        have h2 : Lib.indexByte l c ≠ -1 := by simpa using h1
        have := hge l
        simp only [decide_eq_true_eq]; omega

end Go.Proofs.Ythicopkfgefbpaa.Rn
