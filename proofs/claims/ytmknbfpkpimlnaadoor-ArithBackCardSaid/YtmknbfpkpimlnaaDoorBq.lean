/-
  What the texts of ArithBack read as. Plain laws.
-/
import Derived.Test.YtmknbfpkpimlnaaDoorBk
namespace Go.Proofs.YtmknbfpkpimlnaaDoor
open Go.RowKit

theorem digit_not {x : ByteArray} {t : Int} (ht : t ≠ 0) (h : scr (rn x 0) = t) : minusOf x = false := by
  have h1 := scr_in h ht
  unfold minusOf
  have e1 : (rn x 0 == 45) = false := beq_eq_false_iff_ne.2 (by omega)
  have e2 : (rn x 0 == 8722) = false := beq_eq_false_iff_ne.2 (by omega)
  rw [e1, e2]; simp

theorem bar_front (x : ByteArray) : Lib.hasPrefix (⟨#[226, 136, 146]⟩ ++ x : ByteArray).data.toList [226, 136, 146] = true := by
  rw [append_list, bar_cases]
  exact ⟨x.data.toList, rfl⟩
theorem dash_front (x : ByteArray) : Lib.hasPrefix (⟨#[45]⟩ ++ x : ByteArray).data.toList [45] = true := by
  rw [append_list]
  simp [Lib.hasPrefix, List.isPrefixOf]

theorem read_plain {t : Int} {x : ByteArray} {V : Nat} (h : Digs t x V) (ht : t ≠ 0) (h0 : 0 < x.size) (hsz : x.size ≤ 4096) (hV : V ≤ 9223372036854775807) : readOf x = ((V : Int), 0) := by
  have hf := h.first h0 ⟨#[]⟩
  rw [append_none] at hf
  have hm := digit_not ht hf
  unfold readOf restOf
  rw [if_neg (by omega), hm]
  exact readRest_some (h.reads ht h0) (by unfold topOf; simp; omega)

theorem read_signed {t : Int} {x y : ByteArray} {V : Nat} (h : Digs t x V) (ht : t ≠ 0) (h0 : 0 < x.size) (hsz : (y ++ x).size ≤ 4096) (hV : V ≤ 9223372036854775808) (hm : minusOf (y ++ x) = true) (hw : wd (y ++ x) 0 = y.size) : readOf (y ++ x) = (-(V : Int), 0) := by
  unfold readOf restOf
  rw [if_neg (by omega), hm, if_pos rfl, hw, tail_append]
  have := @readRest_some x true V (h.reads ht h0) (by unfold topOf; simp; omega)
  rw [this]
  rfl
theorem minus_bar (x : ByteArray) : minusOf (⟨#[226, 136, 146]⟩ ++ x) = true := by
  obtain ⟨h0, h1⟩ := (bar_iff _).1 (bar_front x)
  unfold minusOf; rw [decide_eq_true h0, h1]; rfl
theorem minus_dash (x : ByteArray) : minusOf (⟨#[45]⟩ ++ x) = true := by
  obtain ⟨h0, h1⟩ := (dash_iff _).1 (dash_front x)
  unfold minusOf; rw [decide_eq_true h0, h1]; rfl

/-- The digits of a number's text. -/
def digitsOf (n : Int) : ByteArray := bytes (Lib.decDigits n.natAbs)
theorem text_neg {n : Int} (h : n < 0) : textOf n = ⟨#[45]⟩ ++ digitsOf n := by
  unfold textOf digitsOf Lib.itoa
  rw [if_pos h]
  apply ByteArray.ext
  simp [bytes]
theorem text_pos {n : Int} (h : ¬ n < 0) : textOf n = digitsOf n := by
  unfold textOf digitsOf Lib.itoa
  rw [if_neg h]
  have : n.toNat = n.natAbs := by omega
  rw [this]; rfl
theorem digits_size (n : Int) (hn : I64 n) : 0 < (digitsOf n).size ∧ (digitsOf n).size ≤ 20 := by
  unfold digitsOf
  rw [bytes_size, Lib.decDigits_length]
  have h1 := Lib.nDigits_pos n.natAbs
  have h2 := Lib.nDigits_le20 n.natAbs (by unfold I64 at hn; omega)
  omega

theorem read_text (n : Int) (hn : I64 n) : readOf (textOf n) = (n, 0) := by
  obtain ⟨h0, h1⟩ := digits_size n hn
  have hd : Digs 48 (digitsOf n) n.natAbs := digs_dec n.natAbs
  have hn' := hn
  unfold I64 at hn'
  by_cases h : n < 0
  · rw [text_neg h]
    rw [read_signed (t := 48) (V := n.natAbs) hd (by decide) h0 (by rw [ByteArray.size_append]; show 1 + _ ≤ _; omega) (by omega) (minus_dash _) (dash_wd (dash_front _))]
    congr 1; omega
  · rw [text_pos h]
    rw [read_plain (t := 48) (V := n.natAbs) hd (by decide) h0 (by omega) (by omega)]
    congr 1; omega

theorem plus_rn (x : ByteArray) : rn (⟨#[43]⟩ ++ x) 0 = 43 := by
  unfold rn
  rw [Lib.decode_at, get_of, get_of, get_of, get_of, append_list]
  simp [Lib.decodeN]
theorem space_rn : rn ⟨#[32]⟩ 0 = 32 := by decide

theorem read_plus (x : ByteArray) (hsz : x.size ≤ 4000) : readOf (⟨#[43]⟩ ++ x) = (0, 6) := by
  have hs : (⟨#[43]⟩ ++ x : ByteArray).size = 1 + x.size := by rw [ByteArray.size_append]; rfl
  have hm : minusOf (⟨#[43]⟩ ++ x) = false := by unfold minusOf; rw [plus_rn]; simp
  unfold readOf restOf
  rw [if_neg (by omega), hm]
  have hr : reads (⟨#[43]⟩ ++ x) = none := by
    have hsc : script (⟨#[43]⟩ ++ x) = 0 := by
      unfold script
      rw [if_pos (by omega), plus_rn]
      rfl
    unfold reads
    rw [if_pos hsc]
  exact readRest_none hr

theorem read_space (n : Int) (hn : I64 n) : readOf (textOf n ++ ⟨#[32]⟩) = (0, 6) := by
  obtain ⟨h0, h1⟩ := digits_size n hn
  have hd : Digs 48 (digitsOf n) n.natAbs := digs_dec n.natAbs
  have he : reads (digitsOf n ++ ⟨#[32]⟩) = none := Digs.spoil (t := 48) (V := n.natAbs) hd h0 (by decide) (by rw [space_rn]; decide)
  have hs : (digitsOf n ++ ⟨#[32]⟩ : ByteArray).size = (digitsOf n).size + 1 := by rw [ByteArray.size_append]; rfl
  by_cases h : n < 0
  · rw [text_neg h, ByteArray.append_assoc]
    have hw : wd (⟨#[45]⟩ ++ (digitsOf n ++ ⟨#[32]⟩)) 0 = (⟨#[45]⟩ : ByteArray).size := dash_wd (dash_front _)
    unfold readOf restOf
    rw [if_neg (by rw [ByteArray.size_append, hs]; show ¬ 4096 < 1 + _; omega), minus_dash, if_pos rfl, hw, tail_append]
    exact readRest_none he
  · rw [text_pos h]
    have hf := hd.first h0 ⟨#[32]⟩
    have hm : minusOf (digitsOf n ++ ⟨#[32]⟩) = false := digit_not (by decide) hf
    unfold readOf restOf
    rw [if_neg (by omega), hm]
    exact readRest_none he

theorem read_other {t : Int} {x : ByteArray} (n : Int) (hn : I64 n) (h : Digs t x n.natAbs) (ht : t ≠ 0) (h0 : 0 < x.size) (hsz : x.size ≤ 4000) : (n < 0 → readOf (⟨#[226, 136, 146]⟩ ++ x) = (n, 0)) ∧ (¬ n < 0 → readOf x = (n, 0)) := by
  have hn' := hn
  unfold I64 at hn'
  refine ⟨fun hneg => ?_, fun hneg => ?_⟩
  · rw [read_signed h ht h0 (by rw [ByteArray.size_append]; show 3 + _ ≤ _; omega) (by omega) (minus_bar _) (bar_wd (bar_front _))]
    congr 1; omega
  · rw [read_plain h ht h0 (by omega) (by omega)]
    congr 1; omega

end Go.Proofs.YtmknbfpkpimlnaaDoor
