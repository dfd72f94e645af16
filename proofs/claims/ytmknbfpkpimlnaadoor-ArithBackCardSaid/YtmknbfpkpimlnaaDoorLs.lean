/-
  The six tables that the rows of the texts' laws list, as the door lays them; what a walk reads of them.
-/
import Derived.Test.YtmknbfpkpimlnaaDoorLd
import Derived.Test.YtmknbfpkpimlnaaDoorZr
import Derived.Lib.LaidU8
import Derived.Stop.LaidErr
import Derived.Lay
namespace Go.Proofs.YtmknbfpkpimlnaaDoor
open Go.ChangeShapes Go.WideShapes Go.ChangeAt Go.RowKit
set_option linter.unusedVariables false

abbrev laid6 : List (String × DataW Unit) := [("math/bits.deBruijn32tab", Rows.laid_math_bits_deBruijn32tab), ("math/bits.deBruijn64tab", Rows.laid_math_bits_deBruijn64tab), ("internal/strconv.uint64pow10", Rows.laid_internal_strconv_uint64pow10), ("unicode/utf8.acceptRanges", Rows.laid_unicode_utf8_acceptRanges), ("sorrel/runes.zeros", Rows.laid_sorrel_runes_zeros), ("unicode/utf8.first", Rows.laid_unicode_utf8_first)]

theorem u8x : U8Extra Tryd.prog Tryd.lays260_ren := ⟨by kernel_rfl, by kernel_rfl, by kernel_rfl, by kernel_rfl, by kernel_rfl, by kernel_rfl, by kernel_rfl⟩

theorem tabs_of {W : World} (h : laidMet Tryd.prog laid6 W) : Tabs W := by
  have h3 : Lib.VarReads Tryd.prog W "unicode/utf8.first" Lib.firstData := by
    have := Lib.laidMet.reads h (n := "unicode/utf8.first") (d := Rows.laid_unicode_utf8_first) (by simp)
    have e : Rows.laid_unicode_utf8_first = Lib.firstData := by kernel_rfl
    rw [← e]; exact this
  have h4 : Lib.VarReads Tryd.prog W "unicode/utf8.acceptRanges" Lib.acceptData := by
    have := Lib.laidMet.reads h (n := "unicode/utf8.acceptRanges") (d := Rows.laid_unicode_utf8_acceptRanges) (by simp)
    have e : (Rows.laid_unicode_utf8_acceptRanges : DataW Unit) = Lib.acceptData := by kernel_rfl
    rw [← e]; exact this
  have u8 : Lib.Utf8Tabs 1 2 W := utf8Tabs_of_reads Tryd.lays260 u8x h3 h4
  have hp : Lib.TabIs Tryd.prog W "internal/strconv.uint64pow10" .u64 Lib.pow10Tab := by
    have ht := laidMet.tail (laidMet.tail h)
    have e : (Rows.laid_internal_strconv_uint64pow10 : DataW Unit) = Lib.tabData .u64 Lib.pow10Tab := by kernel_rfl
    rw [e] at ht
    exact Lib.tabIs_of_head pow10_global (by kernel_rfl) Tryd.underlying81 Tryd.underlying33 (by kernel_rfl) (by kernel_rfl) ht
  have hg : Tryd.prog.globalNamed "sorrel/runes.zeros" = some 0 := by kernel_rfl
  have hz : Lib.TabIs Tryd.prog W "sorrel/runes.zeros" .i32 [48, 1632, 65296] := by
    have ht := laidMet.tail (laidMet.tail (laidMet.tail (laidMet.tail h)))
    have e : (Rows.laid_sorrel_runes_zeros : DataW Unit) = Lib.tabData .i32 [48, 1632, 65296] := by kernel_rfl
    rw [e] at ht
    exact Lib.tabIs_of_head hg (by kernel_rfl) Tryd.underlying67 Tryd.underlying21 (by kernel_rfl) (by kernel_rfl) ht
  exact ⟨u8, hz.cell hg 0 (by decide), hz.cell hg 1 (by decide), hz.cell hg 2 (by decide), hp⟩

theorem met6 (os : Os) (args : Array Value) : laidMet Tryd.prog laid6 ((World.laidAll Tryd.prog os laid6).forCall (fun _ _ => 0) ⟨#[], args, []⟩).memory :=
  laidMet_laidAll _ (by kernel_rfl) (by kernel_rfl)

end Go.Proofs.YtmknbfpkpimlnaaDoor
