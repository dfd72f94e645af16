/-
  The walk of ArithTexts (package sorrellaw06).
-/
import Derived.Test.YtmknbfpkpimlnaaDoorTx
import Derived.Test.YtmknbfpkpimlnaaDoorAw
namespace Go.Proofs.YtmknbfpkpimlnaaDoor
open Go.RowKit

set_option maxRecDepth 100000 in
set_option maxHeartbeats 1600000 in
theorem arithTexts_walk (s : ByteArray) (n : Int) (hn : I64 n) (w : World) (hT : Tabs w) : Calls Tryd.prog 3 #[.string s, .int .i64 n] w fun e w' => e = .returned (.bool true) ∧ Below w.heap.size w w' := by
  have HT := Lib.hid hT
  have Hn := Lib.hid hn
  clear hT hn
  go_enter Tryd.func3, Tryd.ntmps3
  go_wp2_with fail
  refine (awake06 w).mono ?_
  rintro e w1 ⟨rfl, hb1⟩
  have Hb1 := Lib.hid hb1
  clear hb1
  go_wp2_with fail
  refine (aread_any s w1 (HT.out.below Hb1.out)).mono ?_
  rintro e w2 ⟨rfl, hb2⟩
  have Hb2 : Hid (Below w.heap.size w w2) := Hb1.out.trans (hb2.mono Hb1.out.size)
  clear hb2
  go_wp2_with fail
  refine (rread_any s w2).mono ?_
  rintro e w3 ⟨rfl, hb3⟩
  have Hb3 : Hid (Below w.heap.size w w3) := Hb2.out.trans (hb3.mono Hb2.out.size)
  clear hb3
  generalize (readOf s).1 = r1
  generalize (readOf s).2 = r2
  have hq1 : (r1 == r1) = true := by simp
  have hq2 : (r2 == r2) = true := by simp
  go_wp2_with fail
  refine (atext_any n Hn.out w3 (HT.out.below Hb3.out)).mono ?_
  rintro e w4 ⟨rfl, hb4⟩
  have Hb4 : Hid (Below w.heap.size w w4) := Hb3.out.trans (hb4.mono Hb3.out.size)
  clear hb4
  go_wp2_with fail
  refine (rtext_any n Hn.out w4).mono ?_
  rintro e w5 ⟨rfl, hb5⟩
  have Hb5 : Hid (Below w.heap.size w w5) := Hb4.out.trans (hb5.mono Hb4.out.size)
  clear hb5
  generalize textOf n = t
  go_wp2
  go_ret
  exact ⟨rfl, Hb5.out⟩
end Go.Proofs.YtmknbfpkpimlnaaDoor
