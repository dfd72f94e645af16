/-
  The walks of apply and of ArithRing (package sorrellaw06).
-/
import Derived.Test.YtmknbfpkpimlnaaDoorRn
namespace Go.Proofs.YtmknbfpkpimlnaaDoor
open Go.RowKit

set_option maxRecDepth 100000 in
set_option maxHeartbeats 400000 in
/-- 'apply', out of what Apply does. -/
theorem apply_of (op : Int) (A : Option Addr) (n cap : Nat) (r : Int × Int) (w0 w : World) (h : Calls Tryd.prog 14 #[.int .i64 op, .slice A n cap] w fun e w' => e = .returned (.tuple #[.int .i64 r.1, .int .i64 r.2]) ∧ Below w0.heap.size w0 w') :
    Calls Tryd.prog 16 #[.int .i64 op, .slice A n cap] w fun e w' => e = .returned (.int .i64 (if r.2 = 0 then r.1 else 24301)) ∧ Below w0.heap.size w0 w' := by
  obtain ⟨r1, r2⟩ := r
  have H := Lib.hid h
  clear h
  dsimp only
  by_cases he : r2 = 0
  · subst he
    go_enter Tryd.func16, Tryd.ntmps16
    go_wp2_with (go_at_call 14; refine H.out.mono ?_; rintro e w' ⟨rfl, hb⟩)
    go_ret
    exact ⟨by simp, hb⟩
  · rw [if_neg he]
    have he' : (r2 != 0) = true := by simpa using he
    clear he
    go_enter Tryd.func16, Tryd.ntmps16
    go_wp2_with (go_at_call 14; refine H.out.mono ?_; rintro e w' ⟨rfl, hb⟩)
    go_ret
    exact ⟨rfl, hb⟩

theorem apply2 (op a b : Int) (w : World) (n : Nat) (t : TypeId) (hn : n = w.heap.size) :
    Calls Tryd.prog 16 #[.int .i64 op, .slice (some ⟨n, 0, none⟩) 2 2] (w.alloc (.cells #[.int .i64 a, .int .i64 b] t)) fun e w' => e = .returned (.int .i64 (R op a b)) ∧ Below w.heap.size w w' :=
  apply_of op _ 2 2 _ w _ (app2 op a b w n t hn)
theorem apply1 (op a : Int) (w : World) (n : Nat) (t : TypeId) (hn : n = w.heap.size) :
    Calls Tryd.prog 16 #[.int .i64 op, .slice (some ⟨n, 0, none⟩) 1 1] (w.alloc (.cells #[.int .i64 a] t)) fun e w' => e = .returned (.int .i64 (R1 op a)) ∧ Below w.heap.size w w' :=
  apply_of op _ 1 1 _ w _ (app1 op a w n t hn)
theorem apply3 (op a b c : Int) (w : World) (n : Nat) (t : TypeId) (hn : n = w.heap.size) :
    Calls Tryd.prog 16 #[.int .i64 op, .slice (some ⟨n, 0, none⟩) 3 3] (w.alloc (.cells #[.int .i64 a, .int .i64 b, .int .i64 c] t)) fun e w' => e = .returned (.int .i64 (R3 op a b c)) ∧ Below w.heap.size w w' :=
  apply_of op _ 3 3 _ w _ (app3 op a b c w n t hn)

set_option maxRecDepth 100000 in
set_option maxHeartbeats 4000000 in
theorem arithRing_walk (a b c : Int) (w : World) :
    Calls Tryd.prog 7 #[.int .i64 a, .int .i64 b, .int .i64 c] w fun e w' => e = .returned (.bool true) ∧ Below w.heap.size w w' := by
  have r1 : (R 5 a b == R 5 b a) = true := beq_iff_eq.2 (ring1 a b)
  have r2 : (R 5 (R 5 a b) c == R 5 a (R 5 b c)) = true := beq_iff_eq.2 (ring2 a b c)
  have r3 : (R 6 a b == R 5 a (R1 3 b)) = true := beq_iff_eq.2 (ring3 a b)
  have r4 : (R 6 a a == 0) = true := beq_iff_eq.2 (ring4 a)
  have r5 : (R 7 a b == R 7 b a) = true := beq_iff_eq.2 (ring5 a b)
  have r6 : (R 7 a (R 5 b c) == R 5 (R 7 a b) (R 7 a c)) = true := beq_iff_eq.2 (ring6 a b c)
  have r7 : (R 7 a (-1) == R1 3 a) = true := beq_iff_eq.2 (ring7 a)
  have r8 : (R1 4 (R 10 a b) == R 11 (R1 4 a) (R1 4 b)) = true := beq_iff_eq.2 (ring8 a b)
  have r9 : (R 12 a b == R 10 (R 11 a b) (R1 4 (R 10 a b))) = true := beq_iff_eq.2 (ring9 a b)
  have r10 : (R1 4 a == R 6 (R1 3 a) 1) = true := beq_iff_eq.2 (ring10 a)
  have r11 : (R 5 (R 10 a b) (R 11 a b) == R 5 a b) = true := beq_iff_eq.2 (ring11 a b)
  have HB := Lib.hid (Below.refl w.heap.size w)
  go_enter Tryd.func7, Tryd.ntmps7
  go_wp2_with (first
    | (go_at_call 9; refine (awake06 _).mono ?_; rintro e w1 ⟨rfl, hb⟩; replace HB := Lib.hid (Keep.trans HB.out hb); clear hb)
    | (go_at_call 16; (with_reducible refine (apply2 _ _ _ _ _ _ rfl).mono ?_); rintro e w1 ⟨rfl, hb⟩; replace HB := Lib.hid (Keep.trans HB.out hb); clear hb)
    | (go_at_call 16; (with_reducible refine (apply1 _ _ _ _ _ rfl).mono ?_); rintro e w1 ⟨rfl, hb⟩; replace HB := Lib.hid (Keep.trans HB.out hb); clear hb))
  go_ret
  exact ⟨rfl, HB.out⟩

end Go.Proofs.YtmknbfpkpimlnaaDoor
