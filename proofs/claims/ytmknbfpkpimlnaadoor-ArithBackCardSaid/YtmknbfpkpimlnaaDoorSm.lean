/-
  The walks of same (package arith), Width and Rune (package sorrelref01).
-/
import Derived.Test.YtmknbfpkpimlnaaDoorNb
namespace Go.Proofs.YtmknbfpkpimlnaaDoor
open Go.RowKit

set_option maxRecDepth 100000 in
set_option maxHeartbeats 1600000 in
theorem same_any (s : ByteArray) (r : Int) (w : World) (h0 : 0 < s.size) (ht : scr (rn s 0) ≠ 0) (hr : 0 ≤ r ∧ r ≤ 1114111) :
    Calls Tryd.prog 20 #[.string s, .int .i32 r] w fun e w' => e = .returned (.bool (scr r == scr (rn s 0))) ∧ Below w.heap.size w w' := by
  have hnx : ∀ ty, (Instr.next (.pointer (some ⟨w.heap.size, 0, none⟩)) true ty).run Tryd.prog (w.iter s 0) = .ok (.tuple #[.bool true, .int .i64 0, .int .i32 (rn s 0)]) (w.iter s (wd s 0)) := fun ty => by
    have := run_next_any (P := Tryd.prog) w s 0 ty h0
    rw [Nat.zero_add] at this
    exact this
  have hB : Hid (∀ o, Below w.heap.size w ((w.iter s (wd s 0)).alloc o)) := fun o => ((Below.refl _ _).alloc (Nat.le_refl _) _).alloc (by simp) _
  have hrr := rn_in s 0
  obtain ⟨h1, h2, h3⟩ := scr_in rfl ht
  have H : Hid ((scr r == scr (rn s 0)) = (decide (scr (rn s 0) ≤ r) && decide (r ≤ scr (rn s 0) + 9))) := by
    unfold Hid
    rw [Bool.eq_iff_iff, beq_iff_eq, scr_iff h3, Bool.and_eq_true, decide_eq_true_eq, decide_eq_true_eq]
  generalize hx : rn s 0 = x at *
  generalize ht' : scr x = t at *
  clear ht' hx ht
  generalize wd s 0 = k at *
  rcases h3 with rfl | rfl | rfl
  · go_enter Tryd.func20, Tryd.ntmps20
    go_wp2
    go_loopw [6] (fun _ wr => wr = w.iter s 0) (fun _ _ => 0)
    case atStart => exact rfl
    case round =>
      subst hrel
      go_wp2
      go_loopw [16] (fun i wr => (i = .int .i64 0) ∧ wr = (w.iter s k).alloc (.cells #[.int .i32 48, .int .i32 1632, .int .i32 65296] 21)) (fun i _ => 3 - (intOf i).toNat)
      case atStart => exact ⟨rfl, rfl⟩
      case round =>
        obtain ⟨hi, rfl⟩ := hrel
        subst hi
        by_cases b1 : (48 : Int) ≤ r
        · have e1 : decide ((48 : Int) ≤ r) = true := decide_eq_true b1
          rw [e1] at H
          go_wp2
          go_ret
          rw [H.out]
          exact ⟨rfl, hB.out _⟩
        · have e1 : decide ((48 : Int) ≤ r) = false := decide_eq_false b1
          rw [e1] at H
          go_wp2
          go_ret
          rw [H.out]
          exact ⟨rfl, hB.out _⟩
  · go_enter Tryd.func20, Tryd.ntmps20
    go_wp2
    go_loopw [6] (fun _ wr => wr = w.iter s 0) (fun _ _ => 0)
    case atStart => exact rfl
    case round =>
      subst hrel
      go_wp2
      go_loopw [16] (fun i wr => (i = .int .i64 0 ∨ i = .int .i64 1) ∧ wr = (w.iter s k).alloc (.cells #[.int .i32 48, .int .i32 1632, .int .i32 65296] 21)) (fun i _ => 3 - (intOf i).toNat)
      case atStart => exact ⟨.inl rfl, rfl⟩
      case round =>
        obtain ⟨hi, rfl⟩ := hrel
        rcases hi with rfl | rfl
        · have a1 : (48 : Int) ≤ x := by omega
          have a2 : ¬ x ≤ (57 : Int) := by omega
          go_wp2
          go_roundw
          case rel => exact ⟨by simp, trivial⟩
          case measure => simp [intOf]
        · have a0 : True := trivial
          by_cases b1 : (1632 : Int) ≤ r
          · have e1 : decide ((1632 : Int) ≤ r) = true := decide_eq_true b1
            rw [e1] at H
            go_wp2
            go_ret
            rw [H.out]
            exact ⟨rfl, hB.out _⟩
          · have e1 : decide ((1632 : Int) ≤ r) = false := decide_eq_false b1
            rw [e1] at H
            go_wp2
            go_ret
            rw [H.out]
            exact ⟨rfl, hB.out _⟩
  · go_enter Tryd.func20, Tryd.ntmps20
    go_wp2
    go_loopw [6] (fun _ wr => wr = w.iter s 0) (fun _ _ => 0)
    case atStart => exact rfl
    case round =>
      subst hrel
      go_wp2
      go_loopw [16] (fun i wr => (i = .int .i64 0 ∨ i = .int .i64 1 ∨ i = .int .i64 2) ∧ wr = (w.iter s k).alloc (.cells #[.int .i32 48, .int .i32 1632, .int .i32 65296] 21)) (fun i _ => 3 - (intOf i).toNat)
      case atStart => exact ⟨.inl rfl, rfl⟩
      case round =>
        obtain ⟨hi, rfl⟩ := hrel
        rcases hi with rfl | rfl | rfl
        · have a1 : (48 : Int) ≤ x := by omega
          have a2 : ¬ x ≤ (57 : Int) := by omega
          go_wp2
          go_roundw
          case rel => exact ⟨by simp, trivial⟩
          case measure => simp [intOf]
        · have a1 : (1632 : Int) ≤ x := by omega
          have a2 : ¬ x ≤ (1641 : Int) := by omega
          go_wp2
          go_roundw
          case rel => exact ⟨by simp, trivial⟩
          case measure => simp [intOf]
        · have a0 : True := trivial
          by_cases b1 : (65296 : Int) ≤ r
          · have e1 : decide ((65296 : Int) ≤ r) = true := decide_eq_true b1
            rw [e1] at H
            go_wp2
            go_ret
            rw [H.out]
            exact ⟨rfl, hB.out _⟩
          · have e1 : decide ((65296 : Int) ≤ r) = false := decide_eq_false b1
            rw [e1] at H
            go_wp2
            go_ret
            rw [H.out]
            exact ⟨rfl, hB.out _⟩

end Go.Proofs.YtmknbfpkpimlnaaDoor
