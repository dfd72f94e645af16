/-
  The walks of Width and Rune (package sorrelref01).
-/
import Derived.Test.YtmknbfpkpimlnaaDoorNb
namespace Go.Proofs.YtmknbfpkpimlnaaDoor
open Go.RowKit

/-- Width's answer: the character's width; 0 where it is a bad byte (or, here, whatever reads as one). -/
def WidthTold (s : ByteArray) (p : Nat) (x : Int) : Prop := (x = wd s p ∧ p < s.size) ∨ (x = 0 ∧ (p < s.size → rn s p = 65533))

theorem at_tail {s : ByteArray} {p : Nat} (h : p < s.size) : 0 < (s.extract p s.size).size := by rw [Lib.tail_size]; omega

set_option maxRecDepth 100000 in
set_option maxHeartbeats 1600000 in
theorem width_any (s : ByteArray) (p : Nat) (w : World) (hlen : s.size ≤ 4096) (hp : p ≤ s.size) :
    Calls Tryd.prog 22 #[.string s, .int .i64 p] w fun e w' => (∃ x, e = .returned (.int .i64 x) ∧ WidthTold s p x) ∧ Below w.heap.size w w' := by
  by_cases hps : p < s.size
  · have hpi : ¬ (p : Int) < 0 := by omega
    have hpi2 : ¬ (s.size : Int) ≤ p := by omega
    have h0 := at_tail hps
    have hts := Lib.tail_size s p
    have hnx : ∀ ty, (Instr.next (.pointer (some ⟨w.heap.size, 0, none⟩)) true ty).run Tryd.prog (w.iter (s.extract p s.size) 0) = .ok (.tuple #[.bool true, .int .i64 0, .int .i32 (rn s p)]) (w.iter (s.extract p s.size) (wd s p)) := fun ty => by
      have := run_next_any (P := Tryd.prog) w (s.extract p s.size) 0 ty h0
      rw [Nat.zero_add] at this
      have e1 := rn_tail s p 0
      have e2 := wd_tail s p 0
      rw [Nat.add_zero] at e1 e2
      rw [← e1, ← e2]
      exact this
    have hwi := wd_in hps
    have hwp := wd_pos s p
    have hrr := rn_in s p
    have HB : Hid (∀ q, Below w.heap.size w (w.iter (s.extract p s.size) q)) := fun q => (Below.refl _ _).alloc (Nat.le_refl _) _
    have hnx2 : wd s p < (s.extract p s.size).size → ∀ ty, ∃ a b, (Instr.next (.pointer (some ⟨w.heap.size, 0, none⟩)) true ty).run Tryd.prog (w.iter (s.extract p s.size) (wd s p)) = .ok (.tuple #[.bool true, .int .i64 (wd s p : Nat), .int .i32 a]) (w.iter (s.extract p s.size) b) := fun h ty => ⟨_, _, run_next_any w _ _ ty h⟩
    have hnx3 : ¬ wd s p < (s.extract p s.size).size → ∀ ty, (Instr.next (.pointer (some ⟨w.heap.size, 0, none⟩)) true ty).run Tryd.prog (w.iter (s.extract p s.size) (wd s p)) = .ok (.tuple #[.bool false]) (w.iter (s.extract p s.size) (wd s p)) := fun h ty => run_next_end w _ _ ty h
    have Hw1 : Hid (WidthTold s p (wd s p : Nat)) := .inl ⟨rfl, hps⟩
    have Hw0 : Hid (rn s p = 65533 → WidthTold s p 0) := fun h => .inr ⟨rfl, fun _ => h⟩
    have Hnx2 := Lib.hid hnx2
    have Hnx3 := Lib.hid hnx3
    clear hnx2 hnx3
    generalize wd s p = k at *
    generalize rn s p = r at *
    go_enter Tryd.func22, Tryd.ntmps22
    go_wp2
    go_loopw [5, 6] (fun _ _ wr => ∃ q : Nat, (q = 0 ∨ q = k) ∧ wr = w.iter (s.extract p s.size) q) (fun _ _ wr => k + 1 - wr.iterPos w.heap.size)
    case atStart => exact ⟨0, .inl rfl, rfl⟩
    case round =>
      obtain ⟨q, hq, rfl⟩ := hrel
      rcases hq with rfl | rfl
      · by_cases hr : r = 65533
        · have Hr := Lib.hid hr
          have q0 : (r == 65533) = true := by simp [hr]
          clear hr
          by_cases h3 : (s.size : Int) - p < 3
          · go_wp2
            go_ret
            exact ⟨⟨0, rfl, Hw0.out Hr.out⟩, HB.out _⟩
          · have h4 : (p : Int) + 3 ≤ s.size := by omega
            go_wp2
            all_goals first
              | (go_ret; exact ⟨⟨0, rfl, Hw0.out Hr.out⟩, HB.out _⟩)
              | (go_roundw
                 case rel => exact ⟨_, .inr rfl, rfl⟩
                 case measure => simp; omega)
        · have q0 : (r == 65533) = false := by simp [hr]
          clear hr
          go_wp2
          go_roundw
          case rel => exact ⟨_, .inr rfl, rfl⟩
          case measure => simp; omega
      · by_cases hk : q < (s.extract p s.size).size
        · obtain ⟨a, b, hn2⟩ := Hnx2.out hk 0
          have hn2' : ∀ ty, ∃ a b, (Instr.next (.pointer (some ⟨w.heap.size, 0, none⟩)) true ty).run Tryd.prog (w.iter (s.extract p s.size) q) = .ok (.tuple #[.bool true, .int .i64 (q : Nat), .int .i32 a]) (w.iter (s.extract p s.size) b) := Hnx2.out hk
          clear hnx
          have hq0 : (0 : Int) < q := by omega
          go_wp2
          go_ret
          exact ⟨⟨q, rfl, Hw1.out⟩, HB.out _⟩
        · have hn3 := Hnx3.out hk
          have hke : (s.size : Int) - p = q := by omega
          clear hnx
          go_wp2
          go_ret
          exact ⟨⟨q, rfl, Hw1.out⟩, HB.out _⟩
  · have hpe : (s.size : Int) ≤ p := by omega
    have Hw : Hid (WidthTold s p 0) := .inr ⟨rfl, fun h => absurd h hps⟩
    have hpi : ¬ (p : Int) < 0 := by omega
    clear hps
    go_enter Tryd.func22, Tryd.ntmps22
    go_wp2
    go_ret
    exact ⟨⟨0, rfl, Hw.out⟩, Below.refl _ _⟩

/-- Rune's answer. -/
def RuneTold (s : ByteArray) (p : Nat) (x : Int) : Prop := (p < s.size ∧ x = rn s p) ∨ (x = -1 ∧ (p < s.size → rn s p = 65533))

set_option maxRecDepth 100000 in
set_option maxHeartbeats 1600000 in
theorem rune_any (s : ByteArray) (p : Nat) (w : World) (hlen : s.size ≤ 4096) (hp : p ≤ s.size) :
    Calls Tryd.prog 21 #[.string s, .int .i64 p] w fun e w' => (∃ x, e = .returned (.int .i32 x) ∧ RuneTold s p x) ∧ Below w.heap.size w w' := by
  go_enter Tryd.func21, Tryd.ntmps21
  go_wp2_with fail
  refine (width_any s p w hlen hp).mono ?_
  rintro e w1 ⟨⟨x, rfl, hx⟩, hb1⟩
  have Hb1 := Lib.hid hb1
  clear hb1
  have hwp := wd_pos s p
  rcases hx with ⟨rfl, hps⟩ | ⟨rfl, hbad⟩
  · have hq : ((wd s p : Int) == 0) = false := by simp; omega
    have h0 := at_tail hps
    have hpi2 : (p : Int) ≤ s.size := by omega
    have hpi : ¬ (p : Int) < 0 := by omega
    have hnx : ∀ ty, (Instr.next (.pointer (some ⟨w1.heap.size, 0, none⟩)) true ty).run Tryd.prog (w1.iter (s.extract p s.size) 0) = .ok (.tuple #[.bool true, .int .i64 0, .int .i32 (rn s p)]) (w1.iter (s.extract p s.size) (wd s p)) := fun ty => by
      have := run_next_any (P := Tryd.prog) w1 (s.extract p s.size) 0 ty h0
      rw [Nat.zero_add] at this
      have e1 := rn_tail s p 0
      have e2 := wd_tail s p 0
      rw [Nat.add_zero] at e1 e2
      rw [← e1, ← e2]
      exact this
    have HB : Hid (∀ q, Below w.heap.size w (w1.iter (s.extract p s.size) q)) := fun q => Hb1.out.alloc Hb1.out.size _
    have Hps := Lib.hid hps
    clear hps
    go_wp2
    go_loopw [6] (fun _ wr => wr = w1.iter (s.extract p s.size) 0) (fun _ _ => 0)
    case atStart => exact rfl
    case round =>
      subst hrel
      go_wp2
      go_ret
      exact ⟨⟨_, rfl, .inl ⟨Hps.out, rfl⟩⟩, HB.out _⟩
  · have Hbad := Lib.hid hbad
    clear hbad
    go_wp2
    go_ret
    exact ⟨⟨-1, rfl, .inr ⟨rfl, Hbad.out⟩⟩, Hb1.out⟩

theorem RuneTold.scr {s : ByteArray} {p : Nat} {x : Int} (h : RuneTold s p x) : scr x = if p < s.size then YtmknbfpkpimlnaaDoor.scr (rn s p) else 0 := by
  rcases h with ⟨hp, rfl⟩ | ⟨rfl, hb⟩
  · rw [if_pos hp]
  · by_cases hp : p < s.size
    · rw [if_pos hp, hb hp]; decide
    · rw [if_neg hp]; decide
theorem RuneTold.in32 {s : ByteArray} {p : Nat} {x : Int} (h : RuneTold s p x) : -2147483648 ≤ x ∧ x ≤ 2147483647 := by
  have := rn_in s p
  rcases h with ⟨_, rfl⟩ | ⟨rfl, _⟩ <;> omega

end Go.Proofs.YtmknbfpkpimlnaaDoor
