/-
  The walks of Mask (packages rules and sorrelref17).
-/
import Derived.Test.YthicopkfgefbpaaRnE
import Derived.Outline
namespace Go.Proofs.Ythicopkfgefbpaa.Rn
open Go.RowKit

/-- Texts in memory. -/
def StrsAt (w : World) (A : Option Addr) (l : List ByteArray) : Prop :=
  l ≠ [] → ∃ b off, A = some ⟨b, off, none⟩ ∧ b < w.heap.size ∧ ∀ i (h : i < l.length), w.cell? ⟨b, off + i, none⟩ = some (.string l[i])
theorem StrsAt.later {w w' : World} {A : Option Addr} {l : List ByteArray} (h : StrsAt w A l) (hb : Below w.heap.size w w') : StrsAt w' A l := fun hn => by
  obtain ⟨b, off, hA, hlt, hc⟩ := h hn
  exact ⟨b, off, hA, Nat.lt_of_lt_of_le hlt hb.size, fun i hi => (hb.cell (p := ⟨b, _, none⟩) hlt).trans (hc i hi)⟩

def orBit (m q : Int) : Int := Go.bits BinOp.or IntKind.u64 m (IntKind.u64.wrap (2 ^ q.toNat))
/-- What Mask answers, so much being chosen. -/
def maskOf : List ByteArray → Int → Int × Int
  | [], m => (m, 0)
  | s :: l, m => if s.toList == [97, 108, 108] then maskOf l 17592186044415 else if s.toList == [110, 111, 110, 101] then maskOf l m else if (rnamed s refNames 0).2 = 0 then maskOf l (orBit m (rnamed s refNames 0).1) else (0, (rnamed s refNames 0).2)

theorem named_any' (name : ByteArray) (hns : name.size ≤ 140737488355328) (w : World) :
    Calls Try.prog 22 #[.string name] w fun e w' => e = .returned (.tuple #[.int .i64 (rnamed name refNames 0).1, .int .i64 (rnamed name refNames 0).2]) ∧ Below w.heap.size w w' := by
  have h := named_any name hns w
  rw [named_eq] at h
  exact h

theorem table_len (w : World) : Calls Try.prog 31 #[] w fun e w' => (∃ A c, e = .returned (.slice A 44 c)) ∧ Below w.heap.size w w' := by
  refine (Go.Proofs.Ythicopkfgefbpaa.PRulesNames.rules_table.calls lines w lines_f).mono ?_
  rintro e w1 ⟨v0, rfl, hR, hb1⟩
  obtain ⟨A, c, rfl⟩ := Go.Proofs.YthicopkfgefbpaaW.PrintWords.Kd.R_slice hR
  exact ⟨⟨A, c, by rw [lines_len]⟩, hb1⟩

theorem ref_bd (name : ByteArray) : 0 ≤ (rnamed name refNames 0).1 ∧ (rnamed name refNames 0).1 ≤ 44 ∧ ((rnamed name refNames 0).2 = 0 ∨ (rnamed name refNames 0).2 = 7) := by
  have h := rnamed_bd name refNames 0
  rw [refNames_len] at h
  exact ⟨h.1, by omega, h.2.2.2⟩

set_option maxRecDepth 100000 in
set_option maxHeartbeats 1600000 in
theorem refMask_any (A : Option Addr) (cap : Nat) (l : List ByteArray) (w : World) (hl : StrsAt w A l) (hmax : l.length ≤ 140737488355328) :
    Calls Try.prog 21 #[.slice A l.length cap] w fun e w' => e = .returned (.tuple #[.int .u64 (maskOf l 0).1, .int .i64 (maskOf l 0).2]) ∧ Below w.heap.size w w' := by
  have HL := Lib.hid hl
  clear hl
  go_enter Try.func21, Try.ntmps21
  go_wp2
  go_loopw [4, 5] (fun m i wr => ∃ (k : Nat) (x : Int), k ≤ l.length ∧ i = .int .i64 (k : Nat) ∧ m = .int .u64 x ∧ Hid (maskOf l 0 = maskOf (l.drop k) x) ∧ Below w.heap.size w wr) (fun _ i _ => l.length - (intOf i).toNat)
  case atStart => exact ⟨0, 0, Nat.zero_le _, rfl, rfl, rfl, Below.refl _ _⟩
  case round =>
    obtain ⟨k, x, hk, rfl, rfl, Hm, hb⟩ := hrel
    have Hb := Lib.hid hb
    clear hb
    by_cases hlt : k < l.length
    · have hki : ((k : Nat) : Int) < l.length := by omega
      obtain ⟨b, off, rfl, hbl, hc⟩ := (HL.out.later Hb.out) (by rintro rfl; simp at hlt)
      have hck := hc k hlt
      have hd : Hid (l.drop k = l[k] :: l.drop (k + 1)) := List.drop_eq_getElem_cons hlt
      clear hc
      generalize l[k] = name at *
      have hbd := ref_bd name
      have Hstep : Hid (maskOf l 0 = maskOf (name :: l.drop (k + 1)) x) := by rw [Hid, Hm.out, hd.out]
      clear hd Hm
      obtain ⟨p, hp⟩ : ∃ p, rnamed name refNames 0 = p := ⟨_, rfl⟩
      rw [hp] at hbd
      obtain ⟨q, e0⟩ := p
      dsimp only at hbd
      obtain ⟨q0, q1, q2⟩ := hbd
      have Hp := Lib.hid hp
      clear hp
      cases h1 : (name.toList == [97, 108, 108])
      · cases h2 : (name.toList == [110, 111, 110, 101])
        · go_wp2_with fail
          refine (refNamed_any name _).mono ?_
          rw [Hp.out]
          rintro e w2 ⟨rfl, hb2⟩
          have Hb2 := Lib.hid (Hb.out.trans (hb2.mono Hb.out.size))
          clear hb2
          rcases q2 with rfl | rfl
          · have Hs : Hid (maskOf l 0 = maskOf (l.drop (k + 1)) (orBit x q)) := by rw [Hid, Hstep.out, maskOf, h1, h2, Hp.out]; rfl
            clear Hstep
            go_wp2
            go_roundw
            case rel => exact ⟨k + 1, _, by omega, by go_num, rfl, Hs, Hb2.out⟩
            case measure => simp [intOf]; omega
          · have Hs : Hid (maskOf l 0 = (0, 7)) := by rw [Hid, Hstep.out, maskOf, h1, h2, Hp.out]; rfl
            clear Hstep
            go_wp2
            go_ret2
            exact ⟨by rw [Hs.out]; rfl, Hb2.out⟩
        · have Hs : Hid (maskOf l 0 = maskOf (l.drop (k + 1)) x) := by rw [Hid, Hstep.out, maskOf, h1, h2]; rfl
          clear Hstep
          go_wp2
          go_roundw
          case rel => exact ⟨k + 1, _, by omega, by go_num, rfl, Hs, Hb.out⟩
          case measure => simp [intOf]; omega
      · have Hs : Hid (maskOf l 0 = maskOf (l.drop (k + 1)) 17592186044415) := by rw [Hid, Hstep.out, maskOf, h1]; rfl
        clear Hstep
        go_wp2
        go_roundw
        case rel => exact ⟨k + 1, _, by omega, by go_num, rfl, Hs, Hb.out⟩
        case measure => simp [intOf]; omega
    · have hke : k = l.length := by omega
      subst hke
      have Hs : Hid (maskOf l 0 = (x, 0)) := by rw [Hid, Hm.out, List.drop_length]; rfl
      go_wp2
      go_ret2
      exact ⟨by rw [Hs.out]; rfl, Hb.out⟩

set_option maxRecDepth 100000 in
set_option maxHeartbeats 1600000 in
theorem mask_any (A : Option Addr) (cap : Nat) (l : List ByteArray) (w : World) (hl : StrsAt w A l) (hmax : l.length ≤ 140737488355328) (hsz : ∀ s ∈ l, s.size ≤ 140737488355328) :
    Calls Try.prog 20 #[.slice A l.length cap] w fun e w' => e = .returned (.tuple #[.int .u64 (maskOf l 0).1, .int .i64 (maskOf l 0).2]) ∧ Below w.heap.size w w' := by
  have HL := Lib.hid hl
  have Hsz := Lib.hid hsz
  clear hl hsz
  go_enter Try.func20, Try.ntmps20
  go_wp2
  go_loopw [4, 11] (fun m i wr => ∃ (k : Nat) (x : Int), k ≤ l.length ∧ i = .int .i64 (k : Nat) ∧ m = .int .u64 x ∧ Hid (maskOf l 0 = maskOf (l.drop k) x) ∧ Below w.heap.size w wr) (fun _ i _ => l.length - (intOf i).toNat)
  case atStart => exact ⟨0, 0, Nat.zero_le _, rfl, rfl, rfl, Below.refl _ _⟩
  case round =>
    obtain ⟨k, x, hk, rfl, rfl, Hm, hb⟩ := hrel
    have Hb := Lib.hid hb
    clear hb
    by_cases hlt : k < l.length
    · have hki : ((k : Nat) : Int) < l.length := by omega
      obtain ⟨b, off, rfl, hbl, hc⟩ := (HL.out.later Hb.out) (by rintro rfl; simp at hlt)
      have hck := hc k hlt
      have hd : Hid (l.drop k = l[k] :: l.drop (k + 1)) := List.drop_eq_getElem_cons hlt
      have Hns := Lib.hid (Hsz.out _ (List.getElem_mem hlt))
      clear hc
      generalize l[k] = name at *
      have hbd := ref_bd name
      have Hstep : Hid (maskOf l 0 = maskOf (name :: l.drop (k + 1)) x) := by rw [Hid, Hm.out, hd.out]
      clear hd Hm
      obtain ⟨p, hp⟩ : ∃ p, rnamed name refNames 0 = p := ⟨_, rfl⟩
      rw [hp] at hbd
      obtain ⟨q, e0⟩ := p
      dsimp only at hbd
      obtain ⟨q0, q1, q2⟩ := hbd
      have Hp := Lib.hid hp
      clear hp
      cases h1 : (name.toList == [97, 108, 108])
      · cases h2 : (name.toList == [110, 111, 110, 101])
        · go_wp2_with fail
          refine (named_any' name Hns.out _).mono ?_
          rw [Hp.out]
          rintro e w2 ⟨rfl, hb2⟩
          have Hb2 := Lib.hid (Hb.out.trans (hb2.mono Hb.out.size))
          clear hb2
          rcases q2 with rfl | rfl
          · have Hs : Hid (maskOf l 0 = maskOf (l.drop (k + 1)) (orBit x q)) := by rw [Hid, Hstep.out, maskOf, h1, h2, Hp.out]; rfl
            clear Hstep
            go_wp2
            go_roundw
            case rel => exact ⟨k + 1, _, by omega, by go_num, rfl, Hs, Hb2.out⟩
            case measure => simp [intOf]; omega
          · have Hs : Hid (maskOf l 0 = (0, 7)) := by rw [Hid, Hstep.out, maskOf, h1, h2, Hp.out]; rfl
            clear Hstep
            go_wp2
            go_ret2
            exact ⟨by rw [Hs.out]; rfl, Hb2.out⟩
        · have Hs : Hid (maskOf l 0 = maskOf (l.drop (k + 1)) x) := by rw [Hid, Hstep.out, maskOf, h1, h2]; rfl
          clear Hstep
          go_wp2_with fail
          refine (named_any' name Hns.out _).mono ?_
          rw [Hp.out]
          rintro e w2 ⟨rfl, hb2⟩
          have Hb2 := Lib.hid (Hb.out.trans (hb2.mono Hb.out.size))
          clear hb2
          clear q2
          go_wp2
          go_roundw
          case rel => exact ⟨k + 1, _, by omega, by go_num, rfl, Hs, Hb2.out⟩
          case measure => simp [intOf]; omega
      · have Hs : Hid (maskOf l 0 = maskOf (l.drop (k + 1)) 17592186044415) := by rw [Hid, Hstep.out, maskOf, h1]; rfl
        clear Hstep
        go_wp2_with fail
        refine (named_any' name Hns.out _).mono ?_
        rw [Hp.out]
        rintro e w2 ⟨rfl, hb2⟩
        have Hb2 := Lib.hid (Hb.out.trans (hb2.mono Hb.out.size))
        clear hb2
        clear q2
        go_wp2_with fail
        refine (table_len _).mono ?_
        rintro e w3 ⟨⟨A3, c3, rfl⟩, hb3⟩
        have Hb3 := Lib.hid (Hb2.out.trans (hb3.mono Hb2.out.size))
        clear hb3 Hb2
        go_wp2
        go_roundw
        case rel => exact ⟨k + 1, _, by omega, by go_num, rfl, Hs, Hb3.out⟩
        case measure => simp [intOf]; omega
    · have hke : k = l.length := by omega
      subst hke
      have Hs : Hid (maskOf l 0 = (x, 0)) := by rw [Hid, Hm.out, List.drop_length]; rfl
      go_wp2
      go_ret2
      exact ⟨by rw [Hs.out]; rfl, Hb.out⟩

end Go.Proofs.Ythicopkfgefbpaa.Rn
