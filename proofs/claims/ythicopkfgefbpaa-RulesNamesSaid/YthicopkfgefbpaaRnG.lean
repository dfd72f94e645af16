/-
  The walk of RulesNames (package sorrellaw17).
-/
import Derived.Test.YthicopkfgefbpaaRnF
import Derived.Deep.OwnRows
import Derived.Deep.AppendLies
namespace Go.Proofs.Ythicopkfgefbpaa.Rn
open Go.RowKit

theorem twice_is : rnamed ⟨#[116, 119, 105, 99, 101]⟩ refNames 0 = (14, 0) := by decide +kernel

theorem Keep.trans {a b c : World} (h : Below a.heap.size a b) (k : Below b.heap.size b c) : Below a.heap.size a c := h.trans (k.mono h.size)

set_option maxRecDepth 100000 in
set_option maxHeartbeats 400000 in
theorem awake17 (w : World) : Calls Try.prog 19 #[] w fun e w' => e = .returned (.bool true) ∧ Below w.heap.size w w' := by
  go_enter Try.func19, Try.ntmps19
  go_wp2_with fail
  refine (named_any' ⟨#[116, 119, 105, 99, 101]⟩ (by decide) _).mono ?_
  rw [twice_is]
  rintro e w1 ⟨rfl, hb1⟩
  go_wp2
  go_ret
  exact ⟨rfl, hb1⟩

theorem info9 : (Try.prog.info? 9).map (fun i => (i.zero, i.size, i.bytes)) = some (some (.string ByteArray.empty), 1, 16) := by kernel_rfl

set_option maxRecDepth 100000 in
set_option maxHeartbeats 800000 in
theorem rulesNames_nil (A : Option Addr) (cap : Nat) (w : World) : Calls Try.prog 6 #[.slice A 0 cap] w fun e w' => e = .returned (.bool true) ∧ Below w.heap.size w w' := by
  rcases A with _ | A
  all_goals
    go_enter Try.func6, Try.ntmps6
    go_wp2_with fail
    refine (awake17 _).mono ?_
    rintro e w1 ⟨rfl, hb1⟩
    have Hb1 := Lib.hid hb1
    clear hb1
    go_wp2_with fail
    refine (mask_any _ _ [] _ (fun h => absurd rfl h) (by simp) (fun s hs => by cases hs)).mono ?_
    rintro e w2 ⟨rfl, hb2⟩
    have Hb2 : Hid (Below w.heap.size w w2) := (Hb1.out.alloc Hb1.out.size (.cells #[] 9)).trans (hb2.mono (Hb1.out.alloc Hb1.out.size _).size)
    clear hb2 Hb1
    go_wp2_with fail
    refine (refMask_any _ _ [] _ (fun h => absurd rfl h) (by simp)).mono ?_
    rintro e w3 ⟨rfl, hb3⟩
    have Hb3 := Lib.hid (Keep.trans Hb2.out hb3)
    clear hb3 Hb2
    go_wp2
    refine wp_loop_rounds 1 ?_
    rw [rounds_succ]
    go_wp2
    go_ret
    exact ⟨rfl, Hb3.out⟩

theorem own_empty (w w1 : World) (h : w.heap.size ≤ w1.heap.size) : (w1.alloc (.cells #[] 9)).ownsRow w.heap.size 9 1 (.slice (some ⟨w1.heap.size, 0, none⟩) 0 0) 0 [] :=
  World.ownsRow_made w1 #[] 0 h (by decide) (by rfl)

/-- The names' copy lies in a row of the call's own. -/
theorem copy_of {w w1 w2 : World} {l : List ByteArray} {v : Value} (hb : Below w.heap.size w w1) (hne : l ≠ []) (hg : (w1.alloc (.cells #[] 9)).grownBy w2 (some w1.heap.size))
    (hown : w2.ownsRow w.heap.size 9 1 v (0 + l.length) ([] ++ l.map .string)) : ∃ g c, v = .slice (some ⟨g, 0, none⟩) l.length c ∧ StrsAt w2 (some ⟨g, 0, none⟩) l ∧ Below w.heap.size w w2 := by
  have hpos : 0 < l.length := List.length_pos_iff.2 hne
  rw [Nat.zero_add, List.nil_append] at hown
  obtain ⟨g, c, rfl, hg0, hlt⟩ := hown.form (by omega)
  refine ⟨g, c, rfl, fun _ => ⟨g, 0, rfl, hlt, fun i hi => ?_⟩, (hb.alloc hb.size _).grown hg (by have := hb.size; simp; omega) (by rintro k hk; cases hk; exact hb.size)⟩
  rw [Nat.zero_add, hown.cellAt i (by omega)]
  simp [hi]

set_option maxRecDepth 100000 in
set_option maxHeartbeats 1600000 in
theorem rulesNames_some (b off cap : Nat) (l : List ByteArray) (w : World) (hne : l ≠ []) (hb : b < w.heap.size) (hx : ∀ i (h : i < l.length), w.cell? ⟨b, off + i, none⟩ = some (.string l[i])) (hsz : ∀ s ∈ l, s.size ≤ 140737488355328) (hreach : l.length * 16 ≤ 140737488351232) :
    Calls Try.prog 6 #[.slice (some ⟨b, off, none⟩) l.length cap] w fun e w' => e = .returned (.bool true) ∧ Below w.heap.size w w' := by
  obtain ⟨i0, hi0, hz0, hz1, hz2⟩ := info_parts info9
  have HS : Hid (∀ w', Below w.heap.size w w' → StrsAt w' (some ⟨b, off, none⟩) l) := fun w' h _ => ⟨b, off, rfl, Nat.lt_of_lt_of_le hb h.size, fun i hl => (h.cell (p := ⟨b, _, none⟩) hb).trans (hx i hl)⟩
  have Hsz := Lib.hid hsz
  have Hne := Lib.hid hne
  have HX : Hid (∀ w1, Below w.heap.size w w1 → ∀ j u, (l.map Value.string)[j]? = some u → (w1.alloc (.cells #[] 9)).cell? ((⟨b, off, none⟩ : Addr).add j) = some u) := fun w1 h1 j u hj => by
    obtain ⟨hj1, rfl⟩ := List.getElem?_eq_some_iff.1 hj
    rw [List.length_map] at hj1
    rw [Addr.add_lit, List.getElem_map]
    have h2 := h1.alloc h1.size (.cells #[] 9)
    exact (h2.cell (p := ⟨b, _, none⟩) hb).trans (hx j hj1)
  clear hx hb hne hsz
  go_enter Try.func6, Try.ntmps6
  go_wp2_with fail
  refine (awake17 _).mono ?_
  rintro e w1 ⟨rfl, hb1⟩
  have Hb1 := Lib.hid hb1
  clear hb1
  go_wp2_with (at_builtin; refine wpList_append_own _ rfl _ _ 50 rfl w.heap.size 9 i0 (.string ByteArray.empty) 1 16 Try.underlying50 hi0 hz0 hz1 hz2 rfl (by decide) _ 0 [] rfl (own_empty w w1 Hb1.out.size) ⟨b, off, none⟩ l.length cap (l.map .string) rfl (by simp) (HX.out w1 Hb1.out) (by intro u hu; obtain ⟨s, _, rfl⟩ := List.mem_map.1 hu; rfl) (by unfold maxLen; omega) (by omega) (by have h1 := Hb1.out.size; simp; omega) ?_; intro v2 w2 hown2 hgrow2 _; obtain ⟨g0, c0, rfl, hs2, hb2⟩ := copy_of Hb1.out Hne.out hgrow2 hown2; have Hs2 := Lib.hid hs2; have Hb2 := Lib.hid hb2; clear hown2 hgrow2 hs2 hb2)
  refine (mask_any _ _ l _ Hs2.out (by omega) Hsz.out).mono ?_
  obtain ⟨p, hp⟩ : ∃ p, maskOf l 0 = p := ⟨_, rfl⟩
  have Hp := Lib.hid hp
  rw [hp]
  clear hp
  obtain ⟨mk, me⟩ := p
  rintro e w3 ⟨rfl, hb3⟩
  have Hb3 := Lib.hid (Keep.trans Hb2.out hb3)
  clear hb3 Hb2 Hs2 Hb1
  go_wp2_with fail
  refine (refMask_any _ _ l _ (HS.out _ Hb3.out) (by omega)).mono ?_
  rw [Hp.out]
  rintro e w4 ⟨rfl, hb4⟩
  have Hb4 := Lib.hid (Keep.trans Hb3.out hb4)
  clear hb4 Hb3
  go_wp2
  go_loopw [7] (fun i wr => ∃ k : Nat, k ≤ l.length ∧ i = .int .i64 (k : Nat) ∧ Below w.heap.size w wr) (fun i _ => l.length - (intOf i).toNat)
  case atStart => exact ⟨0, Nat.zero_le _, rfl, Hb4.out⟩
  case round =>
    obtain ⟨k, hk, rfl, hb⟩ := hrel
    have Hb := Lib.hid hb
    clear hb Hb4
    by_cases hlt : k < l.length
    · have hki : ((k : Nat) : Int) < l.length := by omega
      obtain ⟨b', off', hA, hbl, hc⟩ := HS.out _ Hb.out Hne.out
      obtain ⟨rfl, rfl⟩ : b = b' ∧ off = off' := by injection hA with hA; injection hA with h1 h2; exact ⟨h1, h2⟩
      have hck := hc k hlt
      have Hns := Lib.hid (Hsz.out _ (List.getElem_mem hlt))
      clear hc hA
      generalize l[k] = name at *
      go_wp2_with fail
      refine (named_any' name Hns.out _).mono ?_
      obtain ⟨q, hq⟩ : ∃ q, rnamed name refNames 0 = q := ⟨_, rfl⟩
      have Hq := Lib.hid hq
      rw [hq]
      clear hq
      obtain ⟨qk, qe⟩ := q
      rintro e w5 ⟨rfl, hb5⟩
      have hck5 := (hb5.cell (p := ⟨b, off + k, none⟩) hbl).trans hck
      have Hb5 := Lib.hid (Keep.trans Hb.out hb5)
      clear hb5 hck
      go_wp2_with fail
      refine (refNamed_any name _).mono ?_
      rw [Hq.out]
      rintro e w6 ⟨rfl, hb6⟩
      have Hb6 := Lib.hid (Keep.trans Hb5.out hb6)
      clear hb6 Hb5 hck5
      go_wp2
      go_roundw
      case rel => exact ⟨k + 1, by omega, by go_num, Hb6.out⟩
      case measure => simp [intOf]; omega
    · have hke : k = l.length := by omega
      subst hke
      go_wp2
      go_ret
      exact ⟨rfl, Hb.out⟩

end Go.Proofs.Ythicopkfgefbpaa.Rn
