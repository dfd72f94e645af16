/-
  The walk of grown (package sorrellaw09) again: a forest by the Adds and Joins of a script, whose reasons are values of one cell.
-/
import Derived.Test.YtkgmhkjiblanmaaFk
import Derived.Deep.RegionHeld3
namespace Go.Proofs.Ytkgmhkjiblanmaa
open Go.RowKit

def Vals (es : List Ed) : Prop := ∀ e ∈ es, e.why.oneCell' = true
theorem Vals.next {es es' : List Ed} {e : Ed} (h : Vals es) (hw : e.why.oneCell' = true) (hc : es' = es ∨ es' = es ++ [e]) : Vals es' := by
  rcases hc with rfl | rfl
  · exact h
  · intro x hx
    rcases List.mem_append.1 hx with hx | hx
    · exact h x hx
    · rw [List.mem_singleton] at hx; subst hx; exact hw

/-- A forest of the call's own, as the program makes it. -/
def MineV (w0 w : World) (p : Nat) : Prop := ∃ L F rt m es, L.p = p ∧ Rep w L F ∧ Own w0 w L ∧ Good F rt m es ∧ Vals es

theorem MineV.later {w0 w w' : World} {p : Nat} (h : MineV w0 w p) (hb : Below w.heap.size w w') : MineV w0 w' p := by
  obtain ⟨L, F, rt, m, es, hp, hr, ho, hg, hvs⟩ := h
  exact ⟨L, F, rt, m, es, hp, hr.below hb, ho.moves (Moves.still L hb), hg, hvs⟩

theorem MineV.below {w0 w : World} {p : Nat} (h : MineV w0 w p) : Below w0.heap.size w0 w := by
  obtain ⟨_, _, _, _, _, _, _, ho, _, _⟩ := h
  exact ho.below

/-- Any Join. -/
theorem joinV_any (w0 : World) (p : Nat) (a b : Int) (why : Value) (w : World) (h : MineV w0 w p) (hw : why.oneCell' = true) :
    Calls Try.prog 14 #[.pointer (some ⟨p, 0, none⟩), .int .i64 a, .int .i64 b, why] w fun e w' => (∃ v1 v2, e = .returned (.tuple #[v1, v2])) ∧ MineV w0 w' p := by
  obtain ⟨L, F, rt, m, es, rfl, hr, ho, hg, hvs⟩ := h
  by_cases hin : (!([a, b].any (out F.up.length))) = false
  · refine (join_out L F a b why w hr hin).mono ?_
    rintro e w' ⟨rfl, hb⟩
    exact ⟨⟨_, _, rfl⟩, L, F, rt, m, es, rfl, hr.below hb, ho.moves (Moves.still L hb), hg, hvs⟩
  · obtain ⟨x, y, rfl, rfl, hx, hy⟩ := not_out hin
    refine (join_in L F rt m es x y why w hr hg hx hy hw).mono ?_
    rintro e w' ⟨rfl, L', F', rt', m', es', hr', hm, hl, hg', hcase⟩
    exact ⟨⟨_, _, rfl⟩, L', F', rt', m', es', hm.p, hr', ho.moves hm, hg', hvs.next hw (hcase.imp (fun h => h.2.2) (fun h => h.2.1))⟩

/-- Any Add. -/
theorem addV_some (w0 : World) (p : Nat) (w : World) (h : MineV w0 w p) :
    Calls Try.prog 18 #[.pointer (some ⟨p, 0, none⟩)] w fun e w' => (∃ v1 v2, e = .returned (.tuple #[v1, v2])) ∧ MineV w0 w' p := by
  obtain ⟨L, F, rt, m, es, rfl, hr, ho, hg, hvs⟩ := h
  by_cases hn : F.up.length < 1048576
  · refine (add_any L F w hr hg.even hn).mono ?_
    rintro e w' ⟨rfl, L', hr', hm⟩
    exact ⟨⟨_, _, rfl⟩, L', _, rt, m, es, hm.p, hr', ho.moves hm, hg.add hn, hvs⟩
  · refine (add_full L F w hr hn).mono ?_
    rintro e w' ⟨rfl, rfl⟩
    exact ⟨⟨_, _, rfl⟩, L, F, rt, m, es, rfl, hr, ho, hg, hvs⟩

set_option maxRecDepth 100000 in
set_option maxHeartbeats 1600000 in
theorem grownV_any (A : Option Addr) (cap : Nat) (l : List OpD) (w : World) (hin : OpsIn w A l) (hmax : l.length ≤ 4398046511104) :
    Calls Try.prog 8 #[.slice A l.length cap] w fun e w' => e = .returned (.pointer (some ⟨w.heap.size, 0, none⟩)) ∧ MineV w w' w.heap.size := by
  have Hin := Lib.hid hin
  clear hin
  go_enter Try.func8, Try.ntmps8
  go_wp2_with fail
  refine (new_any _).mono ?_
  rintro e w1 ⟨rfl, hr1, hb1⟩
  have Hm1 : Hid (MineV w w1 w.heap.size) := ⟨_, _, _, _, _, rfl, hr1, Own.new hb1, good0, fun e he => by cases he⟩
  clear hr1 hb1
  go_wp2
  go_loopw [4] (fun v wr => ∃ k : Nat, k ≤ l.length ∧ v = .int .i64 k ∧ MineV w wr w.heap.size) (fun v _ => l.length - (intOf v).toNat)
  case atStart => exact ⟨0, Nat.zero_le _, rfl, Hm1.out⟩
  case round =>
    obtain ⟨k, hk, rfl, hm⟩ := hrel
    have Hm := Lib.hid hm
    clear hm Hm1
    by_cases hlt : k < l.length
    · obtain ⟨b, off, rfl, hb, hc⟩ := (Hin.out.later Hm.out.below) (by rintro rfl; simp at hlt)
      obtain ⟨c0, c1, c2, c3⟩ := hc k hlt
      have hlt' : ((k : Int) < l.length) := by omega
      clear hc
      generalize l[k] = op at c0 c1 c2 c3
      obtain ⟨kind, a, bb, why⟩ := op
      dsimp only at c0 c1 c2 c3
      by_cases k1 : kind = 1
      · subst k1
        have Hc1 := Lib.hid (show ∀ w', Below wr.heap.size wr w' → w'.cell? ⟨b, off + k * 4 + 1, none⟩ = some (.int .i64 a) from fun w' h => (h.cell (p := ⟨b, _, none⟩) hb).trans c1)
        have Hc2 := Lib.hid (show ∀ w', Below wr.heap.size wr w' → w'.cell? ⟨b, off + k * 4 + 2, none⟩ = some (.int .i64 bb) from fun w' h => (h.cell (p := ⟨b, _, none⟩) hb).trans c2)
        have Hc3 := Lib.hid (show ∀ w', Below wr.heap.size wr w' → w'.cell? ⟨b, off + k * 4 + 3, none⟩ = some (.int .i64 why) from fun w' h => (h.cell (p := ⟨b, _, none⟩) hb).trans c3)
        go_upto_region 10 with fail
        go_region_with (first
          | (go_at_call 21; refine (reason_any why _).mono ?_; rintro e w2 ⟨v, rfl, hv, hb2⟩; replace hb2 := drew_below hb2; have d1 := Hc1.out w2 hb2; have d2 := Hc2.out w2 hb2; have Hv := Lib.hid hv; have Hm2 := Lib.hid (Hm.out.later hb2); clear hv hb2)
          | (go_at_call 14; refine (joinV_any w w.heap.size a bb _ _ Hm2.out Hv.out).mono ?_; rintro e w3 ⟨⟨v1, v2, rfl⟩, hm3⟩; have Hm3 := Lib.hid hm3; clear hm3))
        all_goals
          go_wp2
          go_roundw
          case rel => exact ⟨k + 1, by omega, by go_num, Hm3.out⟩
          case measure => simp [intOf]; omega
      by_cases k2 : kind = 2 ∨ kind = 3 ∨ kind = 4 ∨ kind = 5
      · rcases k2 with rfl | rfl | rfl | rfl
        all_goals
          go_wp2
          go_roundw
          case rel => exact ⟨k + 1, by omega, by go_num, Hm.out⟩
          case measure => simp [intOf]; omega
      · have n1 : (kind == 1) = false := beq_eq_false_iff_ne.2 k1
        have n2 : (kind == 2) = false := beq_eq_false_iff_ne.2 (by omega)
        have n3 : (kind == 3) = false := beq_eq_false_iff_ne.2 (by omega)
        have n4 : (kind == 4) = false := beq_eq_false_iff_ne.2 (by omega)
        have n5 : (kind == 5) = false := beq_eq_false_iff_ne.2 (by omega)
        clear k1 k2
        go_wp2_with fail
        refine (addV_some w w.heap.size _ Hm.out).mono ?_
        rintro e w3 ⟨⟨v1, v2, rfl⟩, hm3⟩
        have Hm3 := Lib.hid hm3
        clear hm3
        go_wp2
        go_roundw
        case rel => exact ⟨k + 1, by omega, by go_num, Hm3.out⟩
        case measure => simp [intOf]; omega
    · have hk' : k = l.length := by omega
      subst hk'
      go_wp2
      go_ret
      exact ⟨rfl, Hm.out⟩

end Go.Proofs.Ytkgmhkjiblanmaa
