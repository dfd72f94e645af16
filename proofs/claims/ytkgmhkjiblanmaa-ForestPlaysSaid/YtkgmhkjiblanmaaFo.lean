/-
  The walk of ForestGroups (package sorrellaw09).
-/
import Derived.Test.YtkgmhkjiblanmaaFl
import Derived.Test.YtkgmhkjiblanmaaFk
import Derived.BigQuiet
namespace Go.Proofs.Ytkgmhkjiblanmaa
open Go.RowKit

theorem in_one {n : Nat} {a : Int} (h : ¬ out n a = true) : ∃ x : Nat, a = x ∧ x < n := by
  simp only [out, Bool.or_eq_true, decide_eq_true_eq, not_or] at h
  exact ⟨a.toNat, by omega, by omega⟩

theorem cur_below {w0 w : World} {L : Lay} {n : Nat} {rt m : Nat → Nat} {es : List Ed} (h : Cur w0 w L n rt m es) : Below w0.heap.size w0 w := by
  obtain ⟨_, _, _, ho, _⟩ := h
  exact ho.below

theorem upCells_at {M : List Nat} {q : Nat} (h : q < M.length) : (upCells M)[q]? = some (.int .i64 (M[q] : Nat)) := by simp [upCells, h]

theorem take_mem {M : List Nat} {k q : Nat} (h : q < M.length) : k ∈ M.take (q + 1) ↔ k ∈ M.take q ∨ M[q] = k := by
  rw [List.take_succ_eq_append_getElem h, List.mem_append, List.mem_singleton]
  exact ⟨fun h => h.imp id Eq.symm, fun h => h.imp id Eq.symm⟩

set_option maxRecDepth 100000 in
set_option maxHeartbeats 1600000 in
theorem forestGroups_walk (A : Option Addr) (cap : Nat) (l : List OpD) (a b : Int) (w : World) (hin : OpsIn w A l) (hmax : l.length ≤ 4398046511104) :
    Calls Try.prog 3 #[.slice A l.length cap, .int .i64 a, .int .i64 b] w fun e w' => e = .returned (.bool true) ∧ Below w.heap.size w w' := by
  have Hin := Lib.hid hin
  clear hin
  go_enter Try.func3, Try.ntmps3
  go_wp2_with fail
  refine (grown_any A cap l w Hin.out hmax).mono ?_
  rintro e w1 ⟨rfl, L, F, rt, m, es, hp, hr, ho, hg⟩
  have Hc1 : Hid (Cur w w1 L F.up.length rt m es) := ⟨F, rfl, hr, ho, hg⟩
  have hn : F.up.length ≤ 1048576 := hg.even.most
  have Hp := Lib.hid hp.symm
  clear hr ho hg hp
  generalize F.up.length = n at *
  rw [Hp.out]
  go_wp2_with fail
  refine (awake09 _).mono ?_
  rintro e w2 ⟨rfl, hb2⟩
  have Hc2 := Lib.hid (Hc1.out.later hb2)
  clear hb2 Hc1
  go_wp2
  go_loopw [8, 9] (fun s i wr => ∃ k : Nat, k ≤ n ∧ i = .int .i64 k ∧ s = .int .i64 (part rt n k) ∧ Cur w wr L n rt m es) (fun _ i _ => n - (intOf i).toNat)
  case atStart => exact ⟨0, Nat.zero_le _, rfl, rfl, Hc2.out⟩
  case round =>
    obtain ⟨k, hk, rfl, rfl, hc⟩ := hrel
    have Hc := Lib.hid hc
    clear hc Hc2
    go_wp2_with fail
    refine (cur_len Hc.out).mono ?_
    rintro e w3 ⟨rfl, rfl⟩
    by_cases hlt : k < n
    · have hlt' : (k : Int) < n := by omega
      have hpl := part_le rt n k
      have hps := part_succ rt n k
      have Hpl : Hid (part rt n k ≤ 1099511627776) := Nat.le_trans hpl (Nat.le_trans (Nat.mul_le_mul (Nat.le_of_lt (Nat.lt_of_lt_of_le hlt hn)) hn) (by decide))
      have Hps := Lib.hid hps
      clear hpl hps
      go_wp2_with fail
      refine (cur_group Hc.out hlt).mono ?_
      rintro e w4 ⟨⟨g, c, rfl, hrow⟩, hc4, hm4⟩
      have HL := Lib.hid (show ∀ x, L.Has x → x < wr.heap.size from Hc.out.lt)
      have Hrow := Lib.hid hrow
      have Hc4 := Lib.hid hc4
      clear hc4 hm4 hrow Hc
      go_wp2_with fail
      refine (cur_least Hc4.out hlt).mono ?_
      rintro e w5 ⟨rfl, hc5, hm5⟩
      have Hrow5 := Lib.hid (own_fr Hrow.out hm5.fr HL.out)
      have Hc5 := Lib.hid hc5
      have hle := least_le rt hlt
      have hpos : 0 < (members rt k n).length := List.length_pos_iff.2 (members_ne rt hlt)
      have hmem := members_mem rt hlt
      have hsorted := members_sorted rt k n
      have hall : ∀ x ∈ members rt k n, x < n ∧ rt x = rt k := fun x hx => mem_members.1 hx
      have hfirst : (members rt k n)[0]? = some (least rt k n) := by
        unfold least
        rcases hM : members rt k n with _ | ⟨x, M⟩
        · rw [hM] at hpos; simp at hpos
        · rfl
      have hml := members_le rt k n
      clear hc5 hm5 Hrow Hc4
      generalize members rt k n = M at *
      generalize least rt k n = le at *
      have hz : ((M.length : Int) == 0) = false := beq_eq_false_iff_ne.2 (by omega)
      have hcell : w5.cell? ⟨g, 0, none⟩ = some (.int .i64 le) := by
        rw [Hrow5.out.cellAt 0 (by omega)]; simp [upCells, hfirst]
      have hle' : decide (k < le) = false := decide_eq_false (by omega)
      clear hle
      have Hmem := Lib.hid hmem
      have Hsorted := Lib.hid hsorted
      have Hall := Lib.hid hall
      have Hfirst := Lib.hid hfirst
      clear hmem hsorted hall hfirst
      go_wp2
      have HF : Hid (Moves w5 w5 L L) := Moves.refl _ _
      go_loopw [14, 15] (fun o j wq => ∃ q : Nat, q ≤ M.length ∧ j = .int .i64 q ∧ ∃ ob : Bool, o = .bool ob ∧ (ob = true ↔ k ∈ M.take q) ∧ Cur w wq L n rt m es ∧ Moves w5 wq L L) (fun _ j _ => M.length - (intOf j).toNat)
      case atStart => exact ⟨0, Nat.zero_le _, rfl, false, rfl, by simp, Hc5.out, Moves.refl _ _⟩
      case round =>
        obtain ⟨q, hq, rfl, ob, rfl, hob, hcq, hmq⟩ := hrel
        have Hob := Lib.hid hob
        have Hcq := Lib.hid hcq
        have Hmq := Lib.hid hmq
        have Hrowq := Lib.hid (own_fr Hrow5.out hmq.fr HL.out)
        clear hob hcq hmq Hc5 HF hcell
        by_cases hql : q < M.length
        · have hqi : ((q : Nat) : Int) < M.length := by omega
          have hcq1 : wr.cell? ⟨g, q, none⟩ = some (.int .i64 (M[q] : Nat)) := by
            rw [Hrowq.out.cellAt q (by omega)]; exact upCells_at hql
          have hx := Hall.out _ (List.getElem_mem hql)
          have hx1 := hx.1
          have Hx2 := Lib.hid hx.2
          have Htm := Lib.hid (take_mem (k := k) hql)
          have hprev : ∀ p, q = p + 1 → ∃ y : Nat, wr.cell? ⟨g, p, none⟩ = some (.int .i64 y) ∧ y < M[q] := fun p hp => by
            subst hp
            refine ⟨M[p]'(by omega), by rw [Hrowq.out.cellAt p (by omega)]; exact upCells_at (by omega), ?_⟩
            exact List.pairwise_iff_getElem.1 Hsorted.out p (p + 1) (by omega) hql (by omega)
          have Hprev := Lib.hid hprev
          clear hprev hx
          generalize M[q] = x at *
          go_wp2_with fail
          refine (cur_same Hcq.out hx1 hlt).mono ?_
          rintro e w6 ⟨rfl, hc6, hm6⟩
          have hrr : (rt x == rt k) = true := beq_iff_eq.2 Hx2.out
          rw [hrr]
          have Hrow6 := Lib.hid (own_fr Hrowq.out hm6.fr HL.out)
          have Hc6 := Lib.hid hc6
          have Hm6 := Lib.hid (Hmq.out.trans hm6)
          have hkeep : ∀ j, w6.cell? ⟨g, j, none⟩ = wr.cell? ⟨g, j, none⟩ := fun j => World.cell?_of_block (hm6.fr.block g (World.block_lt_of_cell? wr _ hcq1) (fun hh => by have := HL.out g hh; have := (Hrowq.out.lt g rfl).1; omega))
          have Hkeep := Lib.hid hkeep
          have Hend : Hid (∀ d : Nat, Cur w (w6.drewN d) L n rt m es ∧ Moves w5 (w6.drewN d) L L) := fun d => ⟨hc6.later (drewN_below _ _), (Hmq.out.trans hm6).then_still (drewN_below _ _)⟩
          clear hc6 Hcq Hmq hrr hkeep hm6
          have hbx : ((x : Int) == (k : Int)) = decide (x = k) := by rw [Bool.eq_iff_iff, beq_iff_eq, decide_eq_true_eq]; omega
          have hc6q : w6.cell? ⟨g, q, none⟩ = some (.int .i64 (x : Nat)) := (Hkeep.out q).trans hcq1
          rcases q with _ | q
          · cases ob
            · go_wp2
              go_quiet (fail)
              go_wp2
              go_roundw
              case rel =>
                exact ⟨0 + 1, by omega, by go_num, _, rfl, by rw [Htm.out, ← Hob.out]; simp, (Hend.out _).1, (Hend.out _).2⟩
              case measure => simp [intOf]; omega
            · go_wp2
              go_quiet (fail)
              go_wp2
              go_roundw
              case rel =>
                exact ⟨0 + 1, by omega, by go_num, _, rfl, by rw [Htm.out, ← Hob.out]; simp, (Hend.out _).1, (Hend.out _).2⟩
              case measure => simp [intOf]; omega
          · obtain ⟨y, hy1, hy2⟩ := Hprev.out q rfl
            have hgt : (0 : Int) < (q : Int) + 1 := by omega
            have hqm : ((q : Nat) : Int) < M.length := by omega
            have hyx : ¬ (x : Int) ≤ (y : Int) := by omega
            have hc6y : w6.cell? ⟨g, q, none⟩ = some (.int .i64 (y : Nat)) := (Hkeep.out q).trans hy1
            cases ob
            · go_wp2
              go_quiet (fail)
              go_wp2
              go_roundw
              case rel =>
                exact ⟨q + 1 + 1, by omega, by go_num, _, rfl, by rw [Htm.out, ← Hob.out]; simp, (Hend.out _).1, (Hend.out _).2⟩
              case measure => simp [intOf]; omega
            · go_wp2
              go_quiet (fail)
              go_wp2
              go_roundw
              case rel =>
                exact ⟨q + 1 + 1, by omega, by go_num, _, rfl, by rw [Htm.out, ← Hob.out]; simp, (Hend.out _).1, (Hend.out _).2⟩
              case measure => simp [intOf]; omega
        · have hqM : q = M.length := by omega
          subst hqM
          rw [List.take_length] at Hob
          have hbt : ob = true := Hob.out.2 Hmem.out
          subst hbt
          have Hps' := Hps.out
          by_cases hlk : le = k
          · have hlk' : ((le : Int) == (k : Int)) = true := beq_iff_eq.2 (by omega)
            rw [if_pos hlk] at Hps'
            have HP := Lib.hid Hps'
            clear Hps' Hps hlk
            go_wp2
            go_roundw
            case rel =>
              exact ⟨k + 1, by omega, by go_num, by have h1 := Hpl.out; rw [HP.out]; congr 1; unfold wrap64; omega, Hcq.out⟩
            case measure => simp [intOf]; omega
          · have hlk' : ((le : Int) == (k : Int)) = false := beq_eq_false_iff_ne.2 (by omega)
            rw [if_neg hlk] at Hps'
            have HP := Lib.hid Hps'
            clear Hps' Hps hlk
            go_wp2
            go_roundw
            case rel =>
              exact ⟨k + 1, by omega, by go_num, by rw [HP.out]; rfl, Hcq.out⟩
            case measure => simp [intOf]; omega
    · have hkn : k = n := by omega
      subst hkn
      rw [part_all]
      clear hlt
      have Hk := Lib.hid hk
      clear hk
      go_wp2_with fail
      refine (cur_len Hc.out).mono ?_
      rintro e w4 ⟨rfl, rfl⟩
      by_cases haO : out k a = true
      · have hin2 : (!([a, b].any (out k))) = false := by simp [haO]
        have Hin2 := Lib.hid hin2
        have HaO := Lib.hid haO
        clear hin2 haO
        go_wp2_with fail
        refine (cur_group_out Hc.out HaO.out).mono ?_
        rintro e w5 ⟨rfl, hc5⟩
        have Hc5 := Lib.hid hc5
        clear hc5 Hc
        by_cases hbO : out k b = true
        · have HbO := Lib.hid hbO
          clear hbO
          go_wp2_with fail
          refine (cur_group_out Hc5.out HbO.out).mono ?_
          rintro e w6 ⟨rfl, hc6⟩
          have Hc6 := Lib.hid hc6
          clear hc6 Hc5
          go_wp2_with fail
          refine (cur_same_out Hc6.out Hin2.out).mono ?_
          rintro e w7 ⟨rfl, hc7⟩
          have Hc7 := Lib.hid hc7
          clear hc7 Hc6
          go_wp2_with fail
          refine (cur_join_out Hc7.out Hin2.out).mono ?_
          rintro e w8 ⟨rfl, hc8⟩
          have Hc8 := Lib.hid hc8
          clear hc8 Hc7
          go_wp2_with fail
          refine (cur_group_out Hc8.out HaO.out).mono ?_
          rintro e w9 ⟨rfl, hc9⟩
          have Hc9 := Lib.hid hc9
          clear hc9 Hc8
          go_wp2
          go_ret
          exact ⟨rfl, cur_below Hc9.out⟩
        · obtain ⟨y, rfl, hy⟩ := in_one hbO
          clear hbO
          go_wp2_with fail
          refine (cur_group Hc5.out hy).mono ?_
          rintro e w6 ⟨⟨g, c, rfl, _⟩, hc6, _⟩
          have Hc6 := Lib.hid hc6
          clear hc6 Hc5
          go_wp2_with fail
          refine (cur_same_out Hc6.out Hin2.out).mono ?_
          rintro e w7 ⟨rfl, hc7⟩
          have Hc7 := Lib.hid hc7
          clear hc7 Hc6
          go_wp2_with fail
          refine (cur_join_out Hc7.out Hin2.out).mono ?_
          rintro e w8 ⟨rfl, hc8⟩
          have Hc8 := Lib.hid hc8
          clear hc8 Hc7
          go_wp2_with fail
          refine (cur_group_out Hc8.out HaO.out).mono ?_
          rintro e w9 ⟨rfl, hc9⟩
          have Hc9 := Lib.hid hc9
          clear hc9 Hc8
          go_wp2
          go_ret
          exact ⟨rfl, cur_below Hc9.out⟩
      · obtain ⟨x, rfl, hx⟩ := in_one haO
        clear haO
        go_wp2_with fail
        refine (cur_group Hc.out hx).mono ?_
        rintro e w5 ⟨⟨g, c, rfl, _⟩, hc5, _⟩
        have Hc5 := Lib.hid hc5
        clear hc5 Hc
        by_cases hbO : out k b = true
        · have hin2 : (!([(x : Int), b].any (out k))) = false := by simp [hbO]
          have Hin2 := Lib.hid hin2
          have HbO := Lib.hid hbO
          clear hbO hin2
          go_wp2_with fail
          refine (cur_group_out Hc5.out HbO.out).mono ?_
          rintro e w6 ⟨rfl, hc6⟩
          have Hc6 := Lib.hid hc6
          clear hc6 Hc5
          go_wp2_with fail
          refine (cur_same_out Hc6.out Hin2.out).mono ?_
          rintro e w7 ⟨rfl, hc7⟩
          have Hc7 := Lib.hid hc7
          clear hc7 Hc6
          go_wp2_with fail
          refine (cur_join_out Hc7.out Hin2.out).mono ?_
          rintro e w8 ⟨rfl, hc8⟩
          have Hc8 := Lib.hid hc8
          clear hc8 Hc7
          go_wp2_with fail
          refine (cur_group Hc8.out hx).mono ?_
          rintro e w9 ⟨⟨g2, c2, rfl, _⟩, hc9, _⟩
          have Hc9 := Lib.hid hc9
          clear hc9 Hc8
          go_wp2
          go_ret
          exact ⟨rfl, cur_below Hc9.out⟩
        · obtain ⟨y, rfl, hy⟩ := in_one hbO
          clear hbO
          go_wp2_with fail
          refine (cur_group Hc5.out hy).mono ?_
          rintro e w6 ⟨⟨g2, c2, rfl, _⟩, hc6, _⟩
          have Hc6 := Lib.hid hc6
          clear hc6 Hc5
          go_wp2_with fail
          refine (cur_same Hc6.out hx hy).mono ?_
          rintro e w7 ⟨rfl, hc7, _⟩
          have Hc7 := Lib.hid hc7
          clear hc7 Hc6
          have h1 := members_le rt x k
          have h2 := members_le rt y k
          have hk2 := Hk.out
          by_cases hxy : rt x = rt y
          · have hb1 : (rt x == rt y) = true := beq_iff_eq.2 hxy
            rw [hb1]
            have Hb1 := Lib.hid hb1
            have Hxy := Lib.hid hxy
            clear hb1 hxy
            generalize (members rt y k).length = m2 at *
            go_wp2_with fail
            refine (cur_join Hc7.out hx hy rfl).mono ?_
            rw [Hb1.out]
            rintro e w8 ⟨rfl, L', rt', m', es', hp', hc8, _, hcase⟩
            rcases hcase with ⟨_, rfl, rfl⟩ | ⟨hne, _⟩
            case inr => exact absurd Hxy.out hne
            have Hc8 := Lib.hid hc8
            have Hp' := Lib.hid hp'.symm
            clear hc8 hp' Hc7
            rw [Hp'.out]
            go_wp2_with fail
            refine (cur_group Hc8.out hx).mono ?_
            rintro e w9 ⟨⟨g3, c3, rfl, _⟩, hc9, _⟩
            have Hc9 := Lib.hid hc9
            clear hc9 Hc8
            go_wp2
            go_ret
            exact ⟨rfl, cur_below Hc9.out⟩
          · have hb1 : (rt x == rt y) = false := beq_eq_false_iff_ne.2 hxy
            rw [hb1]
            have Hb1 := Lib.hid hb1
            have Hxy := Lib.hid hxy
            clear hb1 hxy
            go_wp2_with fail
            refine (cur_join Hc7.out hx hy rfl).mono ?_
            rw [Hb1.out]
            rintro e w8 ⟨rfl, L', rt', m', es', hp', hc8, _, hcase⟩
            rcases hcase with ⟨he, _⟩ | ⟨hne, _, x', y', hor, rfl⟩
            case inl => exact absurd he Hxy.out
            have hmj := members_join (n := k) hor Hxy.out
            have Hc8 := Lib.hid hc8
            have Hp' := Lib.hid hp'.symm
            clear hc8 hp' Hc7
            rw [Hp'.out]
            go_wp2_with fail
            refine (cur_group Hc8.out hx).mono ?_
            rintro e w9 ⟨⟨g3, c3, rfl, _⟩, hc9, _⟩
            have Hc9 := Lib.hid hc9
            clear hc9 Hc8
            generalize (members (join rt x' y') x k).length = m3 at *
            generalize (members rt x k).length = m1 at *
            generalize (members rt y k).length = m2 at *
            have hq : ((m3 : Int) == (m1 : Int) + (m2 : Int)) = true := beq_iff_eq.2 (by omega)
            clear hmj
            go_wp2
            go_ret
            exact ⟨rfl, cur_below Hc9.out⟩

end Go.Proofs.Ytkgmhkjiblanmaa
