/-
  The walk of ForestWays (package sorrellaw09).
-/
import Derived.Test.YtkgmhkjiblanmaaFy
import Derived.Test.YtkgmhkjiblanmaaFl
import Derived.Test.YtkgmhkjiblanmaaFkv
import Derived.Test.YtkgmhkjiblanmaaFo
import Derived.BigQuiet
namespace Go.Proofs.Ytkgmhkjiblanmaa
open Go.RowKit

section
variable {w0 w : World} {L : Lay} {n : Nat} {rt m : Nat → Nat} {es : List Ed}

theorem cur_path (h : Cur w0 w L n rt m es) (hv : Vals es) {a b : Nat} (ha : a < n) (hb : b < n) (hr : rt a = rt b) : Calls Try.prog 15 #[.pointer (some ⟨L.p, 0, none⟩), .int .i64 a, .int .i64 b] w fun e w' =>
    ∃ A c l, e = .returned (.tuple #[.slice A l.length c, .int .i64 0]) ∧ Simple es a b l ∧ w'.ownsRow w.heap.size 42 4 (.slice A l.length c) l.length (stepCells l) ∧ Plain l ∧ Cur w0 w' L n rt m es ∧ Moves w w' L L := by
  obtain ⟨F, rfl, hr', ho, hg⟩ := h
  refine (path_in L F rt m es a b w hr' hg ha hb hr hv).mono ?_
  rintro e w' ⟨A, c, l, rfl, hs, hrow, hp, hst⟩
  exact ⟨A, c, l, rfl, hs, hrow, hp, Cur.still rfl ho hg hst⟩

theorem cur_path_none (h : Cur w0 w L n rt m es) {a b : Nat} (ha : a < n) (hb : b < n) (hr : rt a ≠ rt b) : Calls Try.prog 15 #[.pointer (some ⟨L.p, 0, none⟩), .int .i64 a, .int .i64 b] w fun e w' =>
    e = .returned (.tuple #[.slice none 0 0, .int .i64 11]) ∧ Cur w0 w' L n rt m es ∧ Moves w w' L L := by
  obtain ⟨F, rfl, hr', ho, hg⟩ := h
  exact (path_none L F rt m a b w hr' hg.even.most hg.tree ha hb hr).mono fun _ _ ⟨he, hst⟩ => ⟨he, Cur.still rfl ho hg hst⟩

theorem cur_path_out (h : Cur w0 w L n rt m es) {a b : Int} (hin : (!([a, b].any (out n))) = false) : Calls Try.prog 15 #[.pointer (some ⟨L.p, 0, none⟩), .int .i64 a, .int .i64 b] w fun e w' =>
    e = .returned (.tuple #[.slice none 0 0, .int .i64 2]) ∧ Cur w0 w' L n rt m es ∧ Moves w w' L L := by
  have h' := h
  obtain ⟨F, rfl, hr, ho, hg⟩ := h
  exact (path_out L F a b w hr hin).mono fun _ _ ⟨he, hb⟩ => ⟨he, h'.later hb, Moves.still L hb⟩
end

theorem out_swap {n : Nat} {a b : Int} (h : (!([a, b].any (out n))) = false) : (!([b, a].any (out n))) = false := by
  simp only [List.any_cons, List.any_nil, Bool.or_false, Bool.not_eq_false', Bool.or_eq_true] at h ⊢
  exact h.symm

/-- The members gone through, as a set in memory. -/
def marks (S : List Nat) : Int → Option Value := fun i => if i ∈ S.map (fun x : Nat => (x : Int)) then some (.bool true) else none
theorem marks_nil : marks [] = fun _ => none := by funext i; simp [marks]
theorem marks_snoc (S : List Nat) (k : Nat) : upd (marks S) k (.bool true) = marks (S ++ [k]) := by
  funext i
  unfold upd marks
  by_cases h : i = (k : Int)
  · subst h; simp
  · rw [if_neg h]
    simp only [List.map_append, List.mem_append, List.map_cons, List.map_nil, List.mem_singleton]
    by_cases h2 : i ∈ S.map (fun x : Nat => (x : Int))
    · rw [if_pos h2, if_pos (.inl h2)]
    · rw [if_neg h2, if_neg (fun h3 => h3.elim h2 h)]
theorem marks_not {S : List Nat} {k : Nat} (h : k ∉ S) : marks S k = none := by
  unfold marks
  rw [if_neg]
  intro hm
  obtain ⟨x, hx, he⟩ := List.mem_map.1 hm
  have : x = k := by omega
  exact h (this ▸ hx)

theorem Way.fr_at {es : List Ed} {a b : Nat} {l : List Sp} (h : Way es a b l) : ∀ {q : Nat} {s : Sp}, l[q]? = some s → (nodes a l)[q]? = some s.fr := by
  induction h with
  | nil a => intro q s hq; simp at hq
  | @cons a b l s' hs ho _ ih =>
    intro q s hq
    rcases q with _ | q
    · simp at hq
      subst hq
      simp [nodes, hs]
    · have := ih (q := q) (by simpa using hq)
      simpa [nodes] using this
theorem nodes_next {a q : Nat} {l : List Sp} {s : Sp} (h : l[q]? = some s) : (nodes a l)[q + 1]? = some s.dst := by
  simp [nodes, h]
theorem Way.last {es : List Ed} {a b : Nat} {l : List Sp} (h : Way es a b l) : (nodes a l)[l.length]? = some b := by
  rw [h.ends]
  rw [List.getElem?_append_right (by simp)]
  simp

theorem Simple.fresh {es : List Ed} {a b q : Nat} {l : List Sp} {s : Sp} (h : Simple es a b l) (hq : l[q]? = some s) : s.dst ∉ (nodes a l).take (q + 1) := by
  intro hm
  obtain ⟨i, hi, he⟩ := List.getElem_of_mem hm
  have h1 := nodes_next (a := a) hq
  rw [List.length_take] at hi
  have h2 : (nodes a l)[i]? = some s.dst := by
    rw [← he, List.getElem_take, List.getElem?_eq_getElem]
  have := (List.getElem?_inj (by omega) h.2).1 (h2.trans h1.symm)
  omega

theorem take_nodes {a q : Nat} {l : List Sp} {s : Sp} (hq : l[q]? = some s) : (nodes a l).take (q + 1 + 1) = (nodes a l).take (q + 1) ++ [s.dst] := by
  have h1 := nodes_next (a := a) hq
  obtain ⟨hl, he⟩ := List.getElem?_eq_some_iff.1 h1
  rw [List.take_succ_eq_append_getElem hl, he]

theorem Simple.mirror {n : Nat} {es : List Ed} {rt : Nat → Nat} (hw : Wood n es rt) {a b : Nat} {l m : List Sp} (h : Simple es a b l) (hm : Simple es b a m) : m.length = l.length ∧ ∀ q s, l[q]? = some s → m[l.length - 1 - q]? = some s.flip := by
  have ht := h.turn
  have he := hw.one hm.1 ht.1 hm.2 ht.2
  subst he
  refine ⟨by simp, fun q s hq => ?_⟩
  have hl := (List.getElem?_eq_some_iff.1 hq).1
  rw [List.getElem?_reverse (by simp; omega)]
  have e : (l.map Sp.flip).length - 1 - (l.length - 1 - q) = q := by simp; omega
  rw [e, List.getElem?_map, hq]; rfl

theorem Simple.empty {n : Nat} {es : List Ed} {rt : Nat → Nat} (hw : Wood n es rt) {a b : Nat} {l : List Sp} (h : Simple es a b l) : (a = b ↔ l.length = 0) := by
  constructor
  · rintro rfl
    have := hw.one h.1 (.nil a) h.2 (by simp [nodes])
    rw [this]; rfl
  · intro h0
    have := List.eq_nil_of_length_eq_zero h0
    subst this
    cases h.1; rfl

theorem Simple.small {n : Nat} {es : List Ed} {rt : Nat → Nat} (hw : Wood n es rt) {a b : Nat} (ha : a < n) {l : List Sp} (h : Simple es a b l) : l.length < n := by
  have := nodup_le n (nodes a l) h.2 (fun x hx => by
    rcases List.mem_cons.1 hx with rfl | hx
    · exact ha
    · obtain ⟨s, hs, rfl⟩ := List.mem_map.1 hx
      exact (h.1.lt hw s hs).2)
  simp [nodes] at this
  omega

theorem zero4 (w : World) : (zeroValue 4).run Try.prog w = .ok (.bool false) w := by kernel_rfl

/-- A step's cells in a row. -/
theorem row_step {w : World} {B g c n : Nat} {l : List Sp} (h : w.ownsRow B 42 4 (.slice (some ⟨g, 0, none⟩) n c) n (stepCells l)) (hn : n = l.length) {q : Nat} {s : Sp} (hq : l[q]? = some s) :
    w.cell? ⟨g, q * 4, none⟩ = some (.int .i64 (s.fr : Nat)) ∧ w.cell? ⟨g, q * 4 + 1, none⟩ = some (.int .i64 (s.dst : Nat)) ∧ w.cell? ⟨g, q * 4 + 2, none⟩ = some s.why ∧ w.cell? ⟨g, q * 4 + 3, none⟩ = some (.bool s.back) := by
  have hl := (List.getElem?_eq_some_iff.1 hq).1
  refine ⟨?_, ?_, ?_, ?_⟩
  · have := h.cellAt (q * 4 + 0) (by omega)
    rw [stepCells_at l q 0 (by decide), hq] at this
    exact this
  · rw [h.cellAt (q * 4 + 1) (by omega), stepCells_at l q 1 (by decide), hq]; rfl
  · rw [h.cellAt (q * 4 + 2) (by omega), stepCells_at l q 2 (by decide), hq]; rfl
  · rw [h.cellAt (q * 4 + 3) (by omega), stepCells_at l q 3 (by decide), hq]; rfl

set_option maxRecDepth 100000 in
set_option maxHeartbeats 1600000 in
theorem forestWays_walk (A : Option Addr) (cap : Nat) (l : List OpD) (a b c : Int) (w : World) (hin : OpsIn w A l) (hmax : l.length ≤ 4398046511104) :
    Calls Try.prog 4 #[.slice A l.length cap, .int .i64 a, .int .i64 b, .int .i64 c] w fun e w' => e = .returned (.bool true) ∧ Below w.heap.size w w' := by
  have Hin := Lib.hid hin
  have hmm := @run_makeMap Try.prog
  clear hin
  go_enter Try.func4, Try.ntmps4
  go_wp2_with fail
  refine (grownV_any A cap l w Hin.out hmax).mono ?_
  rintro e w1 ⟨rfl, L, F, rt, m, es, hp, hr, ho, hg, hvs⟩
  have Hc1 : Hid (Cur w w1 L F.up.length rt m es) := ⟨F, rfl, hr, ho, hg⟩
  have hn : F.up.length ≤ 1048576 := hg.even.most
  have Hw := Lib.hid hg.wood
  have Hvs := Lib.hid hvs
  have Hp := Lib.hid hp.symm
  clear hr ho hg hp hvs
  generalize F.up.length = n at *
  rw [Hp.out]
  go_wp2_with fail
  refine (awake09 _).mono ?_
  rintro e w2 ⟨rfl, hb2⟩
  have Hc2 := Lib.hid (Hc1.out.later hb2)
  clear hb2 Hc1
  by_cases hO : (!([a, b].any (out n))) = false
  · have HO := Lib.hid hO
    have HO2 := Lib.hid (out_swap hO)
    clear hO
    go_wp2_with fail
    refine (cur_path_out Hc2.out HO.out).mono ?_
    rintro e w3 ⟨rfl, hc3, _⟩
    have Hc3 := Lib.hid hc3
    clear hc3 Hc2
    go_wp2_with fail
    refine (cur_path_out Hc3.out HO2.out).mono ?_
    rintro e w4 ⟨rfl, hc4, _⟩
    have Hc4 := Lib.hid hc4
    clear hc4 Hc3
    go_wp2_with fail
    refine (cur_same_out Hc4.out HO.out).mono ?_
    rintro e w5 ⟨rfl, hc5⟩
    have Hc5 := Lib.hid hc5
    clear hc5 Hc4
    go_wp2
    go_ret
    exact ⟨rfl, cur_below Hc5.out⟩
  · obtain ⟨x, y, rfl, rfl, hx, hy⟩ := not_out hO
    clear hO
    by_cases hxy : rt x = rt y
    · go_wp2_with fail
      refine (cur_path Hc2.out Hvs.out hx hy hxy).mono ?_
      rintro e w3 ⟨A1, c1, l1, rfl, hs1, hrow1, hpl, hc3, hm3⟩
      have Hpl := Lib.hid hpl
      clear hpl
      have HL2 := Lib.hid (show ∀ z, L.Has z → z < w2.heap.size from Hc2.out.lt)
      have Hs1 := Lib.hid hs1
      have Hrow1 := Lib.hid hrow1
      have Hc3 := Lib.hid hc3
      clear hs1 hrow1 hc3 hm3 Hc2
      go_wp2_with fail
      refine (cur_path Hc3.out Hvs.out hy hx hxy.symm).mono ?_
      rintro e w4 ⟨A2, c2, l2, rfl, hs2, hrow2, _, hc4, hm4⟩
      have HL3 := Lib.hid (show ∀ z, L.Has z → z < w3.heap.size from Hc3.out.lt)
      obtain ⟨hlen, hmir⟩ := Hs1.out.mirror Hw.out hs2
      have Hmir := Lib.hid hmir
      have Hlen2 := Lib.hid hlen
      have Hrow1' := Lib.hid (own_fr Hrow1.out hm4.fr HL2.out)
      have Hrow2 := Lib.hid hrow2
      have Hc4 := Lib.hid hc4
      rw [hlen] at Hrow2
      rw [hlen]
      clear hs2 hrow2 hc4 hm4 Hc3 hlen hmir Hrow1
      go_wp2_with fail
      refine (cur_same Hc4.out hx hy).mono ?_
      have hsame : (rt x == rt y) = true := beq_iff_eq.2 hxy
      rw [hsame]
      rintro e w5 ⟨rfl, hc5, hm5⟩
      have Hrow1 := Lib.hid (own_fr Hrow1'.out hm5.fr HL2.out)
      have Hrow2' := Lib.hid (own_fr Hrow2.out hm5.fr HL3.out)
      have Hc5 := Lib.hid hc5
      have hsm := Hs1.out.small Hw.out hx
      obtain ⟨B, hB1, hB2⟩ : ∃ B : Bool, (((x : Nat) : Int) == ((y : Nat) : Int)) = B ∧ ((l1.length : Int) == 0) = B := by
        refine ⟨_, rfl, ?_⟩
        have := Hs1.out.empty Hw.out
        rw [Bool.eq_iff_iff, beq_iff_eq, beq_iff_eq]
        omega
      have Hxy := Lib.hid hxy
      clear hc5 hm5 Hc4 Hrow1' Hrow2 hsame hxy
      go_wp2_with (refine wpList_tab_insert _ rfl (.tmp 110) (.tmp 111) (.const (.bool true)) 40 rfl 4 Try.underlying40 w5.heap.size 0 (fun _ => none) rfl (Tab.made w5) (by decide) (x : Int) rfl (WalkArith.wf_i64 (by omega)) (.bool true) rfl ?_; intro w6 htab6 hg6)
      have Hst : Hid (Tab w6 w5.heap.size (0 + 1) (marks ((nodes x l1).take (0 + 1))) ∧ Below w5.heap.size w5 w6) := by
        have h5 : Below w5.heap.size w5 (w5.alloc (.map #[] 0)) := (Below.refl _ _).alloc (Nat.le_refl _) _
        rw [← marks_nil, marks_snoc] at htab6
        exact ⟨htab6, h5.grown hg6 h5.size (fun k hk => by cases hk; exact Nat.le_refl _)⟩
      clear htab6 hg6
      go_loopw [16, 18] (fun at_ i wr => ∃ q z : Nat, q ≤ l1.length ∧ i = .int .i64 q ∧ at_ = .int .i64 z ∧ (nodes x l1)[q]? = some z ∧ Tab wr w5.heap.size (q + 1) (marks ((nodes x l1).take (q + 1))) ∧ Below w5.heap.size w5 wr) (fun _ i _ => l1.length - (intOf i).toNat)
      case atStart => exact ⟨0, x, Nat.zero_le _, rfl, rfl, rfl, Hst.out.1, Hst.out.2⟩
      case round =>
        obtain ⟨q, z, hq, rfl, rfl, hz, htab, hbel⟩ := hrel
        have Htab := Lib.hid htab
        have Hbel := Lib.hid hbel
        clear htab hbel Hst
        by_cases hql : q < l1.length
        · obtain ⟨s, hs⟩ : ∃ s, l1[q]? = some s := ⟨_, List.getElem?_eq_getElem hql⟩
          have hzs : s.fr = z := Option.some.inj ((Hs1.out.1.fr_at hs).symm.trans hz)
          subst hzs
          have hqi : ((q : Nat) : Int) < l1.length := by omega
          obtain ⟨g1, c1', hv1, hg1b, hg1⟩ := Hrow1.out.form (by omega)
          cases hv1
          obtain ⟨g2, c2', hv2, hg2b, hg2⟩ := Hrow2'.out.form (by omega)
          cases hv2
          obtain ⟨d0, d1, _, d3⟩ := row_step Hrow1.out rfl hs
          have hmirr := Hmir.out q s hs
          have hlen2 : l2.length = l1.length := Hlen2.out
          obtain ⟨e0, e1, e2, e3⟩ := row_step Hrow2'.out hlen2.symm hmirr
          have hwhy : s.why.oneCell' = true := Hpl.out s (List.mem_of_getElem? hs)
          have hfresh : marks ((nodes x l1).take (q + 1)) (s.dst : Nat) = none := marks_not (Hs1.out.fresh hs)
          have htk := take_nodes (a := x) hs
          have hnx := nodes_next (a := x) hs
          have hdn := (Hs1.out.1.lt Hw.out s (List.mem_of_getElem? hs))
          clear hmirr hlen2 hz
          obtain ⟨fr, dst, why, back⟩ := s
          simp only [Sp.flip] at d0 d1 d3 e0 e1 e2 e3 hwhy hfresh htk hnx hdn
          have hl1 : ∀ o v, w5.cell? ⟨g1, o, none⟩ = some v → wr.cell? ⟨g1, o, none⟩ = some v := fun o v h => (Hbel.out.cell (p := ⟨g1, o, none⟩) hg1).trans h
          have hl2 : ∀ o v, w5.cell? ⟨g2, o, none⟩ = some v → wr.cell? ⟨g2, o, none⟩ = some v := fun o v h => (Hbel.out.cell (p := ⟨g2, o, none⟩) hg2).trans h
          replace d0 := hl1 _ _ d0
          replace d1 := hl1 _ _ d1
          replace d3 := hl1 _ _ d3
          replace e0 := hl2 _ _ e0
          replace e1 := hl2 _ _ e1
          replace e2 := hl2 _ _ e2
          replace e3 := hl2 _ _ e3
          have hgr : g1 < wr.heap.size := Nat.lt_of_lt_of_le hg1 Hbel.out.size
          have hwm : why.cells = #[why] := one_cells hwhy
          unfold Value.cells at hwm
          have hst : ∀ (ax : Addr) (wx : World), (store ax why).run Try.prog wx = stored Try.prog wx ax why .plain := fun ax wx => run_store _ wx ax why _ hwhy
          have Hfresh := Lib.hid hfresh
          have Htk := Lib.hid htk
          have Hnx := Lib.hid hnx
          clear hl1 hl2 hfresh htk hnx hg1b hg2b hg1 hg2
          go_wp2_with fail
          have hbz : Below wr.heap.size wr (wr.alloc (.cells #[.int .i64 dst, .int .i64 fr, why, .bool (!back)] 42)) := (Below.refl _ _).alloc (Nat.le_refl _) _
          have hnew : ∀ i, (wr.alloc (.cells #[.int .i64 dst, .int .i64 fr, why, .bool (!back)] 42)).cell? ⟨wr.heap.size, i, none⟩ = #[.int .i64 dst, .int .i64 fr, why, .bool (!back)][i]? := fun i => World.cell?_alloc_new _ _ _ i
          generalize wr.alloc (.cells #[.int .i64 dst, .int .i64 fr, why, .bool (!back)] 42) = wz at hbz hnew ⊢
          have n0 := hnew 0
          have n1 := hnew 1
          have n3 := hnew 3
          simp only [List.getElem?_toArray, List.getElem?_cons_zero, List.getElem?_cons_succ] at n0 n1 n3
          replace d0 := (hbz.cell (p := ⟨g1, _, none⟩) hgr).trans d0
          replace d1 := (hbz.cell (p := ⟨g1, _, none⟩) hgr).trans d1
          replace d3 := (hbz.cell (p := ⟨g1, _, none⟩) hgr).trans d3
          have Hbz := Lib.hid hbz
          have hlk : ∀ d, (Instr.lookup 40 (.map (some w5.heap.size)) (.int .i64 dst) false).run Try.prog (wz.drewN d) = .ok (.bool false) (wz.drewN d) := fun d => by
            have := ((Htab.out.below Hbz.out).drewN d).look (k := (dst : Int)) Try.underlying40 (zero4 _) (WalkArith.wf_i64 (by omega))
            rw [Hfresh.out] at this
            exact this
          have hbk : ((!back) == back) = false := by cases back <;> rfl
          clear hnew hbz e0 e1 e2 e3 hst hwm
          go_quiet (fail)
          clear hlk hbk n0 n1 n3
          go_wp2_with (refine wpList_tab_put _ rfl (.tmp 178) (.tmp 179) (.const (.bool true)) 40 rfl 4 Try.underlying40 w5.heap.size (q + 1) (marks ((nodes x l1).take (q + 1))) rfl ((Htab.out.below Hbz.out).drewN _) (by unfold maxLen; omega) (dst : Int) rfl (WalkArith.wf_i64 (by omega)) (.bool true) rfl ?_; intro w7 htab7 hg7)
          have Hend : Hid (Tab w7 w5.heap.size (q + 1 + 1) (marks ((nodes x l1).take (q + 1 + 1))) ∧ Below w5.heap.size w5 w7) := by
            rw [marks_snoc, ← Htk.out] at htab7
            have h1 := Hbel.out.trans (Hbz.out.mono Hbel.out.size)
            have h2 := h1.trans ((drewN_below wz nq).mono h1.size)
            exact ⟨htab7, h2.grown hg7 h2.size (fun k hk => by cases hk; exact Nat.le_refl _)⟩
          clear htab7 hg7
          go_roundw
          case rel => exact ⟨q + 1, dst, by omega, by go_num, rfl, Hnx.out, Hend.out.1, Hend.out.2⟩
          case measure => simp [intOf]; omega
        · have hqe : q = l1.length := by omega
          subst hqe
          have hzy : y = z := Option.some.inj (Hs1.out.1.last.symm.trans hz)
          subst hzy
          have Hc := Lib.hid (Hc5.out.later Hbel.out)
          clear hz hql hq Hbel Htab Hrow1 Hrow2' Hc5
          by_cases hcO : out n c = true
          · have hyc : (!([(y : Int), c].any (out n))) = false := by simp [hcO]
            have hxc : (!([(x : Int), c].any (out n))) = false := by simp [hcO]
            have Hyc := Lib.hid hyc
            have Hxc := Lib.hid hxc
            clear hyc hxc hcO
            go_wp2_with fail
            refine (cur_path_out Hc.out Hyc.out).mono ?_
            rintro e w7 ⟨rfl, hc7, _⟩
            have Hc7 := Lib.hid hc7
            clear hc7 Hc
            go_wp2_with fail
            refine (cur_path_out Hc7.out Hxc.out).mono ?_
            rintro e w8 ⟨rfl, hc8, _⟩
            have Hc8 := Lib.hid hc8
            clear hc8 Hc7
            go_wp2
            go_ret
            exact ⟨rfl, cur_below Hc8.out⟩
          · obtain ⟨t, rfl, ht⟩ := in_one hcO
            clear hcO
            by_cases hyt : rt y = rt t
            · have Hxt := Lib.hid (Hxy.out.trans hyt)
              have Hyt := Lib.hid hyt
              clear hyt
              go_wp2_with fail
              refine (cur_path Hc.out Hvs.out hy ht Hyt.out).mono ?_
              rintro e w7 ⟨A3, c3, l3, rfl, hs3, _, _, hc7, _⟩
              have Hs3 := Lib.hid hs3
              have Hc7 := Lib.hid hc7
              clear hs3 hc7 Hc
              go_wp2_with fail
              refine (cur_path Hc7.out Hvs.out hx ht Hxt.out).mono ?_
              rintro e w8 ⟨A4, c4, l4, rfl, hs4, _, _, hc8, _⟩
              obtain ⟨h3a, h3b⟩ := Hs1.out.three Hw.out Hs3.out hs4
              have h3n := Hs3.out.small Hw.out hy
              have h4n := hs4.small Hw.out hx
              have Hc8 := Lib.hid hc8
              clear hs4 hc8 Hc7 Hs3
              generalize l3.length = n3 at *
              generalize l4.length = n4 at *
              generalize l1.length = n1 at *
              have hq1 : (((n1 : Int) + n3 - n4) % 2 == 0) = true := by rw [beq_iff_eq]; omega
              have hq2 : ((n4 : Int) ≤ n1 + n3) := by omega
              clear h3b
              go_wp2
              go_ret
              exact ⟨rfl, cur_below Hc8.out⟩
            · have Hyt := Lib.hid hyt
              clear hyt
              go_wp2_with fail
              refine (cur_path_none Hc.out hy ht Hyt.out).mono ?_
              rintro e w7 ⟨rfl, hc7, _⟩
              have Hc7 := Lib.hid hc7
              clear hc7 Hc
              go_wp2_with fail
              refine (cur_path_none Hc7.out hx ht (fun e => Hyt.out (Hxy.out.symm.trans e))).mono ?_
              rintro e w8 ⟨rfl, hc8, _⟩
              have Hc8 := Lib.hid hc8
              clear hc8 Hc7
              go_wp2
              go_ret
              exact ⟨rfl, cur_below Hc8.out⟩
    · go_wp2_with fail
      refine (cur_path_none Hc2.out hx hy hxy).mono ?_
      rintro e w3 ⟨rfl, hc3, _⟩
      have Hc3 := Lib.hid hc3
      clear hc3 Hc2
      go_wp2_with fail
      refine (cur_path_none Hc3.out hy hx (fun e => hxy e.symm)).mono ?_
      rintro e w4 ⟨rfl, hc4, _⟩
      have Hc4 := Lib.hid hc4
      clear hc4 Hc3
      have hsame : (rt x == rt y) = false := beq_eq_false_iff_ne.2 hxy
      have Hsame := Lib.hid hsame
      clear hsame hxy
      go_wp2_with fail
      refine (cur_same Hc4.out hx hy).mono ?_
      rw [Hsame.out]
      rintro e w5 ⟨rfl, hc5, _⟩
      have Hc5 := Lib.hid hc5
      clear hc5 Hc4
      go_wp2
      go_ret
      exact ⟨rfl, cur_below Hc5.out⟩

end Go.Proofs.Ytkgmhkjiblanmaa
