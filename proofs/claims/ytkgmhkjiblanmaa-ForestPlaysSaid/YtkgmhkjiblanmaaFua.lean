/-
  The walks of the document's forest: has, Add, Join, Same, Group, Least (package sorrelref09).
-/
import Derived.Test.YtkgmhkjiblanmaaFu
namespace Go.Proofs.Ytkgmhkjiblanmaa
open Go.RowKit

/-- The document's forest beside the program's. -/
structure Side (w : World) (base pw n : Nat) (jv : Value) (js : List JN) (es : List Ed) (rt : Nat → Nat) : Prop where
  refs : Refs w base pw n jv js
  mat : Match es js
  wood : Wood n es rt
  most : n ≤ 1048576

def RHas (pw : Nat) (jv : Value) (x : Nat) : Prop := x = pw ∨ jv.ownBlock = some x
structure RMoves (w w' : World) (pw : Nat) (jv jv' : Value) : Prop where
  fr : Fr (RHas pw jv) w w'
  own : ∀ x, RHas pw jv' x → RHas pw jv x ∨ w.heap.size ≤ x

theorem RMoves.still {w w' : World} (pw : Nat) (jv : Value) (hb : Below w.heap.size w w') : RMoves w w' pw jv jv := ⟨Fr.of_below _ hb, fun _ h => .inl h⟩

theorem news_of (w w1 : World) (cs : Array Value) (t : TypeId) (h : w1.heap[w.heap.size]? = some (.cells cs t (0, 0))) : ∀ j u, cs.toList[j]? = some u → w1.cell? ((⟨w.heap.size, 0, none⟩ : Addr).add j) = some u := World.news_of_block h

section
variable {w : World} {base pw n : Nat} {jv : Value} {js : List JN} {es : List Ed} {rt : Nat → Nat}

theorem Side.later {w' : World} (h : Side w base pw n jv js es rt) (hb : Below w.heap.size w w') : Side w' base pw n jv js es rt := ⟨h.refs.below hb, h.mat, h.wood, h.most⟩

set_option maxRecDepth 100000 in
set_option maxHeartbeats 800000 in
theorem has_in (h : Side w base pw n jv js es rt) {a : Nat} (ha : a < n) : Calls Try.prog 42 #[.pointer (some ⟨pw, 0, none⟩), .int .i64 a] w fun e w' => e = .returned (.bool true) ∧ w = w' := by
  have hc := h.refs.cells.1
  have hai : (a : Int) < n := by omega
  have ha0 : (0 : Int) ≤ a := by omega
  clear h
  go_enter Try.func42, Try.ntmps42
  go_wp2
  go_ret
  exact ⟨rfl, rfl⟩

set_option maxRecDepth 100000 in
set_option maxHeartbeats 800000 in
theorem has_off (h : Side w base pw n jv js es rt) {a : Int} (ha : out n a = true) : Calls Try.prog 42 #[.pointer (some ⟨pw, 0, none⟩), .int .i64 a] w fun e w' => e = .returned (.bool false) ∧ w = w' := by
  have hc := h.refs.cells.1
  clear h
  by_cases h0 : (0 : Int) ≤ a
  · have h1 : ¬ a < n := by
      unfold out at ha
      rw [Bool.or_eq_true, decide_eq_true_eq, decide_eq_true_eq] at ha
      omega
    clear ha
    go_enter Try.func42, Try.ntmps42
    go_wp2
    go_ret
    exact ⟨rfl, rfl⟩
  · clear ha
    go_enter Try.func42, Try.ntmps42
    go_wp2
    go_ret
    exact ⟨rfl, rfl⟩

set_option maxRecDepth 100000 in
set_option maxHeartbeats 800000 in
theorem rsame_in (h : Side w base pw n jv js es rt) {a b : Nat} (ha : a < n) (hb : b < n) : Calls Try.prog 32 #[.pointer (some ⟨pw, 0, none⟩), .int .i64 a, .int .i64 b] w fun e w' =>
    e = .returned (.tuple #[.bool (rt a == rt b), .int .i64 0]) ∧ Below w.heap.size w w' := by
  have H := Lib.hid h
  clear h
  go_enter Try.func32, Try.ntmps32
  go_wp2_with fail
  refine (has_in H.out ha).mono ?_
  rintro e w1 ⟨rfl, rfl⟩
  go_wp2_with fail
  refine (has_in H.out hb).mono ?_
  rintro e w1 ⟨rfl, rfl⟩
  go_wp2_with fail
  refine (reach_walk es rt a n base pw jv js w H.out.refs H.out.mat H.out.wood ha H.out.most).mono ?_
  rintro e w1 ⟨rfl, O, f, mk, hs, hO⟩
  obtain ⟨v, hv, hiff⟩ := hs.reach.known hb
  obtain ⟨hcb, _, hgl⟩ := hs.at_ hv
  have hbi : (b : Int) < n := by omega
  have hq : (v != 0) = (rt a == rt b) := by
    rw [hO] at hiff
    by_cases e : rt a = rt b
    · have := hiff.1 e.symm
      simp [this, e]
    · have : v = 0 := Decidable.byContradiction fun h0 => e (hiff.2 h0).symm
      simp [this, e]
  have Hb := Lib.hid hs.below
  clear hs hO hv hiff
  go_wp2
  go_ret2
  exact ⟨rfl, Hb.out⟩

set_option maxRecDepth 100000 in
set_option maxHeartbeats 800000 in
theorem rsame_out (h : Side w base pw n jv js es rt) {a b : Int} (hin : (!([a, b].any (out n))) = false) : Calls Try.prog 32 #[.pointer (some ⟨pw, 0, none⟩), .int .i64 a, .int .i64 b] w fun e w' =>
    e = .returned (.tuple #[.bool false, .int .i64 2]) ∧ w = w' := by
  have H := Lib.hid h
  clear h
  go_enter Try.func32, Try.ntmps32
  by_cases ha : out n a = true
  · go_wp2_with fail
    refine (has_off H.out ha).mono ?_
    rintro e w1 ⟨rfl, rfl⟩
    go_wp2
    go_ret2
    exact ⟨rfl, rfl⟩
  · have hb : out n b = true := by simp [ha] at hin; exact hin
    obtain ⟨x, rfl, hx⟩ := in_one ha
    go_wp2_with fail
    refine (has_in H.out hx).mono ?_
    rintro e w1 ⟨rfl, rfl⟩
    go_wp2_with fail
    refine (has_off H.out hb).mono ?_
    rintro e w1 ⟨rfl, rfl⟩
    go_wp2
    go_ret2
    exact ⟨rfl, rfl⟩

set_option maxRecDepth 100000 in
set_option maxHeartbeats 800000 in
theorem rjoin_out (h : Side w base pw n jv js es rt) {a b : Int} (k : Int) (hin : (!([a, b].any (out n))) = false) : Calls Try.prog 31 #[.pointer (some ⟨pw, 0, none⟩), .int .i64 a, .int .i64 b, .int .i64 k] w fun e w' =>
    e = .returned (.tuple #[.bool false, .int .i64 2]) ∧ w = w' := by
  have H := Lib.hid h
  clear h
  go_enter Try.func31, Try.ntmps31
  by_cases ha : out n a = true
  · go_wp2_with fail
    refine (has_off H.out ha).mono ?_
    rintro e w1 ⟨rfl, rfl⟩
    go_wp2
    go_ret2
    exact ⟨rfl, rfl⟩
  · have hb : out n b = true := by simp [ha] at hin; exact hin
    obtain ⟨x, rfl, hx⟩ := in_one ha
    go_wp2_with fail
    refine (has_in H.out hx).mono ?_
    rintro e w1 ⟨rfl, rfl⟩
    go_wp2_with fail
    refine (has_off H.out hb).mono ?_
    rintro e w1 ⟨rfl, rfl⟩
    go_wp2
    go_ret2
    exact ⟨rfl, rfl⟩

theorem info112 : (Try.prog.info? 112).map (fun i => (i.zero, i.size, i.bytes)) = some (some (.agg #[.int .i64 0, .int .i64 0, .int .i64 0]), 3, 24) := by kernel_rfl

theorem joined_refs {w1 w2 : World} {A : Option Addr} {c g cap a b : Nat} {k : Int} {o : Obj} (h : Refs w base pw n (.slice A js.length c) js) (hb1 : Below w.heap.size w w1)
    (hown : w2.ownsRow base 112 3 (.slice (some ⟨g, 0, none⟩) (js.length + 1) cap) (js.length + 1) (jnCells js ++ [.int .i64 (a : Nat), .int .i64 (b : Nat), .int .i64 k])) (hgrow : (w1.alloc o).grownBy w2 (Value.slice A js.length c).ownBlock)
    (hat : (Value.slice A js.length c).ownBlock = some g ∨ g = w1.heap.size + 1) :
    (w2.cell? ⟨pw, 1, none⟩ = some (.slice A js.length c) ∧ w2.frozen? ⟨pw, 1, none⟩ = false) ∧
    Refs (w2.setCell ⟨pw, 1, none⟩ (.slice (some ⟨g, 0, none⟩) (js.length + 1) cap)) base pw n (.slice (some ⟨g, 0, none⟩) (js.length + 1) cap) (js ++ [⟨a, b, k⟩]) ∧
    RMoves w (w2.setCell ⟨pw, 1, none⟩ (.slice (some ⟨g, 0, none⟩) (js.length + 1) cap)) pw (.slice A js.length c) (.slice (some ⟨g, 0, none⟩) (js.length + 1) cap) := by
  have hb2 : Below w.heap.size w (w1.alloc o) := hb1.alloc hb1.size o
  have h2 := h.below hb2
  have hne : (Value.slice A js.length c).ownBlock ≠ some pw := by
    intro e
    rcases h.row.2 with ⟨h1, _⟩ | ⟨g', cap', cur, h1, _, hg', _⟩
    · rw [h1] at e; cases e
    · rw [h1] at e
      cases e
      rw [h.head] at hg'; cases hg'
  have hpg : g ≠ pw := by
    rcases hat with e | e
    · intro e2; exact hne (by rw [e, e2])
    · have := h.lt; have := hb1.size; omega
  have hh : w2.heap[pw]? = some (.cells #[.int .i64 (n : Nat), .slice A js.length c] 58 (0, 0)) := (hgrow.block pw h2.lt (fun e => hne e.symm)).trans h2.head
  have hg2 : w2.grownBy (w2.setCell ⟨pw, 1, none⟩ (.slice (some ⟨g, 0, none⟩) (js.length + 1) cap)) (some pw) := ⟨rfl, rfl, rfl, by simp, fun k _ hk => heap_setCell_other w2 ⟨pw, 1, none⟩ k _ (fun e => hk (by simp [e]))⟩
  refine ⟨⟨by simp [World.cell?, hh], by simp [World.frozen?, hh]⟩, ⟨?_, ?_, h.low⟩, ⟨?_, ?_⟩⟩
  · rw [heap_setCell_same w2 pw 1 _ 58 _ hh]; simp
  · have e : jnCells (js ++ [⟨a, b, k⟩]) = jnCells js ++ [.int .i64 (a : Nat), .int .i64 (b : Nat), .int .i64 k] := by simp [jnCells, JN.cells]
    rw [e, List.length_append]
    exact hown.kept hg2 (.inr (fun e => hpg (by cases e; rfl)))
  · have f1 : Fr (RHas pw (.slice A js.length c)) w (w1.alloc o) := Fr.of_below _ hb2
    have f2 : Fr (RHas pw (.slice A js.length c)) (w1.alloc o) w2 := Fr.of_grown hgrow (fun k hk => .inr hk)
    have f3 : Fr (RHas pw (.slice A js.length c)) w2 _ := Fr.of_grown hg2 (fun k hk => .inl (by cases hk; rfl))
    exact (f1.trans f2 (fun x hx => .inl hx)).trans f3 (fun x hx => .inl hx)
  · rintro x (rfl | e)
    · exact .inl (.inl rfl)
    · cases e
      rcases hat with e | e
      · exact .inl (.inr e)
      · right; have := hb1.size; show w.heap.size ≤ g; omega

set_option maxRecDepth 100000 in
set_option maxHeartbeats 1600000 in
theorem rjoin_in (h : Side w base pw n jv js es rt) {a b : Nat} (k : Int) (ha : a < n) (hb : b < n) : Calls Try.prog 31 #[.pointer (some ⟨pw, 0, none⟩), .int .i64 a, .int .i64 b, .int .i64 k] w fun e w' =>
    e = .returned (.tuple #[.bool (!(rt a == rt b)), .int .i64 0]) ∧ ((rt a = rt b ∧ Below w.heap.size w w') ∨ (rt a ≠ rt b ∧ ∃ jv', Refs w' base pw n jv' (js ++ [⟨a, b, k⟩]) ∧ RMoves w w' pw jv jv')) := by
  obtain ⟨A, c, rfl⟩ := row_form h.refs.row
  obtain ⟨i112, hi112, hz0, hz1, hz2⟩ := info_parts info112
  have hjl : js.length ≤ n := by have h1 := h.wood.count; have h2 := h.mat.len; omega
  have hmost := h.most
  have H := Lib.hid h
  clear h
  go_enter Try.func31, Try.ntmps31
  go_wp2_with fail
  refine (has_in H.out ha).mono ?_
  rintro e w1 ⟨rfl, rfl⟩
  go_wp2_with fail
  refine (has_in H.out hb).mono ?_
  rintro e w1 ⟨rfl, rfl⟩
  go_wp2_with fail
  refine (reach_walk es rt a n base pw _ js w H.out.refs H.out.mat H.out.wood ha H.out.most).mono ?_
  rintro e w1 ⟨rfl, O, f, mk, hs, hO⟩
  obtain ⟨v, hv, hiff⟩ := hs.reach.known hb
  obtain ⟨hcb, _, hgl⟩ := hs.at_ hv
  have hbi : (b : Int) < n := by omega
  have Hb := Lib.hid hs.below
  rw [hO] at hiff
  by_cases e : rt a = rt b
  · have hq : (v != 0) = true := by have := hiff.1 e.symm; simp [this]
    have He := Lib.hid e
    clear hs hO hv hiff e
    go_wp2
    go_ret2
    exact ⟨by rw [He.out]; simp, .inl ⟨He.out, Hb.out⟩⟩
  · have hq : (v != 0) = false := by
      have : v = 0 := Decidable.byContradiction fun h0 => e (hiff.2 h0).symm
      simp [this]
    have He := Lib.hid e
    obtain ⟨_, hc1⟩ := (H.out.refs.below Hb.out).cells
    clear hs hO hv hiff e
    go_wp2_with (at_builtin; refine wpList_append_lies _ rfl _ _ 56 rfl base 112 i112 _ 3 24 Try.underlying56 hi112 hz0 hz1 hz2 rfl (by decide) _ js.length (jnCells js) rfl ((H.out.refs.below Hb.out).row.alloc _) ⟨w1.heap.size, 0, none⟩ 1 1 [.int .i64 (a : Nat), .int .i64 (b : Nat), .int .i64 k] rfl rfl (World.news_of_block (heap_alloc_new _ _)) (by simp [Value.oneCell']) (by decide) (by unfold maxLen; omega) (by omega) (by have h1 := H.out.refs.low; have h2 := H.out.refs.lt; have h3 := Hb.out.size; simp; omega) (w1.heap.size + 1) (by exact (Go.Deep.nblk_alloc _ _)) ?_; intro g2 cap2 w5 hown hgrow hat hlt2; obtain ⟨⟨hcc, hcf⟩, hR⟩ := joined_refs H.out.refs Hb.out hown hgrow hat; have HR := Lib.hid hR; clear hown hgrow hat hR)
    go_ret2
    exact ⟨by simp [He.out], .inr ⟨He.out, _, HR.out⟩⟩

set_option maxRecDepth 100000 in
set_option maxHeartbeats 800000 in
theorem radd_full (h : Side w base pw n jv js es rt) (hn : ¬ n < 1048576) : Calls Try.prog 37 #[.pointer (some ⟨pw, 0, none⟩)] w fun e w' => e = .returned (.tuple #[.int .i64 0, .int .i64 10]) ∧ w = w' := by
  have hc := h.refs.cells.1
  have hni : (1048576 : Int) ≤ n := by omega
  clear h
  go_enter Try.func37, Try.ntmps37
  go_wp2
  go_ret2
  exact ⟨rfl, rfl⟩

theorem added_refs (h : Refs w base pw n jv js) : Refs (w.setCell ⟨pw, 0, none⟩ (.int .i64 ((n : Int) + 1))) base pw (n + 1) jv js ∧ RMoves w (w.setCell ⟨pw, 0, none⟩ (.int .i64 ((n : Int) + 1))) pw jv jv := by
  have hne : jv.ownBlock ≠ some pw := by
    intro e
    rcases h.row.2 with ⟨h1, _⟩ | ⟨g', cap', cur, h1, _, hg', _⟩
    · rw [h1] at e; cases e
    · rw [h1] at e
      cases e
      rw [h.head] at hg'; cases hg'
  have hg2 : w.grownBy (w.setCell ⟨pw, 0, none⟩ (.int .i64 ((n : Int) + 1))) (some pw) := ⟨rfl, rfl, rfl, by simp, fun k _ hk => heap_setCell_other w ⟨pw, 0, none⟩ k _ (fun e => hk (by simp [e]))⟩
  refine ⟨⟨?_, h.row.kept hg2 (.inr hne), h.low⟩, ⟨Fr.of_grown hg2 (fun k hk => .inl (by cases hk; rfl)), fun x hx => .inl hx⟩⟩
  rw [heap_setCell_same w pw 0 _ 58 _ h.head]
  simp

set_option maxRecDepth 100000 in
set_option maxHeartbeats 800000 in
theorem radd_any (h : Side w base pw n jv js es rt) (hn : n < 1048576) : Calls Try.prog 37 #[.pointer (some ⟨pw, 0, none⟩)] w fun e w' => e = .returned (.tuple #[.int .i64 n, .int .i64 0]) ∧ Refs w' base pw (n + 1) jv js ∧ RMoves w w' pw jv jv := by
  have hc := h.refs.cells.1
  have hf : w.frozen? ⟨pw, 0, none⟩ = false := by simp [World.frozen?, h.refs.head]
  have hni : ¬ (1048576 : Int) ≤ n := by omega
  have hpl := h.refs.lt
  have HR := Lib.hid (added_refs h.refs)
  clear h
  go_enter Try.func37, Try.ntmps37
  go_wp2
  go_ret2
  exact ⟨by go_num, HR.out⟩

/-- Group's row. -/
def RGrouped (rt : Nat → Nat) (a n : Nat) (w : World) (e : Ending) (w' : World) : Prop :=
  ∃ v, e = .returned (.tuple #[v, .int .i64 0]) ∧ w'.ownsRow w.heap.size 3 1 v (members rt a n).length (upCells (members rt a n)) ∧ Below w.heap.size w w'

set_option maxRecDepth 100000 in
set_option maxHeartbeats 1600000 in
theorem rgroup_in (h : Side w base pw n jv js es rt) {a : Nat} (ha : a < n) : Calls Try.prog 34 #[.pointer (some ⟨pw, 0, none⟩), .int .i64 a] w (RGrouped rt a n w) := by
  obtain ⟨i3, hi3, hz30, hz31, hz32⟩ := info_parts info3
  have hmost := h.most
  have H := Lib.hid h
  clear h
  go_enter Try.func34, Try.ntmps34
  go_wp2_with fail
  refine (has_in H.out ha).mono ?_
  rintro e w1 ⟨rfl, rfl⟩
  go_wp2_with fail
  refine (reach_walk es rt a n base pw jv js w H.out.refs H.out.mat H.out.wood ha H.out.most).mono ?_
  rintro e w1 ⟨rfl, O, f, mk, hs, hO⟩
  have Hs := Lib.hid hs
  have HO := Lib.hid hO
  have hpl := H.out.refs.lt
  clear hs hO
  go_wp2
  go_loopw [7, 8] (fun l v wr => ∃ k : Nat, v = .int .i64 k ∧ k ≤ n ∧ wr.ownsRow w1.heap.size 3 1 l (members rt a k).length (upCells (members rt a k)) ∧ Below w1.heap.size w1 wr) (fun _ v _ => n - (intOf v).toNat)
  case atStart => exact ⟨0, rfl, Nat.zero_le _, World.ownsRow_nil _ _ _ _, Below.refl _ _⟩
  case round =>
    obtain ⟨k, rfl, hk, hrow, hb⟩ := hrel
    have Hrow := Lib.hid hrow
    have Hb := Lib.hid hb
    clear hrow hb
    have hbw : Below w.heap.size w wr := Hs.out.below.trans (Hb.out.mono Hs.out.below.size)
    obtain ⟨hc0, _⟩ := (H.out.refs.below hbw).cells
    obtain ⟨A, c, rfl⟩ := row_form Hrow.out
    have Hbw := Lib.hid hbw
    clear hbw
    by_cases hlt : k < n
    · have hlt' : ((k : Int) < n) := by omega
      obtain ⟨v, hv, hiff⟩ := Hs.out.reach.known hlt
      obtain ⟨hcb, _, hgl⟩ := Hs.out.at_ hv
      have hcb' : wr.cell? ⟨w.heap.size, k, none⟩ = some (.int .i64 v) := (World.cell?_of_block (Hb.out.block _ hgl)).trans hcb
      have hgl' : w.heap.size < wr.heap.size := Nat.lt_of_lt_of_le hgl Hb.out.size
      rw [HO.out] at hiff
      have Hms := Lib.hid (members_succ rt a k)
      clear hv hcb
      by_cases he : rt k = rt a
      · have hq : (v != 0) = true := by have := hiff.1 he; simp [this]
        have Hms' : Hid (members rt a (k + 1) = members rt a k ++ [k]) := by rw [Hid, Hms.out, if_pos (beq_iff_eq.2 he)]
        have Hle : Hid ((members rt a k).length ≤ k) := members_le rt a k
        clear he Hms hiff
        generalize members rt a k = M at *
        go_wp2_with (at_builtin; (refine wpList_append_lies _ rfl _ _ 27 rfl w1.heap.size 3 i3 (.int .i64 0) 1 8 Try.underlying27 hi3 hz30 hz31 hz32 rfl (by decide) _ M.length (upCells M) rfl (Hrow.out.alloc _) ⟨wr.heap.size, 0, none⟩ 1 1 [.int .i64 k] rfl rfl (World.news_of_block (heap_alloc_new _ _)) (by simp [Value.oneCell']) (by decide) (by have := Hle.out; unfold maxLen; omega) (by have := Hle.out; omega) (by have := Hb.out.size; simp; omega) (wr.heap.size + 1) (by exact (Go.Deep.nblk_alloc _ _)) ?_); intro g2 cap2 w5 hown hgrow hat hlt2; have Hown := Lib.hid hown; have Hgrow := Lib.hid hgrow; clear hown hgrow hat)
        go_roundw
        case rel =>
          refine ⟨k + 1, by go_num, by omega, ?_, (Hb.out.alloc Hb.out.size _).grown Hgrow.out (Hb.out.alloc Hb.out.size _).size (fun q hq => (Hrow.out.lt q hq).1)⟩
          rw [Hms'.out, List.length_append]
          have e : upCells (M ++ [k]) = upCells M ++ [.int .i64 k] := by simp [upCells]
          rw [e]
          exact Hown.out
        case measure => simp [intOf]; omega
      · have hq : (v != 0) = false := by
          have : v = 0 := Decidable.byContradiction fun h0 => he (hiff.2 h0)
          simp [this]
        have Hms' : Hid (members rt a (k + 1) = members rt a k) := by rw [Hid, Hms.out, if_neg (by simpa using he)]
        clear he Hms hiff
        go_wp2
        go_roundw
        case rel => exact ⟨k + 1, by go_num, by omega, by rw [Hms'.out]; exact Hrow.out, Hb.out⟩
        case measure => simp [intOf]; omega
    · have hk' : k = n := by omega
      subst hk'
      go_wp2
      go_ret2
      exact ⟨_, rfl, own_lower Hrow.out Hs.out.below.size, Hbw.out⟩

set_option maxRecDepth 100000 in
set_option maxHeartbeats 800000 in
theorem rgroup_out (h : Side w base pw n jv js es rt) {a : Int} (ha : out n a = true) : Calls Try.prog 34 #[.pointer (some ⟨pw, 0, none⟩), .int .i64 a] w fun e w' =>
    e = .returned (.tuple #[.slice none 0 0, .int .i64 2]) ∧ w = w' := by
  have H := Lib.hid h
  clear h
  go_enter Try.func34, Try.ntmps34
  go_wp2_with fail
  refine (has_off H.out ha).mono ?_
  rintro e w1 ⟨rfl, rfl⟩
  go_wp2
  go_ret2
  exact ⟨rfl, rfl⟩

theorem least_head (rt : Nat → Nat) {a n : Nat} (ha : a < n) : (upCells (members rt a n))[0]? = some (.int .i64 (least rt a n)) := by
  unfold least
  rcases hl : members rt a n with _ | ⟨x, l⟩
  · exact absurd hl (members_ne rt ha)
  · rfl

set_option maxRecDepth 100000 in
set_option maxHeartbeats 800000 in
theorem rleast_in (h : Side w base pw n jv js es rt) {a : Nat} (ha : a < n) : Calls Try.prog 33 #[.pointer (some ⟨pw, 0, none⟩), .int .i64 a] w fun e w' =>
    e = .returned (.tuple #[.int .i64 (least rt a n), .int .i64 0]) ∧ Below w.heap.size w w' := by
  have H := Lib.hid h
  have Hd := Lib.hid (least_head rt ha)
  have Hpos : Hid (0 < (members rt a n).length) := List.length_pos_iff.2 (members_ne rt ha)
  clear h
  go_enter Try.func33, Try.ntmps33
  go_wp2_with fail
  refine (rgroup_in H.out ha).mono ?_
  rintro e w1 ⟨v, rfl, hrow, hst⟩
  have Hst := Lib.hid hst
  obtain ⟨g, c, rfl, _, _⟩ := hrow.form Hpos.out
  have hc := hrow.cellAt 0 (by have := Hpos.out; omega)
  rw [Hd.out] at hc
  have hpos := Hpos.out
  clear hst hrow Hd Hpos H
  obtain ⟨le, hle⟩ : ∃ le, least rt a n = le := ⟨_, rfl⟩
  rw [hle] at hc
  have Hle := Lib.hid hle
  clear hle
  generalize (members rt a n).length = ml at *
  go_wp2
  go_ret2
  exact ⟨by rw [Hle.out]; rfl, Hst.out⟩

set_option maxRecDepth 100000 in
set_option maxHeartbeats 800000 in
theorem rleast_out (h : Side w base pw n jv js es rt) {a : Int} (ha : out n a = true) : Calls Try.prog 33 #[.pointer (some ⟨pw, 0, none⟩), .int .i64 a] w fun e w' =>
    e = .returned (.tuple #[.int .i64 0, .int .i64 2]) ∧ w = w' := by
  have H := Lib.hid h
  clear h
  go_enter Try.func33, Try.ntmps33
  go_wp2_with fail
  refine (rgroup_out H.out ha).mono ?_
  rintro e w1 ⟨rfl, rfl⟩
  go_wp2
  go_ret2
  exact ⟨rfl, rfl⟩

end
end Go.Proofs.Ytkgmhkjiblanmaa
