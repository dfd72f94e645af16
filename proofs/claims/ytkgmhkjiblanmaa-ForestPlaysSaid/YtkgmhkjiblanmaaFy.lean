/-
  The walk of Path (package forest).
-/
import Derived.Test.YtkgmhkjiblanmaaFv
import Derived.Test.YtkgmhkjiblanmaaFg
import Derived.BigQuiet
import Derived.Deep.LoopGhost
namespace Go.Proofs.Ytkgmhkjiblanmaa
open Go.RowKit

/-- What the map holds. -/
def keyed (f : Nat → Option Sp) : Int → Option Value := fun i => if 0 ≤ i then (f i.toNat).map Sp.val else none

theorem keyed_at (f : Nat → Option Sp) (k : Nat) : keyed f k = (f k).map Sp.val := by simp [keyed]
theorem keyed_put (f : Nat → Option Sp) (k : Nat) (s : Sp) : upd (keyed f) k s.val = keyed (put f k s) := by
  funext i
  unfold upd keyed put
  by_cases h : i = (k : Int)
  · subst h; simp
  · rw [if_neg h]
    by_cases h0 : 0 ≤ i
    · rw [if_pos h0, if_pos h0, if_neg (by omega)]
    · rw [if_neg h0, if_neg h0]
theorem keyed_none : keyed (fun _ => none) = fun _ => none := by funext i; unfold keyed; simp
def zeroSp : Sp := ⟨0, 0, .nilIface, false⟩
theorem keyed_first (a : Nat) : upd (fun _ => none) a zeroSp.val = keyed (first a zeroSp) := by
  rw [← keyed_none, keyed_put]; rfl

/-- Where the search stands: k members gone through. -/
structure Hunt (es : List Ed) (a : Nat) (w0 : World) (bm : Nat) (v : Value) (k : Nat) (O : List Nat) (f : Nat → Option Sp) (wr : World) : Prop where
  bfs : Bfs es a O f
  le : k ≤ O.length
  done : Done es O k
  que : Que wr w0.heap.size v (O.length - k) (upCells (O.drop k))
  tab : Tab wr bm O.length (keyed f)
  below : Below w0.heap.size w0 wr
  one : ∀ x s, f x = some s → s.why.oneCell' = true

/-- .. and within a member's joints. -/
structure Near (es : List Ed) (a : Nat) (w0 : World) (bm : Nat) (v : Value) (k p : Nat) (J : List JT) (q : Nat) (O : List Nat) (f : Nat → Option Sp) (wr : World) : Prop where
  hunt : Hunt es a w0 bm v k O f wr
  here : O[k]? = some p
  seen : ∀ j ∈ J.take q, j.to ∈ O

theorem Hunt.start {es : List Ed} {a : Nat} {w3 w4 : World} (htab : Tab w4 w3.heap.size (0 + 1) (upd (fun _ => none) a zeroSp.val)) (hg : (w3.alloc (.map #[] 0)).grownBy w4 (some w3.heap.size)) :
    Hunt es a w3 w3.heap.size (.slice (some ⟨w4.heap.size, 0, none⟩) 1 1) 0 [a] (first a zeroSp) (w4.alloc (.cells #[.int .i64 a] 3)) := by
  have hb1 : Below w3.heap.size w3 (w3.alloc (.map #[] 0)) := (Below.refl _ _).alloc (Nat.le_refl _) _
  have hb4 : Below w3.heap.size w3 w4 := hb1.grown hg hb1.size (fun k hk => by cases hk; exact Nat.le_refl _)
  rw [keyed_first] at htab
  exact ⟨Bfs.start es a zeroSp, Nat.zero_le _, fun i p hi => absurd hi (by omega), Que.one w4 _ hb4.size, htab.alloc _, hb4.alloc hb4.size _, fun x s hs => by
    unfold first at hs
    split at hs
    · cases hs; rfl
    · cases hs⟩

theorem upCells_drop {O : List Nat} {k p : Nat} (h : O[k]? = some p) : upCells (O.drop k) = .int .i64 p :: upCells (O.drop (k + 1)) ∧ O.length - k = (O.length - (k + 1)) + 1 := by
  obtain ⟨hk, rfl⟩ := List.getElem?_eq_some_iff.1 h
  refine ⟨?_, by omega⟩
  rw [List.drop_eq_getElem_cons hk]; rfl

theorem Hunt.quiet {es : List Ed} {a k : Nat} {w0 wr wr' : World} {bm : Nat} {v : Value} {O : List Nat} {f : Nat → Option Sp} (h : Hunt es a w0 bm v k O f wr) (hb : Below wr.heap.size wr wr') : Hunt es a w0 bm v k O f wr' :=
  ⟨h.bfs, h.le, h.done, h.que.quiet (grownBy_below hb), h.tab.below hb, h.below.trans (hb.mono h.below.size), h.one⟩

theorem Near.start {es : List Ed} {a k p : Nat} {w0 wr : World} {bm : Nat} {v : Value} {J : List JT} {O : List Nat} {f : Nat → Option Sp} (h : Hunt es a w0 bm v k O f wr) (hp : O[k]? = some p) : Near es a w0 bm v k p J 0 O f wr :=
  ⟨h, hp, fun j hj => by simp at hj⟩

theorem take_joint {J : List JT} {q : Nat} {j : JT} (hj : J[q]? = some j) {P : JT → Prop} (h : ∀ i ∈ J.take q, P i) (hn : P j) : ∀ i ∈ J.take (q + 1), P i := by
  obtain ⟨hq, rfl⟩ := List.getElem?_eq_some_iff.1 hj
  rw [List.take_succ_eq_append_getElem hq]
  intro i hi
  rcases List.mem_append.1 hi with hi | hi
  · exact h i hi
  · rw [List.mem_singleton] at hi; subst hi; exact hn

/-- A joint that leads to a known member. -/
theorem Near.old {es : List Ed} {a k p q : Nat} {w0 wr wr' : World} {bm : Nat} {v : Value} {J : List JT} {j : JT} {O : List Nat} {f : Nat → Option Sp} (h : Near es a w0 bm v k p J q O f wr) (hj : J[q]? = some j) {s : Sp} (hs : f j.to = some s) (hb : Below wr.heap.size wr wr') :
    Near es a w0 bm v k p J (q + 1) O f wr' :=
  ⟨h.hunt.quiet hb, h.here, take_joint hj h.seen ((h.hunt.bfs.dom j.to).1 (by rw [hs]; rfl))⟩

/-- A joint that leads to a new member. -/
theorem Near.new {es : List Ed} {a k p q : Nat} {w0 wr wa w5 w6 : World} {bm : Nat} {v v' : Value} {J : List JT} {j : JT} {O : List Nat} {f : Nat → Option Sp} (h : Near es a w0 bm v k p J q O f wr) (hJ : es.flatMap (stub p) = J) (hj : J[q]? = some j) (hs : f j.to = none) (hw : j.why.oneCell' = true)
    (hbm : w0.heap.size ≤ bm) (hb1 : Below wr.heap.size wr wa) (h5 : Tab w5 bm (O.length + 1) (upd (keyed f) j.to (j.step p).val)) (g5 : wa.grownBy w5 (some bm)) {o3 : Obj}
    (h6 : Que w6 w0.heap.size v' (O.length - k + 1) (upCells (O.drop k) ++ [.int .i64 j.to])) (g6 : (w5.alloc o3).grownBy w6 v.ownBlock) :
    Near es a w0 bm v' k p J (q + 1) (O ++ [j.to]) (put f j.to (j.step p)) w6 := by
  have hk := h.hunt.le
  have hon : Onto es (j.step p) := stub_on (by rw [hJ]; exact List.mem_of_getElem? hj)
  have hq1 := (h.hunt.que.quiet (grownBy_below hb1)).beside (h.hunt.tab.below hb1) g5
  have hq2 : Que (w5.alloc o3) w0.heap.size v (O.length - k) (upCells (O.drop k)) := hq1.quiet (World.grownBy_alloc _ _ none)
  have ht2 := Tab.beside hq2 (h5.alloc o3) g6
  obtain ⟨g, hv, hgB, _⟩ := h.hunt.que.own
  have hB1 : Below w0.heap.size w0 wa := h.hunt.below.trans (hb1.mono h.hunt.below.size)
  have hB5 : Below w0.heap.size w0 w5 := hB1.grown g5 hB1.size (fun x hx => by cases hx; exact hbm)
  have hB6 : Below w0.heap.size w0 w6 := (hB5.alloc hB5.size o3).grown g6 (hB5.alloc hB5.size o3).size (fun x hx => by rw [hv] at hx; cases hx; exact hgB)
  have hkl : k < O.length := (List.getElem?_eq_some_iff.1 h.here).1
  refine ⟨⟨h.hunt.bfs.step hon h.here hs, by rw [List.length_append]; omega, h.hunt.done.more hk, ?_, ?_, hB6, fun x t ht => ?_⟩, by rw [List.getElem?_append_left hkl]; exact h.here, take_joint hj (fun i hi => List.mem_append_left _ (h.seen i hi)) (by simp)⟩
  · have e1 : (O ++ [j.to]).length - k = O.length - k + 1 := by rw [List.length_append]; simp; omega
    have e2 : upCells ((O ++ [j.to]).drop k) = upCells (O.drop k) ++ [.int .i64 j.to] := by
      rw [List.drop_append_of_le_length hk]; simp [upCells]
    rw [e1, e2]; exact h6
  · rw [List.length_append]
    have e := keyed_put f j.to (j.step p)
    rw [e] at ht2
    exact ht2
  · unfold put at ht
    split at ht
    · cases ht; exact hw
    · exact h.hunt.one x t ht

/-- What the walk reads behind the store into the map. -/
theorem Near.put {es : List Ed} {a k p q : Nat} {w0 wr wa w5 : World} {bm : Nat} {v : Value} {J : List JT} {O : List Nat} {f : Nat → Option Sp} (h : Near es a w0 bm v k p J q O f wr) (hb1 : Below wr.heap.size wr wa) (g5 : wa.grownBy w5 (some bm)) (hbm : w0.heap.size ≤ bm) (o3 : Obj) :
    Que (w5.alloc o3) w0.heap.size v (O.length - k) (upCells (O.drop k)) ∧ w0.heap.size ≤ (w5.alloc o3).heap.size ∧ ∀ i v, wa.cell? ⟨wr.heap.size, i, none⟩ = some v → w5.cell? ⟨wr.heap.size, i, none⟩ = some v := by
  have hq1 := (h.hunt.que.quiet (grownBy_below hb1)).beside (h.hunt.tab.below hb1) g5
  have hlt := h.hunt.tab.isMap
  obtain ⟨es', c, hm⟩ := hlt
  have hlt := (Array.getElem?_eq_some_iff.1 hm).1
  have h1 := h.hunt.below.size
  have h2 := hb1.size
  have h3 := g5.size
  exact ⟨hq1.quiet (World.grownBy_alloc _ _ none), by simp; omega, fun i v hc => g5.cell hc (fun e => by cases e; exact absurd hlt (Nat.lt_irrefl _))⟩

theorem Hunt.room {n : Nat} {es : List Ed} {rt : Nat → Nat} (hw : Wood n es rt) {a k : Nat} {w0 wr : World} {bm : Nat} {v : Value} {O : List Nat} {f : Nat → Option Sp} (h : Hunt es a w0 bm v k O f wr) (ha : a < n) : O.length ≤ n :=
  nodup_le n O h.bfs.nodup (h.bfs.lt hw ha)

/-- A member's joints gone through. -/
theorem Near.done {es : List Ed} {a k p : Nat} {w0 wr wr' : World} {bm : Nat} {v v' : Value} {J : List JT} {O : List Nat} {f : Nat → Option Sp} (h : Near es a w0 bm v k p J J.length O f wr) (hJ : es.flatMap (stub p) = J) (hq : Que wr' w0.heap.size v' (O.length - (k + 1)) (upCells (O.drop (k + 1)))) (hb : Below wr.heap.size wr wr') :
    Hunt es a w0 bm v' (k + 1) O f wr' := by
  have hkl : k < O.length := (List.getElem?_eq_some_iff.1 h.here).1
  refine ⟨h.hunt.bfs, hkl, fun i x hi hx j hj => ?_, hq, h.hunt.tab.below hb, h.hunt.below.trans (hb.mono h.hunt.below.size), h.hunt.one⟩
  rcases Nat.lt_or_ge i k with h1 | h1
  · exact h.hunt.done i x h1 hx j hj
  · have : i = k := by omega
    subst this
    have : p = x := Option.some.inj (h.here.symm.trans hx)
    subst this
    rw [hJ] at hj
    have hs := h.seen
    rw [List.take_length] at hs
    exact hs j hj

theorem jointCells_at : ∀ (l : List JT) (i : Nat) (j : JT) (q : Nat), q < 3 → l[i]? = some j → (jointCells l)[i * 3 + q]? = j.cells[q]?
  | [], i, j, q, _, h => by simp at h
  | t :: l, 0, j, q, hq, h => by
    simp at h
    subst h
    unfold jointCells
    rw [List.flatMap_cons, List.getElem?_append_left (by simp [JT.cells]; omega)]
    simp
  | t :: l, i + 1, j, q, hq, h => by
    have := jointCells_at l i j q hq (by simpa using h)
    unfold jointCells at this ⊢
    rw [List.flatMap_cons, List.getElem?_append_right (by simp [JT.cells]; omega)]
    have e : (i + 1) * 3 + q - t.cells.length = i * 3 + q := by simp [JT.cells]; omega
    rw [e, this]

theorem Rep.joint_at {w : World} {L : Lay} {F : FS} (h : Rep w L F) {p gJ cJ q : Nat} {J : List JT} {j : JT} (hu : L.js[p]? = some (.slice (some ⟨gJ, 0, none⟩) J.length cJ)) (hl : F.joints[p]? = some J) (hj : J[q]? = some j) :
    w.cell? ⟨gJ, q * 3, none⟩ = some (.int .i64 (j.to : Nat)) ∧ w.cell? ⟨gJ, q * 3 + 1, none⟩ = some j.why ∧ w.cell? ⟨gJ, q * 3 + 2, none⟩ = some (.bool j.back) := by
  have ho := h.each p _ J hu hl
  have hq : q < J.length := (List.getElem?_eq_some_iff.1 hj).1
  refine ⟨?_, ?_, ?_⟩
  · have := ho.cellAt (q * 3 + 0) (by omega)
    rw [jointCells_at J q j 0 (by decide) hj] at this
    exact this
  · rw [ho.cellAt (q * 3 + 1) (by omega), jointCells_at J q j 1 (by decide) hj]; rfl
  · rw [ho.cellAt (q * 3 + 2) (by omega), jointCells_at J q j 2 (by decide) hj]; rfl

theorem Tab.aside {w w' : World} {b m base n : Nat} {v : Value} {xs : List Value} {f : Int → Option Value} (ht : Tab w b m f) (h : w.ownsRow base 42 4 v n xs) (hg : w.grownBy w' v.ownBlock) : Tab w' b m f := by
  obtain ⟨es, c, hm⟩ := ht.isMap
  refine ht.kept hg fun e => ?_
  rcases h.2 with ⟨rfl, _⟩ | ⟨g, cap, cur, rfl, _, hgg, _⟩
  · cases e
  · cases e
    rw [hgg] at hm; cases hm

/-- The way back, as far as x. -/
structure Home (es : List Ed) (w0 : World) (bm : Nat) (O : List Nat) (f : Nat → Option Sp) (b i : Nat) (v : Value) (x : Nat) (W : List Sp) (wr : World) : Prop where
  trail : Trail es O b x i W
  own : wr.ownsRow w0.heap.size 42 4 v W.length (stepCells W)
  tab : Tab wr bm O.length (keyed f)
  below : Below w0.heap.size w0 wr
  plain : Plain W

theorem Home.step {es : List Ed} {a : Nat} {w0 wr w5 : World} {bm : Nat} {O : List Nat} {f : Nat → Option Sp} {b i j x : Nat} {v v' : Value} {W : List Sp} {s : Sp} (h : Home es w0 bm O f b i v x W wr) (_hb : Bfs es a O f) (hs : s.why.oneCell' = true) (ht : Trail es O b s.fr j (W ++ [s])) {o : Obj}
    (hown : w5.ownsRow w0.heap.size 42 4 v' (W.length + 1) (stepCells W ++ s.cells)) (hg : (wr.alloc o).grownBy w5 v.ownBlock) : Home es w0 bm O f b j v' s.fr (W ++ [s]) w5 := by
  have hB := h.below.alloc h.below.size o
  refine ⟨ht, ?_, (h.tab.alloc o).aside (h.own.alloc o) hg, hB.grown hg hB.size (fun k hk => (h.own.lt k hk).1), fun t ht => ?_⟩
  · rw [List.length_append]
    have e : stepCells (W ++ [s]) = stepCells W ++ s.cells := by simp [stepCells]
    rw [e]; exact hown
  · rcases List.mem_append.1 ht with ht | ht
    · exact h.plain t ht
    · rw [List.mem_singleton] at ht; subst ht; exact hs

theorem own_lower {w : World} {base base' : Nat} {e : TypeId} {size n : Nat} {v : Value} {xs : List Value} (h : w.ownsRow base e size v n xs) (hb : base' ≤ base) : w.ownsRow base' e size v n xs := by
  refine ⟨h.1, h.2.imp id ?_⟩
  rintro ⟨g, cap, cur, hv, hg, rest⟩
  exact ⟨g, cap, cur, hv, Nat.le_trans hb hg, rest⟩

theorem info42 : (Try.prog.info? 42).map (fun i => (i.zero, i.size, i.bytes)) = some (some (.agg #[.int .i64 0, .int .i64 0, .nilIface, .bool false]), 4, 40) := by kernel_rfl

theorem sp_one {s : Sp} (hw : s.why.oneCell' = true) : ∀ u ∈ [Value.int .i64 s.fr, Value.int .i64 s.dst, s.why, .bool s.back], u.oneCell' = true := by
  intro u hu
  simp only [List.mem_cons, List.not_mem_nil, or_false] at hu
  rcases hu with rfl | rfl | rfl | rfl
  · rfl
  · rfl
  · exact hw
  · rfl

/-- What Path answers. -/
def Pathed (L : Lay) (F : FS) (rt m : Nat → Nat) (es : List Ed) (a b : Nat) (w : World) (e : Ending) (w' : World) : Prop :=
  ∃ A c l, e = .returned (.tuple #[.slice A l.length c, .int .i64 0]) ∧ Simple es a b l ∧ w'.ownsRow w.heap.size 42 4 (.slice A l.length c) l.length (stepCells l) ∧ Plain l ∧ Still L F rt m w w'

theorem box_cell (w : World) (cs : Array Value) (t : TypeId) (o : Obj) (i : Nat) : (((w.alloc (.cells cs t)).alloc o).drew).cell? ⟨w.heap.size, i, none⟩ = cs[i]? := by
  have h1 : ((w.alloc (.cells cs t)).alloc o).heap[w.heap.size]? = some (.cells cs t (0, 0)) := (RowKit.Below.heap_alloc _ o _ (by simp)).trans (heap_alloc_new _ _)
  exact cell_of_row (((w.alloc (.cells cs t)).alloc o).drew) w.heap.size i cs t (0, 0) h1

theorem field42 (x y : Int) (u : Value) (b : Bool) (w : World) : (Instr.field 42 (.agg #[.int .i64 x, .int .i64 y, u, .bool b]) 0).run Try.prog w = .ok (.int .i64 x) w := by kernel_rfl

theorem zero42 (w : World) : (zeroValue 42).run Try.prog w = .ok zeroSp.val w := by kernel_rfl

set_option maxRecDepth 100000 in
set_option maxHeartbeats 1600000 in
theorem path_in (L : Lay) (F : FS) (rt m : Nat → Nat) (es : List Ed) (a b : Nat) (w : World) (h : Rep w L F) (hg : Good F rt m es) (ha : a < F.up.length) (hb : b < F.up.length) (hr : rt a = rt b) (hwhys : ∀ e ∈ es, e.why.oneCell' = true) :
    Calls Try.prog 15 #[.pointer (some ⟨L.p, 0, none⟩), .int .i64 a, .int .i64 b] w (Pathed L F rt m es a b w) := by
  have Hin := Lib.hid (in_two ha hb)
  have H := Lib.hid h
  have HG := Lib.hid hg
  have hmost := hg.even.most
  have hbq : (((rt a : Nat) : Int) == ((rt b : Nat) : Int)) = true := by rw [beq_iff_eq]; omega
  have Hr := Lib.hid hr
  have hmm := @run_makeMap Try.prog
  obtain ⟨i3, hi3, hz30, hz31, hz32⟩ := info_parts info3
  obtain ⟨i42, hi42, hz420, hz421, hz422⟩ := info_parts info42
  clear h hg hr
  go_enter Try.func15, Try.ntmps15
  go_wp2_with fail
  refine (has_two L F a b w H.out Hin.out).mono ?_
  rintro e w1 ⟨rfl, hr1, hm1⟩
  have Hm1 := Lib.hid hm1
  have Hr1 := Lib.hid hr1
  clear hm1 hr1 H Hin
  go_wp2_with fail
  refine (top_any L F rt m a _ Hr1.out HG.out.tree ha hmost).mono ?_
  rintro e w2 ⟨rfl, F1, hs1, hr2, hm2⟩
  have Hm2 := Lib.hid (Hm1.out.trans hm2)
  have Hr2 := Lib.hid hr2
  have Hs1 := Lib.hid hs1
  clear hm2 hr2 hs1 Hr1 Hm1
  go_wp2_with fail
  refine (top_any L F1 rt m b _ Hr2.out Hs1.out.2.2.2 (by have := Hs1.out.2.2.1; omega) (by have := Hs1.out.2.2.1; omega)).mono ?_
  rintro e w3 ⟨rfl, F2, hs2, hr3, hm3⟩
  have Hm3 := Lib.hid (Hm2.out.trans hm3)
  have Hr3 := Lib.hid hr3
  have Hs2 : Hid (Same F F2 rt m) := ⟨hs2.1.trans Hs1.out.1, hs2.2.1.trans Hs1.out.2.1, hs2.2.2.1.trans Hs1.out.2.2.1, hs2.2.2.2⟩
  clear hm3 hr3 hs2 Hs1 Hr2 Hm2
  go_wp2_with (refine wpList_tab_insert _ rfl (.tmp 29) (.tmp 30) (.tmp 31) 72 rfl 42 Try.underlying72 w3.heap.size 0 (fun _ => none) rfl (Tab.made w3) (by decide) (a : Int) rfl (WalkArith.wf_i64 (by omega)) zeroSp.val rfl ?_; intro w4 htab4 hg4)
  have Hh0 := Lib.hid (Hunt.start (es := es) htab4 hg4)
  have hn0 : 0 < F.up.length := by omega
  obtain ⟨gj, cj, hvj⟩ := Hr3.out.joints_form (by rw [Hs2.out.2.1]; have := HG.out.even.joints; omega)
  have Hvj := Lib.hid hvj
  clear htab4 hg4 hvj
  go_loopg [9] F.up.length (fun gk v wr => ∃ k O f, gk + k = F.up.length ∧ Hunt es a w3 w3.heap.size v k O f wr)
  case atStart => exact ⟨0, [a], first a zeroSp, rfl, Hh0.out⟩
  case round =>
    obtain ⟨k, O, f, hgk, hh⟩ := hrel
    have Hgk := Lib.hid hgk
    have Hh := Lib.hid hh
    clear hgk hh Hh0
    by_cases hlt : k < O.length
    · obtain ⟨p, hp⟩ : ∃ p, O[k]? = some p := ⟨_, List.getElem?_eq_getElem hlt⟩
      have hpn : p < F.up.length := Hh.out.bfs.lt HG.out.wood ha p (List.mem_of_getElem? hp)
      obtain ⟨e1, e2⟩ := upCells_drop hp
      have hq := Hh.out.que
      rw [e1, e2] at hq
      obtain ⟨g, off, cap, rfl, hhead, hglt⟩ := hq.head
      have hrep := Hr3.out.below Hh.out.below
      have hvj := Hvj.out
      have hjl : F2.joints.length = F.up.length := by rw [Hs2.out.2.1]; exact HG.out.even.joints
      rw [hjl] at hvj
      have h2 := hrep.cells.2.2
      rw [hvj] at h2
      have hjp := (hrep.joints_cell Hvj.out (i := p) (by omega)).1
      obtain ⟨u, hu⟩ : ∃ u, L.js[p]? = some u := ⟨_, List.getElem?_eq_getElem (by rw [hrep.js_len]; omega)⟩
      have hJ : F2.joints[p]? = some (es.flatMap (stub p)) := by rw [Hs2.out.2.1]; exact HG.out.joints_at hpn
      obtain ⟨A, cJ, rfl⟩ := own_form (hrep.each p u _ hu hJ)
      rw [hu] at hjp
      have hpi : ((p : Nat) : Int) < F.up.length := by omega
      have HJ := Lib.hid hJ
      have Hu := Lib.hid hu
      have Hp := Lib.hid hp
      have He2 := Lib.hid e2
      clear hq hrep hvj hjl hJ hu hp e1 e2 hlt
      obtain ⟨J, hJe⟩ : ∃ J, es.flatMap (stub p) = J := ⟨_, rfl⟩
      rw [hJe] at hjp HJ Hu
      have HJe := Lib.hid hJe
      have hJl : J.length < 1048576 := HG.out.rows p J (by rw [← Hs2.out.2.1]; exact HJ.out)
      clear hJe
      generalize O.length - (k + 1) = nr at *
      have hnr : (0 : Int) < ((nr : Int) + 1) := by omega
      go_wp2
      go_quiet (fail)
      go_wp2
      have Hn0 := Lib.hid (Near.start (J := J) (Hh.out.quiet (drewN_below wr nq)) Hp.out)
      clear hhead h2 hjp
      go_loopw [9, 50] (fun v i wq => ∃ q O f, q ≤ J.length ∧ i = .int .i64 q ∧ Near es a w3 w3.heap.size v k p J q O f wq) (fun _ i _ => J.length - (intOf i).toNat)
      case atStart => exact ⟨0, O, f, Nat.zero_le _, rfl, He2.out ▸ Hn0.out⟩
      case round =>
        obtain ⟨q, O', f', hq, rfl, hnr'⟩ := hrel
        have Hn := Lib.hid hnr'
        clear hnr' Hn0
        by_cases hql : q < J.length
        · obtain ⟨j, hj⟩ : ∃ j, J[q]? = some j := ⟨_, List.getElem?_eq_getElem hql⟩
          have hrep := Hr3.out.below Hn.out.hunt.below
          obtain ⟨gJ, cJ', hv, _, _⟩ := (hrep.each p _ J Hu.out HJ.out).form (by omega)
          cases hv
          obtain ⟨c0, c1, c2⟩ := hrep.joint_at Hu.out HJ.out hj
          obtain ⟨gl, off', cap', hvl, hhead, hglt⟩ := (show ∃ g off cap, u9 = Value.slice (some ⟨g, off, none⟩) (O'.length - k) cap ∧ wr.cell? ⟨g, off, none⟩ = some (.int .i64 (p : Nat)) ∧ g < wr.heap.size by
            obtain ⟨e1, e2⟩ := upCells_drop Hn.out.here
            have hq1 := Hn.out.hunt.que
            rw [e1] at hq1
            exact hq1.head)
          subst hvl
          have hqi : ((q : Nat) : Int) < J.length := by omega
          have hwhy : j.why.oneCell' = true := by
            obtain ⟨e, he, ho⟩ := stub_on (es := es) (k := p) (j := j) (by rw [HJe.out]; exact List.mem_of_getElem? hj)
            rcases ho with ⟨_, rfl⟩ | ⟨_, rfl⟩
            · exact hwhys _ he
            · exact hwhys _ he
          have hwm : j.why.cells = #[j.why] := one_cells hwhy
          unfold Value.cells at hwm
          have Hj := Lib.hid hj
          have hjn : j.to < F.up.length := (HG.out.wood.on (stub_on (es := es) (k := p) (j := j) (by rw [HJe.out]; exact List.mem_of_getElem? hj))).2.1
          clear hrep hj
          cases hf : f' j.to with
          | none =>
            have hk0 : keyed f' (j.to : Nat) = none := by rw [keyed_at, hf]; rfl
            have Hk0 : Hid ((keyed f' (j.to : Nat)).getD zeroSp.val = .agg #[.int .i64 0, .int .i64 0, .nilIface, .bool false] ∧ (keyed f' (j.to : Nat)).isSome = false) := ⟨by rw [hk0]; rfl, by rw [hk0]; rfl⟩
            have Hf := Lib.hid hf
            clear hf hk0
            obtain ⟨jto, why, back⟩ := j
            dsimp only at c0 c1 c2 hwhy hwm hjn Hk0
            have hst : ∀ (ax : Addr) (wx : World), (store ax why).run Try.prog wx = stored Try.prog wx ax why .plain := fun ax wx => run_store _ wx ax why _ hwhy
            go_wp2_with (refine wpList_tab_find _ rfl (.tmp 55) (.tmp 57) 72 rfl 42 Try.underlying72 (zero42 _) w3.heap.size O'.length (keyed f') rfl (Hn.out.hunt.tab.alloc _) (jto : Int) rfl (WalkArith.wf_i64 (by omega)) (.agg #[.int .i64 0, .int .i64 0, .nilIface, .bool false]) false Hk0.out.1 Hk0.out.2 ?_)
            have hkl : (0 : Int) < ((O'.length - k : Nat) : Int) := by have := (List.getElem?_eq_some_iff.1 Hn.out.here).1; omega
            have hkl2 : 0 < O'.length - k := by omega
            have Hroom : Hid (O'.length ≤ F.up.length) := Hn.out.hunt.room HG.out.wood ha
            refine wp_region_still_tail 13 (by kernel_rfl) (by kernel_rfl) ?_
            show wpStill _ _ (World.drew _) _ _ _
            simp only [List.take_succ_cons, List.take_zero, List.drop_succ_cons, List.drop_zero]
            repeat still_step
            refine wpStill_nil ?_
            show wpList _ _ _ _ _ (World.drew _)
            have hba : Below wr.heap.size wr ((wr.alloc (.cells #[.int .i64 jto, why, .bool back] 71)).alloc (.cells #[.int .i64 0, .int .i64 0, .nilIface, .bool false] 42)).drew := (((Below.refl _ _).alloc (Nat.le_refl _) _).alloc (by simp) _).drew
            have Hba := Lib.hid hba
            clear hba
            go_wp2_with (first | (at_builtin; refine wpList_que_append _ rfl (.tmp 76) (.tmp 79) rfl i3 hi3 hz30 hz31 hz32 w3.heap.size (O'.length - k) _ _ rfl Hq5.out ⟨w5.heap.size, 0, none⟩ 1 (.int .i64 jto) rfl (World.cell?_alloc_new _ _ _ _) rfl (by have := Hroom.out; omega) Hs5.out ?_; intro g6 off6 cap6 w6 hq6 hg6; have Hq6 := Lib.hid hq6; have Hg6 := Lib.hid hg6; clear hq6 hg6) | (refine wpList_tab_put _ rfl (.tmp 63) (.tmp 65) (.tmp 75) 72 rfl 42 Try.underlying72 w3.heap.size O'.length (keyed f') rfl (Hn.out.hunt.tab.below Hba.out) (by have := Hroom.out; unfold maxLen; omega) (jto : Int) rfl (WalkArith.wf_i64 (by omega)) (JT.step p ⟨jto, why, back⟩).val rfl ?_; intro w5 htab5 hg5; obtain ⟨hq5, hs5, hk5⟩ := Near.put Hn.out Hba.out hg5 (Nat.le_refl _) (.cells #[.int .i64 jto] 3); have hbox := hk5 0 (.int .i64 jto) (box_cell _ _ _ _ _); have Hq5 := Lib.hid hq5; have Hs5 := Lib.hid hs5; have Htab5 := Lib.hid htab5; have Hg5 := Lib.hid hg5; clear hq5 hs5 hk5 htab5 hg5))
            go_roundw
            case rel => exact ⟨q + 1, O' ++ [jto], put f' jto (JT.step p ⟨jto, why, back⟩), by omega, by go_num, Hn.out.new HJe.out Hj.out Hf.out hwhy (Nat.le_refl _) Hba.out Htab5.out Hg5.out Hq6.out Hg6.out⟩
            case measure => simp [intOf]; omega
          | some s =>
            have hk0 : keyed f' (j.to : Nat) = some s.val := by rw [keyed_at, hf]; rfl
            have Hk0 : Hid ((keyed f' (j.to : Nat)).getD zeroSp.val = .agg #[.int .i64 s.fr, .int .i64 s.dst, s.why, .bool s.back] ∧ (keyed f' (j.to : Nat)).isSome = true) := ⟨by rw [hk0]; rfl, by rw [hk0]; rfl⟩
            have hsw : s.why.oneCell' = true := Hn.out.hunt.one _ _ hf
            have hsm : s.why.cells = #[s.why] := one_cells hsw
            unfold Value.cells at hsm
            have hst2 : ∀ (ax : Addr) (wx : World), (store ax s.why).run Try.prog wx = stored Try.prog wx ax s.why .plain := fun ax wx => run_store _ wx ax s.why _ hsw
            have Hf := Lib.hid hf
            clear hf hk0
            obtain ⟨jto, why, back⟩ := j
            dsimp only at c0 c1 c2 hwhy hwm hjn Hk0
            have hst : ∀ (ax : Addr) (wx : World), (store ax why).run Try.prog wx = stored Try.prog wx ax why .plain := fun ax wx => run_store _ wx ax why _ hwhy
            go_wp2_with (refine wpList_tab_find _ rfl (.tmp 55) (.tmp 57) 72 rfl 42 Try.underlying72 (zero42 _) w3.heap.size O'.length (keyed f') rfl (Hn.out.hunt.tab.alloc _) (jto : Int) rfl (WalkArith.wf_i64 (by omega)) (.agg #[.int .i64 s.fr, .int .i64 s.dst, s.why, .bool s.back]) true Hk0.out.1 Hk0.out.2 ?_)
            go_roundw
            case rel => exact ⟨q + 1, O', f', by omega, by go_num, Hn.out.old Hj.out Hf.out (((Below.refl _ _).alloc (Nat.le_refl _) _).alloc (by simp) _)⟩
            case measure => simp [intOf]; omega
        · have hqJ : q = J.length := by omega
          subst hqJ
          obtain ⟨e1, e2⟩ := upCells_drop Hn.out.here
          have hq1 := Hn.out.hunt.que
          rw [e1, e2] at hq1
          obtain ⟨g', off', cap', rfl, _, _⟩ := hq1.head
          have Hq1 := Lib.hid hq1
          clear hq1 e1 e2
          go_wp2_with (refine wpList_que_tail _ rfl (.tmp 38) rfl w3.heap.size (O'.length - (k + 1)) _ (.int .i64 p) (upCells (O'.drop (k + 1))) rfl Hq1.out ?_; intro A' cap2 hq2; have Hq2 := Lib.hid hq2; clear hq2)
          have hk1 : k + 1 ≤ F.up.length := by
            have h1 := nodup_le F.up.length O' Hn.out.hunt.bfs.nodup (Hn.out.hunt.bfs.lt HG.out.wood ha)
            have h2 := (List.getElem?_eq_some_iff.1 Hn.out.here).1
            omega
          have Hk1 := Lib.hid hk1
          clear hk1
          go_roundg (gk - 1)
          case measure => have h1 := Hgk.out; have h2 := Hk1.out; omega
          case rel => exact ⟨k + 1, O', f', by have h1 := Hgk.out; have h2 := Hk1.out; omega, Hn.out.done HJe.out Hq2.out (Below.refl _ _)⟩
    · have hk0 : O.length - k = 0 := by omega
      have hle := Hh.out.le
      have hkO : k = O.length := by omega
      have hbO : b ∈ O := by
        have hd := Hh.out.done
        rw [hkO] at hd
        exact hd.all HG.out.wood Hh.out.bfs Hr.out
      obtain ⟨ib, hib⟩ := List.getElem?_of_mem hbO
      obtain ⟨A, cap, hA⟩ := Hh.out.que.shape
      rw [hk0] at hA
      subst hA
      have Hhome : Hid (Home es w3 w3.heap.size O f b ib (.slice none 0 0) b [] wr) := ⟨Trail.start hib, World.ownsRow_nil _ _ _ _, Hh.out.tab, Hh.out.below, fun s hs => by cases hs⟩
      have Hbfs := Lib.hid Hh.out.bfs
      have Hone := Lib.hid Hh.out.one
      have Hroom : Hid (O.length ≤ F.up.length) := Hh.out.room HG.out.wood ha
      clear hk0 hle hkO hbO hib hlt Hh Hgk
      go_wp2
      go_loopg [14, 15] ib (fun gi v x wr => ∃ W y, x = .int .i64 (y : Nat) ∧ Home es w3 w3.heap.size O f b gi v y W wr)
      case atStart => exact ⟨[], b, rfl, Hhome.out⟩
      case round =>
        obtain ⟨W, y, rfl, hh⟩ := hrel
        have Hh := Lib.hid hh
        clear hh Hhome
        obtain ⟨A', c', rfl⟩ := row_form Hh.out.own
        have hWl : Hid (W.length < F.up.length) := by have h1 := Hh.out.trail.room; have h2 := Hroom.out; unfold Hid; omega
        by_cases hya : y = a
        · have hq1 : ((y : Int) == (a : Int)) = true := by rw [beq_iff_eq]; omega
          have hq2 : ((y : Int) != (a : Int)) = false := by simp [hya]
          have Hya := Lib.hid hya
          clear hya
          go_wp2_with fail
          refine (reverse_any w3.heap.size _ W _ Hh.out.own Hh.out.plain (by have := hWl.out; omega)).mono ?_
          rintro e w6 ⟨rfl, hown6, hg6⟩
          have Hend : Hid (Pathed L F rt m es a b w (.returned (.tuple #[.slice A' W.length c', .int .i64 0])) w6) := by
            have hb6 : Below w3.heap.size w3 w6 := Hh.out.below.grown hg6 Hh.out.below.size (fun k hk => (Hh.out.own.lt k hk).1)
            refine ⟨A', c', W.reverse, by rw [List.length_reverse], ⟨by rw [← Hya.out]; exact Hh.out.trail.way, by rw [← Hya.out]; exact Hh.out.trail.nodup⟩, ?_, fun s hs => Hh.out.plain s (List.mem_reverse.1 hs), F2, Hs2.out, Hr3.out.below hb6, Hm3.out.then_still hb6⟩
            rw [List.length_reverse]
            exact own_lower hown6 Hm3.out.fr.size
          clear hown6 hg6 Hh
          go_wp2
          go_ret2
          exact Hend.out
        · have hq1 : ((y : Int) == (a : Int)) = false := beq_eq_false_iff_ne.2 (by omega)
          have hq2 : ((y : Int) != (a : Int)) = true := by simp; omega
          obtain ⟨s, hs, j, hji, htr⟩ := Hh.out.trail.step Hbfs.out hya
          have hsw := Hone.out _ _ hs
          have hsm : s.why.cells = #[s.why] := one_cells hsw
          unfold Value.cells at hsm
          have hku : Hid (keyed f (y : Nat) = some (.agg #[.int .i64 s.fr, .int .i64 s.dst, s.why, .bool s.back])) := by unfold Hid; rw [keyed_at, hs]; rfl
          have hfld := fun wx => field42 s.fr s.dst s.why s.back wx
          have Htr := Lib.hid htr
          have Hji := Lib.hid hji
          have hyn : y < F.up.length := Hbfs.out.lt HG.out.wood ha y (List.mem_of_getElem? Hh.out.trail.at_)
          clear hs htr hji hya
          go_wp2_with (first
            | (at_builtin; refine wpList_append_lies _ rfl (.tmp 90) (.tmp 94) 37 rfl w3.heap.size 42 i42 _ 4 40 Try.underlying37 hi42 hz420 hz421 hz422 rfl (by decide) _ W.length (stepCells W) rfl (Hh.out.own.alloc _) ⟨wr.heap.size, 0, none⟩ 1 1 [.int .i64 s.fr, .int .i64 s.dst, s.why, .bool s.back] rfl rfl (World.news_of_block (heap_alloc_new _ _)) (sp_one hsw) (by decide) (by have := hWl.out; unfold maxLen; omega) (by have := hWl.out; omega) (by have := Hh.out.below.size; simp; omega) (wr.heap.size + 1) (by exact (Go.Deep.nblk_alloc _ _)) ?_; intro g2 cap2 w5 hown hgrow hat hlt2; have Hn := Lib.hid (Hh.out.step Hbfs.out hsw Htr.out hown hgrow); clear hown hgrow hat hlt2)
            | (refine wpList_tab_look _ rfl (.tmp 91) (.tmp 92) 72 rfl 42 Try.underlying72 (zero42 _) w3.heap.size O.length (keyed f) rfl Hh.out.tab (y : Int) rfl (WalkArith.wf_i64 (by omega)) _ hku.out ?_)
            | (refine wpList_tab_look _ rfl (.tmp 86) (.tmp 87) 72 rfl 42 Try.underlying72 (zero42 _) w3.heap.size O.length (keyed f) rfl Hn.out.tab (y : Int) rfl (WalkArith.wf_i64 (by omega)) _ hku.out ?_))
          go_roundg j
          case measure => exact Hji.out
          case rel => exact ⟨W ++ [s], s.fr, rfl, Hn.out⟩

set_option maxRecDepth 100000 in
set_option maxHeartbeats 800000 in
theorem path_none (L : Lay) (F : FS) (rt m : Nat → Nat) (a b : Nat) (w : World) (h : Rep w L F) (hmost : F.up.length ≤ 1048576) (ht : Tree F.up rt m) (ha : a < F.up.length) (hb : b < F.up.length) (hr : rt a ≠ rt b) :
    Calls Try.prog 15 #[.pointer (some ⟨L.p, 0, none⟩), .int .i64 a, .int .i64 b] w fun e w' => e = .returned (.tuple #[.slice none 0 0, .int .i64 11]) ∧ Still L F rt m w w' := by
  have Hin := Lib.hid (in_two ha hb)
  have H := Lib.hid h
  have HT := Lib.hid ht
  have hbq : (((rt a : Nat) : Int) == ((rt b : Nat) : Int)) = false := beq_eq_false_iff_ne.2 (by omega)
  have hbn : (((rt a : Nat) : Int) != ((rt b : Nat) : Int)) = true := by simp; omega
  clear h ht hr
  go_enter Try.func15, Try.ntmps15
  go_wp2_with fail
  refine (has_two L F a b w H.out Hin.out).mono ?_
  rintro e w1 ⟨rfl, hr1, hm1⟩
  have Hm1 := Lib.hid hm1
  have Hr1 := Lib.hid hr1
  clear hm1 hr1 H Hin
  go_wp2_with fail
  refine (top_any L F rt m a _ Hr1.out HT.out ha hmost).mono ?_
  rintro e w2 ⟨rfl, F1, hs1, hr2, hm2⟩
  have Hm2 := Lib.hid (Hm1.out.trans hm2)
  have Hr2 := Lib.hid hr2
  have Hs1 := Lib.hid hs1
  clear hm2 hr2 hs1 Hr1 Hm1
  go_wp2_with fail
  refine (top_any L F1 rt m b _ Hr2.out Hs1.out.2.2.2 (by have := Hs1.out.2.2.1; omega) (by have := Hs1.out.2.2.1; omega)).mono ?_
  rintro e w3 ⟨rfl, F2, hs2, hr3, hm3⟩
  have Hm3 := Lib.hid (Hm2.out.trans hm3)
  have Hr3 := Lib.hid hr3
  have Hs2 : Hid (Same F F2 rt m) := ⟨hs2.1.trans Hs1.out.1, hs2.2.1.trans Hs1.out.2.1, hs2.2.2.1.trans Hs1.out.2.2.1, hs2.2.2.2⟩
  clear hm3 hr3 hs2 Hs1 Hr2 Hm2
  go_wp2
  go_ret2
  exact ⟨rfl, F2, Hs2.out, Hr3.out, Hm3.out⟩

set_option maxRecDepth 100000 in
set_option maxHeartbeats 800000 in
theorem path_out (L : Lay) (F : FS) (a b : Int) (w : World) (h : Rep w L F) (hin : ((!([a, b].any (out F.up.length))) = false)) :
    Calls Try.prog 15 #[.pointer (some ⟨L.p, 0, none⟩), .int .i64 a, .int .i64 b] w fun e w' => e = .returned (.tuple #[.slice none 0 0, .int .i64 2]) ∧ Below w.heap.size w w' := by
  have Hin := Lib.hid hin
  have H := Lib.hid h
  clear h hin
  go_enter Try.func15, Try.ntmps15
  go_wp2_with fail
  refine (has_two_no L F a b w H.out Hin.out).mono ?_
  rintro e w1 ⟨rfl, hb1⟩
  go_wp2
  go_ret2
  exact ⟨rfl, hb1⟩

end Go.Proofs.Ytkgmhkjiblanmaa
