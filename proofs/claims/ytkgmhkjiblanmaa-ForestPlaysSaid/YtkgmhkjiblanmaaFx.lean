/-
  A map by ints of the call's own, told by what it holds; a row of ints that is taken off at its head (a queue). Laws for the walk.
-/
import Derived.Test.YtkgmhkjiblanmaaFw
import Derived.Maps.OwnSet
namespace Go.Proofs.Ytkgmhkjiblanmaa
open Go.RowKit Go.Maps

theorem key3 : Keyed Try.prog 3 := int_keyed Try.underlying3

/-- An element reads as itself. -/
def anyElem (v : Value) : Option (DataW Value × List MemPlace) := some (.held v, [])

/-- Block b is a map by ints, of at most n entries; it holds f. -/
def Tab (w : World) (b n : Nat) (f : Int → Option Value) : Prop :=
  ∃ D : DataW Value, w.ownsMap Try.prog 3 anyElem b n D ∧ ∀ k : Int, (Lit.int .i64 k).wf = true → (∀ z, D.atKey (.int .i64 k) (.held z) = .held ((f k).getD z)) ∧ Maps.has D (.int .i64 k) = (f k).isSome

theorem Tab.made (w : World) : Tab (w.alloc (.map #[] 0)) w.heap.size 0 (fun _ => none) :=
  ⟨_, World.ownsMap_made w Try.prog 3 anyElem, fun _ _ => ⟨fun _ => rfl, rfl⟩⟩

theorem Tab.kept {w w' : World} {b n : Nat} {f : Int → Option Value} {row : Option Nat} (h : Tab w b n f) (hg : w.grownBy w' row) (hne : some b ≠ row) : Tab w' b n f := by
  obtain ⟨D, hD, hf⟩ := h
  exact ⟨D, hD.kept hg hne, hf⟩
theorem Tab.alloc {w : World} {b n : Nat} {f : Int → Option Value} (h : Tab w b n f) (o : Obj) : Tab (w.alloc o) b n f := h.kept (World.grownBy_alloc w o none) (by simp)
theorem Tab.drewN {w : World} {b n : Nat} {f : Int → Option Value} (h : Tab w b n f) (d : Nat) : Tab (w.drewN d) b n f := h.kept (grownBy_drewN w d) (by simp)
theorem Tab.below {w w' : World} {b n : Nat} {f : Int → Option Value} (h : Tab w b n f) (hb : Below w.heap.size w w') : Tab w' b n f := h.kept (grownBy_below hb) (by simp)
theorem Tab.mono {w : World} {b n n' : Nat} {f : Int → Option Value} (h : Tab w b n f) (hn : n ≤ n') : Tab w b n' f := by
  obtain ⟨D, hD, hf⟩ := h
  exact ⟨D, hD.mono hn, hf⟩
theorem Tab.isMap {w : World} {b n : Nat} {f : Int → Option Value} (h : Tab w b n f) : ∃ es c, w.heap[b]? = some (.map es c) := by
  obtain ⟨D, ⟨es, c, hb, _⟩, _⟩ := h
  exact ⟨es, c, hb⟩

def upd (f : Int → Option Value) (k : Int) (v : Value) : Int → Option Value := fun j => if j = k then some v else f j

section
variable {w : World} {b n : Nat} {f : Int → Option Value} {t e : TypeId} {z : Value} {k : Int}

theorem Tab.look (h : Tab w b n f) (ht : Try.prog.underlying t = some (.map 3 e)) (hz : (zeroValue e).run Try.prog w = .ok z w) (hk : (Lit.int .i64 k).wf = true) :
    (Instr.lookup t (.map (some b)) (.int .i64 k) false).run Try.prog w = .ok ((f k).getD z) w := by
  obtain ⟨D, hD, hf⟩ := h
  obtain ⟨v, ps, hr, hv⟩ := hD.lookup (zd := .held z) (zp := []) key3 ht hz rfl (keyOf_int_mk Try.underlying3 hk)
  rw [(hf k hk).1 z] at hv
  simp only [anyElem, Option.some.injEq, Prod.mk.injEq, DataW.held.injEq] at hv
  rw [hr, hv.1]

theorem Tab.look_ok (h : Tab w b n f) (ht : Try.prog.underlying t = some (.map 3 e)) (hz : (zeroValue e).run Try.prog w = .ok z w) (hk : (Lit.int .i64 k).wf = true) :
    (Instr.lookup t (.map (some b)) (.int .i64 k) true).run Try.prog w = .ok (.tuple #[(f k).getD z, .bool (f k).isSome]) w := by
  obtain ⟨D, hD, hf⟩ := h
  obtain ⟨v, ps, hr, hv⟩ := hD.look_ok (zd := .held z) (zp := []) key3 ht hz rfl (keyOf_int_mk Try.underlying3 hk)
  rw [(hf k hk).1 z] at hv
  simp only [anyElem, Option.some.injEq, Prod.mk.injEq, DataW.held.injEq] at hv
  rw [hr, hv.1, (hf k hk).2]

theorem isKeyLit_int (k : Int) : WideAt.IsKeyLit (.int .i64 k) := by first | trivial | exact ⟨_, _, rfl⟩ | simp [WideAt.IsKeyLit]

theorem Tab.put (h : Tab w b n f) (ht : Try.prog.underlying t = some (.map 3 e)) (hn : n < maxLen) (hk : (Lit.int .i64 k).wf = true) (v : Value) :
    ∃ w', (Instr.mapUpdate t (.map (some b)) (.int .i64 k) v).run Try.prog w = .ok () w' ∧ Tab w' b (n + 1) (upd f k v) ∧ w.grownBy w' (some b) := by
  obtain ⟨D, hD, hf⟩ := h
  obtain ⟨w', hr, hD', hg⟩ := hD.update (d := .held v) (ps := []) key3 ht hn (keyOf_int_mk Try.underlying3 hk) rfl
  refine ⟨w', hr, ⟨_, hD', fun j hj => ?_⟩, hg⟩
  unfold upd
  by_cases e : j = k
  · subst e
    rw [if_pos rfl]
    exact ⟨fun z => atKey_put_same hD.isMap (isKeyLit_int j) _ _, has_put_same hD.isMap (isKeyLit_int j) _⟩
  · rw [if_neg e]
    have hne : (Lit.int .i64 j) ≠ .int .i64 k := fun h => e (by injection h)
    exact ⟨fun z => by rw [atKey_put_other hne]; exact (hf j hj).1 z, by rw [has_put_other hne]; exact (hf j hj).2⟩
end

section
variable (w : World) {ops : Array Oper} {rest : List Oper} {o : Oper} {a : Act} {Q : Exit → Act → World → Prop}

theorem wpList_tab_look (hg : o.guard = none) (m x : Operand) (t : TypeId) (hop : o.op = Op.lookup t m x false) (e : TypeId) (ht : Try.prog.underlying t = some (.map 3 e)) {z : Value} (hz : (zeroValue e).run Try.prog w = .ok z w)
    (b n : Nat) (f : Int → Option Value) (hm : a.eval m = .map (some b)) (h : Tab w b n f) (k : Int) (hx : a.eval x = .int .i64 k) (hk : (Lit.int .i64 k).wf = true) (u : Value) (hu : f k = some u)
    (hK : wpList Try.prog ops Q rest (a.put o.dst u) w) : wpList Try.prog ops Q (o :: rest) a w := by
  refine wpList_plain hg fun K' hK' => ?_
  have hr := h.look ht hz hk
  rw [hu] at hr
  unfold Oper.wp
  simp [execOp, hop, hm, hx, hr, Result.andThen]
  exact hK' _ _ hK

theorem wpList_tab_find (hg : o.guard = none) (m x : Operand) (t : TypeId) (hop : o.op = Op.lookup t m x true) (e : TypeId) (ht : Try.prog.underlying t = some (.map 3 e)) {z : Value} (hz : (zeroValue e).run Try.prog w = .ok z w)
    (b n : Nat) (f : Int → Option Value) (hm : a.eval m = .map (some b)) (h : Tab w b n f) (k : Int) (hx : a.eval x = .int .i64 k) (hk : (Lit.int .i64 k).wf = true) (u : Value) (ok : Bool) (hu : (f k).getD z = u) (hok : (f k).isSome = ok)
    (hK : wpList Try.prog ops Q rest (a.put o.dst (.tuple #[u, .bool ok])) w) : wpList Try.prog ops Q (o :: rest) a w := by
  refine wpList_plain hg fun K' hK' => ?_
  have hr := h.look_ok ht hz hk
  rw [hu, hok] at hr
  unfold Oper.wp
  simp [execOp, hop, hm, hx, hr, Result.andThen]
  exact hK' _ _ hK

theorem wpList_tab_put (hg : o.guard = none) (m x v : Operand) (t : TypeId) (hop : o.op = Op.mapUpdate t m x v) (e : TypeId) (ht : Try.prog.underlying t = some (.map 3 e))
    (b n : Nat) (f : Int → Option Value) (hm : a.eval m = .map (some b)) (h : Tab w b n f) (hn : n < maxLen) (k : Int) (hx : a.eval x = .int .i64 k) (hk : (Lit.int .i64 k).wf = true) (u : Value) (hv : a.eval v = u)
    (hK : ∀ w', Tab w' b (n + 1) (upd f k u) → w.grownBy w' (some b) → wpList Try.prog ops Q rest (a.put o.dst undef) w') : wpList Try.prog ops Q (o :: rest) a w := by
  refine wpList_plain hg fun K' hK' => ?_
  obtain ⟨w', hr, h1, h2⟩ := h.put ht hn hk u
  unfold Oper.wp
  simp [execOp, hop, hm, hx, hv, hr, Result.andThen]
  exact hK' _ _ (hK w' h1 h2)

theorem wpList_tab_insert (hg : o.guard = none) (m x v : Operand) (t : TypeId) (hop : o.op = Op.insert t m x v) (e : TypeId) (ht : Try.prog.underlying t = some (.map 3 e))
    (b n : Nat) (f : Int → Option Value) (hm : a.eval m = .map (some b)) (h : Tab w b n f) (hn : n < maxLen) (k : Int) (hx : a.eval x = .int .i64 k) (hk : (Lit.int .i64 k).wf = true) (u : Value) (hv : a.eval v = u)
    (hK : ∀ w', Tab w' b (n + 1) (upd f k u) → w.grownBy w' (some b) → wpList Try.prog ops Q rest (a.put o.dst undef) w') : wpList Try.prog ops Q (o :: rest) a w := by
  refine wpList_plain hg fun K' hK' => ?_
  obtain ⟨w', hr, h1, h2⟩ := h.put ht hn hk u
  unfold Oper.wp
  simp [execOp, hop, hm, hx, hv, hr, Result.andThen]
  exact hK' _ _ (hK w' h1 h2)
end

/-! ### A queue -/
/-- The value v, of n elements, is a row of ints of a block from B on; it may begin behind the block's head. -/
def Que (w : World) (B : Nat) (v : Value) (n : Nat) (xs : List Value) : Prop :=
  xs.length = n ∧ ∃ g off cap cur, v = .slice (some ⟨g, off, none⟩) n cap ∧ B ≤ g ∧ w.heap[g]? = some (.cells cur 3 (0, 0)) ∧ n ≤ cap ∧ cap ≤ maxLen ∧ off + cap ≤ cur.size ∧ ∀ i, i < n → cur[off + i]? = xs[i]?

theorem Que.kept {w w' : World} {B n : Nat} {v : Value} {xs : List Value} {row : Option Nat} (h : Que w B v n xs) (hg : w.grownBy w' row) (hne : v.ownBlock ≠ row) : Que w' B v n xs := by
  obtain ⟨h1, g, off, cap, cur, rfl, hB, hb, h2⟩ := h
  exact ⟨h1, g, off, cap, cur, rfl, hB, (hg.block g (Array.getElem?_eq_some_iff.1 hb).1 hne).trans hb, h2⟩
theorem Que.own {w : World} {B n : Nat} {v : Value} {xs : List Value} (h : Que w B v n xs) : ∃ g, v.ownBlock = some g ∧ B ≤ g ∧ ∃ cur, w.heap[g]? = some (.cells cur 3 (0, 0)) := by
  obtain ⟨_, g, off, cap, cur, rfl, hB, hb, _⟩ := h
  exact ⟨g, rfl, hB, cur, hb⟩
theorem Que.quiet {w w' : World} {B n : Nat} {v : Value} {xs : List Value} (h : Que w B v n xs) (hg : w.grownBy w' none) : Que w' B v n xs := by
  obtain ⟨g, hv, _⟩ := h.own
  exact h.kept hg (by rw [hv]; simp)
theorem Que.beside {w w' : World} {B n b m : Nat} {v : Value} {xs : List Value} {f : Int → Option Value} (h : Que w B v n xs) (ht : Tab w b m f) (hg : w.grownBy w' (some b)) : Que w' B v n xs := by
  obtain ⟨g, hv, _, cur, hb⟩ := h.own
  obtain ⟨es, c, hm⟩ := ht.isMap
  refine h.kept hg ?_
  rw [hv]
  intro e
  cases e
  rw [hb] at hm; cases hm
theorem Tab.beside {w w' : World} {B n b m : Nat} {v : Value} {xs : List Value} {f : Int → Option Value} (h : Que w B v n xs) (ht : Tab w b m f) (hg : w.grownBy w' v.ownBlock) : Tab w' b m f := by
  obtain ⟨g, hv, _, cur, hb⟩ := h.own
  obtain ⟨es, c, hm⟩ := ht.isMap
  refine ht.kept hg ?_
  rw [hv]
  intro e
  cases e
  rw [hb] at hm; cases hm

theorem Que.one (w : World) (x : Value) {B : Nat} (hB : B ≤ w.heap.size) : Que (w.alloc (.cells #[x] 3)) B (.slice (some ⟨w.heap.size, 0, none⟩) 1 1) 1 [x] :=
  ⟨rfl, w.heap.size, 0, 1, #[x], rfl, hB, heap_alloc_new _ _, Nat.le_refl _, by decide, by simp, fun i hi => by
    have : i = 0 := by omega
    subst this; rfl⟩

/-- The head, where it lies. -/
theorem Que.head {w : World} {B n : Nat} {v x : Value} {xs : List Value} (h : Que w B v n (x :: xs)) : ∃ g off cap, v = .slice (some ⟨g, off, none⟩) n cap ∧ w.cell? ⟨g, off, none⟩ = some x ∧ g < w.heap.size := by
  obtain ⟨h1, g, off, cap, cur, rfl, hB, hb, _, _, _, hc⟩ := h
  refine ⟨g, off, cap, rfl, ?_, (Array.getElem?_eq_some_iff.1 hb).1⟩
  rw [cell_of_row w g off cur 3 (0, 0) hb]
  have := hc 0 (by simp at h1; omega)
  simpa using this
theorem Que.shape {w : World} {B n : Nat} {v : Value} {xs : List Value} (h : Que w B v n xs) : ∃ A cap, v = .slice A n cap := by
  obtain ⟨_, g, off, cap, _, rfl, _⟩ := h
  exact ⟨_, _, rfl⟩

section
variable (w : World) {ops : Array Oper} {rest : List Oper} {o : Oper} {a : Act} {Q : Exit → Act → World → Prop}

theorem size3 (w : World) : (sizeOf 3).run Try.prog w = .ok 1 w := by kernel_rfl
theorem elem27 : Try.prog.elem 27 = 3 := by kernel_rfl

theorem wpList_slice_run {P : Program} (hg : o.guard = none) (t : TypeId) (x : Operand) (c : Value) (hop : o.op = Op.slice t x (some (.const c)) none none) (v u : Value) (hx : a.eval x = v) (hr : (Instr.sliceAt t v (some c) none none).run P w = .ok u w)
    (hK : wpList P ops Q rest (a.put o.dst u) w) : wpList P ops Q (o :: rest) a w := by
  refine wpList_plain hg fun K' hK' => ?_
  have hev : a.eval (.const c) = c := rfl
  unfold Oper.wp
  simp [execOp, hop, hx, hev, hr, Result.andThen]
  exact hK' _ _ hK

/-- The queue less its head. -/
theorem wpList_que_tail (hg : o.guard = none) (x : Operand) (hop : o.op = Op.slice 27 x (some (.const (.int .i64 1))) none none) (B n : Nat) (v y : Value) (xs : List Value) (hx : a.eval x = v) (h : Que w B v (n + 1) (y :: xs))
    (hK : ∀ A cap, Que w B (.slice A n cap) n xs → wpList Try.prog ops Q rest (a.put o.dst (.slice A n cap)) w) : wpList Try.prog ops Q (o :: rest) a w := by
  obtain ⟨h1, g, off, cap, cur, rfl, hB, hb, h2, h3, h4, h5⟩ := h
  have hr : (Instr.sliceAt 27 (.slice (some ⟨g, off, none⟩) (n + 1) cap) (some (.int .i64 1)) none none).run Try.prog w = .ok (sliced (some ⟨g, off, none⟩) 1 (n + 1) cap 1) w := by
    have ht : Try.prog.underlying 27 = some (.slice (Try.prog.elem 27)) := by rw [elem27]; exact Try.underlying27
    rw [run_sliceAt_slice w 27 _ _ _ _ ht, run_slice_l w 27 (some ⟨g, off, none⟩) (n + 1) cap ht .i64 1 (by omega) (by omega)]
    have hs := size3 w
    rw [← elem27] at hs
    rw [hs]
    simp [Result.andThen]
  have hlen : xs.length = n := by simpa using h1
  have hend : ∀ A, (A = some ⟨g, off, none⟩ ∧ cap = 1 ∨ A = some ⟨g, off + 1, none⟩) → Que w B (.slice A n (cap - 1)) n xs := by
    rintro A (⟨rfl, hc⟩ | rfl)
    · exact ⟨hlen, g, off, cap - 1, cur, rfl, hB, hb, by omega, by omega, by omega, fun i hi => by omega⟩
    · refine ⟨hlen, g, off + 1, cap - 1, cur, rfl, hB, hb, by omega, by omega, by omega, fun i hi => ?_⟩
      have := h5 (i + 1) (by omega)
      rw [List.getElem?_cons_succ] at this
      rw [← this, Nat.add_assoc, Nat.add_comm 1 i]
  by_cases hc : cap = 1
  · have e : sliced (some ⟨g, off, none⟩) 1 (n + 1) cap 1 = .slice (some ⟨g, off, none⟩) n (cap - 1) := by simp [sliced, hc]
    rw [e] at hr
    exact wpList_slice_run w hg 27 x _ hop _ _ hx hr (hK _ _ (hend _ (.inl ⟨rfl, hc⟩)))
  · have e : sliced (some ⟨g, off, none⟩) 1 (n + 1) cap 1 = .slice (some ⟨g, off + 1, none⟩) n (cap - 1) := by simp [sliced, hc, Addr.add]
    rw [e] at hr
    exact wpList_slice_run w hg 27 x _ hop _ _ hx hr (hK _ _ (hend _ (.inr rfl)))

/-- An append of one int. -/
theorem run_que_append (ty : TypeId) (i : TypeInfo) (hi : Try.prog.info? 3 = some i) (hz : i.zero = some (.int .i64 0)) (hsize : i.size = 1) (hby : i.bytes = 8) (B n : Nat) (v : Value) (xs : List Value) (h : Que w B v n xs)
    (ad : Addr) (c : Nat) (x : Value) (hnew : w.cell? ad = some x) (h1 : x.oneCell' = true) (hn : n ≤ 1048576) (hB : B ≤ w.heap.size) :
    ∃ g off cap w', (Builtin.append_ #[27, 27] ty #[v, .slice (some ad) 1 c]).run Try.prog w = .ok (.slice (some ⟨g, off, none⟩) (n + 1) cap) w' ∧ Que w' B (.slice (some ⟨g, off, none⟩) (n + 1) cap) (n + 1) (xs ++ [x]) ∧ w.grownBy w' v.ownBlock := by
  obtain ⟨hl, g, off, cap, cur, rfl, hBg, hb, h2, h3, h4, h5⟩ := h
  have hadd : ∀ j, (Addr.mk g off none).add j = ⟨g, off + j, none⟩ := by intro j; unfold Addr.add; split <;> simp_all
  have hnews : ∀ j u, [x][j]? = some u → w.cell? (ad.add j) = some u := fun j u hu => by
    have : j = 0 := by have := (List.getElem?_eq_some_iff.1 hu).1; simpa using this
    subst this
    have e : ad.add 0 = ad := by unfold Addr.add; split <;> simp_all
    rw [e, hnew]; simpa using hu
  by_cases hroom : n + 1 ≤ cap
  · have hf := run_firstCells_some (P := Try.prog) w i.size 1 ad 1 c [x] (by simp [hsize]) hnews
    have hst := run_storeCells_at Try.prog g (off + n) 3 [x] 0 cur w hb (by simp; omega) (by simpa using h1)
    simp only [Nat.add_zero, List.length_cons, List.length_nil, Nat.zero_add] at hst
    refine ⟨g, off, cap, w.setRow g (cur.toList.take (off + n) ++ [x] ++ cur.toList.drop (off + n + 1)).toArray, ?_, ⟨by simp [hl], g, off, cap, _, rfl, hBg, setRow_heap w g cur _ 3 _ hb, hroom, h3, ?_, ?_⟩, ⟨rfl, rfl, rfl, by simp, fun k _ hk => setRow_other w g k _ (fun e => hk (by simp [Value.ownBlock, e]))⟩⟩
    · rw [hsize] at hf
      have e := hadd n
      simp [Builtin.append_, run_underlying Try.underlying27, sizeOf, typeInfo, hi, Builtin.lenOf, hroom, hsize, hf, e, hst]
    · simp; omega
    · intro j hj
      rw [List.getElem?_toArray]
      simp only [List.append_assoc]
      rcases Nat.lt_or_ge j n with hjn | hjn
      · rw [List.getElem?_append_left (by simp; omega), List.getElem?_take, if_pos (by omega)]
        have := h5 j hjn
        simp only [Array.getElem?_toList]
        rw [this, List.getElem?_append_left (by omega)]
      · have : j = n := by omega
        subst this
        rw [List.getElem?_append_right (by simp; omega)]
        have e1 : off + j - (List.take (off + j) cur.toList).length = 0 := by simp; omega
        have e2 : (xs ++ [x])[j]? = some x := by rw [List.getElem?_append_right (by omega), hl, Nat.sub_self]; rfl
        rw [e1, e2]
        rfl
  · have holds : ∀ j u, xs[j]? = some u → w.cell? ((Addr.mk g off none).add j) = some u := fun j u hu => by
      rw [hadd, cell_of_row w g (off + j) cur 3 (0, 0) hb, h5 j (by have := (List.getElem?_eq_some_iff.1 hu).1; omega)]
      exact hu
    have hr := run_append_grow (P := Try.prog) w 27 ty 3 i (.int .i64 0) Try.underlying27 hi hz ⟨g, off, none⟩ n cap xs (by rw [hsize, hl]; omega) holds ad 1 c [x] (by simp [hsize]) hnews (by omega) (by omega) (growslice_fits (by omega) (by rw [hby]; omega))
    have hge := grownCap_ge w (n + 1) cap 3
    refine ⟨_, _, _, _, hr, ⟨by simp [hl], w.heap.size, 0, _, _, rfl, hB, heap_alloc_new w.drew _, hge, grownCap_le_maxLen w (n + 1) cap 3 (by unfold maxLen; omega), ?_, ?_⟩, ⟨rfl, rfl, rfl, by simp, fun k hk _ => RowKit.Below.heap_alloc w.drew _ k hk⟩⟩
    · have hz1 : (Value.int IntKind.i64 0).cells.size = 1 := rfl
      simp only [Array.size_append, List.size_toArray, size_zeroCells, hz1, hl, List.length_cons, List.length_nil]
      omega
    · intro j hj
      rw [Nat.zero_add, Array.getElem?_append_left (by simp; omega)]
      simp

theorem wpList_que_append (hgd : o.guard = none) (s x : Operand) (ho : o.op = .call { callee := .builtin .append, args := #[s, x], argTypes := #[27, 27] })
    (i : TypeInfo) (hi : Try.prog.info? 3 = some i) (hz : i.zero = some (.int .i64 0)) (hsize : i.size = 1) (hby : i.bytes = 8) (B n : Nat) (v : Value) (xs : List Value) (hs : a.eval s = v) (h : Que w B v n xs)
    (ad : Addr) (c : Nat) (y : Value) (hx : a.eval x = .slice (some ad) 1 c) (hnew : w.cell? ad = some y) (h1 : y.oneCell' = true) (hn : n ≤ 1048576) (hB : B ≤ w.heap.size)
    (hK : ∀ g off cap w', Que w' B (.slice (some ⟨g, off, none⟩) (n + 1) cap) (n + 1) (xs ++ [y]) → w.grownBy w' v.ownBlock → wpList Try.prog ops Q rest (a.put o.dst (.slice (some ⟨g, off, none⟩) (n + 1) cap)) w') : wpList Try.prog ops Q (o :: rest) a w :=
  wpList_plain hgd fun _ hK' => by
    obtain ⟨g, off, cap, w', hr, h2, h3⟩ := run_que_append w o.type i hi hz hsize hby B n v xs h ad c y hnew h1 hn hB
    unfold Oper.wp execOp
    simp only [ho, resolve, invoke, builtin, Sem.run_bind, Sem.run_pure, Result.andThen_ok, List.map_toArray, List.map_cons, List.map_nil, hs, hx, hr]
    exact hK' _ _ (hK g off cap w' h2 h3)
end

end Go.Proofs.Ytkgmhkjiblanmaa
