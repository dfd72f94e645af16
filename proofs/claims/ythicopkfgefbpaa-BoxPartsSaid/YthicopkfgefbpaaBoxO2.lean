/-
  The law's argument, a slice of cells, opened.
-/
import Derived.Test.YthicopkfgefbpaaRows
import Derived.Test.YthicopkfgefbpaaBoxV
import Derived.WalkKit
import Derived.ProofKit
import Derived.OpenShut
import Derived.ShutString
import Derived.ChangeOld
import Derived.Below
import Derived.SizedLaws
import Derived.Deep.Slices
import Derived.Deep.Fields
import Derived.ChangeSame
namespace Go.Proofs.Ythicopkfgefbpaa.Box
open Go.ChangeShapes Go.WideShapes Go.ChangeAt Go.RowKit Go.Deep
open Go.ChangeMaps (open_string shut_string)
set_option linter.unusedVariables false

theorem own : ownKnob Try.prog.godebug = none := by kernel_rfl
theorem laidOut : laidOutB Try.prog = true := by kernel_rfl
theorem cells39 : Try.prog.cellsOf 39 = 7 := by kernel_rfl
theorem bytes39 : Try.prog.bytesOf 39 = 64 := by kernel_rfl

section
variable {H : Type} {enc : TypeId × Value → H} {P : Program} {w : World} {base : Nat} {spare : Nat → Bool} {held : Bool}
/-- A slice of structs of one-cell fields, opened (after the guide's page on structs). -/
theorem open_slice_fields {t e : TypeId} {fs : Array Field} {fuel : Nat} {cs : List Value} {x : DataW H × List MemPlace} (ht : P.underlying t = some (.slice e)) (he : P.underlying e = some (.struct fs))
    (hone : oneCellFields P fs = true) (hC : P.cellsOf e = fs.size) (h : DataW.trod enc P w base spare held fuel t cs = some x) :
    (cs = [.slice none 0 0] ∧ x = (.nil, [])) ∨
    ∃ (a : Addr) (len cap m : Nat) (D : Nat → DataW H) (Pl : Nat → List MemPlace), cs = [.slice (some a) len cap] ∧ base ≤ a.block ∧ len ≤ cap ∧ cap ≤ maxLen ∧ m = (if spare a.block then cap else len) ∧
      x = (.slice ((List.range len).map D) ((List.range (m - len)).map fun j => D (len + j)), MemPlace.row a (m * fs.size) ++ (List.range m).flatMap Pl) ∧
      ∀ i, i < m → ∃ (ys : List (DataW H × List MemPlace)) (n : Nat), D i = .agg (ys.map (·.1)) ∧ Pl i = ys.flatMap (·.2) ∧ ys.length = fs.size ∧
        ∀ (j : Nat) (f : Field), fs[j]? = some f → ∃ (v : Value) (y : DataW H × List MemPlace), w.cell? (a.add (i * fs.size + j)) = some v ∧ ys[j]? = some y ∧ DataW.trod enc P w base spare held n f.type [v] = some y := by
  rcases open_slice ht h with h0 | ⟨a, len, cap, m, n, D, Pl, hcs, hb, hl, hm, hmm, hx, hi⟩
  · exact .inl h0
  · refine .inr ⟨a, len, cap, m, D, Pl, hcs, hb, hl, hm, hmm, by rw [hC] at hx; exact hx, fun i him => ?_⟩
    obtain ⟨cs', hc, ht'⟩ := hi i him
    rw [hC] at hc
    obtain ⟨ys, n', hn', hy, hlen, hyl, hf⟩ := DataW.trod_struct he ht'
    obtain ⟨_, hcl, hat⟩ := World.cells?_some hc
    simp only [Prod.mk.injEq] at hy
    refine ⟨ys, n', hy.1, hy.2, hyl, fun j f hj => ?_⟩
    obtain ⟨ho, hk⟩ := hone_of hone j f hj
    have hjl : j < fs.size := (Array.getElem?_eq_some_iff.1 hj).1
    have hcell := hat j hjl
    have hv : cs'[j]? = some (cs'[j]'(by omega)) := List.getElem?_eq_getElem (by omega)
    have h1 := hf j f hj
    rw [ho, hk] at h1
    have hone' : (cs'.drop j).take 1 = [cs'[j]'(by omega)] := by
      rw [List.drop_eq_getElem_cons (by omega)]
      rfl
    rw [hone'] at h1
    have hys : ys[j]? = some (ys[j]'(by omega)) := List.getElem?_eq_getElem (by omega)
    refine ⟨_, _, ?_, hys, h1.trans hys⟩
    rw [← Go.Deep.add_add, hcell, hv]
end

/-- The argument, opened. -/
theorem cells_open {H : Type} {enc : TypeId × Value → H} {W : World} {v : Value} {d : DataW H} {p : List MemPlace} (hv : ∃ a n c, v = .slice a n c)
    (h : DataW.Trod enc Try.prog W 0 (fun _ => true) true 31 v d p) : ∃ A len cap l, v = .slice A len cap ∧ CellsIn W A len l ∧ (len = 0 ∨ ∃ el sp, d = .slice el sp ∧ el.length = len) := by
  obtain ⟨a, n, c, rfl⟩ := hv
  obtain ⟨fuel, hf⟩ := h
  rcases open_slice_fields Try.underlying31 Try.underlying39 (by kernel_rfl) cells39 hf with ⟨hcs, _⟩ | ⟨x, len, cap, m, D, Pl, hcs, hb, hl, hm, hmm, hx, hi⟩
  · simp [Value.cells] at hcs
    obtain ⟨rfl, rfl, rfl⟩ := hcs
    exact ⟨none, 0, 0, [], rfl, ⟨rfl, fun h => absurd h (by omega)⟩, .inl rfl⟩
  · simp [Value.cells] at hcs
    obtain ⟨rfl, rfl, rfl⟩ := hcs
    simp only [if_true] at hmm
    subst hmm
    have hel : ∀ i, ∃ c : CellD, i < n → W.cell? (x.add (i * 7)) = some (.int .i64 c.kind) ∧ W.cell? (x.add (i * 7 + 1)) = some (.int .i64 c.op) ∧ W.cell? (x.add (i * 7 + 2)) = some (.int .i64 c.n) ∧
        W.cell? (x.add (i * 7 + 3)) = some (.string c.name) ∧ W.cell? (x.add (i * 7 + 4)) = some (.int .i64 c.a) ∧ W.cell? (x.add (i * 7 + 5)) = some (.int .i64 c.b) ∧ W.cell? (x.add (i * 7 + 6)) = some (.int .i64 c.c) := by
      intro i
      by_cases hin : ¬ i < n
      · exact ⟨⟨0, 0, 0, ⟨#[]⟩, 0, 0, 0⟩, fun h => absurd h hin⟩
      have hin : i < n := Decidable.not_not.1 hin
      obtain ⟨ys, n', _, _, _, hf⟩ := hi i (by omega)
      obtain ⟨v0, y0, c0, _, t0⟩ := hf 0 _ rfl
      obtain ⟨v1, y1, c1, _, t1⟩ := hf 1 _ rfl
      obtain ⟨v2, y2, c2, _, t2⟩ := hf 2 _ rfl
      obtain ⟨v3, y3, c3, _, t3⟩ := hf 3 _ rfl
      obtain ⟨v4, y4, c4, _, t4⟩ := hf 4 _ rfl
      obtain ⟨v5, y5, c5, _, t5⟩ := hf 5 _ rfl
      obtain ⟨v6, y6, c6, _, t6⟩ := hf 6 _ rfl
      obtain ⟨a0, e0, -, -⟩ := DataW.trod_int Try.underlying3 t0
      obtain ⟨a1, e1, -, -⟩ := DataW.trod_int Try.underlying3 t1
      obtain ⟨a2, e2, -, -⟩ := DataW.trod_int Try.underlying2 t2
      obtain ⟨a3, e3, -, -⟩ := DataW.trod_string Try.underlying9 t3
      obtain ⟨a4, e4, -, -⟩ := DataW.trod_int Try.underlying3 t4
      obtain ⟨a5, e5, -, -⟩ := DataW.trod_int Try.underlying3 t5
      obtain ⟨a6, e6, -, -⟩ := DataW.trod_int Try.underlying3 t6
      simp only [List.cons.injEq, and_true] at e0 e1 e2 e3 e4 e5 e6
      subst e0 e1 e2 e3 e4 e5 e6
      exact ⟨⟨a0, a1, a2, a3, a4, a5, a6⟩, fun _ => ⟨c0, c1, c2, c3, c4, c5, c6⟩⟩
    obtain ⟨f, hel⟩ := Classical.axiomOfChoice hel
    refine ⟨some x, n, _, (List.range n).map f, rfl, ⟨by simp, fun h0 => ?_⟩, .inr ⟨_, _, (Prod.mk.inj hx).1, by simp⟩⟩
    obtain ⟨b, off, spot⟩ := x
    have hc0 := (hel 0 h0).1
    have hspot : spot = none := by simpa [Addr.add] using World.cell?_spot hc0
    subst hspot
    have hbl : b < W.heap.size := by
      rcases Nat.lt_or_ge b W.heap.size with h' | h'
      · exact h'
      · simp [World.cell?, Addr.add, Array.getElem?_eq_none h'] at hc0
    have hadd : ∀ j, (Addr.mk b off none).add j = ⟨b, off + j, none⟩ := by intro j; unfold Addr.add; split <;> simp_all
    refine ⟨b, off, rfl, hbl, fun i hi' => ?_⟩
    have hin : i < n := by simpa using hi'
    have hs := hel i hin
    simp only [hadd] at hs
    simpa [Nat.add_assoc] using hs


end Go.Proofs.Ythicopkfgefbpaa.Box
