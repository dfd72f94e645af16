/-
  The script as it comes in: a slice of structs of four ints, opened.
-/
import Derived.Test.YtkgmhkjiblanmaaRows
import Derived.Test.YtkgmhkjiblanmaaFk
import Derived.WalkKit
import Derived.ProofKit
import Derived.OpenShut
import Derived.Below
import Derived.SizedLaws
import Derived.Deep.Slices
import Derived.Deep.Fields
namespace Go.Proofs.Ytkgmhkjiblanmaa
open Go.ChangeShapes Go.WideShapes Go.ChangeAt Go.RowKit Go.Deep
set_option linter.unusedVariables false

theorem own : ownKnob Try.prog.godebug = none := by kernel_rfl
theorem laidOut : laidOutB Try.prog = true := by kernel_rfl
theorem cells61 : Try.prog.cellsOf 61 = 4 := by kernel_rfl
theorem bytes61 : Try.prog.bytesOf 61 = 32 := by kernel_rfl

section
variable {H : Type} {enc : TypeId × Value → H} {P : Program} {w : World} {base : Nat} {spare : Nat → Bool} {held : Bool}
/-- A slice of structs of one-cell fields, opened (after the guide's page on structs). -/
theorem open_slice_fields {t e : TypeId} {fs : Array Field} {fuel : Nat} {cs : List Value} {x : DataW H × List MemPlace} (ht : P.underlying t = some (.slice e)) (he : P.underlying e = some (.struct fs))
    (hone : oneCellFields P fs = true) (hC : P.cellsOf e = fs.size) (h : DataW.trod enc P w base spare held fuel t cs = some x) :
    (cs = [.slice none 0 0] ∧ x = (.nil, [])) ∨
    ∃ (a : Addr) (len cap m : Nat) (D : Nat → DataW H) (Pl : Nat → List MemPlace), cs = [.slice (some a) len cap] ∧ base ≤ a.block ∧ len ≤ cap ∧ cap ≤ maxLen ∧ m = (if spare a.block then cap else len) ∧
      x = (.slice ((List.range len).map D) ((List.range (m - len)).map fun j => D (len + j)), MemPlace.row a (m * fs.size) ++ (List.range m).flatMap Pl) ∧
      ∀ i, i < m → ∃ (ys : List (DataW H × List MemPlace)) (n : Nat), D i = .agg (ys.map (·.1)) ∧ Pl i = ys.flatMap (·.2) ∧ ys.length = fs.size ∧
        ∀ (j : Nat) (f : Field), fs[j]? = some f → ∃ (v : Value) (y : DataW H × List MemPlace), w.cell? (a.add (i * fs.size + j)) = some v ∧ ys[j]? = some y ∧ DataW.trod enc P w base spare held n f.type [v] = some y := by
  rcases open_slice ht h with h0 | ⟨a, len, cap, m, n, D, Pl, hcs, hb, hl, hm, hmm, hx, hi⟩
  · exact .inl h0
  · refine .inr ⟨a, len, cap, m, D, Pl, hcs, hb, hl, hm, hmm, by rw [hC] at hx; exact hx, fun i him => ?_⟩
    obtain ⟨cs', hc, ht'⟩ := hi i him
    rw [hC] at hc
    obtain ⟨ys, n', hn', hy, hlen, hyl, hf⟩ := DataW.trod_struct he ht'
    obtain ⟨_, hcl, hat⟩ := World.cells?_some hc
    simp only [Prod.mk.injEq] at hy
    refine ⟨ys, n', hy.1, hy.2, hyl, fun j f hj => ?_⟩
    obtain ⟨ho, hk⟩ := hone_of hone j f hj
    have hjl : j < fs.size := (Array.getElem?_eq_some_iff.1 hj).1
    have hcell := hat j hjl
    have hv : cs'[j]? = some (cs'[j]'(by omega)) := List.getElem?_eq_getElem (by omega)
    have h1 := hf j f hj
    rw [ho, hk] at h1
    have hone' : (cs'.drop j).take 1 = [cs'[j]'(by omega)] := by
      rw [List.drop_eq_getElem_cons (by omega)]
      rfl
    rw [hone'] at h1
    have hys : ys[j]? = some (ys[j]'(by omega)) := List.getElem?_eq_getElem (by omega)
    refine ⟨_, _, ?_, hys, h1.trans hys⟩
    rw [← Go.Deep.add_add, hcell, hv]
end


/-- The argument, opened. -/
theorem ops_open {H : Type} {enc : TypeId × Value → H} {W : World} {v : Value} {d : DataW H} {p : List MemPlace} (hv : ∃ a n c, v = .slice a n c)
    (h : DataW.Trod enc Try.prog W 0 (fun _ => true) true 22 v d p) : ∃ A cap l, v = .slice A l.length cap ∧ OpsIn W A l ∧ (l.length = 0 ∨ ∃ el sp, d = .slice el sp ∧ el.length = l.length) := by
  obtain ⟨a, n, c, rfl⟩ := hv
  obtain ⟨fuel, hf⟩ := h
  rcases open_slice_fields Try.underlying22 Try.underlying61 (by kernel_rfl) cells61 hf with ⟨hcs, _⟩ | ⟨x, len, cap, m, D, Pl, hcs, hb, hl, hm, hmm, hx, hi⟩
  · simp [Value.cells] at hcs
    obtain ⟨rfl, rfl, rfl⟩ := hcs
    exact ⟨none, 0, [], rfl, fun h => absurd rfl h, .inl rfl⟩
  · simp [Value.cells] at hcs
    obtain ⟨rfl, rfl, rfl⟩ := hcs
    simp only [if_true] at hmm
    subst hmm
    have hel : ∀ i, ∃ c : OpD, i < n → W.cell? (x.add (i * 4)) = some (.int .i64 c.kind) ∧ W.cell? (x.add (i * 4 + 1)) = some (.int .i64 c.a) ∧ W.cell? (x.add (i * 4 + 2)) = some (.int .i64 c.b) ∧ W.cell? (x.add (i * 4 + 3)) = some (.int .i64 c.why) := by
      intro i
      by_cases hin : ¬ i < n
      · exact ⟨⟨0, 0, 0, 0⟩, fun h => absurd h hin⟩
      have hin : i < n := Decidable.not_not.1 hin
      obtain ⟨ys, n', _, _, _, hf⟩ := hi i (by omega)
      obtain ⟨v0, y0, c0, _, t0⟩ := hf 0 _ rfl
      obtain ⟨v1, y1, c1, _, t1⟩ := hf 1 _ rfl
      obtain ⟨v2, y2, c2, _, t2⟩ := hf 2 _ rfl
      obtain ⟨v3, y3, c3, _, t3⟩ := hf 3 _ rfl
      obtain ⟨a0, e0, -, -⟩ := DataW.trod_int Try.underlying3 t0
      obtain ⟨a1, e1, -, -⟩ := DataW.trod_int Try.underlying3 t1
      obtain ⟨a2, e2, -, -⟩ := DataW.trod_int Try.underlying3 t2
      obtain ⟨a3, e3, -, -⟩ := DataW.trod_int Try.underlying3 t3
      simp only [List.cons.injEq, and_true] at e0 e1 e2 e3
      subst e0 e1 e2 e3
      exact ⟨⟨a0, a1, a2, a3⟩, fun _ => ⟨c0, c1, c2, c3⟩⟩
    obtain ⟨f, hel⟩ := Classical.axiomOfChoice hel
    refine ⟨some x, _, (List.range n).map f, by simp; rfl, fun hne => ?_, .inr ⟨_, _, (Prod.mk.inj hx).1, by simp⟩⟩
    have h0 : 0 < n := by
      rcases Nat.eq_zero_or_pos n with rfl | h
      · simp at hne
      · exact h
    obtain ⟨b, off, spot⟩ := x
    have hc0 := (hel 0 h0).1
    have hspot : spot = none := by simpa [Addr.add] using World.cell?_spot hc0
    subst hspot
    have hadd : ∀ j, (Addr.mk b off none).add j = ⟨b, off + j, none⟩ := by intro j; unfold Addr.add; split <;> simp_all
    rw [hadd] at hc0
    refine ⟨b, off, rfl, World.block_lt_of_cell? W _ hc0, fun i hi' => ?_⟩
    have hin : i < n := by simpa using hi'
    have hs := hel i hin
    simp only [hadd] at hs
    simpa [Nat.add_assoc] using hs

end Go.Proofs.Ytkgmhkjiblanmaa
