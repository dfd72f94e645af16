/-
  RulesNames: for every list of texts the law returns true (every Named and Mask answers what the document says); the argument reads behind the call as it read before. No condition.
-/
import Derived.Test.YthicopkfgefbpaaRows
import Derived.Test.YthicopkfgefbpaaRnG
import Derived.WalkKit
import Derived.ProofKit
import Derived.OpenShut
import Derived.ShutString
import Derived.ChangeOld
import Derived.Below
import Derived.SizedLaws
import Derived.Deep.Strs
import Derived.Lib.SmallJoins
namespace Go.Proofs.Ythicopkfgefbpaa.RulesNames
open Go.ChangeShapes Go.WideShapes Go.ChangeAt Go.RowKit Go.Joins Go.Deep Go.Proofs.Ythicopkfgefbpaa.Rn
set_option linter.unusedVariables false

theorem own : ownKnob Try.prog.godebug = none := by kernel_rfl
theorem laidOut : laidOutB Try.prog = true := by kernel_rfl
theorem cells9 : Try.prog.cellsOf 9 = 1 := by kernel_rfl
theorem bytes9 : Try.prog.bytesOf 9 = 16 := by kernel_rfl

theorem mem_weightsAll {H : Type} {P : Program} {e : TypeId} : ∀ {l : List (DataW H)} {d : DataW H} {n : Nat}, d ∈ l → n ∈ d.weights P e → n ∈ DataW.weightsAll P e l
  | x :: l, d, n, hd, hn => by
    unfold DataW.weightsAll
    rcases List.mem_cons.1 hd with rfl | hd
    · exact List.mem_append_left _ hn
    · exact List.mem_append_right _ (mem_weightsAll hd hn)

/-- The argument, opened. -/
theorem names_open {H : Type} {enc : TypeId × Value → H} {W : World} {v : Value} {d : DataW H} {p : List MemPlace} (hv : ∃ a n c, v = .slice a n c)
    (h : DataW.Trod enc Try.prog W 0 (fun _ => true) true 50 v d p) : (∃ A cap, v = .slice A 0 cap) ∨ ∃ b off cap l, l ≠ [] ∧ v = .slice (some ⟨b, off, none⟩) l.length cap ∧ b < W.heap.size ∧ (∀ i (h : i < l.length), W.cell? ⟨b, off + i, none⟩ = some (.string l[i])) ∧
      ∃ el sp, d = .slice el sp ∧ el.length = l.length ∧ ∀ s ∈ l, DataW.lit (.string s.data.toList) ∈ el := by
  obtain ⟨a, n, c, rfl⟩ := hv
  obtain ⟨fuel, hf⟩ := h
  rcases open_strs Try.underlying50 Try.underlying9 cells9 hf with ⟨hcs, _⟩ | ⟨x, len, cap, m, Sx, hcs, hb, hl, hm, hmm, hx, hi⟩
  · simp [Value.cells] at hcs
    obtain ⟨rfl, rfl, rfl⟩ := hcs
    exact .inl ⟨none, 0, rfl⟩
  · simp [Value.cells] at hcs
    obtain ⟨rfl, rfl, rfl⟩ := hcs
    rcases Nat.eq_zero_or_pos n with rfl | h0
    · exact .inl ⟨_, _, rfl⟩
    simp only [if_true] at hmm
    subst hmm
    have hc0 := (hi 0 (by omega)).1
    obtain ⟨b, off, spot⟩ := x
    have hspot : spot = none := by simpa [Addr.add] using World.cell?_spot hc0
    subst hspot
    have hadd : ∀ j, (Addr.mk b off none).add j = ⟨b, off + j, none⟩ := by intro j; unfold Addr.add; split <;> simp_all
    rw [hadd] at hc0
    refine .inr ⟨b, off, m, (List.range n).map Sx, ?_, ?_, World.block_lt_of_cell? W _ hc0, fun i hi' => ?_, _, _, (Prod.mk.inj hx).1, by simp, fun s hs => ?_⟩
    · intro e
      have := congrArg List.length e
      simp at this; omega
    · rw [List.length_map, List.length_range]
    · have hin : i < n := by simpa using hi'
      have := (hi i (by omega)).1
      rw [hadd] at this
      simpa using this
    · obtain ⟨i, hi', rfl⟩ := List.mem_map.1 hs
      exact List.mem_map.2 ⟨i, hi', rfl⟩

set_option maxRecDepth 100000 in
theorem lifted (os : Os) (started : os.Started) (H : Type) (enc : TypeId × Value → H) :
    ReturnsInHanded {} Try.checked os 6 .any (Rows.rulesNamesSpec.pre6 enc Try.prog Try.f6 Rows.rulesNamesRow.domain false) (Rows.rulesNamesSpec.post enc Try.prog Try.f6 false true false false) := by
  refine returnsInHanded_of_change_sized (C := Try.checked) own started (by kernel_rfl) Try.func6
    (ChangeSpec.witness6 (enc := enc) (C := Try.checked) false ⟨#[], #[.slice none 0 0], []⟩ 8 (by kernel_rfl) (by kernel_rfl) (by kernel_rfl) (by kernel_rfl)) ?_
  intro W base args ds gs before hval0 hW hcnd hsz0 _
  have hval : ∀ (j : Nat) t v, Try.f6.params[j]? = some t → args[j]? = some v → Value.okWide Try.prog W .any base t v := hval0
  have hsz : (DataW.weightsEach Try.prog (Try.f6.params.toList ++ Rows.rulesNamesSpec.plain.varTypes Try.prog) (ds ++ gs)).all (· ≤ reachBytes) = true := hsz0
  have hW' := hW
  obtain ⟨p, q, hA0, hV, rfl, hfz, hnd⟩ := hW
  have hA : DataW.TrodAll enc Try.prog W 0 (fun _ => true) true Try.f6.params.toList args.toList ds p := hA0
  rw [Try.params6] at hA hval hsz
  obtain ⟨v0, vs0, d0, ds0, p0, q0, hargs, rfl, rfl, h0, r0⟩ := trodAll_cons hA
  obtain ⟨rfl, rfl, rfl⟩ := trodAll_nil r0
  obtain rfl : args = #[v0] := by cases args; simp_all
  obtain ⟨rfl, rfl⟩ := trodVars_none hV
  have k0 := h0
  have lt0 : ∀ x ∈ p0, x.block < W.heap.size := by obtain ⟨m, hm⟩ := k0; exact DataW.trod_lt m _ _ _ hm
  clear hA0 hval0
  rcases names_open (okWide_slice Try.underlying50 (hval 0 50 v0 rfl rfl)) h0 with ⟨A, cap, rfl⟩ | ⟨b, off, cap, l, hne, rfl, hb, hc, el, sp, rfl, hel, hmem⟩
  · refine (rulesNames_nil A cap W).mono fun e W' ⟨he, bel⟩ => ?_
    subst he
    exact ⟨_, rfl, _, _, _, [], _, [], hW', trodAll_mk1 (shut_bool Try.underlying4 _), (trodAll_cons_mk (Below.trod laidOut (by kernel_rfl) (of_decide_eq_true (by kernel_rfl)) k0 bel lt0) trodAll_mk0), rfl, bel.frame _, fun h => by cases h⟩
  · have hreach : l.length * 16 ≤ 140737488351232 := by
      have := sized_slice hsz (j := 0) (t := 50) (e := 9) rfl rfl Try.underlying50
      rw [bytes9, hel] at this
      simp only [reachBytes] at this
      omega
    have hstr : ∀ s ∈ l, s.size ≤ 140737488355328 := fun s hs => by
      have hw : s.data.toList.length ∈ DataW.weights Try.prog 50 (.slice el sp) := by
        simp only [DataW.weights, Try.underlying50]
        exact List.mem_cons_of_mem _ (List.mem_append_left _ (mem_weightsAll (hmem s hs) (by simp [DataW.weights])))
      have := List.all_eq_true.1 hsz _ (DataW.weights_mem_each (j := 0) (t := 50) rfl rfl _ hw)
      have h2 : s.data.toList.length ≤ reachBytes := of_decide_eq_true this
      unfold reachBytes at h2
      rw [Lib.size_eq s]
      omega
    refine (rulesNames_some b off cap l W hne hb hc hstr hreach).mono fun e W' ⟨he, bel⟩ => ?_
    subst he
    exact ⟨_, rfl, _, _, _, [], _, [], hW', trodAll_mk1 (shut_bool Try.underlying4 _), (trodAll_cons_mk (Below.trod laidOut (by kernel_rfl) (of_decide_eq_true (by kernel_rfl)) k0 bel lt0) trodAll_mk0), rfl, bel.frame _, fun h => by cases h⟩

theorem over : Rows.rulesNamesRow.holds Try.pinned (OpenSpec.ofChange Rows.rulesNamesSpec) :=
  OpenClaim.holds_of_wide 6 Try.f6 rfl rfl rfl rfl rfl rfl rfl ⟨rfl, rfl, rfl, rfl, rfl⟩ rfl rfl rfl rfl rfl (by kernel_rfl) Try.func6 (by kernel_rfl)
    (of_decide_eq_true (by kernel_rfl)) (by unfold Func.isWrapper; first | (rw [if_pos (by decide +kernel)]; kernel_rfl) | (rw [if_neg (by decide +kernel)]; exact ⟨rfl, rfl⟩))
    (fun os started H enc _ => lifted os started H enc)

/-- THE STATEMENT. -/
theorem proved : Rows.RulesNamesSaid := over
#print axioms proved

end Go.Proofs.Ythicopkfgefbpaa.RulesNames
