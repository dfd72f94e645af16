/-
  ArithPlays: for every operator and every slice of int64s that comes in the law returns true: Apply gives what the reference's Apply gives, value and error, and turns neither the numbers that it is given nor what lies behind them; the arguments read behind the call as they read before. The three tables of Go's library that the row lists read as its data (the card ties them to the program's text); the walk reads none of them. No condition beside.
-/
import Derived.Test.YtmknbfpkpimlnaaDoorLd
import Derived.Test.YtmknbfpkpimlnaaDoorPw
import Derived.ChangeSlices
import Derived.SizedLaws
import Derived.Below
import Derived.ChangeSame
import Derived.Deep.Slices
namespace Go.Proofs.YtmknbfpkpimlnaaDoor
open Go.ChangeShapes Go.WideShapes Go.ChangeAt Go.RowKit
set_option linter.unusedVariables false

namespace Plays
/-- The slice of numbers, opened. -/
theorem ints_open {H : Type} {enc : TypeId × Value → H} {W : World} {v : Value} {d0 d : DataW H} {p : List MemPlace} {gs : List (DataW H)} {ts : List TypeId} (hv : ∃ a n c, v = .slice a n c)
    (h : DataW.Trod enc Tryd.prog W 0 (fun _ => true) true 29 v d p) (hsz : (DataW.weightsEach Tryd.prog ([3, 29] ++ ts) ([d0, d] ++ gs)).all (· ≤ reachBytes) = true) :
    ∃ A xs cap, v = .slice A xs.length cap ∧ (∀ x ∈ xs, I64 x) ∧ Ints W A xs ∧ xs.length * 8 ≤ 140737488351232 := by
  obtain ⟨a, n, c, rfl⟩ := hv
  have hlt : ∀ x ∈ p, x.block < W.heap.size := by obtain ⟨m, hm⟩ := h; exact DataW.trod_lt m _ _ _ hm
  obtain ⟨fuel, hf⟩ := h
  rcases open_ints Tryd.underlying29 Tryd.underlying2 (by kernel_rfl) hf with ⟨hcs, _⟩ | ⟨x, len, cap, zs, hcs, hb, hl, hm, hz, hx, hc, hwf⟩
  · simp [Value.cells] at hcs
    obtain ⟨rfl, rfl, rfl⟩ := hcs
    exact ⟨none, [], 0, rfl, by simp, fun h => absurd rfl h, by simp⟩
  · simp [Value.cells] at hcs
    obtain ⟨rfl, rfl, rfl⟩ := hcs
    simp only [if_true] at hz
    simp only [Prod.mk.injEq] at hx
    obtain ⟨rfl, hp⟩ := hx
    have hl' : (zs.take n).length = n := by rw [List.length_take]; omega
    refine ⟨some x, zs.take n, c, by rw [hl'], fun y hy => I64_of_wf (hwf y (List.mem_of_mem_take hy)), fun hne => ?_, ?_⟩
    · obtain ⟨xb, xo, xs⟩ := x
      have h0 := hc 0 (by rcases zs with _ | ⟨z, zs⟩; · simp at hne
                          · simp)
      have hxs : xs = none := by simpa [Addr.add] using World.cell?_spot h0
      subst hxs
      refine ⟨xb, xo, rfl, ?_, fun i hi => ?_⟩
      · exact World.block_lt_of_cell? W _ (by rw [Addr.add_lit] at h0; exact h0)
      · rw [hl'] at hi
        have := hc i (by omega)
        rw [Addr.add_lit] at this
        rw [this, List.getElem_take, List.getD_eq_getElem?_getD, List.getElem?_eq_getElem (by omega)]
        rfl
    · have := sized_slice hsz (j := 1) (t := 29) (e := 2) rfl rfl Tryd.underlying29
      have hby : Tryd.prog.bytesOf 2 = 8 := by kernel_rfl
      rw [hby] at this
      simp only [reachBytes] at this
      rw [hl']
      simp only [lits, List.length_map, List.length_take, List.length_drop] at this
      omega

set_option maxRecDepth 100000 in
theorem lifted (os : Os) (started : os.Started) (H : Type) (enc : TypeId × Value → H) :
    ReturnsInHanded {} Tryd.checked os 5 .any (fun w args => (Rows.arithPlaysSpec.pre enc Tryd.prog Tryd.f5 [] false w args ∧ laidMet Tryd.prog laid3 w) ∧ sizedMet enc Tryd.prog Tryd.f5 (OpenSpec.ofChange Rows.arithPlaysSpec) false w args)
      (Rows.arithPlaysSpec.post enc Tryd.prog Tryd.f5 false true false false) := by
  refine returnsInHanded_of_change_and (C := Tryd.checked) (X := fun w _ => laidMet Tryd.prog laid3 w) (fun _ _ _ hh h => h.of_heap hh) own started (by kernel_rfl) Tryd.func5
    (ChangeSpec.witness_shaped (enc := enc) (C := Tryd.checked) (os := os) (X := fun w _ => laidMet Tryd.prog laid3 w) false (World.doorLaid Tryd.prog 4000 os) #[.int .i64 0, .slice none 0 0] 8 rfl (World.shaped_of_RefB (by kernel_rfl) (by kernel_rfl)) (by kernel_rfl) (by kernel_rfl) (by kernel_rfl) (door_met3 os _)) ?_
  intro W base args ds gs before hval0 hW _ hsz0 hL _
  have hval : ∀ (j : Nat) t v, Tryd.f5.params[j]? = some t → args[j]? = some v → Value.okWide Tryd.prog W .any base t v := hval0
  have hsz : (DataW.weightsEach Tryd.prog (Tryd.f5.params.toList ++ Rows.arithPlaysSpec.plain.varTypes Tryd.prog) (ds ++ gs)).all (· ≤ reachBytes) = true := hsz0
  have hW' := hW
  obtain ⟨p, q, hA0, hV, rfl, hfz, hnd⟩ := hW
  have hA : DataW.TrodAll enc Tryd.prog W 0 (fun _ => true) true Tryd.f5.params.toList args.toList ds p := hA0
  rw [Tryd.params5] at hA hval hsz
  obtain ⟨v0, v1, d0, d1, p0, p1, rfl, rfl, rfl, h0, h1⟩ := trodAll_two hA
  obtain ⟨rfl, rfl⟩ := trodVars_none hV
  obtain ⟨a, rfl, rfl, rfl, wa⟩ := open_int Tryd.underlying3 (hval 0 3 v0 rfl rfl) h0
  have k1 := h1
  have lt1 : ∀ x ∈ p1, x.block < W.heap.size := by obtain ⟨m, hm⟩ := k1; exact DataW.trod_lt m _ _ _ hm
  obtain ⟨A, xs, cap, rfl, hi, hx, hreach⟩ := ints_open (okWide_slice Tryd.underlying29 (hval 1 29 v1 rfl rfl)) h1 hsz
  clear hA0 hval0
  refine (arithPlays_walk a A xs cap W hi hx hreach).mono fun e W' ⟨he, bel⟩ => ?_
  subst he
  exact ⟨_, rfl, _, _, _, [], _, [], hW', trodAll_mk1 (shut_bool Tryd.underlying4 _), trodAll_mk2 (shut_int Tryd.underlying3 wa) (Below.trod laidOut (by kernel_rfl) (of_decide_eq_true (by kernel_rfl)) k1 bel lt1), rfl, bel.frame _, fun h => by cases h⟩

theorem said : Rows.ArithPlaysSaid :=
  OpenClaim.holds_of_wide 5 Tryd.f5 rfl rfl rfl rfl rfl rfl rfl ⟨rfl, rfl, rfl, rfl, rfl⟩ rfl rfl rfl rfl rfl (by kernel_rfl) Tryd.func5 (by kernel_rfl)
    (of_decide_eq_true (by kernel_rfl)) (by unfold Func.isWrapper; first | (rw [if_pos (by decide +kernel)]; kernel_rfl) | (rw [if_neg (by decide +kernel)]; exact ⟨rfl, rfl⟩))
    (fun os started H enc _ => lifted os started H enc)

/-- THE STATEMENT: the tied card. -/
theorem card : Rows.ArithPlaysCardSaid :=
  Claim7.holds_tied_plain_at .later [] [.data, .data, .data] true (true, "2c6fe86c83f2051b34c83dc82bddd97b68ebfc710555902c0896aae46321744a") false
    said (fun _ h => by cases h) (by kernel_rfl) (fun _ h => by cases h) arithPlays_row_tie rfl ⟨rfl, rfl⟩ (by kernel_rfl) rfl
    (fun f fn hf hfn => by
      obtain rfl : f = 5 := Option.some.inj ((show Tryd.prog.funcNamed "sorrel/sorrellaw06.ArithPlays" = some 5 by kernel_rfl).symm.trans hf) |>.symm
      obtain rfl : fn = Tryd.f5 := (Option.some.inj (Tryd.func5.symm.trans hfn)).symm
      exact ⟨by kernel_rfl, fun j t ht => by
        rw [Tryd.params5] at ht
        have hm : t ∈ [3, 29] := by simpa using Array.mem_of_getElem? ht
        have hall : ([3, 29].all fun u => !Tryd.prog.wantsStandIn u) = true := by kernel_rfl
        exact (show Tryd.prog.wantsStandIn t = false by simpa using List.all_eq_true.1 hall t hm)⟩)
    (by kernel_rfl)
#print axioms card
end Plays
end Go.Proofs.YtmknbfpkpimlnaaDoor
