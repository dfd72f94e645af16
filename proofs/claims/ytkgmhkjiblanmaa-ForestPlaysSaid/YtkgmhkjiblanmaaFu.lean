/-
  The walk of reach (package sorrelref09).
-/
import Derived.Test.YtkgmhkjiblanmaaFt
namespace Go.Proofs.Ytkgmhkjiblanmaa
open Go.RowKit

def Reached (es : List Ed) (rt : Nat → Nat) (a n : Nat) (w : World) (e : Ending) (w' : World) : Prop :=
  e = .returned (.slice (some ⟨w.heap.size, 0, none⟩) n n) ∧ ∃ O f mk, Srch es a n w O f mk w' ∧ ∀ x, x ∈ O ↔ rt x = rt a

theorem zeros_at {n a : Nat} (ha : a < n) : (madeCells (Value.int .i64 0).cells (n * 1)).toList[a]? = some (.int .i64 0) := by
  have e : (madeCells (Value.int .i64 0).cells (n * 1)).toList = List.replicate n (.int .i64 0) := by
    rw [Nat.mul_one]
    exact toList_madeCells_one _ n
  rw [e, List.getElem?_replicate, if_pos ha]

set_option maxRecDepth 100000 in
set_option maxHeartbeats 1600000 in
theorem reach_walk (es : List Ed) (rt : Nat → Nat) (a n base pw : Nat) (jv : Value) (js : List JN) (w : World) (h : Refs w base pw n jv js) (hm : Match es js) (hw : Wood n es rt) (ha : a < n) (hn : n ≤ 1048576) :
    Calls Try.prog 43 #[.pointer (some ⟨pw, 0, none⟩), .int .i64 a] w (Reached es rt a n w) := by
  obtain ⟨i3, hi3, hz30, hz31, hz32⟩ := info_parts info3
  obtain ⟨A, c, rfl⟩ := row_form h.row
  have hc := h.cells
  have hpl := h.lt
  have hjl : js.length ≤ n := by have h1 := hw.count; have h2 := hm.len; omega
  have Hm := Lib.hid hm
  have Hw := Lib.hid hw
  have H := Lib.hid h
  have hai : (a : Int) < n := by omega
  clear h hm hw
  obtain ⟨hc0, hc1⟩ := hc
  go_enter Try.func43, Try.ntmps43
  go_wp2_with (at_make; refine wpList_make_full _ rfl _ _ 27 rfl w.heap.size 3 i3 (.int .i64 0) 1 Try.underlying27 hi3 hz30 hz31 .i64 .i64 (n : Int) (n : Int) n rfl rfl rfl rfl (by rw [hz32]; omega) (by unfold maxLen; omega) (Nat.le_refl _) ?_; intro w1 hown hgrow; have hcA := hown.cellAt a (by omega); have hfA := hown.frozenAt a; have Hs0 := Lib.hid (Srch.start (es := es) ha hown hgrow); rw [zeros_at ha] at hcA; have hgl := (hown.lt _ rfl).2; clear hown hgrow)
  clear hcA hfA hgl hc0 hc1
  go_loopg [6] n (fun gk v wr => ∃ more O f mk, v = .bool more ∧ gk = (if more = true then n - O.length + 1 else 0) ∧ (more = false → Shut es O es.length) ∧ Srch es a n w O f mk wr)
  case atStart => exact ⟨true, [a], _, _, rfl, by simp; omega, fun h => (by cases h), Hs0.out⟩
  case round =>
    obtain ⟨more, O, f, mk, rfl, hgk, hshut, hs⟩ := hrel
    have Hgk := Lib.hid hgk
    have Hshut := Lib.hid hshut
    have Hs := Lib.hid hs
    clear hgk hshut hs Hs0
    cases more with
    | false =>
      have Hend : Hid (Reached es rt a n w (.returned (.slice (some ⟨w.heap.size, 0, none⟩) n n)) wr) := ⟨rfl, O, f, mk, Hs.out, (Hshut.out rfl).all Hw.out Hs.out.reach⟩
      go_wp2
      go_ret
      exact Hend.out
    | true =>
      go_wp2
      go_loopw [6, 7] (fun fl i wq => ∃ q more O' f' mk', q ≤ js.length ∧ i = .int .i64 (q : Nat) ∧ fl = .bool more ∧ Srch es a n w O' f' mk' wq ∧ O.length ≤ O'.length ∧ (more = true → O.length < O'.length) ∧ (more = false → Shut es O' q)) (fun _ i _ => js.length - (intOf i).toNat)
      case atStart => exact ⟨0, false, O, f, mk, Nat.zero_le _, rfl, rfl, Hs.out, Nat.le_refl _, fun h => (by cases h), fun _ i _ _ hi => absurd hi (Nat.not_lt_zero _)⟩
      case round =>
        obtain ⟨q, more, O', f', mk', hq, rfl, rfl, hs', hle, hmore, hshut'⟩ := hrel
        have Hs' := Lib.hid hs'
        have Hle := Lib.hid hle
        have Hmore := Lib.hid hmore
        have Hshut' := Lib.hid hshut'
        clear hs' hle hmore hshut'
        obtain ⟨hc0, hc1⟩ := (H.out.below Hs'.out.below).cells
        by_cases hql : q < js.length
        · obtain ⟨j, hj⟩ : ∃ j, js[q]? = some j := ⟨_, List.getElem?_eq_getElem hql⟩
          obtain ⟨ed, hed⟩ : ∃ ed, es[q]? = some ed := ⟨_, List.getElem?_eq_getElem (by rw [Hm.out.len]; exact hql)⟩
          have hwk := Hw.out.each ed (List.mem_of_getElem? hed)
          have hab := Hm.out.at_ q ed j hed hj
          obtain ⟨gj, rfl, hgj, _⟩ := H.out.block (by omega)
          obtain ⟨c0, c1, c2⟩ := (H.out.below Hs'.out.below).joint_at hj
          have hsz := Hs'.out.below.size
          have hgj' : gj < wr.heap.size := by omega
          have hgne : ¬ gj = w.heap.size := by omega
          have hpne : ¬ pw = w.heap.size := by omega
          have hqi : ((q : Nat) : Int) < js.length := by omega
          obtain ⟨eda, edb, ew⟩ := ed
          obtain ⟨ja, jb, jw⟩ := j
          dsimp only at hwk hab c0 c1 c2
          obtain ⟨rfl, rfl⟩ := hab
          obtain ⟨hka, hkb, hkn, hkr⟩ := hwk
          have hkai : (eda : Int) < n := by omega
          have hkbi : (edb : Int) < n := by omega
          obtain ⟨va, hva, hia⟩ := Hs'.out.reach.known hka
          obtain ⟨vb, hvb, hib⟩ := Hs'.out.reach.known hkb
          obtain ⟨ca, hfr, hgl⟩ := Hs'.out.at_ hva
          obtain ⟨cb, _, _⟩ := Hs'.out.at_ hvb
          have Hed := Lib.hid hed
          have Hia := Lib.hid hia
          have Hib := Lib.hid hib
          have hkn' : ¬ edb = eda := fun e => hkn e.symm
          clear hva hvb hj hed hia hib hkr
          by_cases ha0 : va = 0
          · by_cases hb0 : vb = 0
            · have q1 : (va != 0) = false := by simp [ha0]
              have q2 : (vb != 0) = false := by simp [hb0]
              have Hsh : Hid (more = false → Shut es O' (q + 1)) := fun hf => (Hshut'.out hf).next Hed.out (by rw [Hia.out, Hib.out, ha0, hb0])
              go_wp2
              go_roundw
              case rel => exact ⟨q + 1, more, O', f', mk', by omega, by go_num, rfl, Hs'.out.quiet _, Hle.out, Hmore.out, Hsh.out⟩
              case measure => simp [intOf]; omega
            · have q1 : (va != 0) = false := by simp [ha0]
              have q2 : (vb != 0) = true := by simp [hb0]
              have q3 : (va == 0) = true := by simp [ha0]
              have hstp := Hs'.out.step (s := ⟨edb, eda, ew, true⟩) Hed.out (.inr ⟨rfl, rfl⟩) (Hib.out.2 hb0) (fun h => Hia.out.1 h ha0)
              have Hstp := Lib.hid hstp
              clear hstp
              go_wp2
              go_roundw
              case rel => exact ⟨q + 1, true, O' ++ [eda], _, _, by omega, by go_num, rfl, Hstp.out.quiet _, by have := Hle.out; rw [List.length_append]; omega, fun _ => by have := Hle.out; rw [List.length_append]; simp only [List.length_cons, List.length_nil]; omega, fun h => (by cases h)⟩
              case measure => simp [intOf]; omega
          · have q1 : (va != 0) = true := by simp [ha0]
            by_cases hb0 : vb = 0
            · have q2 : (vb == 0) = true := by simp [hb0]
              have q4 : (((q : Int) + 1) != 0) = true := by simp; omega
              have q5 : (va == 0) = false := by simp [ha0]
              have hstp := Hs'.out.step (s := ⟨eda, edb, ew, false⟩) Hed.out (.inl ⟨rfl, rfl⟩) (Hia.out.2 ha0) (fun h => Hib.out.1 h hb0)
              have Hstp := Lib.hid hstp
              clear hstp
              go_wp2
              go_roundw
              case rel => exact ⟨q + 1, true, O' ++ [edb], _, _, by omega, by go_num, rfl, Hstp.out.quiet _, by have := Hle.out; rw [List.length_append]; omega, fun _ => by have := Hle.out; rw [List.length_append]; simp only [List.length_cons, List.length_nil]; omega, fun h => (by cases h)⟩
              case measure => simp [intOf]; omega
            · have q2 : (vb == 0) = false := by simp [hb0]
              have q3 : (vb != 0) = true := by simp [hb0]
              have q4 : (va == 0) = false := by simp [ha0]
              have Hsh : Hid (more = false → Shut es O' (q + 1)) := fun hf => (Hshut'.out hf).next Hed.out ⟨fun _ => Hib.out.2 hb0, fun _ => Hia.out.2 ha0⟩
              go_wp2
              go_roundw
              case rel => exact ⟨q + 1, more, O', f', mk', by omega, by go_num, rfl, Hs'.out.quiet _, Hle.out, Hmore.out, Hsh.out⟩
              case measure => simp [intOf]; omega
        · have hqe : q = js.length := by omega
          subst hqe
          go_wp2
          go_roundg (if more = true then n - O'.length + 1 else 0)
          case measure =>
            have h1 := Hs'.out.room Hw.out ha
            have h2 := Hgk.out
            have h3 := Hle.out
            have h4 := Hmore.out
            cases more with
            | false => rw [h2]; simp
            | true => have := h4 rfl; rw [h2]; simp; omega
          case rel => exact ⟨more, O', f', mk', rfl, rfl, fun h => by rw [Hm.out.len]; exact Hshut'.out h, Hs'.out⟩

end Go.Proofs.Ytkgmhkjiblanmaa
