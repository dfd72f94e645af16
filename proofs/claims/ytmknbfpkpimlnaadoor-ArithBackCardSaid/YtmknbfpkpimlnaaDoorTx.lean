/-
  The walks of both Texts (packages arith, sorrelref06).
-/
import Derived.Test.YtmknbfpkpimlnaaDoorRd
import Derived.Lib.ItoaLen
namespace Go.Proofs.YtmknbfpkpimlnaaDoor
open Go.RowKit Go.Sort

theorem grow_below (w : World) (k : Nat) (os : Array Obj) : Below w.heap.size w (grow (w.drewN k) os) := by
  refine ⟨rfl, rfl, rfl, ?_, fun i hi => ?_⟩
  · simp [grow]
  · simp [grow]
    exact Array.getElem?_append_left hi

def textOf (n : Int) : ByteArray := ⟨(Lib.itoa n).toArray⟩

set_option maxRecDepth 100000 in
set_option maxHeartbeats 800000 in
theorem atext_any (n : Int) (hn : I64 n) (w : World) (hT : Tabs w) : Calls Tryd.prog 12 #[.int .i64 n] w fun e w' => e = .returned (.string (textOf n)) ∧ Below w.heap.size w w' := by
  have hp := hT.p10
  clear hT
  go_enter Tryd.func12, Tryd.ntmps12
  go_wp2_with fail
  refine (Tryd.strconv_FormatInt_10 n hn.1 hn.2 w hp).mono ?_
  rintro e w1 ⟨rfl, k, os, rfl⟩
  have H := Lib.hid (grow_below w k os)
  generalize grow (w.drewN k) os = w1 at *
  go_wp2
  go_ret
  exact ⟨rfl, H.out⟩

theorem dig_step (u : Nat) : Lib.decDigits u = (if u / 10 = 0 then [] else Lib.decDigits (u / 10)) ++ [UInt8.ofNat (48 + u % 10)] := by
  rw [Lib.decDigits]
  by_cases h : u < 10
  · rw [dif_pos h, if_pos (by omega)]
    have : u % 10 = u := by omega
    rw [this]; rfl
  · rw [dif_neg h, if_neg (by omega)]

/-- The digits that stand so far, and the number that is left. -/
def Dg (N u : Nat) (S : List UInt8) : Prop := Lib.decDigits N = (if u = 0 ∧ S ≠ [] then [] else Lib.decDigits u) ++ S
theorem Dg.start (N : Nat) : Dg N N [] := by unfold Dg; simp
theorem Dg.step {N u : Nat} {S : List UInt8} (h : Dg N u S) (hg : u ≠ 0 ∨ S = []) : Dg N (u / 10) (UInt8.ofNat (48 + u % 10) :: S) := by
  unfold Dg at h ⊢
  rw [if_neg (by rintro ⟨h1, h2⟩; exact hg.elim (fun h => h h1) h2), dig_step u] at h
  rw [h]
  simp
theorem Dg.done {N : Nat} {S : List UInt8} (h : Dg N 0 S) (hs : S ≠ []) : Lib.decDigits N = S := by
  unfold Dg at h
  rw [if_pos ⟨rfl, hs⟩] at h
  simpa using h

theorem Dg.short {N u : Nat} {S : ByteArray} (h : Dg N u S.data.toList) (hN : N ≤ 9223372036854775808) : S.size ≤ 20 := by
  have h1 := congrArg List.length h
  rw [List.length_append, Lib.decDigits_length] at h1
  have h2 := Lib.nDigits_le20 N (by omega)
  rw [Lib.size_eq]; omega

theorem empty_not {S : ByteArray} (h : S.size ≠ 0) : S.toList.isEmpty = false := by
  rw [← decide_eq_emptyBytes]
  apply decide_eq_false
  rintro rfl
  exact h rfl

theorem text_data (S : ByteArray) (n : Int) (h : Lib.decDigits n.natAbs = S.data.toList) : (0 ≤ n → S = textOf n) ∧ (n < 0 → (⟨#[45]⟩ ++ S : ByteArray) = textOf n) := by
  refine ⟨fun h0 => ?_, fun h0 => ?_⟩
  · unfold textOf Lib.itoa
    rw [if_neg (by omega)]
    have e : n.toNat = n.natAbs := by omega
    rw [e, h]
  · unfold textOf Lib.itoa
    rw [if_pos h0, h]
    apply ByteArray.ext
    apply Array.toList_inj.1
    simp

set_option maxRecDepth 100000 in
set_option maxHeartbeats 1600000 in
theorem rtext_any (n : Int) (hn : I64 n) (w : World) : Calls Tryd.prog 13 #[.int .i64 n] w fun e w' => e = .returned (.string (textOf n)) ∧ Below w.heap.size w w' := by
  have hnn : n.natAbs ≤ 9223372036854775808 := by have := hn; unfold I64 at this; omega
  go_enter Tryd.func13, Tryd.ntmps13
  go_wp2_with fail
  refine (size_any n hn w).mono ?_
  rintro e w1 ⟨rfl, rfl⟩
  go_wp2
  go_loopg [3, 4] (2 * n.natAbs + 1) (fun gk sv uv wr => ∃ u S, sv = .string S ∧ uv = .int .u64 (u : Nat) ∧ gk = 2 * u + (if S.size = 0 then 1 else 0) ∧ u ≤ 9223372036854775808 ∧ Dg n.natAbs u S.data.toList ∧ Below w.heap.size w wr)
  case atStart => exact ⟨_, ⟨#[]⟩, rfl, rfl, rfl, hnn, Dg.start _, Below.refl _ _⟩
  case round =>
    obtain ⟨u, S, rfl, rfl, hgk, hul, hd, hb⟩ := hrel
    have Hd := Lib.hid hd
    have Hb := Lib.hid hb
    have Hgk := Lib.hid hgk
    clear hd hb hgk
    have hconv : ∀ (c : Int) (wx : World), (convert 50 9 (.slice (some ⟨wx.heap.size, 0, none⟩) 1 1)).run Tryd.prog (wx.alloc (.cells #[.int .u8 c] 5)) = .ok (.string (strOfNums [c])) (wx.alloc (.cells #[.int .u8 c] 5)) := fun c wx =>
      run_convert_bytes_arg _ 50 5 Tryd.underlying50 Tryd.underlying5 wx.heap.size 0 1 1 [c] rfl (fun i hi => by
        rw [World.cell?_alloc_new]
        have : i = 0 := by omega
        subst this; rfl) 9 Tryd.underlying9
    have hshort := Hd.out.short hnn
    have hshi : ¬ (9223372036854775807 : Nat) < 1 + S.size := by omega
    by_cases hgo : u ≠ 0 ∨ S.size = 0
    · have Hstep : Hid (Dg n.natAbs (u / 10) (UInt8.ofNat (48 + u % 10) :: S.data.toList)) := Hd.out.step (hgo.imp id fun h => by rw [← List.length_eq_zero_iff, ← Lib.size_eq]; exact h)
      obtain ⟨c, hc⟩ : ∃ c : Nat, 48 + u % 10 = c := ⟨_, rfl⟩
      rw [hc] at Hstep
      have hmod : IntKind.u64.wrap (48 + (u : Int).tmod 10) = c := by rw [u64_emod, Int.tmod_eq_emod_of_nonneg (by omega)]; omega
      have hdiv : IntKind.u64.wrap ((u : Int).tdiv 10) = ((u / 10 : Nat) : Int) := by rw [u64_emod, Int.tdiv_eq_ediv_of_nonneg (by omega)]; omega
      have hc256 : (c : Int) % 256 = c := by omega
      have hsz1 : (strOfNums [(c : Int)]).size = 1 := by rw [strOfNums_size]; rfl
      have Hdat : Hid ((strOfNums [(c : Int)] ++ S).data.toList = UInt8.ofNat c :: S.data.toList ∧ (strOfNums [(c : Int)] ++ S).size = 1 + S.size) := by
        refine ⟨?_, by rw [ByteArray.size_append, hsz1]⟩
        simp [strOfNums]
      have hmsz : (strOfNums [(c : Int)]).size + S.size ≤ 9223372036854775807 := by omega
      generalize hZ : strOfNums [(c : Int)] = Z at *
      have HBn : Hid (∀ o, RowKit.Below w.heap.size w (wr.alloc o)) := fun o => Hb.out.alloc Hb.out.size o
      have hconv' := fun wx => hconv (c : Int) wx
      rw [hZ] at hconv'
      have hce : (c : Int) = 48 + (u : Int) % 10 := by omega
      rw [hce] at hconv'
      obtain ⟨m, hm⟩ : ∃ m : Nat, u / 10 = m := ⟨_, rfl⟩
      rw [hm] at hdiv Hstep
      have hdiv2 : (u : Int) / 10 = m := by omega
      by_cases hu : 0 < u
      · have hui : (0 : Int) < u := by omega
        have Hm := Lib.hid hm
        clear hconv hc hgo hm hZ hce hmod hc256 hdiv
        go_wp2
        go_roundg (2 * m + 0)
        case measure => have h1 := Hgk.out; have h2 := Hm.out; rw [h1]; split <;> omega
        case rel => exact ⟨m, Z ++ S, rfl, rfl, by rw [Hdat.out.2, if_neg (by omega)], by have := Hm.out; omega, by rw [Hdat.out.1]; exact Hstep.out, HBn.out _⟩
      · have hS : S.size = 0 := by omega
        have hu0 : u = 0 := by omega
        have hSe : S = ⟨#[]⟩ := by
          apply ByteArray.ext
          apply Array.eq_empty_of_size_eq_zero
          exact hS
        have Hm := Lib.hid hm
        have Hu0 := Lib.hid hu0
        have hSy : S.toList.isEmpty = true := by rw [hSe, ← decide_eq_emptyBytes]; exact decide_eq_true rfl
        have hui : ¬ (0 : Int) < u := by omega
        have h48 : (48 : Int) + (u : Int) % 10 = 48 := by omega
        have hm0 : m = 0 := by omega
        rw [h48] at hconv'
        have HS := Lib.hid hS
        clear hconv hc hgo hm hZ hu hu0 hSe hS hce hmod hc256 hdiv h48
        go_wp2
        go_roundg 0
        case measure => have h1 := Hgk.out; have h2 := HS.out; rw [h1, h2]; simp
        case rel => exact ⟨m, Z ++ S, rfl, by first | rfl | (rw [hm0]; rfl), by have h1 := Hm.out; have h2 := Hu0.out; rw [Hdat.out.2, if_neg (by omega)]; omega, by have := Hm.out; omega, by rw [Hdat.out.1]; exact Hstep.out, HBn.out _⟩
    · have hS : S.size ≠ 0 := fun h => hgo (.inr h)
      have hu0 : u = 0 := Decidable.byContradiction fun h => hgo (.inl h)
      subst hu0
      have hSy := empty_not hS
      have Hdone := Lib.hid (text_data S n (Hd.out.done (by rw [← List.length_pos_iff, ← Lib.size_eq]; omega)))
      have hui : ¬ (0 : Int) < ((0 : Nat) : Int) := by omega
      clear hS hgo hconv
      by_cases hneg : n < 0
      · have Hx := Lib.hid (Hdone.out.2 hneg)
        go_wp2
        go_ret
        exact ⟨by rw [← Hx.out]; rfl, Hb.out⟩
      · have Hx := Lib.hid (Hdone.out.1 (by omega))
        go_wp2
        go_ret
        exact ⟨by rw [← Hx.out]; rfl, Hb.out⟩
end Go.Proofs.YtmknbfpkpimlnaaDoor
