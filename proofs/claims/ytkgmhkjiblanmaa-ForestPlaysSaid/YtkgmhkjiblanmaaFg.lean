/-
  The walks of Same, Group and Least (package forest).
-/
import Derived.Test.YtkgmhkjiblanmaaFe
namespace Go.Proofs.Ytkgmhkjiblanmaa
open Go.RowKit

set_option maxRecDepth 100000 in
set_option maxHeartbeats 800000 in
theorem same_in (L : Lay) (F : FS) (rt m : Nat → Nat) (a b : Nat) (w : World) (h : Rep w L F) (hmost : F.up.length ≤ 1048576) (ht : Tree F.up rt m) (ha : a < F.up.length) (hb : b < F.up.length) :
    Calls Try.prog 13 #[.pointer (some ⟨L.p, 0, none⟩), .int .i64 a, .int .i64 b] w fun e w' => e = .returned (.tuple #[.bool (rt a == rt b), .int .i64 0]) ∧ Still L F rt m w w' := by
  have Hin := Lib.hid (in_two ha hb)
  have H := Lib.hid h
  have HT := Lib.hid ht
  have hbq : (((rt a : Nat) : Int) == ((rt b : Nat) : Int)) = (rt a == rt b) := by
    rw [Bool.eq_iff_iff, beq_iff_eq, beq_iff_eq]; omega
  have Hbq := Lib.hid hbq
  clear h ht hbq
  go_enter Try.func13, Try.ntmps13
  go_wp2_with fail
  refine (has_two L F a b w H.out Hin.out).mono ?_
  rintro e w1 ⟨rfl, hr1, hm1⟩
  have Hm1 := Lib.hid hm1
  have Hr1 := Lib.hid hr1
  clear hm1 hr1 H Hin
  go_wp2_with fail
  refine (top_any L F rt m a _ Hr1.out HT.out ha hmost).mono ?_
  rintro e w2 ⟨rfl, F1, hs1, hr2, hm2⟩
  have Hm2 := Lib.hid (Hm1.out.trans hm2)
  have Hr2 := Lib.hid hr2
  have Hs1 := Lib.hid hs1
  clear hm2 hr2 hs1 Hr1 Hm1
  go_wp2_with fail
  refine (top_any L F1 rt m b _ Hr2.out Hs1.out.2.2.2 (by have := Hs1.out.2.2.1; omega) (by have := Hs1.out.2.2.1; omega)).mono ?_
  rintro e w3 ⟨rfl, F2, hs2, hr3, hm3⟩
  have Hm3 := Lib.hid (Hm2.out.trans hm3)
  have Hr3 := Lib.hid hr3
  have Hs2 : Hid (Same F F2 rt m) := ⟨hs2.1.trans Hs1.out.1, hs2.2.1.trans Hs1.out.2.1, hs2.2.2.1.trans Hs1.out.2.2.1, hs2.2.2.2⟩
  clear hm3 hr3 hs2 Hs1 Hr2 Hm2
  go_wp2
  go_ret2
  exact ⟨by rw [← Hbq.out]; rfl, F2, Hs2.out, Hr3.out, Hm3.out⟩

set_option maxRecDepth 100000 in
set_option maxHeartbeats 800000 in
theorem same_out (L : Lay) (F : FS) (a b : Int) (w : World) (h : Rep w L F) (hin : ((!([a, b].any (out F.up.length))) = false)) :
    Calls Try.prog 13 #[.pointer (some ⟨L.p, 0, none⟩), .int .i64 a, .int .i64 b] w fun e w' => e = .returned (.tuple #[.bool false, .int .i64 2]) ∧ Below w.heap.size w w' := by
  have Hin := Lib.hid hin
  have H := Lib.hid h
  clear h hin
  go_enter Try.func13, Try.ntmps13
  go_wp2_with fail
  refine (has_two_no L F a b w H.out Hin.out).mono ?_
  rintro e w1 ⟨rfl, hb1⟩
  go_wp2
  go_ret2
  exact ⟨rfl, hb1⟩

theorem has_one (L : Lay) (F : FS) (a : Int) (w : World) (h : Rep w L F) :
    Calls Try.prog 22 #[.pointer (some ⟨L.p, 0, none⟩), .slice (some ⟨w.heap.size, 0, none⟩) 1 1] (w.alloc (.cells #[.int .i64 a] 3)) fun e w' => e = .returned (.bool (!out F.up.length a)) ∧ Rep w' L F ∧ Below w.heap.size w w' := by
  obtain ⟨A, c, hv⟩ := own_form h.up
  have h1 := (h.alloc (.cells #[.int .i64 a] 3)).cells.1
  rw [hv] at h1
  have hb : Below w.heap.size w (w.alloc (.cells #[.int .i64 a] 3)) := (Below.refl _ _).alloc (Nat.le_refl _) _
  refine (has_any [a] _ 1 L.p F.up.length c A _ (by simp) (ints_new w _ rfl [a] 3) h1).mono ?_
  rintro e w' ⟨rfl, hb'⟩
  have hb2 : Below w.heap.size w w' := hb.trans (hb'.mono hb.size)
  exact ⟨by simp, h.below hb2, hb2⟩

/-- The members below k of the group of a. -/
def members (rt : Nat → Nat) (a k : Nat) : List Nat := (List.range k).filter fun b => rt b == rt a

theorem members_succ (rt : Nat → Nat) (a k : Nat) : members rt a (k + 1) = if rt k == rt a then members rt a k ++ [k] else members rt a k := by
  unfold members
  rw [List.range_succ, List.filter_append]
  by_cases h : (rt k == rt a) = true
  · rw [if_pos h]; simp [h]
  · rw [if_neg h]; simp [h]
theorem members_le (rt : Nat → Nat) (a k : Nat) : (members rt a k).length ≤ k := by
  unfold members
  exact Nat.le_trans (List.length_filter_le _ _) (by simp)

theorem own_fr {w w' : World} {M : Nat → Prop} {B : Nat} {e : TypeId} {size n : Nat} {v : Value} {xs : List Value} (h : w.ownsRow B e size v n xs) (hf : Fr M w w') (hM : ∀ x, M x → x < B) : w'.ownsRow B e size v n xs := by
  refine ⟨h.1, ?_⟩
  rcases h.2 with hn | ⟨g, cap, cur, rfl, hb, hgg, rest⟩
  · exact .inl hn
  · refine .inr ⟨g, cap, cur, rfl, hb, ?_, rest⟩
    rw [hf.block g (Array.getElem?_eq_some_iff.1 hgg).1 (fun hm => by have := hM g hm; omega)]
    exact hgg

theorem Moves.grown {w0 w w' : World} {L : Lay} (h : Moves w0 w L L) {row : Option Nat} (hg : w.grownBy w' row) (hr : ∀ k, row = some k → w0.heap.size ≤ k) : Moves w0 w' L L :=
  ⟨h.fr.trans (Fr.of_grown (M := fun x => row = some x) hg (fun _ hk => hk)) (fun x hx => .inr (hr x hx)), fun _ h => .inl h, rfl⟩

theorem list_grown {w0 w w5 : World} {L : Lay} {F : FS} {v : Value} {n : Nat} {xs : List Value} {o : Obj} (hr : Rep w L F) (hm : Moves w0 w L L) (hL : ∀ x, L.Has x → x < w0.heap.size) (hrow : w.ownsRow w0.heap.size 3 1 v n xs) (hg : (w.alloc o).grownBy w5 v.ownBlock) :
    Rep w5 L F ∧ Moves w0 w5 L L := by
  have hb : ∀ k, v.ownBlock = some k → w0.heap.size ≤ k := fun k hk => (hrow.lt k hk).1
  exact ⟨(hr.alloc o).keep hg (fun k hk hh => by have := hb k hk; have := hL k hh; omega), (hm.then_still ((Below.refl _ _).alloc (Nat.le_refl _) o)).grown hg hb⟩

/-- What Group leaves. -/
def Grouped (L : Lay) (F : FS) (rt m : Nat → Nat) (a : Nat) (w : World) (e : Ending) (w' : World) : Prop :=
  ∃ v, e = .returned (.tuple #[v, .int .i64 0]) ∧ w'.ownsRow w.heap.size 3 1 v (members rt a F.up.length).length (upCells (members rt a F.up.length)) ∧ Still L F rt m w w'

set_option maxRecDepth 100000 in
set_option maxHeartbeats 1600000 in
theorem group_in (L : Lay) (F : FS) (rt m : Nat → Nat) (a : Nat) (w : World) (h : Rep w L F) (hmost : F.up.length ≤ 1048576) (ht : Tree F.up rt m) (ha : a < F.up.length) :
    Calls Try.prog 11 #[.pointer (some ⟨L.p, 0, none⟩), .int .i64 a] w (Grouped L F rt m a w) := by
  have hin : (!out F.up.length (a : Int)) = true := by
    have h1 : ¬ (F.up.length : Int) ≤ a := by omega
    simp [out, ha]
  have hL : Hid (∀ x, L.Has x → x < w.heap.size) := fun x hx => h.lt hx
  obtain ⟨i3, hi3, hz30, hz31, hz32⟩ := info_parts info3
  have Hin := Lib.hid hin
  have H := Lib.hid h
  have HT := Lib.hid ht
  clear h ht hin
  go_enter Try.func11, Try.ntmps11
  go_wp2_with fail
  refine (has_one L F a w H.out).mono ?_
  rw [Hin.out]
  rintro e w1 ⟨rfl, hr1, hm1⟩
  obtain ⟨A, c, hv⟩ := own_form hr1.up
  have hp0 := hr1.cells.1
  rw [hv] at hp0
  have Hm1 := Lib.hid (Moves.still L hm1)
  have Hr1 := Lib.hid hr1
  clear hm1 hr1 H Hin hv
  go_wp2
  go_loopw [6, 18] (fun l v wr => ∃ k : Nat, v = .int .i64 k ∧ k ≤ F.up.length ∧ wr.ownsRow w.heap.size 3 1 l (members rt a k).length (upCells (members rt a k)) ∧ ∃ F', Same F F' rt m ∧ Rep wr L F' ∧ Moves w wr L L) (fun _ v _ => F.up.length - (intOf v).toNat)
  case atStart => exact ⟨0, rfl, Nat.zero_le _, World.ownsRow_nil _ _ _ _, F, ⟨rfl, rfl, rfl, HT.out⟩, Hr1.out, Hm1.out⟩
  case round =>
    obtain ⟨k, rfl, hk, hrow, F', hs, hr, hm⟩ := hrel
    have Hs := Lib.hid hs
    have Hr := Lib.hid hr
    have Hm := Lib.hid hm
    have Hrow := Lib.hid hrow
    clear hs hr hm hrow Hr1 Hm1 hp0
    by_cases hlt : k < F.up.length
    · have hlt' : ((k : Int) < F.up.length) := by omega
      have hms := members_succ rt a k
      have Hms := Lib.hid hms
      clear hms
      go_wp2_with fail
      refine (top_any L F' rt m k _ Hr.out Hs.out.2.2.2 (by have := Hs.out.2.2.1; omega) (by have := Hs.out.2.2.1; omega)).mono ?_
      rintro e w2 ⟨rfl, F1, hs1, hr2, hm2⟩
      have Hrow2 := Lib.hid (own_fr Hrow.out hm2.fr hL.out)
      have Hm2 := Lib.hid (Hm.out.trans hm2)
      have Hr2 := Lib.hid hr2
      have Hs1 : Hid (Same F F1 rt m) := ⟨hs1.1.trans Hs.out.1, hs1.2.1.trans Hs.out.2.1, hs1.2.2.1.trans Hs.out.2.2.1, hs1.2.2.2⟩
      clear hm2 hr2 hs1 Hr Hm Hs Hrow
      go_wp2_with fail
      refine (top_any L F1 rt m a _ Hr2.out Hs1.out.2.2.2 (by have := Hs1.out.2.2.1; omega) (by have := Hs1.out.2.2.1; omega)).mono ?_
      rintro e w3 ⟨rfl, F2, hs2, hr3, hm3⟩
      have Hrow3 := Lib.hid (own_fr Hrow2.out hm3.fr hL.out)
      have Hm3 := Lib.hid (Hm2.out.trans hm3)
      have Hr3 := Lib.hid hr3
      have Hs2 : Hid (Same F F2 rt m) := ⟨hs2.1.trans Hs1.out.1, hs2.2.1.trans Hs1.out.2.1, hs2.2.2.1.trans Hs1.out.2.2.1, hs2.2.2.2⟩
      clear hm3 hr3 hs2 Hs1 Hr2 Hm2 Hrow2
      by_cases he : rt k = rt a
      · have hbe : (((rt k : Nat) : Int) == ((rt a : Nat) : Int)) = true := beq_iff_eq.2 (by omega)
        have Hms' : Hid (members rt a (k + 1) = members rt a k ++ [k]) := by rw [Hid, Hms.out, if_pos (beq_iff_eq.2 he)]
        have Hle : Hid ((members rt a k).length ≤ k) := members_le rt a k
        clear he Hms
        generalize members rt a k = M at *
        go_wp2_with (at_builtin; (refine wpList_append_lies _ rfl _ _ 27 rfl w.heap.size 3 i3 (.int .i64 0) 1 8 Try.underlying27 hi3 hz30 hz31 hz32 rfl (by decide) _ M.length (upCells M) rfl (Hrow3.out.alloc _) ⟨w3.heap.size, 0, none⟩ 1 1 [.int .i64 k] rfl rfl (World.news_of_block (heap_alloc_new _ _)) (by simp [Value.oneCell']) (by decide) (by have := Hle.out; unfold maxLen; omega) (by have := Hle.out; omega) (by have := Hm3.out.fr.size; simp; omega) (w3.heap.size + 1) (by exact (Go.Deep.nblk_alloc _ _)) ?_); intro g2 cap2 w5 hown hgrow hat hlt2; have Hown := Lib.hid hown; have Hgrow := Lib.hid hgrow; have Hat := Lib.hid hat; clear hown hgrow hat)
        go_roundw
        case rel =>
          obtain ⟨hr5, hm5⟩ := list_grown Hr3.out Hm3.out hL.out Hrow3.out Hgrow.out
          refine ⟨k + 1, by go_num, by omega, ?_, F2, Hs2.out, hr5, hm5⟩
          rw [Hms'.out, List.length_append]
          have e : upCells (M ++ [k]) = upCells M ++ [.int .i64 k] := by simp [upCells]
          rw [e]
          exact Hown.out
        case measure => simp [intOf]; omega
      · have hbe : (((rt k : Nat) : Int) == ((rt a : Nat) : Int)) = false := beq_eq_false_iff_ne.2 (by omega)
        have Hms' : Hid (members rt a (k + 1) = members rt a k) := by rw [Hid, Hms.out, if_neg (by simpa using he)]
        clear he Hms
        go_wp2
        go_roundw
        case rel => exact ⟨k + 1, by go_num, by omega, by rw [Hms'.out]; exact Hrow3.out, F2, Hs2.out, Hr3.out, Hm3.out⟩
        case measure => simp [intOf]; omega
    · have hk' : k = F.up.length := by omega
      subst hk'
      go_wp2
      go_ret2
      exact ⟨_, rfl, Hrow.out, F', Hs.out, Hr.out, Hm.out⟩

theorem has_one_no (L : Lay) (F : FS) (a : Int) (w : World) (h : Rep w L F) (hin : out F.up.length a = true) :
    Calls Try.prog 22 #[.pointer (some ⟨L.p, 0, none⟩), .slice (some ⟨w.heap.size, 0, none⟩) 1 1] (w.alloc (.cells #[.int .i64 a] 3)) fun e w' => e = .returned (.bool false) ∧ Below w.heap.size w w' :=
  (has_one L F a w h).mono fun _ _ ⟨he, _, hb⟩ => ⟨by rw [he, hin]; rfl, hb⟩

set_option maxRecDepth 100000 in
set_option maxHeartbeats 800000 in
theorem group_out (L : Lay) (F : FS) (a : Int) (w : World) (h : Rep w L F) (hin : out F.up.length a = true) :
    Calls Try.prog 11 #[.pointer (some ⟨L.p, 0, none⟩), .int .i64 a] w fun e w' => e = .returned (.tuple #[.slice none 0 0, .int .i64 2]) ∧ Below w.heap.size w w' := by
  have Hin := Lib.hid hin
  have H := Lib.hid h
  clear h hin
  go_enter Try.func11, Try.ntmps11
  go_wp2_with fail
  refine (has_one_no L F a w H.out Hin.out).mono ?_
  rintro e w1 ⟨rfl, hb1⟩
  go_wp2
  go_ret2
  exact ⟨rfl, hb1⟩

theorem members_mem (rt : Nat → Nat) {a n : Nat} (ha : a < n) : a ∈ members rt a n := by simp [members, ha]
theorem members_ne (rt : Nat → Nat) {a n : Nat} (ha : a < n) : members rt a n ≠ [] := fun e => by have := members_mem rt ha; rw [e] at this; cases this

/-- The least member of the group of a. -/
def least (rt : Nat → Nat) (a n : Nat) : Nat := (members rt a n).headD 0

set_option maxRecDepth 100000 in
set_option maxHeartbeats 800000 in
theorem least_in (L : Lay) (F : FS) (rt m : Nat → Nat) (a : Nat) (w : World) (h : Rep w L F) (hmost : F.up.length ≤ 1048576) (ht : Tree F.up rt m) (ha : a < F.up.length) :
    Calls Try.prog 12 #[.pointer (some ⟨L.p, 0, none⟩), .int .i64 a] w fun e w' => e = .returned (.tuple #[.int .i64 (least rt a F.up.length), .int .i64 0]) ∧ Still L F rt m w w' := by
  have H := Lib.hid h
  have HT := Lib.hid ht
  have hne := members_ne rt ha
  have hd : Hid ((upCells (members rt a F.up.length))[0]? = some (.int .i64 (least rt a F.up.length))) := by
    unfold least
    rcases hl : members rt a F.up.length with _ | ⟨x, l⟩
    · exact absurd hl hne
    · rfl
  have Hpos : Hid (0 < (members rt a F.up.length).length) := List.length_pos_iff.2 hne
  clear h ht hne
  go_enter Try.func12, Try.ntmps12
  go_wp2_with fail
  refine (group_in L F rt m a w H.out hmost HT.out ha).mono ?_
  rintro e w1 ⟨v, rfl, hrow, hst⟩
  have Hst := Lib.hid hst
  obtain ⟨g, c, rfl, _, _⟩ := hrow.form Hpos.out
  have hc := hrow.cellAt 0 (by have := Hpos.out; omega)
  rw [hd.out] at hc
  have hpos := Hpos.out
  clear hst hrow hd Hpos H
  obtain ⟨le, hle⟩ : ∃ le, least rt a F.up.length = le := ⟨_, rfl⟩
  rw [hle] at hc
  have Hle := Lib.hid hle
  clear hle
  generalize (members rt a F.up.length).length = ml at *
  go_wp2
  go_ret2
  exact ⟨by rw [Hle.out]; rfl, Hst.out⟩

set_option maxRecDepth 100000 in
set_option maxHeartbeats 800000 in
theorem least_out (L : Lay) (F : FS) (a : Int) (w : World) (h : Rep w L F) (hin : out F.up.length a = true) :
    Calls Try.prog 12 #[.pointer (some ⟨L.p, 0, none⟩), .int .i64 a] w fun e w' => e = .returned (.tuple #[.int .i64 0, .int .i64 2]) ∧ Below w.heap.size w w' := by
  have Hin := Lib.hid hin
  have H := Lib.hid h
  clear h hin
  go_enter Try.func12, Try.ntmps12
  go_wp2_with fail
  refine (group_out L F a w H.out Hin.out).mono ?_
  rintro e w1 ⟨rfl, hb1⟩
  go_wp2
  go_ret2
  exact ⟨rfl, hb1⟩

end Go.Proofs.Ytkgmhkjiblanmaa
