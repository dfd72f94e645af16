/-
  Plain laws on groups: they part the members; a joint makes of two one. The contracts of the forest's calls, on one name for its state.
-/
import Derived.Test.YtkgmhkjiblanmaaFg
import Derived.Test.YtkgmhkjiblanmaaFi
import Derived.Test.YtkgmhkjiblanmaaFn
namespace Go.Proofs.Ytkgmhkjiblanmaa
open Go.RowKit

theorem sum_zero : ∀ l : List Nat, (l.map fun _ => 0).sum = 0
  | [] => rfl
  | _ :: l => by simp [sum_zero l]
theorem sum_add (f g : Nat → Nat) : ∀ l : List Nat, (l.map fun i => f i + g i).sum = (l.map f).sum + (l.map g).sum
  | [] => rfl
  | x :: l => by simp only [List.map_cons, List.sum_cons, sum_add f g l]; omega
theorem sum_one (c : Nat) : ∀ n, c < n → ((List.range n).map fun i => if c = i then 1 else 0).sum = 1
  | 0, h => by omega
  | n + 1, h => by
    rw [List.range_succ, List.map_append, List.sum_append]
    by_cases hc : c = n
    · subst hc
      have : ((List.range c).map fun i => if c = i then 1 else 0) = (List.range c).map fun _ => 0 := List.map_congr_left fun i hi => if_neg (by have := List.mem_range.1 hi; omega)
      rw [this, sum_zero]; simp
    · rw [sum_one c n (by omega)]; simp [hc]

theorem sum_count (f : Nat → Nat) (n : Nat) : ∀ l : List Nat, (∀ b ∈ l, f b < n) → ((List.range n).map fun i => l.countP fun b => f b == i).sum = l.length
  | [], _ => by simp [sum_zero]
  | b :: l, h => by
    have ih := sum_count f n l fun x hx => h x (List.mem_cons_of_mem _ hx)
    have e : ((List.range n).map fun i => (b :: l).countP fun b => f b == i) = (List.range n).map fun i => (l.countP fun b => f b == i) + (if f b = i then 1 else 0) := List.map_congr_left fun i _ => by
      rw [List.countP_cons]; simp
    rw [e, sum_add, ih, sum_one _ _ (h b (List.mem_cons_self ..)), List.length_cons]

theorem mem_members {rt : Nat → Nat} {a n b : Nat} : b ∈ members rt a n ↔ b < n ∧ rt b = rt a := by simp [members]
theorem members_congr {rt : Nat → Nat} {a b n : Nat} (h : rt a = rt b) : members rt a n = members rt b n := by unfold members; rw [h]
theorem least_mem (rt : Nat → Nat) {a n : Nat} (ha : a < n) : least rt a n ∈ members rt a n := by
  unfold least
  rcases hl : members rt a n with _ | ⟨x, l⟩
  · exact absurd hl (members_ne rt ha)
  · exact List.mem_cons_self ..
theorem least_lt (rt : Nat → Nat) {a n : Nat} (ha : a < n) : least rt a n < n ∧ rt (least rt a n) = rt a := mem_members.1 (least_mem rt ha)
theorem members_sorted (rt : Nat → Nat) (a n : Nat) : (members rt a n).Pairwise (· < ·) := List.Pairwise.sublist List.filter_sublist List.pairwise_lt_range
theorem least_le (rt : Nat → Nat) {a n : Nat} (ha : a < n) : least rt a n ≤ a := by
  have hm := members_mem rt ha
  have hs := members_sorted rt a n
  unfold least
  rcases hl : members rt a n with _ | ⟨x, l⟩
  · rw [hl] at hm; cases hm
  · rw [hl] at hm hs
    rcases List.mem_cons.1 hm with rfl | h
    · exact Nat.le_refl _
    · exact Nat.le_of_lt ((List.pairwise_cons.1 hs).1 a h)

/-- What the law sums up, the members below k gone through. -/
def part (rt : Nat → Nat) (n k : Nat) : Nat := ((List.range k).map fun i => if least rt i n = i then (members rt i n).length else 0).sum

theorem part_succ (rt : Nat → Nat) (n k : Nat) : part rt n (k + 1) = part rt n k + if least rt k n = k then (members rt k n).length else 0 := by
  unfold part
  rw [List.range_succ, List.map_append, List.sum_append]
  simp

theorem part_le (rt : Nat → Nat) (n : Nat) : ∀ k, part rt n k ≤ k * n
  | 0 => by simp [part]
  | k + 1 => by
    rw [part_succ]
    have := part_le rt n k
    have h2 := members_le rt k n
    rw [Nat.add_mul, Nat.one_mul]
    split <;> omega

theorem part_all (rt : Nat → Nat) (n : Nat) : part rt n n = n := by
  have h := sum_count (fun b => least rt b n) n (List.range n) fun b hb => (least_lt rt (List.mem_range.1 hb)).1
  rw [List.length_range] at h
  refine Eq.trans ?_ h
  clear h
  unfold part
  congr 1
  refine List.map_congr_left fun i hi => ?_
  have hin := List.mem_range.1 hi
  rw [List.countP_eq_length_filter]
  by_cases he : least rt i n = i
  · rw [if_pos he]
    congr 1
    unfold members
    refine List.filter_congr fun b hb => ?_
    have hbn := List.mem_range.1 hb
    rw [Bool.eq_iff_iff, beq_iff_eq, beq_iff_eq]
    constructor
    · intro e
      have : least rt b n = least rt i n := by unfold least; rw [members_congr e]
      rw [this, he]
    · intro e
      have := (least_lt rt hbn).2
      rw [e] at this; exact this.symm
  · rw [if_neg he]
    symm
    rw [List.length_eq_zero_iff, List.filter_eq_nil_iff]
    intro b hb
    have hbn := List.mem_range.1 hb
    simp only [beq_iff_eq]
    intro e
    apply he
    have h2 := (least_lt rt hbn).2
    rw [e] at h2
    have : least rt i n = least rt b n := by unfold least; rw [members_congr h2]
    rw [this, e]

set_option linter.unusedSimpArgs false in
theorem filter_or (p q : Nat → Bool) : ∀ l : List Nat, (∀ i ∈ l, ¬ (p i = true ∧ q i = true)) → (l.filter fun i => p i || q i).length = (l.filter p).length + (l.filter q).length
  | [], _ => rfl
  | x :: l, h => by
    have ih := filter_or p q l fun i hi => h i (List.mem_cons_of_mem _ hi)
    have hx := h x (List.mem_cons_self ..)
    rw [List.filter_cons, List.filter_cons, List.filter_cons]
    cases hp : p x <;> cases hq : q x <;> simp [hp, hq, ih] <;> first | omega | (exact absurd ⟨hp, hq⟩ hx)

/-- A joint makes of two groups one. -/
theorem members_join {rt : Nat → Nat} {a b x y n : Nat} (hor : (x = rt a ∧ y = rt b) ∨ (x = rt b ∧ y = rt a)) (hne : rt a ≠ rt b) : (members (join rt x y) a n).length = (members rt a n).length + (members rt b n).length := by
  unfold members
  rw [← filter_or (fun i => rt i == rt a) (fun i => rt i == rt b) (List.range n) (fun i _ ⟨h1, h2⟩ => hne ((beq_iff_eq.1 h1).symm.trans (beq_iff_eq.1 h2)))]
  congr 1
  refine List.filter_congr fun i _ => ?_
  rw [Bool.eq_iff_iff, beq_iff_eq, Bool.or_eq_true, beq_iff_eq, beq_iff_eq]
  unfold join
  rcases hor with ⟨rfl, rfl⟩ | ⟨rfl, rfl⟩
  · rw [if_neg hne]
    by_cases h : rt i = rt b
    · rw [if_pos h]; simp [h]
    · rw [if_neg h]; simp [h]
  · rw [if_pos rfl]
    by_cases h : rt i = rt a
    · rw [if_pos h]; simp [h]
    · rw [if_neg h]; simp [h]

/-- The state of a forest of the call's own. -/
def Cur (w0 w : World) (L : Lay) (n : Nat) (rt m : Nat → Nat) (es : List Ed) : Prop := ∃ F, F.up.length = n ∧ Rep w L F ∧ Own w0 w L ∧ Good F rt m es

theorem Cur.later {w0 w w' : World} {L : Lay} {n : Nat} {rt m : Nat → Nat} {es : List Ed} (h : Cur w0 w L n rt m es) (hb : Below w.heap.size w w') : Cur w0 w' L n rt m es := by
  obtain ⟨F, hn, hr, ho, hg⟩ := h
  exact ⟨F, hn, hr.below hb, ho.moves (Moves.still L hb), hg⟩
theorem Cur.still {w0 w w' : World} {L : Lay} {F : FS} {n : Nat} {rt m : Nat → Nat} {es : List Ed} (hn : F.up.length = n) (ho : Own w0 w L) (hg : Good F rt m es) (hs : Still L F rt m w w') : Cur w0 w' L n rt m es ∧ Moves w w' L L := by
  obtain ⟨F', hs, hr, hm⟩ := hs
  exact ⟨⟨F', hs.2.2.1.trans hn, hr, ho.moves hm, hg.same hs⟩, hm⟩
theorem Cur.lt {w0 w : World} {L : Lay} {n : Nat} {rt m : Nat → Nat} {es : List Ed} (h : Cur w0 w L n rt m es) : ∀ x, L.Has x → x < w.heap.size := by
  obtain ⟨F, _, hr, _, _⟩ := h
  exact fun x hx => hr.lt hx

section
variable {w0 w : World} {L : Lay} {n : Nat} {rt m : Nat → Nat} {es : List Ed}

theorem cur_len (h : Cur w0 w L n rt m es) : Calls Try.prog 10 #[.pointer (some ⟨L.p, 0, none⟩)] w fun e w' => e = .returned (.int .i64 n) ∧ w = w' := by
  obtain ⟨F, rfl, hr, _, _⟩ := h
  exact len_rep L F w hr

theorem cur_group (h : Cur w0 w L n rt m es) {a : Nat} (ha : a < n) : Calls Try.prog 11 #[.pointer (some ⟨L.p, 0, none⟩), .int .i64 a] w fun e w' =>
    (∃ g c, e = .returned (.tuple #[.slice (some ⟨g, 0, none⟩) (members rt a n).length c, .int .i64 0]) ∧ w'.ownsRow w.heap.size 3 1 (.slice (some ⟨g, 0, none⟩) (members rt a n).length c) (members rt a n).length (upCells (members rt a n))) ∧ Cur w0 w' L n rt m es ∧ Moves w w' L L := by
  obtain ⟨F, rfl, hr, ho, hg⟩ := h
  refine (group_in L F rt m a w hr hg.even.most hg.tree ha).mono ?_
  rintro e w' ⟨v, rfl, hrow, hst⟩
  obtain ⟨g, c, rfl, _, _⟩ := hrow.form (List.length_pos_iff.2 (members_ne rt ha))
  exact ⟨⟨g, c, rfl, hrow⟩, Cur.still rfl ho hg hst⟩

theorem cur_group_out (h : Cur w0 w L n rt m es) {a : Int} (ha : out n a = true) : Calls Try.prog 11 #[.pointer (some ⟨L.p, 0, none⟩), .int .i64 a] w fun e w' =>
    e = .returned (.tuple #[.slice none 0 0, .int .i64 2]) ∧ Cur w0 w' L n rt m es := by
  have h' := h
  obtain ⟨F, rfl, hr, ho, hg⟩ := h
  exact (group_out L F a w hr ha).mono fun _ _ ⟨he, hb⟩ => ⟨he, h'.later hb⟩

theorem cur_least (h : Cur w0 w L n rt m es) {a : Nat} (ha : a < n) : Calls Try.prog 12 #[.pointer (some ⟨L.p, 0, none⟩), .int .i64 a] w fun e w' =>
    e = .returned (.tuple #[.int .i64 (least rt a n), .int .i64 0]) ∧ Cur w0 w' L n rt m es ∧ Moves w w' L L := by
  obtain ⟨F, rfl, hr, ho, hg⟩ := h
  exact (least_in L F rt m a w hr hg.even.most hg.tree ha).mono fun _ _ ⟨he, hst⟩ => ⟨he, Cur.still rfl ho hg hst⟩

theorem cur_same (h : Cur w0 w L n rt m es) {a b : Nat} (ha : a < n) (hb : b < n) : Calls Try.prog 13 #[.pointer (some ⟨L.p, 0, none⟩), .int .i64 a, .int .i64 b] w fun e w' =>
    e = .returned (.tuple #[.bool (rt a == rt b), .int .i64 0]) ∧ Cur w0 w' L n rt m es ∧ Moves w w' L L := by
  obtain ⟨F, rfl, hr, ho, hg⟩ := h
  exact (same_in L F rt m a b w hr hg.even.most hg.tree ha hb).mono fun _ _ ⟨he, hst⟩ => ⟨he, Cur.still rfl ho hg hst⟩

theorem cur_same_out (h : Cur w0 w L n rt m es) {a b : Int} (hin : (!([a, b].any (out n))) = false) : Calls Try.prog 13 #[.pointer (some ⟨L.p, 0, none⟩), .int .i64 a, .int .i64 b] w fun e w' =>
    e = .returned (.tuple #[.bool false, .int .i64 2]) ∧ Cur w0 w' L n rt m es := by
  have h' := h
  obtain ⟨F, rfl, hr, ho, hg⟩ := h
  exact (same_out L F a b w hr hin).mono fun _ _ ⟨he, hb⟩ => ⟨he, h'.later hb⟩

theorem cur_join_out (h : Cur w0 w L n rt m es) {a b : Int} {why : Value} (hin : (!([a, b].any (out n))) = false) : Calls Try.prog 14 #[.pointer (some ⟨L.p, 0, none⟩), .int .i64 a, .int .i64 b, why] w fun e w' =>
    e = .returned (.tuple #[.bool false, .int .i64 2]) ∧ Cur w0 w' L n rt m es := by
  have h' := h
  obtain ⟨F, rfl, hr, ho, hg⟩ := h
  exact (join_out L F a b why w hr hin).mono fun _ _ ⟨he, hb⟩ => ⟨he, h'.later hb⟩

theorem cur_join (h : Cur w0 w L n rt m es) {a b : Nat} {why : Value} (ha : a < n) (hb : b < n) (hw : why.oneCell' = true) : Calls Try.prog 14 #[.pointer (some ⟨L.p, 0, none⟩), .int .i64 a, .int .i64 b, why] w fun e w' =>
    e = .returned (.tuple #[.bool (!(rt a == rt b)), .int .i64 0]) ∧ ∃ L' rt' m' es', L'.p = L.p ∧ Cur w0 w' L' n rt' m' es' ∧ Moves w w' L L' ∧
      ((rt a = rt b ∧ rt' = rt ∧ es' = es) ∨ (rt a ≠ rt b ∧ es' = es ++ [⟨a, b, why⟩] ∧ ∃ x y, ((x = rt a ∧ y = rt b) ∨ (x = rt b ∧ y = rt a)) ∧ rt' = join rt x y)) := by
  obtain ⟨F, rfl, hr, ho, hg⟩ := h
  refine (join_in L F rt m es a b why w hr hg ha hb hw).mono ?_
  rintro e w' ⟨rfl, L', F', rt', m', es', hr', hm, hl, hg', hcase⟩
  exact ⟨rfl, L', rt', m', es', hm.p, ⟨F', hl, hr', ho.moves hm, hg'⟩, hm, hcase⟩
end

end Go.Proofs.Ytkgmhkjiblanmaa
