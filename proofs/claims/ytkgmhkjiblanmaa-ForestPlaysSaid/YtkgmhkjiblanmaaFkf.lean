/-
  The calls of a forest on whatever ints, each by one contract; two forests that lie apart.
-/
import Derived.Test.YtkgmhkjiblanmaaFz
import Derived.Test.YtkgmhkjiblanmaaFke
namespace Go.Proofs.Ytkgmhkjiblanmaa
open Go.RowKit

theorem own_far {w w' : World} {M : Nat → Prop} {B : Nat} {e : TypeId} {size n : Nat} {v : Value} {xs : List Value} (h : w.ownsRow B e size v n xs) (hf : Fr M w w') (hM : ∀ x, v.ownBlock = some x → ¬ M x) : w'.ownsRow B e size v n xs := by
  refine ⟨h.1, ?_⟩
  rcases h.2 with hn | ⟨g, cap, cur, rfl, hb, hgg, rest⟩
  · exact .inl hn
  · refine .inr ⟨g, cap, cur, rfl, hb, ?_, rest⟩
    rw [hf.block g (Array.getElem?_eq_some_iff.1 hgg).1 (hM g rfl)]
    exact hgg

theorem Rep.far' {w w' : World} {L : Lay} {F : FS} {M : Nat → Prop} (h : Rep w L F) (hf : Fr M w w') (hM : ∀ x, L.Has x → ¬ M x) : Rep w' L F :=
  ⟨(hf.block _ (Array.getElem?_eq_some_iff.1 h.head).1 (hM _ ⟨0, rfl⟩)).trans h.head, own_far h.up hf (fun x hx => hM x ⟨1, hx⟩), own_far h.size hf (fun x hx => hM x ⟨2, hx⟩), own_far h.joints hf (fun x hx => hM x ⟨3, hx⟩),
    fun i v l hi hl => own_far (h.each i v l hi hl) hf (fun x hx => hM x ⟨i + 4, by simp only [Lay.slot, hi]; exact hx⟩), h.inj⟩

theorem Cur.far {w0 w w' : World} {L : Lay} {n : Nat} {rt m : Nat → Nat} {es : List Ed} {M : Nat → Prop} (h : Cur w0 w L n rt m es) (hf : Fr M w w') (h0 : ∀ x, M x → w0.heap.size ≤ x) (hM : ∀ x, L.Has x → ¬ M x) : Cur w0 w' L n rt m es := by
  obtain ⟨F, hn, hr, ho, hg⟩ := h
  exact ⟨F, hn, hr.far' hf hM, ⟨ho.below.trans (hf.below h0 ho.below.size), ho.mine⟩, hg⟩

/-- The members of a's group; none, if a is no member. -/
def groupOf (n : Nat) (rt : Nat → Nat) (a : Int) : List Nat := if out n a = true then [] else members rt a.toNat n
def errOf (n : Nat) (a : Int) : Int := if out n a = true then 2 else 0
theorem groupOf_le (n : Nat) (rt : Nat → Nat) (a : Int) : (groupOf n rt a).length ≤ n := by
  unfold groupOf
  split
  · simp
  · exact members_le _ _ _

/-- What Path answers to ints. -/
def IsPath (n : Nat) (rt : Nat → Nat) (es : List Ed) (a b : Int) (l : List Sp) (e : Int) : Prop :=
  ((!([a, b].any (out n))) = false ∧ l = [] ∧ e = 2) ∨ (∃ x y : Nat, a = x ∧ b = y ∧ x < n ∧ y < n ∧ rt x ≠ rt y ∧ l = [] ∧ e = 11) ∨ (∃ x y : Nat, a = x ∧ b = y ∧ x < n ∧ y < n ∧ rt x = rt y ∧ Simple es x y l ∧ e = 0)

theorem IsPath.one {n : Nat} {rt : Nat → Nat} {es : List Ed} (hw : Wood n es rt) {a b : Int} {l l' : List Sp} {e e' : Int} (h : IsPath n rt es a b l e) (h' : IsPath n rt es a b l' e') : l = l' := by
  have hin : ∀ x y : Nat, x < n → y < n → ¬ (!([(x : Int), (y : Int)].any (out n))) = false := fun x y hx hy h => by rw [in_two hx hy] at h; cases h
  rcases h with ⟨h1, rfl, _⟩ | ⟨x, y, rfl, rfl, hx, hy, hr, rfl, _⟩ | ⟨x, y, rfl, rfl, hx, hy, hr, hs, _⟩
  · rcases h' with ⟨_, rfl, _⟩ | ⟨x, y, rfl, rfl, hx, hy, _, rfl, _⟩ | ⟨x, y, rfl, rfl, hx, hy, _, _, _⟩
    · rfl
    · rfl
    · exact absurd h1 (hin x y hx hy)
  · rcases h' with ⟨_, rfl, _⟩ | ⟨x', y', e1, e2, _, _, _, rfl, _⟩ | ⟨x', y', e1, e2, _, _, hr', _, _⟩
    · rfl
    · rfl
    · have h1 : x = x' := by omega
      have h2 : y = y' := by omega
      subst h1 h2; exact absurd hr' hr
  · rcases h' with ⟨h1, _, _⟩ | ⟨x', y', e1, e2, _, _, hr', _, _⟩ | ⟨x', y', e1, e2, _, _, _, hs', _⟩
    · exact absurd h1 (hin x y hx hy)
    · have h1 : x = x' := by omega
      have h2 : y = y' := by omega
      subst h1 h2; exact absurd hr hr'
    · have h1 : x = x' := by omega
      have h2 : y = y' := by omega
      subst h1 h2; exact hw.one hs.1 hs'.1 hs.2 hs'.2

theorem IsPath.small {n : Nat} {rt : Nat → Nat} {es : List Ed} (hw : Wood n es rt) {a b : Int} {l : List Sp} {e : Int} (h : IsPath n rt es a b l e) : l.length ≤ n := by
  rcases h with ⟨_, rfl, _⟩ | ⟨_, _, _, _, _, _, _, rfl, _⟩ | ⟨x, y, rfl, rfl, hx, hy, hr, hs, _⟩
  · simp
  · simp
  · exact Nat.le_of_lt (hs.small hw hx)

section
variable {w0 w : World} {L : Lay} {n : Nat} {rt m : Nat → Nat} {es : List Ed}

theorem Cur.wood (h : Cur w0 w L n rt m es) : Wood n es rt ∧ n ≤ 1048576 := by
  obtain ⟨F, rfl, _, _, hg⟩ := h
  exact ⟨hg.wood, hg.even.most⟩

theorem group_all (h : Cur w0 w L n rt m es) (a : Int) : Calls Try.prog 11 #[.pointer (some ⟨L.p, 0, none⟩), .int .i64 a] w fun e w' =>
    ∃ A c, e = .returned (.tuple #[.slice A (groupOf n rt a).length c, .int .i64 (errOf n a)]) ∧ w'.ownsRow w.heap.size 3 1 (.slice A (groupOf n rt a).length c) (groupOf n rt a).length (upCells (groupOf n rt a)) ∧ Cur w0 w' L n rt m es ∧ Moves w w' L L := by
  by_cases ha : out n a = true
  · have e1 : groupOf n rt a = [] := if_pos ha
    have e2 : errOf n a = 2 := if_pos ha
    rw [e1, e2]
    have h' := h
    obtain ⟨F, rfl, hr, ho, hg⟩ := h
    refine (group_out L F a w hr ha).mono ?_
    rintro e w' ⟨rfl, hb⟩
    exact ⟨none, 0, rfl, World.ownsRow_nil _ _ _ _, h'.later hb, Moves.still L hb⟩
  · have e2 : errOf n a = 0 := if_neg ha
    have e1 : groupOf n rt a = members rt a.toNat n := if_neg ha
    obtain ⟨x, rfl, hx⟩ := in_one ha
    rw [e1, e2]
    refine (cur_group h hx).mono ?_
    rintro e w' ⟨⟨g, c, rfl, hrow⟩, hc, hm⟩
    exact ⟨_, c, rfl, hrow, hc, hm⟩

theorem path_all (h : Cur w0 w L n rt m es) (hv : Vals es) (a b : Int) : Calls Try.prog 15 #[.pointer (some ⟨L.p, 0, none⟩), .int .i64 a, .int .i64 b] w fun e w' =>
    ∃ A c l e', e = .returned (.tuple #[.slice A l.length c, .int .i64 e']) ∧ IsPath n rt es a b l e' ∧ w'.ownsRow w.heap.size 42 4 (.slice A l.length c) l.length (stepCells l) ∧ Cur w0 w' L n rt m es ∧ Moves w w' L L := by
  by_cases hin : (!([a, b].any (out n))) = false
  · refine (cur_path_out h hin).mono ?_
    rintro e w' ⟨rfl, hc, hm⟩
    exact ⟨none, 0, [], 2, rfl, .inl ⟨hin, rfl, rfl⟩, World.ownsRow_nil _ _ _ _, hc, hm⟩
  · obtain ⟨x, y, rfl, rfl, hx, hy⟩ := not_out hin
    by_cases hr : rt x = rt y
    · refine (cur_path h hv hx hy hr).mono ?_
      rintro e w' ⟨A, c, l, rfl, hs, hrow, _, hc, hm⟩
      exact ⟨A, c, l, 0, rfl, .inr (.inr ⟨x, y, rfl, rfl, hx, hy, hr, hs, rfl⟩), hrow, hc, hm⟩
    · refine (cur_path_none h hx hy hr).mono ?_
      rintro e w' ⟨rfl, hc, hm⟩
      exact ⟨none, 0, [], 11, rfl, .inr (.inl ⟨x, y, rfl, rfl, hx, hy, hr, rfl, rfl⟩), World.ownsRow_nil _ _ _ _, hc, hm⟩

theorem add_all (h : Cur w0 w L n rt m es) : Calls Try.prog 18 #[.pointer (some ⟨L.p, 0, none⟩)] w fun e w' =>
    (∃ v1 v2, e = .returned (.tuple #[v1, v2])) ∧ ∃ L' n', L'.p = L.p ∧ Cur w0 w' L' n' rt m es ∧ Moves w w' L L' := by
  have h' := h
  obtain ⟨F, rfl, hr, ho, hg⟩ := h
  by_cases hn : F.up.length < 1048576
  · refine (add_any L F w hr hg.even hn).mono ?_
    rintro e w' ⟨rfl, L', hr', hm⟩
    exact ⟨⟨_, _, rfl⟩, L', _, hm.p, ⟨_, rfl, hr', ho.moves hm, hg.add hn⟩, hm⟩
  · refine (add_full L F w hr hn).mono ?_
    rintro e w' ⟨rfl, rfl⟩
    exact ⟨⟨_, _, rfl⟩, L, _, rfl, h', Moves.refl _ _⟩

theorem join_all (h : Cur w0 w L n rt m es) (a b : Int) {why : Value} (hw : why.oneCell' = true) : Calls Try.prog 14 #[.pointer (some ⟨L.p, 0, none⟩), .int .i64 a, .int .i64 b, why] w fun e w' =>
    (∃ v1 v2, e = .returned (.tuple #[v1, v2])) ∧ ∃ L' rt' m' es', L'.p = L.p ∧ Cur w0 w' L' n rt' m' es' ∧ Moves w w' L L' := by
  by_cases hin : (!([a, b].any (out n))) = false
  · have h' := h
    obtain ⟨F, rfl, hr, ho, hg⟩ := h
    refine (join_out L F a b why w hr hin).mono ?_
    rintro e w' ⟨rfl, hb⟩
    exact ⟨⟨_, _, rfl⟩, L, rt, m, es, rfl, h'.later hb, Moves.still L hb⟩
  · obtain ⟨x, y, rfl, rfl, hx, hy⟩ := not_out hin
    refine (cur_join h hx hy hw).mono ?_
    rintro e w' ⟨rfl, L', rt', m', es', hp, hc, hm, _⟩
    exact ⟨⟨_, _, rfl⟩, L', rt', m', es', hp, hc, hm⟩
end

/-- Two forests that lie apart. -/
structure Pair (w0 w : World) (L1 : Lay) (n1 : Nat) (rt1 m1 : Nat → Nat) (es1 : List Ed) (L2 : Lay) (n2 : Nat) (rt2 m2 : Nat → Nat) (es2 : List Ed) : Prop where
  c1 : Cur w0 w L1 n1 rt1 m1 es1
  c2 : Cur w0 w L2 n2 rt2 m2 es2
  dis : ∀ x, L1.Has x → ¬ L2.Has x

section
variable {w0 w w' : World} {L1 L1' L2 L2' : Lay} {n1 n1' n2 n2' : Nat} {rt1 rt1' m1 m1' rt2 rt2' m2 m2' : Nat → Nat} {es1 es1' es2 es2' : List Ed}

theorem Cur.mine (h : Cur w0 w L1 n1 rt1 m1 es1) : ∀ x, L1.Has x → w0.heap.size ≤ x := by
  obtain ⟨_, _, _, ho, _⟩ := h
  exact ho.mine
theorem Pair.call1 (h : Pair w0 w L1 n1 rt1 m1 es1 L2 n2 rt2 m2 es2) (hc : Cur w0 w' L1' n1' rt1' m1' es1') (hm : Moves w w' L1 L1') : Pair w0 w' L1' n1' rt1' m1' es1' L2 n2 rt2 m2 es2 :=
  ⟨hc, h.c2.far hm.fr h.c1.mine (fun x h2 h1 => h.dis x h1 h2), fun x h1 h2 => (hm.own x h1).elim (fun h3 => h.dis x h3 h2) fun h3 => by have := h.c2.lt x h2; omega⟩
theorem Pair.call2 (h : Pair w0 w L1 n1 rt1 m1 es1 L2 n2 rt2 m2 es2) (hc : Cur w0 w' L2' n2' rt2' m2' es2') (hm : Moves w w' L2 L2') : Pair w0 w' L1 n1 rt1 m1 es1 L2' n2' rt2' m2' es2' :=
  ⟨h.c1.far hm.fr h.c2.mine (fun x h1 h2 => h.dis x h1 h2), hc, fun x h1 h2 => (hm.own x h2).elim (fun h3 => h.dis x h1 h3) fun h3 => by have := h.c1.lt x h1; omega⟩
theorem Pair.far (h : Pair w0 w L1 n1 rt1 m1 es1 L2 n2 rt2 m2 es2) {M : Nat → Prop} (hf : Fr M w w') (h0 : ∀ x, M x → w0.heap.size ≤ x) (hM : ∀ x, M x → ¬ L1.Has x ∧ ¬ L2.Has x) : Pair w0 w' L1 n1 rt1 m1 es1 L2 n2 rt2 m2 es2 :=
  ⟨h.c1.far hf h0 (fun x h1 h2 => (hM x h2).1 h1), h.c2.far hf h0 (fun x h1 h2 => (hM x h2).2 h1), h.dis⟩
theorem Pair.later (h : Pair w0 w L1 n1 rt1 m1 es1 L2 n2 rt2 m2 es2) (hb : Below w.heap.size w w') : Pair w0 w' L1 n1 rt1 m1 es1 L2 n2 rt2 m2 es2 := ⟨h.c1.later hb, h.c2.later hb, h.dis⟩
theorem Pair.lt (h : Pair w0 w L1 n1 rt1 m1 es1 L2 n2 rt2 m2 es2) : ∀ x, L1.Has x ∨ L2.Has x → x < w.heap.size := fun x hx => hx.elim (h.c1.lt x) (h.c2.lt x)
end

end Go.Proofs.Ytkgmhkjiblanmaa
