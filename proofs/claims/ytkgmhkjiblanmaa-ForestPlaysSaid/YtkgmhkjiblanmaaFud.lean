/-
  The program's forest and the document's side by side: what each call answers, by one name for both.
-/
import Derived.Test.YtkgmhkjiblanmaaFuc
namespace Go.Proofs.Ytkgmhkjiblanmaa
open Go.RowKit

def inOut (n : Nat) (a b : Int) : Bool := !([a, b].any (out n))
def sameB (n : Nat) (rt : Nat → Nat) (a b : Int) : Bool := inOut n a b && (rt a.toNat == rt b.toNat)
def joinB (n : Nat) (rt : Nat → Nat) (a b : Int) : Bool := inOut n a b && !(rt a.toNat == rt b.toNat)
def twoE (n : Nat) (a b : Int) : Int := if inOut n a b = true then 0 else 2
def leastI (n : Nat) (rt : Nat → Nat) (a : Int) : Int := if out n a = true then 0 else least rt a.toNat n
def addI (n : Nat) : Int := if n < 1048576 then n else 0
def addE (n : Nat) : Int := if n < 1048576 then 0 else 10
def addN (n : Nat) : Nat := if n < 1048576 then n + 1 else n

theorem IsPath.err {n : Nat} {rt : Nat → Nat} {es : List Ed} {a b : Int} {l l' : List Sp} {e e' : Int} (h : IsPath n rt es a b l e) (h' : IsPath n rt es a b l' e') : e = e' := by
  have hin : ∀ x y : Nat, x < n → y < n → ¬ (!([(x : Int), (y : Int)].any (out n))) = false := fun x y hx hy h => by rw [in_two hx hy] at h; cases h
  rcases h with ⟨h1, _, rfl⟩ | ⟨x, y, rfl, rfl, hx, hy, hr, _, rfl⟩ | ⟨x, y, rfl, rfl, hx, hy, hr, _, rfl⟩
  · rcases h' with ⟨_, _, rfl⟩ | ⟨x, y, rfl, rfl, hx, hy, _, _, _⟩ | ⟨x, y, rfl, rfl, hx, hy, _, _, _⟩
    · rfl
    · exact absurd h1 (hin x y hx hy)
    · exact absurd h1 (hin x y hx hy)
  · rcases h' with ⟨h1, _, _⟩ | ⟨x', y', e1, e2, _, _, _, _, rfl⟩ | ⟨x', y', e1, e2, _, _, hr', _, _⟩
    · exact absurd h1 (hin x y hx hy)
    · rfl
    · have h1 : x = x' := by omega
      have h2 : y = y' := by omega
      subst h1 h2; exact absurd hr' hr
  · rcases h' with ⟨h1, _, _⟩ | ⟨x', y', e1, e2, _, _, hr', _, _⟩ | ⟨x', y', e1, e2, _, _, _, _, rfl⟩
    · exact absurd h1 (hin x y hx hy)
    · have h1 : x = x' := by omega
      have h2 : y = y' := by omega
      subst h1 h2; exact absurd hr hr'
    · rfl

section
variable {w0 w : World} {L : Lay} {n : Nat} {rt m : Nat → Nat} {es : List Ed}

theorem join_p (h : Cur w0 w L n rt m es) (a b : Int) {v : Value} (hv : v.oneCell' = true) : Calls Try.prog 14 #[.pointer (some ⟨L.p, 0, none⟩), .int .i64 a, .int .i64 b, v] w fun e w' =>
    e = .returned (.tuple #[.bool (joinB n rt a b), .int .i64 (twoE n a b)]) ∧ ∃ L' rt' m' es', L'.p = L.p ∧ Cur w0 w' L' n rt' m' es' ∧ Moves w w' L L' ∧
      ((joinB n rt a b = false ∧ es' = es ∧ rt' = rt) ∨ (joinB n rt a b = true ∧ ∃ x y : Nat, a = x ∧ b = y ∧ es' = es ++ [⟨x, y, v⟩])) := by
  by_cases hin : (!([a, b].any (out n))) = false
  · have h' := h
    have e1 : inOut n a b = false := hin
    have e2 : joinB n rt a b = false := by unfold joinB; rw [e1]; rfl
    have e3 : twoE n a b = 2 := by unfold twoE; rw [e1]; rfl
    obtain ⟨F, rfl, hr, ho, hg⟩ := h
    refine (join_out L F a b v w hr hin).mono ?_
    rintro e w' ⟨rfl, hb⟩
    exact ⟨by rw [e2, e3], L, rt, m, es, rfl, h'.later hb, Moves.still L hb, .inl ⟨e2, rfl, rfl⟩⟩
  · obtain ⟨x, y, rfl, rfl, hx, hy⟩ := not_out hin
    have e1 : inOut n (x : Int) y = true := in_two hx hy
    have e2 : joinB n rt (x : Int) y = !(rt x == rt y) := by unfold joinB; rw [e1]; rfl
    have e3 : twoE n (x : Int) y = 0 := by unfold twoE; rw [e1]; rfl
    refine (cur_join h hx hy hv).mono ?_
    rintro e w' ⟨rfl, L', rt', m', es', hp, hc, hm, hor⟩
    refine ⟨by rw [e2, e3], L', rt', m', es', hp, hc, hm, ?_⟩
    rcases hor with ⟨hr, hrt, hes⟩ | ⟨hr, hes, _⟩
    · exact .inl ⟨by rw [e2, hr]; simp, hes, hrt⟩
    · exact .inr ⟨by rw [e2]; simp [hr], x, y, rfl, rfl, hes⟩

theorem same_p (h : Cur w0 w L n rt m es) (a b : Int) : Calls Try.prog 13 #[.pointer (some ⟨L.p, 0, none⟩), .int .i64 a, .int .i64 b] w fun e w' =>
    e = .returned (.tuple #[.bool (sameB n rt a b), .int .i64 (twoE n a b)]) ∧ Cur w0 w' L n rt m es ∧ Moves w w' L L := by
  by_cases hin : (!([a, b].any (out n))) = false
  · have h' := h
    have e1 : inOut n a b = false := hin
    have e2 : sameB n rt a b = false := by unfold sameB; rw [e1]; rfl
    have e3 : twoE n a b = 2 := by unfold twoE; rw [e1]; rfl
    obtain ⟨F, rfl, hr, ho, hg⟩ := h
    refine (same_out L F a b w hr hin).mono ?_
    rintro e w' ⟨rfl, hb⟩
    exact ⟨by rw [e2, e3], h'.later hb, Moves.still L hb⟩
  · obtain ⟨x, y, rfl, rfl, hx, hy⟩ := not_out hin
    have e1 : inOut n (x : Int) y = true := in_two hx hy
    have e2 : sameB n rt (x : Int) y = (rt x == rt y) := by unfold sameB; rw [e1]; rfl
    have e3 : twoE n (x : Int) y = 0 := by unfold twoE; rw [e1]; rfl
    refine (cur_same h hx hy).mono ?_
    rintro e w' ⟨rfl, hc, hm⟩
    exact ⟨by rw [e2, e3], hc, hm⟩

theorem least_p (h : Cur w0 w L n rt m es) (a : Int) : Calls Try.prog 12 #[.pointer (some ⟨L.p, 0, none⟩), .int .i64 a] w fun e w' =>
    e = .returned (.tuple #[.int .i64 (leastI n rt a), .int .i64 (errOf n a)]) ∧ Cur w0 w' L n rt m es ∧ Moves w w' L L := by
  by_cases ha : out n a = true
  · have h' := h
    have e2 : leastI n rt a = 0 := if_pos ha
    have e3 : errOf n a = 2 := if_pos ha
    obtain ⟨F, rfl, hr, ho, hg⟩ := h
    refine (least_out L F a w hr ha).mono ?_
    rintro e w' ⟨rfl, hb⟩
    exact ⟨by rw [e2, e3], h'.later hb, Moves.still L hb⟩
  · have e2 : leastI n rt a = least rt a.toNat n := if_neg ha
    have e3 : errOf n a = 0 := if_neg ha
    obtain ⟨x, rfl, hx⟩ := in_one ha
    refine (cur_least h hx).mono ?_
    rintro e w' ⟨rfl, hc, hm⟩
    exact ⟨by rw [e2, e3]; rfl, hc, hm⟩

theorem add_p (h : Cur w0 w L n rt m es) : Calls Try.prog 18 #[.pointer (some ⟨L.p, 0, none⟩)] w fun e w' =>
    e = .returned (.tuple #[.int .i64 (addI n), .int .i64 (addE n)]) ∧ ∃ L', L'.p = L.p ∧ Cur w0 w' L' (addN n) rt m es ∧ Moves w w' L L' := by
  have h' := h
  obtain ⟨F, rfl, hr, ho, hg⟩ := h
  by_cases hn : F.up.length < 1048576
  · refine (add_any L F w hr hg.even hn).mono ?_
    rintro e w' ⟨rfl, L', hr', hm⟩
    exact ⟨by unfold addI addE; rw [if_pos hn, if_pos hn], L', hm.p, ⟨_, by unfold addN; rw [if_pos hn]; simp, hr', ho.moves hm, hg.add hn⟩, hm⟩
  · refine (add_full L F w hr hn).mono ?_
    rintro e w' ⟨rfl, rfl⟩
    exact ⟨by unfold addI addE; rw [if_neg hn, if_neg hn], L, rfl, by unfold addN; rw [if_neg hn]; exact h', Moves.refl _ _⟩
end

section
variable {w : World} {base pw n : Nat} {jv : Value} {js : List JN} {es : List Ed} {rt : Nat → Nat}

theorem join_r (h : Side w base pw n jv js es rt) (a b k : Int) : Calls Try.prog 31 #[.pointer (some ⟨pw, 0, none⟩), .int .i64 a, .int .i64 b, .int .i64 k] w fun e w' =>
    e = .returned (.tuple #[.bool (joinB n rt a b), .int .i64 (twoE n a b)]) ∧ ((joinB n rt a b = false ∧ Below w.heap.size w w') ∨ (joinB n rt a b = true ∧ ∀ x y : Nat, a = x → b = y → ∃ jv', Refs w' base pw n jv' (js ++ [⟨x, y, k⟩]) ∧ RMoves w w' pw jv jv')) := by
  by_cases hin : (!([a, b].any (out n))) = false
  · have e1 : inOut n a b = false := hin
    have e2 : joinB n rt a b = false := by unfold joinB; rw [e1]; rfl
    have e3 : twoE n a b = 2 := by unfold twoE; rw [e1]; rfl
    refine (rjoin_out h k hin).mono ?_
    rintro e w' ⟨rfl, rfl⟩
    exact ⟨by rw [e2, e3], .inl ⟨e2, Below.refl _ _⟩⟩
  · obtain ⟨x, y, rfl, rfl, hx, hy⟩ := not_out hin
    have e1 : inOut n (x : Int) y = true := in_two hx hy
    have e2 : joinB n rt (x : Int) y = !(rt x == rt y) := by unfold joinB; rw [e1]; rfl
    have e3 : twoE n (x : Int) y = 0 := by unfold twoE; rw [e1]; rfl
    refine (rjoin_in h k hx hy).mono ?_
    rintro e w' ⟨rfl, hor⟩
    refine ⟨by rw [e2, e3], ?_⟩
    rcases hor with ⟨hr, hb⟩ | ⟨hr, jv', h1, h2⟩
    · exact .inl ⟨by rw [e2, hr]; simp, hb⟩
    · refine .inr ⟨by rw [e2]; simp [hr], fun x' y' hx' hy' => ?_⟩
      have h1' : x = x' := by omega
      have h2' : y = y' := by omega
      subst h1' h2'
      exact ⟨jv', h1, h2⟩

theorem same_r (h : Side w base pw n jv js es rt) (a b : Int) : Calls Try.prog 32 #[.pointer (some ⟨pw, 0, none⟩), .int .i64 a, .int .i64 b] w fun e w' =>
    e = .returned (.tuple #[.bool (sameB n rt a b), .int .i64 (twoE n a b)]) ∧ Below w.heap.size w w' := by
  by_cases hin : (!([a, b].any (out n))) = false
  · have e1 : inOut n a b = false := hin
    have e2 : sameB n rt a b = false := by unfold sameB; rw [e1]; rfl
    have e3 : twoE n a b = 2 := by unfold twoE; rw [e1]; rfl
    refine (rsame_out h hin).mono ?_
    rintro e w' ⟨rfl, rfl⟩
    exact ⟨by rw [e2, e3], Below.refl _ _⟩
  · obtain ⟨x, y, rfl, rfl, hx, hy⟩ := not_out hin
    have e1 : inOut n (x : Int) y = true := in_two hx hy
    have e2 : sameB n rt (x : Int) y = (rt x == rt y) := by unfold sameB; rw [e1]; rfl
    have e3 : twoE n (x : Int) y = 0 := by unfold twoE; rw [e1]; rfl
    refine (rsame_in h hx hy).mono ?_
    rintro e w' ⟨rfl, hb⟩
    exact ⟨by rw [e2, e3], hb⟩

theorem least_r (h : Side w base pw n jv js es rt) (a : Int) : Calls Try.prog 33 #[.pointer (some ⟨pw, 0, none⟩), .int .i64 a] w fun e w' =>
    e = .returned (.tuple #[.int .i64 (leastI n rt a), .int .i64 (errOf n a)]) ∧ Below w.heap.size w w' := by
  by_cases ha : out n a = true
  · have e2 : leastI n rt a = 0 := if_pos ha
    have e3 : errOf n a = 2 := if_pos ha
    refine (rleast_out h ha).mono ?_
    rintro e w' ⟨rfl, rfl⟩
    exact ⟨by rw [e2, e3], Below.refl _ _⟩
  · have e2 : leastI n rt a = least rt a.toNat n := if_neg ha
    have e3 : errOf n a = 0 := if_neg ha
    obtain ⟨x, rfl, hx⟩ := in_one ha
    refine (rleast_in h hx).mono ?_
    rintro e w' ⟨rfl, hb⟩
    exact ⟨by rw [e2, e3]; rfl, hb⟩

theorem group_r (h : Side w base pw n jv js es rt) (a : Int) : Calls Try.prog 34 #[.pointer (some ⟨pw, 0, none⟩), .int .i64 a] w fun e w' =>
    ∃ v, e = .returned (.tuple #[v, .int .i64 (errOf n a)]) ∧ w'.ownsRow w.heap.size 3 1 v (groupOf n rt a).length (upCells (groupOf n rt a)) ∧ Below w.heap.size w w' := by
  by_cases ha : out n a = true
  · have e1 : groupOf n rt a = [] := if_pos ha
    have e2 : errOf n a = 2 := if_pos ha
    rw [e1, e2]
    refine (rgroup_out h ha).mono ?_
    rintro e w' ⟨rfl, rfl⟩
    exact ⟨_, rfl, World.ownsRow_nil _ _ _ _, Below.refl _ _⟩
  · have e2 : errOf n a = 0 := if_neg ha
    have e1 : groupOf n rt a = members rt a.toNat n := if_neg ha
    obtain ⟨x, rfl, hx⟩ := in_one ha
    rw [e1, e2]
    exact (rgroup_in h hx)

theorem path_r (h : Side w base pw n jv js es rt) (a b : Int) : Calls Try.prog 35 #[.pointer (some ⟨pw, 0, none⟩), .int .i64 a, .int .i64 b] w fun e w' =>
    ∃ A c l e', e = .returned (.tuple #[.slice A l.length c, .int .i64 e']) ∧ IsPath n rt es a b (l.map Prod.fst) e' ∧ (∀ p ∈ l, Ns.good es js p) ∧ w'.ownsRow w.heap.size 114 4 (.slice A l.length c) l.length (numCells l) ∧ Below w.heap.size w w' := by
  by_cases hin : (!([a, b].any (out n))) = false
  · refine (rpath_out h hin).mono ?_
    rintro e w' ⟨rfl, rfl⟩
    exact ⟨none, 0, [], 2, rfl, .inl ⟨hin, rfl, rfl⟩, fun p hp => (by cases hp), World.ownsRow_nil _ _ _ _, Below.refl _ _⟩
  · obtain ⟨x, y, rfl, rfl, hx, hy⟩ := not_out hin
    by_cases hr : rt x = rt y
    · refine (rpath_in h hx hy hr).mono ?_
      rintro e w' ⟨A, c, l, rfl, hs, hg, hrow, hb⟩
      exact ⟨A, c, l, 0, rfl, .inr (.inr ⟨x, y, rfl, rfl, hx, hy, hr, hs, rfl⟩), hg, hrow, hb⟩
    · refine (rpath_none h hx hy hr).mono ?_
      rintro e w' ⟨rfl, hb⟩
      exact ⟨none, 0, [], 11, rfl, .inr (.inl ⟨x, y, rfl, rfl, hx, hy, hr, rfl, rfl⟩), fun p hp => (by cases hp), World.ownsRow_nil _ _ _ _, hb⟩

theorem add_r (h : Side w base pw n jv js es rt) : Calls Try.prog 37 #[.pointer (some ⟨pw, 0, none⟩)] w fun e w' =>
    e = .returned (.tuple #[.int .i64 (addI n), .int .i64 (addE n)]) ∧ Refs w' base pw (addN n) jv js ∧ RMoves w w' pw jv jv := by
  by_cases hn : n < 1048576
  · refine (radd_any h hn).mono ?_
    rintro e w' ⟨rfl, hr, hm⟩
    exact ⟨by unfold addI addE; rw [if_pos hn, if_pos hn], by unfold addN; rw [if_pos hn]; exact hr, hm⟩
  · refine (radd_full h hn).mono ?_
    rintro e w' ⟨rfl, rfl⟩
    exact ⟨by unfold addI addE; rw [if_neg hn, if_neg hn], by unfold addN; rw [if_neg hn]; exact h.refs, RMoves.still _ _ (Below.refl _ _)⟩
end

/-- Each reason in the program's forest is that of the document's number; the memory that tells it is of neither forest. -/
def ToldAll (w0 w : World) (L : Lay) (pw : Nat) (jv : Value) (es : List Ed) (js : List JN) : Prop :=
  ∀ (i : Nat) (e : Ed) (j : JN), es[i]? = some e → js[i]? = some j → ∃ b, Told w b e.why j.why ∧ w0.heap.size ≤ b ∧ b < w.heap.size ∧ ¬ L.Has b ∧ ¬ RHas pw jv b

/-- The program's forest (n1, rt1, es1) beside the document's (n, es, js). -/
structure Half (w0 w : World) (L : Lay) (n1 : Nat) (rt1 m1 : Nat → Nat) (es1 : List Ed) (n : Nat) (rt : Nat → Nat) (es : List Ed) (pw : Nat) (jv : Value) (js : List JN) : Prop where
  cur : Cur w0 w L n1 rt1 m1 es1
  side : Side w w0.heap.size pw n jv js es rt
  told : ToldAll w0 w L pw jv es js
  dis : ∀ x, L.Has x → ¬ RHas pw jv x

theorem Refs.far {w w' : World} {base pw n : Nat} {jv : Value} {js : List JN} {M : Nat → Prop} (h : Refs w base pw n jv js) (hf : Fr M w w') (hM : ∀ x, RHas pw jv x → ¬ M x) : Refs w' base pw n jv js :=
  ⟨(hf.block pw h.lt (hM _ (.inl rfl))).trans h.head, own_far h.row hf (fun x hx => hM x (.inr hx)), h.low⟩
theorem Refs.has_lt {w : World} {base pw n : Nat} {jv : Value} {js : List JN} (h : Refs w base pw n jv js) : ∀ x, RHas pw jv x → base ≤ x ∧ x < w.heap.size := by
  rintro x (rfl | hx)
  · exact ⟨h.low, h.lt⟩
  · exact h.row.lt x hx

section
variable {w0 w w' : World} {L L' : Lay} {n1 n2 n n' : Nat} {rt1 m1 rt2 m2 rt rt' : Nat → Nat} {es1 es2 es es' : List Ed} {pw : Nat} {jv jv' : Value} {js js' : List JN}

theorem Half.prog (h : Half w0 w L n1 rt1 m1 es1 n rt es pw jv js) (hc : Cur w0 w' L' n2 rt2 m2 es2) (hm : Moves w w' L L') : Half w0 w' L' n2 rt2 m2 es2 n rt es pw jv js := by
  have hnew : ∀ x, x < w.heap.size → ¬ L.Has x → ¬ L'.Has x := fun x hx h1 h2 => (hm.own x h2).elim h1 (fun h3 => by omega)
  refine ⟨hc, ⟨h.side.refs.far hm.fr (fun x hx hL => h.dis x hL hx), h.side.mat, h.side.wood, h.side.most⟩, fun i e j he hj => ?_, fun x hL hx => ?_⟩
  · obtain ⟨b, ht, hb0, hb, hbL, hbR⟩ := h.told i e j he hj
    exact ⟨b, ht.far (hm.fr.block b hb hbL), hb0, Nat.lt_of_lt_of_le hb hm.fr.size, hnew b hb hbL, hbR⟩
  · rcases hm.own x hL with h1 | h1
    · exact h.dis x h1 hx
    · have := (h.side.refs.has_lt x hx).2; omega

theorem Half.ref (h : Half w0 w L n1 rt1 m1 es1 n rt es pw jv js) (hr : Refs w' w0.heap.size pw n' jv' js') (hm : RMoves w w' pw jv jv') (hmat : Match es' js') (hw : Wood n' es' rt') (hn : n' ≤ 1048576)
    (ht : ∀ (i : Nat) (e : Ed) (j : JN), es'[i]? = some e → js'[i]? = some j → ∃ b, Told w b e.why j.why ∧ w0.heap.size ≤ b ∧ b < w.heap.size ∧ ¬ L.Has b ∧ ¬ RHas pw jv b) : Half w0 w' L n1 rt1 m1 es1 n' rt' es' pw jv' js' := by
  refine ⟨h.cur.far hm.fr (fun x hx => (h.side.refs.has_lt x hx).1) (fun x hL hx => h.dis x hL hx), ⟨hr, hmat, hw, hn⟩, fun i e j he hj => ?_, fun x hL hx => ?_⟩
  · obtain ⟨b, htl, hb0, hb, hbL, hbR⟩ := ht i e j he hj
    exact ⟨b, htl.far (hm.fr.block b hb hbR), hb0, Nat.lt_of_lt_of_le hb hm.fr.size, hbL, fun hx => (hm.own b hx).elim hbR (fun h3 => by omega)⟩
  · rcases hm.own x hx with h1 | h1
    · exact h.dis x hL h1
    · have := h.cur.lt x hL; omega

theorem Half.later (h : Half w0 w L n1 rt1 m1 es1 n rt es pw jv js) (hb : Below w.heap.size w w') : Half w0 w' L n1 rt1 m1 es1 n rt es pw jv js :=
  h.prog (h.cur.later hb) (Moves.still L hb)

theorem Half.vals (h : Half w0 w L n rt m1 es n rt es pw jv js) : Vals es := by
  intro e he
  obtain ⟨i, hi⟩ := List.getElem?_of_mem he
  have hl : i < js.length := by rw [← h.side.mat.len]; exact (List.getElem?_eq_some_iff.1 hi).1
  obtain ⟨b, ht, _⟩ := h.told i e _ hi (List.getElem?_eq_getElem hl)
  exact ht.one

theorem Half.good (h : Half w0 w L n rt m1 es n rt es pw jv js) {l : List Ns} (hg : ∀ p ∈ l, Ns.good es js p) : ∀ p ∈ l, ∃ b, Told w b p.1.why p.2 ∧ b < w.heap.size := by
  intro p hp
  obtain ⟨i, e, j, he, hj, h1, h2⟩ := hg p hp
  obtain ⟨b, ht, _, hb, _⟩ := h.told i e j he hj
  exact ⟨b, by rw [h1, h2]; exact ht, hb⟩

/-- Behind a Join on both. -/
theorem Half.join {w2 w3 w4 : World} {L3 : Lay} {rt3 m3 : Nat → Nat} {es3 : List Ed} {bt : Nat} {v : Value} {a b k : Int} (h : Half w0 w L n rt m1 es n rt es pw jv js) (hb2 : Below w.heap.size w w2) (ht : Told w2 bt v k) (h1 : w.heap.size ≤ bt) (h2 : bt < w2.heap.size)
    (hc3 : Cur w0 w3 L3 n rt3 m3 es3) (hm3 : Moves w2 w3 L L3) (h3 : (joinB n rt a b = false ∧ es3 = es ∧ rt3 = rt) ∨ (joinB n rt a b = true ∧ ∃ x y : Nat, a = x ∧ b = y ∧ es3 = es ++ [⟨x, y, v⟩]))
    (h4 : (joinB n rt a b = false ∧ Below w3.heap.size w3 w4) ∨ (joinB n rt a b = true ∧ ∀ x y : Nat, a = x → b = y → ∃ jv', Refs w4 w0.heap.size pw n jv' (js ++ [⟨x, y, k⟩]) ∧ RMoves w3 w4 pw jv jv')) :
    ∃ jv' js', Half w0 w4 L3 n rt3 m3 es3 n rt3 es3 pw jv' js' := by
  have hA := (h.later hb2).prog hc3 hm3
  rcases h3 with ⟨e1, rfl, rfl⟩ | ⟨e1, x, y, rfl, rfl, rfl⟩
  · rcases h4 with ⟨_, hb⟩ | ⟨e2, _⟩
    · exact ⟨jv, js, hA.later hb⟩
    · rw [e1] at e2; cases e2
  · rcases h4 with ⟨e2, _⟩ | ⟨_, hall⟩
    · rw [e1] at e2; cases e2
    · obtain ⟨jv', hr, hm⟩ := hall x y rfl rfl
      refine ⟨jv', _, hA.ref hr hm ⟨by simp [h.side.mat.len], fun i e j he hj => ?_⟩ hc3.wood.1 hc3.wood.2 (fun i e j he hj => ?_)⟩
      · rcases Nat.lt_or_ge i es.length with hi | hi
        · rw [List.getElem?_append_left hi] at he
          rw [List.getElem?_append_left (by rw [← h.side.mat.len]; exact hi)] at hj
          exact h.side.mat.at_ i e j he hj
        · have hi2 : i = es.length := by
            have := (List.getElem?_eq_some_iff.1 he).1
            simp at this; omega
          subst hi2
          rw [List.getElem?_append_right (Nat.le_refl _)] at he
          rw [h.side.mat.len, List.getElem?_append_right (Nat.le_refl _)] at hj
          simp at he hj
          subst he hj
          exact ⟨rfl, rfl⟩
      · rcases Nat.lt_or_ge i es.length with hi | hi
        · rw [List.getElem?_append_left hi] at he
          rw [List.getElem?_append_left (by rw [← h.side.mat.len]; exact hi)] at hj
          exact hA.told i e j he hj
        · have hi2 : i = es.length := by
            have := (List.getElem?_eq_some_iff.1 he).1
            simp at this; omega
          subst hi2
          rw [List.getElem?_append_right (Nat.le_refl _)] at he
          rw [h.side.mat.len, List.getElem?_append_right (Nat.le_refl _)] at hj
          simp at he hj
          subst he hj
          have hbL : ¬ L.Has bt := fun hL => by have := h.cur.lt bt hL; omega
          refine ⟨bt, ht.far (hm3.fr.block bt h2 hbL), Nat.le_trans ?_ h1, Nat.lt_of_lt_of_le h2 hm3.fr.size, fun hL => (hm3.own bt hL).elim hbL (fun h3 => by omega), fun hR => by have := (h.side.refs.has_lt bt hR).2; omega⟩
          exact (cur_below h.cur).size

/-- Behind an Add on both. -/
theorem Half.add {w3 w4 : World} {L3 : Lay} (h : Half w0 w L n rt m1 es n rt es pw jv js) (hc3 : Cur w0 w3 L3 (addN n) rt m1 es) (hm3 : Moves w w3 L L3) (hr : Refs w4 w0.heap.size pw (addN n) jv js) (hm : RMoves w3 w4 pw jv jv) :
    Half w0 w4 L3 (addN n) rt m1 es (addN n) rt es pw jv js := by
  have hA := h.prog hc3 hm3
  exact hA.ref hr hm h.side.mat hc3.wood.1 hc3.wood.2 hA.told
end

end Go.Proofs.Ytkgmhkjiblanmaa
