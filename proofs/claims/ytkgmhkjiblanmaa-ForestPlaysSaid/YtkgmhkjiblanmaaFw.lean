/-
  Plain laws on ways: the joints by which one comes from a member to another; in a wood there is just one way without a member twice.
-/
import Derived.Test.YtkgmhkjiblanmaaFi
namespace Go.Proofs.Ytkgmhkjiblanmaa
open Go.RowKit

/-- A step of a way. -/
structure Sp where
  fr : Nat
  dst : Nat
  why : Value
  back : Bool

def Sp.on (s : Sp) (e : Ed) : Prop := (s.back = false ∧ e = ⟨s.fr, s.dst, s.why⟩) ∨ (s.back = true ∧ e = ⟨s.dst, s.fr, s.why⟩)
def Onto (es : List Ed) (s : Sp) : Prop := ∃ e, e ∈ es ∧ s.on e

/-- A way: steps, each on where the one before it ended. -/
inductive Way (es : List Ed) : Nat → Nat → List Sp → Prop
  | nil (a : Nat) : Way es a a []
  | cons {a b : Nat} {l : List Sp} (s : Sp) : s.fr = a → Onto es s → Way es s.dst b l → Way es a b (s :: l)

def nodes (a : Nat) (l : List Sp) : List Nat := a :: l.map Sp.dst

theorem nodes_append (a : Nat) (l1 l2 : List Sp) (s : Sp) : nodes a (l1 ++ s :: l2) = nodes a l1 ++ nodes s.dst l2 := by simp [nodes]

theorem onto_snoc {es : List Ed} {e : Ed} {s : Sp} : Onto (es ++ [e]) s ↔ Onto es s ∨ s.on e := by
  unfold Onto
  constructor
  · rintro ⟨e', he, ho⟩
    rcases List.mem_append.1 he with h | h
    · exact .inl ⟨e', h, ho⟩
    · rw [List.mem_singleton] at h; subst h; exact .inr ho
  · rintro (⟨e', he, ho⟩ | ho)
    · exact ⟨e', List.mem_append_left _ he, ho⟩
    · exact ⟨e, by simp, ho⟩

theorem Wood.each {n : Nat} {es : List Ed} {rt : Nat → Nat} (h : Wood n es rt) : ∀ e ∈ es, e.a < n ∧ e.b < n ∧ e.a ≠ e.b ∧ rt e.a = rt e.b := by
  induction h with
  | nil => intro e he; cases he
  | @snoc es rt a b x y why _ ha hb hne hor ih =>
    intro e he
    rcases List.mem_append.1 he with h | h
    · obtain ⟨h1, h2, h3, h4⟩ := ih e h
      exact ⟨h1, h2, h3, by unfold join; rw [h4]⟩
    · rw [List.mem_singleton] at h; subst h
      refine ⟨ha, hb, fun e => hne (by dsimp only at e; rw [e]), ?_⟩
      unfold join
      rcases hor with ⟨rfl, rfl⟩ | ⟨rfl, rfl⟩
      · rw [if_neg hne, if_pos rfl]
      · rw [if_pos rfl, if_neg (fun e => hne e.symm)]

theorem Wood.on {n : Nat} {es : List Ed} {rt : Nat → Nat} (h : Wood n es rt) {s : Sp} (ho : Onto es s) : s.fr < n ∧ s.dst < n ∧ s.fr ≠ s.dst ∧ rt s.fr = rt s.dst := by
  obtain ⟨e, he, ⟨_, rfl⟩ | ⟨_, rfl⟩⟩ := ho
  · exact h.each _ he
  · obtain ⟨h1, h2, h3, h4⟩ := h.each _ he
    exact ⟨h2, h1, fun e => h3 e.symm, h4.symm⟩

theorem Way.rt_eq {n : Nat} {es : List Ed} {rt : Nat → Nat} (hw : Wood n es rt) {a b : Nat} {l : List Sp} (h : Way es a b l) : rt a = rt b := by
  induction h with
  | nil a => rfl
  | cons s hs ho _ ih => rw [← hs, (hw.on ho).2.2.2, ih]

theorem Way.append {es : List Ed} {a b c : Nat} {l l' : List Sp} (h : Way es a b l) (h' : Way es b c l') : Way es a c (l ++ l') := by
  induction h with
  | nil a => exact h'
  | cons s hs ho _ ih => exact .cons s hs ho (ih h')

theorem Way.lt {n : Nat} {es : List Ed} {rt : Nat → Nat} (hw : Wood n es rt) {a b : Nat} {l : List Sp} (h : Way es a b l) : ∀ s ∈ l, s.fr < n ∧ s.dst < n := by
  induction h with
  | nil a => intro s hs; cases hs
  | cons s hs ho _ ih =>
    intro t ht
    rcases List.mem_cons.1 ht with rfl | ht
    · exact ⟨(hw.on ho).1, (hw.on ho).2.1⟩
    · exact ih t ht

/-- Where a way goes over one joint more. -/
theorem Way.split {n : Nat} {es : List Ed} {rt : Nat → Nat} (hw : Wood n es rt) {p q : Nat} {y : Value} (hne : rt p ≠ rt q) {a b : Nat} {l : List Sp} (h : Way (es ++ [⟨p, q, y⟩]) a b l) :
    (nodes a l).Nodup → Way es a b l ∨ (∃ l1 l2, l = l1 ++ ⟨p, q, y, false⟩ :: l2 ∧ Way es a p l1 ∧ Way es q b l2) ∨ (∃ l1 l2, l = l1 ++ ⟨q, p, y, true⟩ :: l2 ∧ Way es a q l1 ∧ Way es p b l2) := by
  induction h with
  | nil a => exact fun _ => .inl (.nil a)
  | @cons a b l s hs ho _ ih =>
    intro hn
    have hn' : (nodes s.dst l).Nodup := (List.nodup_cons.1 hn).2
    have ha : a ∉ nodes s.dst l := (List.nodup_cons.1 hn).1
    rcases onto_snoc.1 ho with ho | ho
    · rcases ih hn' with h | ⟨l1, l2, rfl, h1, h2⟩ | ⟨l1, l2, rfl, h1, h2⟩
      · exact .inl (.cons s hs ho h)
      · exact .inr (.inl ⟨s :: l1, l2, rfl, .cons s hs ho h1, h2⟩)
      · exact .inr (.inr ⟨s :: l1, l2, rfl, .cons s hs ho h1, h2⟩)
    · obtain ⟨fr, dst, why, back⟩ := s
      dsimp only at hs ha hn' ih
      subst hs
      rcases ho with ⟨hb, he⟩ | ⟨hb, he⟩
      · simp only [Ed.mk.injEq] at he
        dsimp only at hb
        obtain ⟨rfl, rfl, rfl⟩ := he
        subst hb
        rcases ih hn' with h | ⟨l1, l2, rfl, h1, h2⟩ | ⟨l1, l2, rfl, h1, h2⟩
        · exact .inr (.inl ⟨[], l, rfl, .nil _, h⟩)
        · exact absurd (h1.rt_eq hw).symm hne
        · exact absurd (by simp [nodes]) ha
      · simp only [Ed.mk.injEq] at he
        dsimp only at hb
        obtain ⟨rfl, rfl, rfl⟩ := he
        subst hb
        rcases ih hn' with h | ⟨l1, l2, rfl, h1, h2⟩ | ⟨l1, l2, rfl, h1, h2⟩
        · exact .inr (.inr ⟨[], l, rfl, .nil _, h⟩)
        · exact absurd (by simp [nodes]) ha
        · exact absurd (h1.rt_eq hw) hne

/-- There is just one way without a member twice. -/
theorem Wood.one {n : Nat} {es : List Ed} {rt : Nat → Nat} (h : Wood n es rt) : ∀ {a b : Nat} {l l' : List Sp}, Way es a b l → Way es a b l' → (nodes a l).Nodup → (nodes a l').Nodup → l = l' := by
  induction h with
  | nil =>
    intro a b l l' h h' _ _
    cases h with
    | nil => cases h' with
      | nil => rfl
      | cons s hs ho _ => obtain ⟨e, he, _⟩ := ho; cases he
    | cons s hs ho _ => obtain ⟨e, he, _⟩ := ho; cases he
  | @snoc es rt p q x y why hw ha hb hne hor ih =>
    intro a b l l' h h' hn hn'
    rcases h.split hw hne hn with h1 | ⟨l1, l2, rfl, h1, h2⟩ | ⟨l1, l2, rfl, h1, h2⟩
    all_goals rcases h'.split hw hne hn' with k1 | ⟨m1, m2, rfl, k1, k2⟩ | ⟨m1, m2, rfl, k1, k2⟩
    · exact ih h1 k1 hn hn'
    · exact absurd ((k1.rt_eq hw).symm.trans ((h1.rt_eq hw).trans (k2.rt_eq hw).symm)) hne
    · exact absurd ((k2.rt_eq hw).trans ((h1.rt_eq hw).symm.trans (k1.rt_eq hw))) hne
    · exact absurd ((h1.rt_eq hw).symm.trans ((k1.rt_eq hw).trans (h2.rt_eq hw).symm)) hne
    · rw [nodes_append] at hn hn'
      obtain ⟨n1, n2, _⟩ := List.nodup_append.1 hn
      obtain ⟨m1', m2', _⟩ := List.nodup_append.1 hn'
      rw [ih h1 k1 n1 m1', ih h2 k2 n2 m2']
    · exact absurd ((h1.rt_eq hw).symm.trans (k1.rt_eq hw)) hne
    · exact absurd ((h2.rt_eq hw).trans ((k1.rt_eq hw).symm.trans (h1.rt_eq hw))) hne
    · exact absurd ((k1.rt_eq hw).symm.trans (h1.rt_eq hw)) hne
    · rw [nodes_append] at hn hn'
      obtain ⟨n1, n2, _⟩ := List.nodup_append.1 hn
      obtain ⟨m1', m2', _⟩ := List.nodup_append.1 hn'
      rw [ih h1 k1 n1 m1', ih h2 k2 n2 m2']

/-- Whatever the joints lead on from is a whole group. -/
theorem Wood.closed {n : Nat} {es : List Ed} {rt : Nat → Nat} (h : Wood n es rt) (S : Nat → Prop) : (∀ s, Onto es s → S s.fr → S s.dst) → ∀ a b, rt a = rt b → S a → S b := by
  induction h with
  | nil =>
    intro _ a b hab ha
    have hab : a = b := hab
    subst hab
    exact ha
  | @snoc es rt p q x y why hw _ _ hne hor ih =>
    intro hc a b hab ha
    have ih' := ih fun s ho => hc s (onto_snoc.2 (.inl ho))
    have h1 : S p → S q := hc ⟨p, q, why, false⟩ (onto_snoc.2 (.inr (.inl ⟨rfl, rfl⟩)))
    have h2 : S q → S p := hc ⟨q, p, why, true⟩ (onto_snoc.2 (.inr (.inr ⟨rfl, rfl⟩)))
    unfold join at hab
    by_cases e1 : rt a = y
    · by_cases e2 : rt b = y
      · exact ih' a b (e1.trans e2.symm) ha
      · rw [if_pos e1, if_neg e2] at hab
        rcases hor with ⟨rfl, rfl⟩ | ⟨rfl, rfl⟩
        · exact ih' p b hab (h2 (ih' a q e1 ha))
        · exact ih' q b hab (h1 (ih' a p e1 ha))
    · by_cases e2 : rt b = y
      · rw [if_neg e1, if_pos e2] at hab
        rcases hor with ⟨rfl, rfl⟩ | ⟨rfl, rfl⟩
        · exact ih' q b e2.symm (h1 (ih' a p hab ha))
        · exact ih' p b e2.symm (h2 (ih' a q hab ha))
      · rw [if_neg e1, if_neg e2] at hab
        exact ih' a b hab ha

/-- Two colours: each joint leads from one to the other. -/
theorem Wood.colour {n : Nat} {es : List Ed} {rt : Nat → Nat} (h : Wood n es rt) : ∃ col : Nat → Bool, ∀ e ∈ es, col e.b = !col e.a := by
  induction h with
  | nil => exact ⟨fun _ => false, fun e he => by cases he⟩
  | @snoc es rt p q x y why hw _ _ hne hor ih =>
    obtain ⟨col, hcol⟩ := ih
    by_cases hc : col q = !col p
    · refine ⟨col, fun e he => ?_⟩
      rcases List.mem_append.1 he with h | h
      · exact hcol e h
      · rw [List.mem_singleton] at h; subst h; exact hc
    · refine ⟨fun i => if rt i = rt q then !col i else col i, fun e he => ?_⟩
      rcases List.mem_append.1 he with h | h
      · have h1 := hcol e h
        have h2 := (hw.each e h).2.2.2
        dsimp only
        rw [h2]
        by_cases h3 : rt e.b = rt q
        · rw [if_pos h3, if_pos h3, h1]
        · rw [if_neg h3, if_neg h3, h1]
      · rw [List.mem_singleton] at h; subst h
        dsimp only
        rw [if_pos rfl, if_neg hne]
        cases h1 : col q <;> cases h2 : col p <;> simp_all

theorem Way.colour {es : List Ed} {col : Nat → Bool} (hc : ∀ e ∈ es, col e.b = !col e.a) {a b : Nat} {l : List Sp} (h : Way es a b l) : col b = (col a ^^ (l.length % 2 == 1)) := by
  induction h with
  | nil a => simp
  | @cons a b l s hs ho _ ih =>
    have h1 : col s.dst = !col s.fr := by
      obtain ⟨e, he, ⟨_, rfl⟩ | ⟨_, rfl⟩⟩ := ho
      · exact hc _ he
      · have := hc _ he; dsimp only at this; rw [this, Bool.not_not]
    rw [ih, h1, hs, List.length_cons]
    have h2 : ((l.length + 1) % 2 == 1) = !(l.length % 2 == 1) := by
      rcases Nat.mod_two_eq_zero_or_one l.length with h | h
      · have : (l.length + 1) % 2 = 1 := by omega
        rw [h, this]; rfl
      · have : (l.length + 1) % 2 = 0 := by omega
        rw [h, this]; rfl
    rw [h2]
    cases col a <;> cases (l.length % 2 == 1) <;> rfl

theorem Way.tail {es : List Ed} {b x : Nat} {l : List Sp} : ∀ {c : Nat}, Way es c b l → (nodes c l).Nodup → x ∈ nodes c l → ∃ l', Way es x b l' ∧ (nodes x l').Nodup ∧ l'.length ≤ l.length := by
  induction l with
  | nil =>
    intro c h hn hx
    simp [nodes] at hx
    subst hx
    exact ⟨[], h, hn, Nat.le_refl _⟩
  | cons s l ih =>
    intro c h hn hx
    cases h with
    | cons _ hs ho h' =>
      rcases List.mem_cons.1 hx with rfl | hx
      · exact ⟨_, .cons s hs ho h', hn, Nat.le_refl _⟩
      · obtain ⟨l', h1, h2, h3⟩ := ih h' (List.nodup_cons.1 hn).2 hx
        exact ⟨l', h1, h2, by rw [List.length_cons]; omega⟩

/-- Rings left out. -/
theorem Way.short {es : List Ed} {a b : Nat} {l : List Sp} (h : Way es a b l) : ∃ l', Way es a b l' ∧ (nodes a l').Nodup ∧ l'.length ≤ l.length := by
  induction h with
  | nil a => exact ⟨[], .nil a, by simp [nodes], Nat.le_refl _⟩
  | @cons a b l s hs ho _ ih =>
    obtain ⟨l', h1, h2, h3⟩ := ih
    by_cases hx : a ∈ nodes s.dst l'
    · obtain ⟨l2, k1, k2, k3⟩ := h1.tail h2 hx
      exact ⟨l2, k1, k2, by rw [List.length_cons]; omega⟩
    · exact ⟨s :: l', .cons s hs ho h1, List.nodup_cons.2 ⟨hx, h2⟩, by rw [List.length_cons, List.length_cons]; omega⟩

/-- The step the other way round. -/
def Sp.flip (s : Sp) : Sp := ⟨s.dst, s.fr, s.why, !s.back⟩
theorem onto_flip {es : List Ed} {s : Sp} (h : Onto es s) : Onto es s.flip := by
  obtain ⟨e, he, ⟨hb, rfl⟩ | ⟨hb, rfl⟩⟩ := h
  · exact ⟨_, he, .inr ⟨by simp [Sp.flip, hb], rfl⟩⟩
  · exact ⟨_, he, .inl ⟨by simp [Sp.flip, hb], rfl⟩⟩
theorem Way.turn {es : List Ed} {a b : Nat} {l : List Sp} (h : Way es a b l) : Way es b a (l.map Sp.flip).reverse := by
  induction h with
  | nil a => exact .nil a
  | cons s hs ho _ ih =>
    rw [List.map_cons, List.reverse_cons]
    exact ih.append (.cons s.flip rfl (onto_flip ho) (by rw [← hs]; exact .nil _))
theorem Way.ends {es : List Ed} {a b : Nat} {l : List Sp} (h : Way es a b l) : nodes a l = l.map Sp.fr ++ [b] := by
  induction h with
  | nil a => rfl
  | @cons a b l s hs ho _ ih =>
    have : nodes a (s :: l) = a :: nodes s.dst l := rfl
    rw [this, ih, List.map_cons, hs]; rfl
theorem Way.turn_nodes {es : List Ed} {a b : Nat} {l : List Sp} (h : Way es a b l) : nodes b (l.map Sp.flip).reverse = (nodes a l).reverse := by
  rw [h.ends]
  have e : (l.map Sp.flip).map Sp.dst = l.map Sp.fr := by rw [List.map_map]; rfl
  rw [nodes, List.map_reverse, e, List.reverse_append]; rfl

/-- The way of a wood. -/
def Simple (es : List Ed) (a b : Nat) (l : List Sp) : Prop := Way es a b l ∧ (nodes a l).Nodup

theorem Simple.turn {es : List Ed} {a b : Nat} {l : List Sp} (h : Simple es a b l) : Simple es b a (l.map Sp.flip).reverse :=
  ⟨h.1.turn, by rw [h.1.turn_nodes]; exact List.pairwise_reverse.2 (h.2.imp fun h e => h e.symm)⟩

theorem Simple.three {n : Nat} {es : List Ed} {rt : Nat → Nat} (hw : Wood n es rt) {a b c : Nat} {l m k : List Sp} (hl : Simple es a b l) (hm : Simple es b c m) (hk : Simple es a c k) :
    k.length ≤ l.length + m.length ∧ (l.length + m.length - k.length) % 2 = 0 := by
  obtain ⟨k', h1, h2, h3⟩ := (hl.1.append hm.1).short
  have := hw.one hk.1 h1 hk.2 h2
  subst this
  rw [List.length_append] at h3
  refine ⟨h3, ?_⟩
  obtain ⟨col, hcol⟩ := hw.colour
  have c1 := hl.1.colour hcol
  have c2 := hm.1.colour hcol
  have c3 := hk.1.colour hcol
  rw [c2, c1] at c3
  rcases Nat.mod_two_eq_zero_or_one l.length with e1 | e1 <;> rcases Nat.mod_two_eq_zero_or_one m.length with e2 | e2 <;> rcases Nat.mod_two_eq_zero_or_one k.length with e3 | e3 <;>
    first | omega | (rw [e1, e2, e3] at c3; cases h : col a <;> rw [h] at c3 <;> simp at c3)

/-! ### The search -/
/-- What the search has come to: the members in their order, and by which joint each. -/
structure Bfs (es : List Ed) (a : Nat) (O : List Nat) (f : Nat → Option Sp) : Prop where
  nodup : O.Nodup
  head : O[0]? = some a
  dom : ∀ x, (f x).isSome = true ↔ x ∈ O
  edge : ∀ i x, O[i]? = some x → 0 < i → ∃ s, f x = some s ∧ s.dst = x ∧ Onto es s ∧ ∃ j, j < i ∧ O[j]? = some s.fr

def first (a : Nat) (z : Sp) : Nat → Option Sp := fun x => if x = a then some z else none
def put (f : Nat → Option Sp) (k : Nat) (s : Sp) : Nat → Option Sp := fun x => if x = k then some s else f x

theorem Bfs.start (es : List Ed) (a : Nat) (z : Sp) : Bfs es a [a] (first a z) :=
  ⟨by simp, rfl, fun x => by unfold first; by_cases h : x = a <;> simp [h], fun i x hx hi => by
    have : i < 1 := (List.getElem?_eq_some_iff.1 hx).1
    omega⟩

theorem Bfs.step {es : List Ed} {a : Nat} {O : List Nat} {f : Nat → Option Sp} (h : Bfs es a O f) {s : Sp} (ho : Onto es s) {k : Nat} (hk : O[k]? = some s.fr) (hnew : f s.dst = none) : Bfs es a (O ++ [s.dst]) (put f s.dst s) := by
  have hn : s.dst ∉ O := fun hm => by have := (h.dom s.dst).2 hm; rw [hnew] at this; cases this
  have h0 : 0 < O.length := (List.getElem?_eq_some_iff.1 h.head).1
  have hkl : k < O.length := (List.getElem?_eq_some_iff.1 hk).1
  refine ⟨?_, by rw [List.getElem?_append_left h0]; exact h.head, fun x => ?_, fun i x hx hi => ?_⟩
  · refine List.nodup_append.2 ⟨h.nodup, by simp, fun x hx y hy e => ?_⟩
    rw [List.mem_singleton] at hy
    subst hy e
    exact hn hx
  · unfold put
    by_cases e : x = s.dst
    · simp [e]
    · rw [if_neg e, h.dom, List.mem_append, List.mem_singleton]
      exact ⟨.inl, fun h => h.resolve_right e⟩
  · rcases Nat.lt_or_ge i O.length with h1 | h1
    · rw [List.getElem?_append_left h1] at hx
      obtain ⟨t, ht1, ht2, ht3, j, hj, hjo⟩ := h.edge i x hx hi
      have hxO : x ∈ O := List.mem_of_getElem? hx
      refine ⟨t, ?_, ht2, ht3, j, hj, by rw [List.getElem?_append_left (by omega)]; exact hjo⟩
      unfold put
      rw [if_neg (fun e => hn (by rw [← e]; exact hxO))]
      exact ht1
    · have hi2 : i = O.length := by
        have := (List.getElem?_eq_some_iff.1 hx).1
        simp at this; omega
      subst hi2
      rw [List.getElem?_append_right (Nat.le_refl _)] at hx
      simp at hx
      subst hx
      exact ⟨s, by simp [put], rfl, ho, k, hkl, by rw [List.getElem?_append_left hkl]; exact hk⟩

theorem Bfs.lt {n : Nat} {es : List Ed} {rt : Nat → Nat} (hw : Wood n es rt) {a : Nat} {O : List Nat} {f : Nat → Option Sp} (h : Bfs es a O f) (ha : a < n) : ∀ x ∈ O, x < n := by
  intro x hx
  obtain ⟨i, hi, rfl⟩ := List.getElem_of_mem hx
  rcases Nat.eq_zero_or_pos i with h0 | h0
  · subst h0
    have := h.head
    rw [List.getElem?_eq_getElem hi] at this
    cases this; exact ha
  · obtain ⟨s, _, h2, h3, _⟩ := h.edge i _ (List.getElem?_eq_getElem hi) h0
    rw [← h2]; exact (hw.on h3).2.1

theorem nodup_le : ∀ (n : Nat) (l : List Nat), l.Nodup → (∀ x ∈ l, x < n) → l.length ≤ n
  | 0, l, _, h => by
    cases l with
    | nil => exact Nat.le_refl _
    | cons x l => exact absurd (h x (List.mem_cons_self ..)) (by omega)
  | n + 1, l, hn, h => by
    have h1 : (l.erase n).Nodup := hn.erase n
    have h2 := nodup_le n (l.erase n) h1 fun x hx => by
      have hx' := (List.Nodup.mem_erase_iff hn).1 hx
      have := h x hx'.2
      omega
    by_cases hm : n ∈ l
    · have h3 := List.length_erase_of_mem hm; omega
    · rw [List.erase_of_not_mem hm] at h2; omega

/-- The way back from b, as far as x. -/
structure Trail (es : List Ed) (O : List Nat) (b x i : Nat) (W : List Sp) : Prop where
  at_ : O[i]? = some x
  way : Way es x b W.reverse
  nodup : (nodes x W.reverse).Nodup
  later : ∀ s ∈ W, ∃ j, i < j ∧ O[j]? = some s.dst
  room : W.length + i < O.length

theorem Trail.start {es : List Ed} {O : List Nat} {b i : Nat} (h : O[i]? = some b) : Trail es O b b i [] :=
  ⟨h, .nil b, by simp [nodes], fun s hs => (by cases hs), by have := (List.getElem?_eq_some_iff.1 h).1; simpa using this⟩

theorem Trail.step {es : List Ed} {a : Nat} {O : List Nat} {f : Nat → Option Sp} (hb : Bfs es a O f) {b x i : Nat} {W : List Sp} (h : Trail es O b x i W) (hx : x ≠ a) :
    ∃ s, f x = some s ∧ ∃ j, j < i ∧ Trail es O b s.fr j (W ++ [s]) := by
  have hi : 0 < i := by
    rcases Nat.eq_zero_or_pos i with h0 | h0
    · subst h0
      have := h.at_.symm.trans hb.head
      cases this; exact absurd rfl hx
    · exact h0
  obtain ⟨s, h1, h2, h3, j, hj, hjo⟩ := hb.edge i x h.at_ hi
  have hlt := (List.getElem?_eq_some_iff.1 h.at_).1
  have hlj := (List.getElem?_eq_some_iff.1 hjo).1
  have hone : ∀ (p q y : Nat), O[p]? = some y → O[q]? = some y → p = q := fun p q y hp hq => by
    obtain ⟨hp1, hp2⟩ := List.getElem?_eq_some_iff.1 hp
    obtain ⟨hq1, hq2⟩ := List.getElem?_eq_some_iff.1 hq
    exact (List.getElem_inj hb.nodup).1 (hp2.trans hq2.symm)
  have hrev : (W ++ [s]).reverse = s :: W.reverse := by simp
  refine ⟨s, h1, j, hj, hjo, ?_, ?_, fun t ht => ?_, by have := h.room; simp; omega⟩
  · rw [hrev]; exact .cons s rfl h3 (by rw [h2]; exact h.way)
  · rw [hrev]
    show (s.fr :: nodes s.dst W.reverse).Nodup
    rw [h2]
    refine List.nodup_cons.2 ⟨fun hm => ?_, h.nodup⟩
    rcases List.mem_cons.1 hm with e | hm
    · have := hone j i x (by rw [← e]; exact hjo) h.at_; omega
    · obtain ⟨t, ht, he⟩ := List.mem_map.1 hm
      obtain ⟨k, hk, hko⟩ := h.later t (List.mem_reverse.1 ht)
      have := hone j k s.fr hjo (by rw [hko, he]); omega
  · rcases List.mem_append.1 ht with ht | ht
    · obtain ⟨k, hk, hko⟩ := h.later t ht
      exact ⟨k, by omega, hko⟩
    · rw [List.mem_singleton] at ht; subst ht
      exact ⟨i, hj, by rw [h2]; exact h.at_⟩

/-- The joints of member k, as steps. -/
def JT.step (k : Nat) (j : JT) : Sp := ⟨k, j.to, j.why, j.back⟩
theorem stub_on {es : List Ed} {k : Nat} {j : JT} (h : j ∈ es.flatMap (stub k)) : Onto es (j.step k) := by
  obtain ⟨e, he, hj⟩ := List.mem_flatMap.1 h
  refine ⟨e, he, ?_⟩
  unfold stub at hj
  split at hj
  · rename_i h1
    rw [List.mem_singleton] at hj
    subst hj h1
    exact .inl ⟨rfl, rfl⟩
  · split at hj
    · rename_i h1
      rw [List.mem_singleton] at hj
      subst hj h1
      exact .inr ⟨rfl, rfl⟩
    · cases hj
theorem on_stub {n : Nat} {es : List Ed} {rt : Nat → Nat} (hw : Wood n es rt) {s : Sp} (h : Onto es s) : ∃ j ∈ es.flatMap (stub s.fr), j.to = s.dst := by
  obtain ⟨e, he, ⟨_, rfl⟩ | ⟨_, rfl⟩⟩ := h
  · exact ⟨⟨s.dst, s.why, false⟩, List.mem_flatMap.2 ⟨_, he, by simp [stub]⟩, rfl⟩
  · have hne := (hw.each _ he).2.2.1
    exact ⟨⟨s.dst, s.why, true⟩, List.mem_flatMap.2 ⟨_, he, by have hne : s.dst ≠ s.fr := hne; simp [stub, hne]⟩, rfl⟩

/-- All that the search has gone through leads to what it knows. -/
def Done (es : List Ed) (O : List Nat) (k : Nat) : Prop := ∀ i p, i < k → O[i]? = some p → ∀ j ∈ es.flatMap (stub p), j.to ∈ O

theorem Done.all {n : Nat} {es : List Ed} {rt : Nat → Nat} (hw : Wood n es rt) {a b : Nat} {O : List Nat} {f : Nat → Option Sp} (hb : Bfs es a O f) (h : Done es O O.length) (hr : rt a = rt b) : b ∈ O := by
  refine hw.closed (fun x => x ∈ O) (fun s ho hs => ?_) a b hr (List.mem_of_getElem? hb.head)
  obtain ⟨i, hi, he⟩ := List.getElem_of_mem hs
  obtain ⟨j, hj, hjt⟩ := on_stub hw ho
  rw [← hjt]
  exact h i s.fr hi (by rw [List.getElem?_eq_getElem hi, he]) j hj

theorem Done.more {es : List Ed} {O : List Nat} {k x : Nat} (h : Done es O k) (hk : k ≤ O.length) : Done es (O ++ [x]) k := by
  intro i p hi hp j hj
  rw [List.getElem?_append_left (by omega)] at hp
  exact List.mem_append_left _ (h i p hi hp j hj)

end Go.Proofs.Ytkgmhkjiblanmaa
