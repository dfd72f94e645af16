/-
  The document's forest (package sorrelref09): its memory, and the search by which it comes to the members of a group. Plain laws.
-/
import Derived.Test.YtkgmhkjiblanmaaFkf
namespace Go.Proofs.Ytkgmhkjiblanmaa
open Go.RowKit

/-- A joint of the document's forest. -/
structure JN where
  a : Nat
  b : Nat
  why : Int
def JN.cells (j : JN) : List Value := [.int .i64 (j.a : Nat), .int .i64 (j.b : Nat), .int .i64 j.why]
def jnCells (l : List JN) : List Value := l.flatMap JN.cells

theorem jnCells_at : ∀ (l : List JN) (i : Nat) (j : JN) (q : Nat), q < 3 → l[i]? = some j → (jnCells l)[i * 3 + q]? = j.cells[q]?
  | [], i, j, q, _, h => by simp at h
  | t :: l, 0, j, q, hq, h => by
    simp at h
    subst h
    unfold jnCells
    rw [List.flatMap_cons, List.getElem?_append_left (by simp [JN.cells]; omega)]
    simp
  | t :: l, i + 1, j, q, hq, h => by
    have := jnCells_at l i j q hq (by simpa using h)
    unfold jnCells at this ⊢
    rw [List.flatMap_cons, List.getElem?_append_right (by simp [JN.cells]; omega)]
    have e : (i + 1) * 3 + q - t.cells.length = i * 3 + q := by simp [JN.cells]; omega
    rw [e, this]

structure Refs (w : World) (base pw n : Nat) (jv : Value) (js : List JN) : Prop where
  head : w.heap[pw]? = some (.cells #[.int .i64 (n : Nat), jv] 58 (0, 0))
  row : w.ownsRow base 112 3 jv js.length (jnCells js)
  low : base ≤ pw

theorem Refs.cells {w : World} {base pw n : Nat} {jv : Value} {js : List JN} (h : Refs w base pw n jv js) : w.cell? ⟨pw, 0, none⟩ = some (.int .i64 (n : Nat)) ∧ w.cell? ⟨pw, 1, none⟩ = some jv := by
  refine ⟨?_, ?_⟩ <;> simp [World.cell?, h.head]
theorem Refs.lt {w : World} {base pw n : Nat} {jv : Value} {js : List JN} (h : Refs w base pw n jv js) : pw < w.heap.size := (Array.getElem?_eq_some_iff.1 h.head).1
theorem Refs.below {w w' : World} {base pw n : Nat} {jv : Value} {js : List JN} (h : Refs w base pw n jv js) (hb : Below w.heap.size w w') : Refs w' base pw n jv js := by
  refine ⟨(hb.block _ h.lt).trans h.head, ⟨h.row.1, h.row.2.imp id ?_⟩, h.low⟩
  rintro ⟨g, cap, cur, hv, hb', hg, rest⟩
  exact ⟨g, cap, cur, hv, hb', (hb.block g (Array.getElem?_eq_some_iff.1 hg).1).trans hg, rest⟩
theorem Refs.joint_at {w : World} {base pw n g c q : Nat} {js : List JN} {j : JN} (h : Refs w base pw n (.slice (some ⟨g, 0, none⟩) js.length c) js) (hj : js[q]? = some j) :
    w.cell? ⟨g, q * 3, none⟩ = some (.int .i64 (j.a : Nat)) ∧ w.cell? ⟨g, q * 3 + 1, none⟩ = some (.int .i64 (j.b : Nat)) ∧ w.cell? ⟨g, q * 3 + 2, none⟩ = some (.int .i64 j.why) := by
  have ho := h.row
  have hq : q < js.length := (List.getElem?_eq_some_iff.1 hj).1
  refine ⟨?_, ?_, ?_⟩
  · have := ho.cellAt (q * 3 + 0) (by omega)
    rw [jnCells_at js q j 0 (by decide) hj] at this
    exact this
  · rw [ho.cellAt (q * 3 + 1) (by omega), jnCells_at js q j 1 (by decide) hj]; rfl
  · rw [ho.cellAt (q * 3 + 2) (by omega), jnCells_at js q j 2 (by decide) hj]; rfl
theorem Refs.block {w : World} {base pw n c : Nat} {A : Option Addr} {js : List JN} (h : Refs w base pw n (.slice A js.length c) js) (hpos : 0 < js.length) : ∃ g, A = some ⟨g, 0, none⟩ ∧ g < w.heap.size ∧ base ≤ g := by
  rcases h.row.2 with ⟨_, h2⟩ | ⟨g, cap, cur, hv, hb', hg, rest⟩
  · omega
  · cases hv
    exact ⟨g, rfl, (Array.getElem?_eq_some_iff.1 hg).1, hb'⟩

/-- The joints of both forests join the same members. -/
structure Match (es : List Ed) (js : List JN) : Prop where
  len : es.length = js.length
  at_ : ∀ (i : Nat) (e : Ed) (j : JN), es[i]? = some e → js[i]? = some j → e.a = j.a ∧ e.b = j.b

/-- What the search knows: by which joint each member is come to. -/
structure Reach (es : List Ed) (a n : Nat) (O : List Nat) (f : Nat → Option Sp) (mk : List Int) : Prop where
  bfs : Bfs es a O f
  len : mk.length = n
  at_ : ∀ x, x < n → ∃ v, mk[x]? = some v ∧ ((v = 0 ∧ x ∉ O) ∨ (v = -1 ∧ x = a ∧ x ∈ O) ∨ (∃ (i : Nat) (e : Ed) (s : Sp), v = (i : Int) + 1 ∧ es[i]? = some e ∧ f x = some s ∧ s.dst = x ∧ s.on e ∧ x ∈ O ∧ x ≠ a))

theorem Reach.start (es : List Ed) (a n : Nat) (ha : a < n) (z : Sp) : Reach es a n [a] (first a z) ((List.replicate n (0 : Int)).set a (-1)) := by
  refine ⟨.start es a z, by simp, fun x hx => ?_⟩
  by_cases h : x = a
  · subst h
    exact ⟨-1, by rw [List.getElem?_set_self (by simpa using hx)], .inr (.inl ⟨rfl, rfl, by simp⟩)⟩
  · exact ⟨0, by rw [List.getElem?_set_ne (fun e => h e.symm), List.getElem?_replicate, if_pos hx], .inl ⟨rfl, by simp [h]⟩⟩

theorem Reach.known {es : List Ed} {a n : Nat} {O : List Nat} {f : Nat → Option Sp} {mk : List Int} (h : Reach es a n O f mk) {x : Nat} (hx : x < n) : ∃ v, mk[x]? = some v ∧ (x ∈ O ↔ v ≠ 0) := by
  obtain ⟨v, hv, hor⟩ := h.at_ x hx
  refine ⟨v, hv, ?_⟩
  rcases hor with ⟨rfl, hn⟩ | ⟨rfl, _, hm⟩ | ⟨i, _, _, rfl, _, _, _, _, hm, _⟩
  · simp [hn]
  · exact ⟨fun _ => by omega, fun _ => hm⟩
  · exact ⟨fun _ => by omega, fun _ => hm⟩

theorem Reach.step {es : List Ed} {a n : Nat} {O : List Nat} {f : Nat → Option Sp} {mk : List Int} (h : Reach es a n O f mk) {i : Nat} {e : Ed} {s : Sp} (he : es[i]? = some e) (hs : s.on e) (hf : s.fr ∈ O) (hd : s.dst ∉ O) :
    Reach es a n (O ++ [s.dst]) (put f s.dst s) (mk.set s.dst ((i : Int) + 1)) := by
  obtain ⟨k, hk⟩ := List.getElem?_of_mem hf
  have hnew : f s.dst = none := by
    cases hx : f s.dst with
    | none => rfl
    | some _ => exact absurd ((h.bfs.dom _).1 (by rw [hx]; rfl)) hd
  have ha : a ∈ O := List.mem_of_getElem? h.bfs.head
  refine ⟨h.bfs.step ⟨e, List.mem_of_getElem? he, hs⟩ hk hnew, by simp [h.len], fun x hx => ?_⟩
  by_cases hxs : x = s.dst
  · subst hxs
    refine ⟨(i : Int) + 1, by rw [List.getElem?_set_self (by rw [h.len]; exact hx)], .inr (.inr ⟨i, e, s, rfl, he, by simp [put], rfl, hs, by simp, fun e => hd (by rw [e]; exact ha)⟩)⟩
  · obtain ⟨v, hv, hor⟩ := h.at_ x hx
    refine ⟨v, by rw [List.getElem?_set_ne (fun e => hxs e.symm)]; exact hv, ?_⟩
    rcases hor with ⟨rfl, hn⟩ | ⟨rfl, hxa, hm⟩ | ⟨i', e', s', rfl, he', hf', hd', ho', hm, hna⟩
    · exact .inl ⟨rfl, by simp [hn, hxs]⟩
    · exact .inr (.inl ⟨rfl, hxa, List.mem_append_left _ hm⟩)
    · exact .inr (.inr ⟨i', e', s', rfl, he', by unfold put; rw [if_neg hxs]; exact hf', hd', ho', List.mem_append_left _ hm, hna⟩)

/-- The joints up to q lead on only to what is known. -/
def Shut (es : List Ed) (O : List Nat) (q : Nat) : Prop := ∀ (i : Nat) (e : Ed) (s : Sp), i < q → es[i]? = some e → s.on e → s.fr ∈ O → s.dst ∈ O

theorem Shut.next {es : List Ed} {O : List Nat} {q : Nat} {e : Ed} (h : Shut es O q) (he : es[q]? = some e) (hiff : e.a ∈ O ↔ e.b ∈ O) : Shut es O (q + 1) := by
  intro i e' s hi he' hs hf
  rcases Nat.lt_or_ge i q with hlt | hge
  · exact h i e' s hlt he' hs hf
  · have : i = q := by omega
    subst this
    rw [he] at he'; cases he'
    rcases hs with ⟨_, rfl⟩ | ⟨_, rfl⟩
    · exact hiff.1 hf
    · exact hiff.2 hf

theorem Shut.all {n : Nat} {es : List Ed} {rt : Nat → Nat} (hw : Wood n es rt) {a n' : Nat} {O : List Nat} {f : Nat → Option Sp} {mk : List Int} (h : Reach es a n' O f mk) (hs : Shut es O es.length) : ∀ x, x ∈ O ↔ rt x = rt a := by
  intro x
  constructor
  · intro hx
    obtain ⟨i, hi⟩ := List.getElem?_of_mem hx
    have : ∀ (i x : Nat), O[i]? = some x → rt x = rt a := by
      intro i
      induction i using Nat.strongRecOn with
      | _ i ih =>
        intro x hx
        rcases Nat.eq_zero_or_pos i with h0 | h0
        · subst h0
          have := hx.symm.trans h.bfs.head
          cases this; rfl
        · obtain ⟨s, _, h2, h3, j, hj, hjo⟩ := h.bfs.edge i x hx h0
          rw [← h2, ← (hw.on h3).2.2.2]
          exact ih j hj _ hjo
    exact this i x hi
  · intro hx
    refine hw.closed (fun x => x ∈ O) (fun s ho hs' => ?_) a x hx.symm (List.mem_of_getElem? h.bfs.head)
    obtain ⟨e, he, ho⟩ := ho
    obtain ⟨i, hi⟩ := List.getElem?_of_mem he
    exact hs i e s (List.getElem?_eq_some_iff.1 hi).1 hi ho hs'

/-- The search in memory. -/
def intCells (l : List Int) : List Value := l.map (Value.int .i64)
theorem intCells_set (l : List Int) (i : Nat) (v : Int) : (intCells l).set i (.int .i64 v) = intCells (l.set i v) := by simp [intCells]
structure Srch (es : List Ed) (a n : Nat) (w0 : World) (O : List Nat) (f : Nat → Option Sp) (mk : List Int) (wr : World) : Prop where
  reach : Reach es a n O f mk
  own : wr.ownsRow w0.heap.size 3 1 (.slice (some ⟨w0.heap.size, 0, none⟩) n n) n (intCells mk)
  below : Below w0.heap.size w0 wr

section
variable {es : List Ed} {a n : Nat} {w0 wr wr' : World} {O : List Nat} {f : Nat → Option Sp} {mk : List Int}

theorem Srch.at_ (h : Srch es a n w0 O f mk wr) {x : Nat} {v : Int} (hv : mk[x]? = some v) : wr.cell? ⟨w0.heap.size, x, none⟩ = some (.int .i64 v) ∧ (∀ y, wr.frozen? ⟨w0.heap.size, y, none⟩ = false) ∧ w0.heap.size < wr.heap.size := by
  have hx : x < n := by rw [← h.reach.len]; exact (List.getElem?_eq_some_iff.1 hv).1
  refine ⟨?_, fun y => h.own.frozenAt y, (h.own.lt _ rfl).2⟩
  rw [h.own.cellAt x (by omega)]
  simp [intCells, hv]
theorem Srch.quiet (h : Srch es a n w0 O f mk wr) (o : Obj) : Srch es a n w0 O f mk (wr.alloc o) := ⟨h.reach, h.own.alloc o, h.below.alloc h.below.size o⟩
theorem Srch.room (h : Srch es a n w0 O f mk wr) {rt : Nat → Nat} (hw : Wood n es rt) (ha : a < n) : O.length ≤ n :=
  nodup_le n O h.reach.bfs.nodup (h.reach.bfs.lt hw ha)
theorem Srch.step (h : Srch es a n w0 O f mk wr) {i : Nat} {e : Ed} {s : Sp} (he : es[i]? = some e) (hs : s.on e) (hf : s.fr ∈ O) (hd : s.dst ∉ O) :
    Srch es a n w0 (O ++ [s.dst]) (put f s.dst s) (mk.set s.dst ((i : Int) + 1)) (wr.setCell ⟨w0.heap.size, s.dst, none⟩ (.int .i64 ((i : Int) + 1))) := by
  obtain ⟨h1, h2⟩ := h.own.stored s.dst (.int .i64 ((i : Int) + 1))
  rw [intCells_set] at h1
  exact ⟨h.reach.step he hs hf hd, h1, h.below.grown h2 h.below.size (fun k hk => by cases hk; exact Nat.le_refl _)⟩
end

theorem Srch.start {es : List Ed} {a n : Nat} {w w1 : World} (ha : a < n) (hown : w1.ownsRow w.heap.size 3 1 (.slice (some ⟨w.heap.size, 0, none⟩) n n) n (madeCells (Value.int .i64 0).cells (n * 1)).toList) (hg : w.grownBy w1 none) :
    Srch es a n w [a] (first a zeroSp) ((List.replicate n (0 : Int)).set a (-1)) (w1.setCell ⟨w.heap.size, a, none⟩ (.int .i64 (-1))) := by
  obtain ⟨h1, h2⟩ := hown.stored a (.int .i64 (-1))
  have e : (madeCells (Value.int .i64 0).cells (n * 1)).toList = intCells (List.replicate n (0 : Int)) := by
    rw [Nat.mul_one]
    refine (toList_madeCells_one _ n).trans ?_
    simp [intCells]
  rw [e, intCells_set] at h1
  have hb : Below w.heap.size w w1 := (Below.refl _ _).grown hg (Nat.le_refl _) (fun k hk => by cases hk)
  exact ⟨.start es a n ha _, h1, hb.grown h2 hb.size (fun k hk => by cases hk; exact Nat.le_refl _)⟩

end Go.Proofs.Ytkgmhkjiblanmaa
