/-
  How a forest lies in memory: its struct, its three rows and the rows of joints; frames: what a call on a forest may turn.
-/
import Derived.Test.YtkgmhkjiblanmaaRows
import Derived.WalkKit
import Derived.WalkSpells
import Derived.WalkLawsBesides
import Derived.Lib.Hide
import Derived.Deep.OwnRows
import Derived.Deep.AppendLies
namespace Go.Proofs.Ytkgmhkjiblanmaa
open Go.RowKit

/-- A joint, as the program keeps it. -/
structure JT where
  to : Nat
  why : Value
  back : Bool

def JT.cells (j : JT) : List Value := [.int .i64 j.to, j.why, .bool j.back]

/-- What a forest holds. -/
structure FS where
  up : List Nat
  size : List Int
  joints : List (List JT)

/-- Where a forest lies. -/
structure Lay where
  p : Nat
  vu : Value
  vs : Value
  vj : Value
  js : List Value

/-- The block of each part. -/
def Lay.slot (L : Lay) : Nat → Option Nat
  | 0 => some L.p
  | 1 => L.vu.ownBlock
  | 2 => L.vs.ownBlock
  | 3 => L.vj.ownBlock
  | i + 4 => (L.js[i]?).bind Value.ownBlock

def Lay.Inj (L : Lay) : Prop := ∀ s t b, L.slot s = some b → L.slot t = some b → s = t
def Lay.Has (L : Lay) (b : Nat) : Prop := ∃ s, L.slot s = some b

def upCells (l : List Nat) : List Value := l.map fun (x : Nat) => .int .i64 x
def sizeCells (l : List Int) : List Value := l.map (.int .i64)
def jointCells (l : List JT) : List Value := l.flatMap JT.cells

/-- A forest lies in memory. -/
structure Rep (w : World) (L : Lay) (F : FS) : Prop where
  head : w.heap[L.p]? = some (.cells #[L.vu, L.vs, L.vj] 66 (0, 0))
  up : w.ownsRow 0 3 1 L.vu F.up.length (upCells F.up)
  size : w.ownsRow 0 3 1 L.vs F.size.length (sizeCells F.size)
  joints : w.ownsRow 0 69 1 L.vj F.joints.length L.js
  each : ∀ (i : Nat) (v : Value) (l : List JT), L.js[i]? = some v → F.joints[i]? = some l → w.ownsRow 0 71 3 v l.length (jointCells l)
  inj : L.Inj

theorem Rep.js_len {w : World} {L : Lay} {F : FS} (h : Rep w L F) : L.js.length = F.joints.length := by
  have := h.joints.1; simpa using this

theorem Rep.lt {w : World} {L : Lay} {F : FS} (h : Rep w L F) {b : Nat} (hb : L.Has b) : b < w.heap.size := by
  obtain ⟨s, hs⟩ := hb
  match s, hs with
  | 0, hs => cases hs; exact (Array.getElem?_eq_some_iff.1 h.head).1
  | 1, hs => exact (h.up.lt _ hs).2
  | 2, hs => exact (h.size.lt _ hs).2
  | 3, hs => exact (h.joints.lt _ hs).2
  | i + 4, hs =>
    simp only [Lay.slot] at hs
    cases hv : L.js[i]? with
    | none => rw [hv] at hs; cases hs
    | some v =>
      rw [hv] at hs
      have hi : i < L.js.length := (List.getElem?_eq_some_iff.1 hv).1
      have hl : i < F.joints.length := by rw [← h.js_len]; exact hi
      exact ((h.each i v _ hv (List.getElem?_eq_getElem hl)).lt _ hs).2

/-- A step that turns no block of the forest's. -/
theorem Rep.keep {w w' : World} {L : Lay} {F : FS} (h : Rep w L F) {row : Option Nat} (hg : w.grownBy w' row) (hr : ∀ k, row = some k → ¬ L.Has k) : Rep w' L F := by
  have hn : ∀ s b, L.slot s = some b → some b ≠ row := fun s b hs e => hr b e.symm ⟨s, hs⟩
  have hv : ∀ (v : Value) s, L.slot s = v.ownBlock → v.ownBlock = none ∨ v.ownBlock ≠ row := fun v s hs => by
    cases e : v.ownBlock with
    | none => exact .inl rfl
    | some b => exact .inr (hn s b (hs.trans e))
  refine ⟨(hg.block _ (Array.getElem?_eq_some_iff.1 h.head).1 (hn 0 _ rfl)).trans h.head, h.up.kept hg (hv _ 1 rfl), h.size.kept hg (hv _ 2 rfl), h.joints.kept hg (hv _ 3 rfl), fun i v l hi hl => (h.each i v l hi hl).kept hg (hv _ (i + 4) ?_), h.inj⟩
  simp only [Lay.slot, hi]; rfl

theorem Rep.alloc {w : World} {L : Lay} {F : FS} (h : Rep w L F) (o : Obj) : Rep (w.alloc o) L F := h.keep (World.grownBy_alloc w o none) (fun _ h => by cases h)

theorem grownBy_drewN (w : World) (n : Nat) : w.grownBy (w.drewN n) none := ⟨rfl, rfl, rfl, Nat.le_refl _, fun _ _ _ => rfl⟩
theorem grownBy_drew (w : World) : w.grownBy w.drew none := ⟨rfl, rfl, rfl, Nat.le_refl _, fun _ _ _ => rfl⟩
theorem grownBy_below {w w' : World} (h : Below w.heap.size w w') : w.grownBy w' none := ⟨h.os, h.tape, h.output, h.size, fun k hk _ => h.block k hk⟩
theorem Rep.drew {w : World} {L : Lay} {F : FS} (h : Rep w L F) : Rep w.drew L F := h.keep (grownBy_drew w) (fun _ h => by cases h)
theorem Rep.drewN {w : World} {L : Lay} {F : FS} (h : Rep w L F) (n : Nat) : Rep (w.drewN n) L F := h.keep (grownBy_drewN w n) (fun _ h => by cases h)
theorem Rep.below {w w' : World} {L : Lay} {F : FS} (h : Rep w L F) (hb : Below w.heap.size w w') : Rep w' L F := h.keep (grownBy_below hb) (fun _ h => by cases h)

/-- All blocks but those of M are as they were. -/
structure Fr (M : Nat → Prop) (w w' : World) : Prop where
  os : w'.os = w.os
  tape : w'.tape = w.tape
  output : w'.output = w.output
  size : w.heap.size ≤ w'.heap.size
  block : ∀ k, k < w.heap.size → ¬ M k → w'.heap[k]? = w.heap[k]?

theorem Fr.refl (M : Nat → Prop) (w : World) : Fr M w w := ⟨rfl, rfl, rfl, Nat.le_refl _, fun _ _ _ => rfl⟩
theorem Fr.trans {M N : Nat → Prop} {a b c : World} (h : Fr M a b) (k : Fr N b c) (hn : ∀ x, N x → M x ∨ a.heap.size ≤ x) : Fr M a c :=
  ⟨k.os.trans h.os, k.tape.trans h.tape, k.output.trans h.output, Nat.le_trans h.size k.size, fun x hx hm =>
    (k.block x (Nat.lt_of_lt_of_le hx h.size) fun hN => (hn x hN).elim hm fun h1 => absurd hx (by omega)).trans (h.block x hx hm)⟩
theorem Fr.of_below {w w' : World} (M : Nat → Prop) (h : Below w.heap.size w w') : Fr M w w' := ⟨h.os, h.tape, h.output, h.size, fun k hk _ => h.block k hk⟩
theorem Fr.of_grown {w w' : World} {M : Nat → Prop} {row : Option Nat} (h : w.grownBy w' row) (hr : ∀ k, row = some k → M k) : Fr M w w' :=
  ⟨h.os, h.tape, h.output, h.size, fun k hk hm => h.block k hk fun e => hm (hr k e.symm)⟩
theorem Fr.below {w w' : World} {M : Nat → Prop} {B : Nat} (h : Fr M w w') (hB : ∀ x, M x → B ≤ x) (hs : B ≤ w.heap.size) : Below B w w' :=
  ⟨h.os, h.tape, h.output, h.size, fun k hk => h.block k (by omega) fun hm => by have := hB k hm; omega⟩

/-- A call on a forest: what it may turn, and where the forest lies behind it. -/
structure Moves (w w' : World) (L L' : Lay) : Prop where
  fr : Fr L.Has w w'
  own : ∀ b, L'.Has b → L.Has b ∨ w.heap.size ≤ b
  p : L'.p = L.p

theorem Moves.refl (w : World) (L : Lay) : Moves w w L L := ⟨Fr.refl _ _, fun _ h => .inl h, rfl⟩
theorem Moves.trans {a b c : World} {L M N : Lay} (h : Moves a b L M) (k : Moves b c M N) : Moves a c L N :=
  ⟨h.fr.trans k.fr h.own, fun x hx => by
    rcases k.own x hx with h1 | h1
    · exact h.own x h1
    · exact .inr (Nat.le_trans h.fr.size h1), k.p.trans h.p⟩
theorem Moves.still {w w' : World} (L : Lay) (h : Below w.heap.size w w') : Moves w w' L L := ⟨Fr.of_below _ h, fun _ h => .inl h, rfl⟩
theorem Moves.then_still {a b c : World} {L M : Lay} (h : Moves a b L M) (k : Below b.heap.size b c) : Moves a c L M := h.trans (Moves.still M k)

/-- One part in place of another: the layouts' blocks stay apart. -/
theorem inj_put {s0 : Nat} {f f' : Nat → Option Nat} (hinj : ∀ s t b, f s = some b → f t = some b → s = t) (hf : ∀ s, s ≠ s0 → f' s = f s) (h0 : ∀ b, f' s0 = some b → f s0 = some b ∨ ∀ s, f s ≠ some b) :
    ∀ s t b, f' s = some b → f' t = some b → s = t := by
  intro s t b hs ht
  by_cases h1 : s = s0
  · by_cases h2 : t = s0
    · rw [h1, h2]
    · subst h1
      rw [hf t h2] at ht
      rcases h0 b hs with h | h
      · exact hinj _ _ b h ht
      · exact absurd ht (h t)
  · rw [hf s h1] at hs
    by_cases h2 : t = s0
    · subst h2
      rcases h0 b ht with h | h
      · exact hinj _ _ b hs h
      · exact absurd hs (h s)
    · rw [hf t h2] at ht
      exact hinj _ _ b hs ht

/-- The value of a row of at least one element. -/
theorem Rep.up_form {w : World} {L : Lay} {F : FS} (h : Rep w L F) (hn : 0 < F.up.length) : ∃ g c, L.vu = .slice (some ⟨g, 0, none⟩) F.up.length c := by
  obtain ⟨g, c, hv, _⟩ := h.up.form hn; exact ⟨g, c, hv⟩
theorem Rep.size_form {w : World} {L : Lay} {F : FS} (h : Rep w L F) (hn : 0 < F.size.length) : ∃ g c, L.vs = .slice (some ⟨g, 0, none⟩) F.size.length c := by
  obtain ⟨g, c, hv, _⟩ := h.size.form hn; exact ⟨g, c, hv⟩
theorem Rep.joints_form {w : World} {L : Lay} {F : FS} (h : Rep w L F) (hn : 0 < F.joints.length) : ∃ g c, L.vj = .slice (some ⟨g, 0, none⟩) F.joints.length c := by
  obtain ⟨g, c, hv, _⟩ := h.joints.form hn; exact ⟨g, c, hv⟩
theorem own_form {w : World} {e : TypeId} {size n : Nat} {v : Value} {xs : List Value} (h : w.ownsRow 0 e size v n xs) : ∃ A c, v = .slice A n c := by
  rcases h.2 with ⟨h1, h2⟩ | ⟨g, c, _, h1, _⟩
  · exact ⟨_, _, by rw [h1, h2]⟩
  · exact ⟨_, _, h1⟩

theorem Rep.others {w : World} {L : Lay} {F : FS} (h : Rep w L F) {row : Option Nat} (s0 : Nat) (hr : ∀ k, row = some k → L.slot s0 = some k) :
    ∀ (v : Value) s, L.slot s = v.ownBlock → s ≠ s0 → v.ownBlock = none ∨ v.ownBlock ≠ row := fun v s hs h1 => by
  cases e : v.ownBlock with
  | none => exact .inl rfl
  | some b => exact .inr fun e' => h1 (h.inj s s0 b (hs.trans e) (hr b e'.symm))

/-- Another value in a row's header: the row grown, or a new one. -/
theorem Rep.new_up {w w1 : World} {L : Lay} {F : FS} (h : Rep w L F) {l : List Nat} {v : Value} {g : Nat} (hg : w.grownBy w1 L.vu.ownBlock) (ho : w1.ownsRow 0 3 1 v l.length (upCells l)) (hv : v.ownBlock = some g) (hb : L.vu.ownBlock = some g ∨ w.heap.size ≤ g) :
    Rep (w1.setCell ⟨L.p, 0, none⟩ v) { L with vu := v } { F with up := l } ∧ Moves w (w1.setCell ⟨L.p, 0, none⟩ v) L { L with vu := v } := by
  have hk := h.others 1 (fun k hk => hk)
  have hp : w1.heap[L.p]? = some (.cells #[L.vu, L.vs, L.vj] 66 (0, 0)) := (hg.block _ (Array.getElem?_eq_some_iff.1 h.head).1 fun e => absurd (h.inj 0 1 L.p rfl e.symm) (by omega)).trans h.head
  have hg2 : w1.grownBy (w1.setCell ⟨L.p, 0, none⟩ v) (some L.p) := ⟨rfl, rfl, rfl, by simp, fun k _ hk => heap_setCell_other w1 ⟨L.p, 0, none⟩ k v (fun e => hk (by simp [e]))⟩
  have hne : ∀ (u : Value) s, L.slot s = u.ownBlock → s ≠ 0 → u.ownBlock = none ∨ u.ownBlock ≠ some L.p := fun u s hs h0 => by
    cases e : u.ownBlock with
    | none => exact .inl rfl
    | some b => exact .inr fun e' => h0 (h.inj s 0 b (hs.trans e) (by cases e'; rfl))
  have hvp : v.ownBlock = none ∨ v.ownBlock ≠ some L.p := .inr fun e => by
    rw [hv] at e; cases e
    rcases hb with hb | hb
    · exact absurd (h.inj 0 1 L.p rfl hb) (by omega)
    · have := (Array.getElem?_eq_some_iff.1 h.head).1; omega
  refine ⟨⟨?_, ho.kept hg2 hvp, (h.size.kept hg (hk _ 2 rfl (by omega))).kept hg2 (hne _ 2 rfl (by omega)), (h.joints.kept hg (hk _ 3 rfl (by omega))).kept hg2 (hne _ 3 rfl (by omega)),
    fun i v l hi hl => ((h.each i v l hi hl).kept hg (hk _ (i + 4) (by simp only [Lay.slot, hi]; rfl) (by omega))).kept hg2 (hne _ (i + 4) (by simp only [Lay.slot, hi]; rfl) (by omega)), ?_⟩, ?_, ?_, rfl⟩
  · rw [heap_setCell_same w1 L.p 0 _ 66 v hp]; simp
  · refine inj_put (s0 := 1) h.inj (fun s hs => ?_) (fun b hb' => ?_)
    · rcases s with _ | _ | _ | _ | s <;> first | rfl | (exact absurd rfl hs)
    · have e : g = b := by simpa [Lay.slot, hv] using hb'
      subst e
      rcases hb with hb | hb
      · exact .inl hb
      · exact .inr fun s hs => absurd (h.lt ⟨s, hs⟩) (by omega)
  · have h1 : Fr L.Has w w1 := Fr.of_grown hg (fun k hk => ⟨1, hk⟩)
    exact h1.trans (Fr.of_grown (M := L.Has) hg2 (fun k hk => ⟨0, by cases hk; rfl⟩)) (fun x hx => .inl hx)
  · rintro b ⟨s, hs⟩
    rcases s with _ | _ | _ | _ | s
    · exact .inl ⟨0, hs⟩
    · have e : g = b := by simpa [Lay.slot, hv] using hs
      subst e
      exact hb.imp (fun h => ⟨1, h⟩) id
    · exact .inl ⟨2, hs⟩
    · exact .inl ⟨3, hs⟩
    · exact .inl ⟨s + 4, hs⟩

/-- Another value in a row's header: the row grown, or a new one. -/
theorem Rep.new_size {w w1 : World} {L : Lay} {F : FS} (h : Rep w L F) {l : List Int} {v : Value} {g : Nat} (hg : w.grownBy w1 L.vs.ownBlock) (ho : w1.ownsRow 0 3 1 v l.length (sizeCells l)) (hv : v.ownBlock = some g) (hb : L.vs.ownBlock = some g ∨ w.heap.size ≤ g) :
    Rep (w1.setCell ⟨L.p, 1, none⟩ v) { L with vs := v } { F with size := l } ∧ Moves w (w1.setCell ⟨L.p, 1, none⟩ v) L { L with vs := v } := by
  have hk := h.others 2 (fun k hk => hk)
  have hp : w1.heap[L.p]? = some (.cells #[L.vu, L.vs, L.vj] 66 (0, 0)) := (hg.block _ (Array.getElem?_eq_some_iff.1 h.head).1 fun e => absurd (h.inj 0 2 L.p rfl e.symm) (by omega)).trans h.head
  have hg2 : w1.grownBy (w1.setCell ⟨L.p, 1, none⟩ v) (some L.p) := ⟨rfl, rfl, rfl, by simp, fun k _ hk => heap_setCell_other w1 ⟨L.p, 1, none⟩ k v (fun e => hk (by simp [e]))⟩
  have hne : ∀ (u : Value) s, L.slot s = u.ownBlock → s ≠ 0 → u.ownBlock = none ∨ u.ownBlock ≠ some L.p := fun u s hs h0 => by
    cases e : u.ownBlock with
    | none => exact .inl rfl
    | some b => exact .inr fun e' => h0 (h.inj s 0 b (hs.trans e) (by cases e'; rfl))
  have hvp : v.ownBlock = none ∨ v.ownBlock ≠ some L.p := .inr fun e => by
    rw [hv] at e; cases e
    rcases hb with hb | hb
    · exact absurd (h.inj 0 2 L.p rfl hb) (by omega)
    · have := (Array.getElem?_eq_some_iff.1 h.head).1; omega
  refine ⟨⟨?_, (h.up.kept hg (hk _ 1 rfl (by omega))).kept hg2 (hne _ 1 rfl (by omega)), ho.kept hg2 hvp, (h.joints.kept hg (hk _ 3 rfl (by omega))).kept hg2 (hne _ 3 rfl (by omega)),
    fun i v l hi hl => ((h.each i v l hi hl).kept hg (hk _ (i + 4) (by simp only [Lay.slot, hi]; rfl) (by omega))).kept hg2 (hne _ (i + 4) (by simp only [Lay.slot, hi]; rfl) (by omega)), ?_⟩, ?_, ?_, rfl⟩
  · rw [heap_setCell_same w1 L.p 1 _ 66 v hp]; simp
  · refine inj_put (s0 := 2) h.inj (fun s hs => ?_) (fun b hb' => ?_)
    · rcases s with _ | _ | _ | _ | s <;> first | rfl | (exact absurd rfl hs)
    · have e : g = b := by simpa [Lay.slot, hv] using hb'
      subst e
      rcases hb with hb | hb
      · exact .inl hb
      · exact .inr fun s hs => absurd (h.lt ⟨s, hs⟩) (by omega)
  · have h1 : Fr L.Has w w1 := Fr.of_grown hg (fun k hk => ⟨2, hk⟩)
    exact h1.trans (Fr.of_grown (M := L.Has) hg2 (fun k hk => ⟨0, by cases hk; rfl⟩)) (fun x hx => .inl hx)
  · rintro b ⟨s, hs⟩
    rcases s with _ | _ | _ | _ | s
    · exact .inl ⟨0, hs⟩
    · exact .inl ⟨1, hs⟩
    · have e : g = b := by simpa [Lay.slot, hv] using hs
      subst e
      exact hb.imp (fun h => ⟨2, h⟩) id
    · exact .inl ⟨3, hs⟩
    · exact .inl ⟨s + 4, hs⟩

/-- A further member's joints: none yet. -/
theorem Rep.new_joints {w w1 : World} {L : Lay} {F : FS} (h : Rep w L F) {v : Value} {g : Nat} (hg : w.grownBy w1 L.vj.ownBlock) (ho : w1.ownsRow 0 69 1 v (F.joints.length + 1) (L.js ++ [.slice none 0 0])) (hv : v.ownBlock = some g) (hb : L.vj.ownBlock = some g ∨ w.heap.size ≤ g) :
    Rep (w1.setCell ⟨L.p, 2, none⟩ v) { L with vj := v, js := L.js ++ [.slice none 0 0] } { F with joints := F.joints ++ [[]] } ∧ Moves w (w1.setCell ⟨L.p, 2, none⟩ v) L { L with vj := v, js := L.js ++ [.slice none 0 0] } := by
  have hk := h.others 3 (fun k hk => hk)
  have hp : w1.heap[L.p]? = some (.cells #[L.vu, L.vs, L.vj] 66 (0, 0)) := (hg.block _ (Array.getElem?_eq_some_iff.1 h.head).1 fun e => absurd (h.inj 0 3 L.p rfl e.symm) (by omega)).trans h.head
  have hg2 : w1.grownBy (w1.setCell ⟨L.p, 2, none⟩ v) (some L.p) := ⟨rfl, rfl, rfl, by simp, fun k _ hk => heap_setCell_other w1 ⟨L.p, 2, none⟩ k v (fun e => hk (by simp [e]))⟩
  have hne : ∀ (u : Value) s, L.slot s = u.ownBlock → s ≠ 0 → u.ownBlock = none ∨ u.ownBlock ≠ some L.p := fun u s hs h0 => by
    cases e : u.ownBlock with
    | none => exact .inl rfl
    | some b => exact .inr fun e' => h0 (h.inj s 0 b (hs.trans e) (by cases e'; rfl))
  have hvp : v.ownBlock = none ∨ v.ownBlock ≠ some L.p := .inr fun e => by
    rw [hv] at e; cases e
    rcases hb with hb | hb
    · exact absurd (h.inj 0 3 L.p rfl hb) (by omega)
    · have := (Array.getElem?_eq_some_iff.1 h.head).1; omega
  have hslot : ∀ s, s ≠ 3 → Lay.slot { L with vj := v, js := L.js ++ [.slice none 0 0] } s = L.slot s := fun s hs => by
    rcases s with _ | _ | _ | _ | s
    · rfl
    · rfl
    · rfl
    · exact absurd rfl hs
    · simp only [Lay.slot]
      rcases Nat.lt_or_ge s L.js.length with h1 | h1
      · rw [List.getElem?_append_left h1]
      · rw [List.getElem?_eq_none h1]
        rcases Nat.eq_or_lt_of_le h1 with h2 | h2
        · rw [← h2, List.getElem?_append_right (Nat.le_refl _)]; simp [Value.ownBlock]
        · rw [List.getElem?_eq_none (by simp; omega)]
  refine ⟨⟨?_, (h.up.kept hg (hk _ 1 rfl (by omega))).kept hg2 (hne _ 1 rfl (by omega)), (h.size.kept hg (hk _ 2 rfl (by omega))).kept hg2 (hne _ 2 rfl (by omega)), ?_, fun i v l hi hl => ?_, ?_⟩, ?_, ?_, rfl⟩
  · rw [heap_setCell_same w1 L.p 2 _ 66 v hp]; simp
  · show World.ownsRow _ 0 69 1 v (F.joints ++ [[]]).length _
    rw [List.length_append]
    exact ho.kept hg2 hvp
  · have hjl := h.js_len
    rcases Nat.lt_or_ge i L.js.length with h1 | h1
    · have hi' : L.js[i]? = some v := by rw [← hi, List.getElem?_append_left h1]
      have hl' : F.joints[i]? = some l := by rw [← hl, List.getElem?_append_left (by omega)]
      exact ((h.each i v l hi' hl').kept hg (hk _ (i + 4) (by simp only [Lay.slot, hi']; rfl) (by omega))).kept hg2 (hne _ (i + 4) (by simp only [Lay.slot, hi']; rfl) (by omega))
    · have hi2 : i = L.js.length := by
        have := (List.getElem?_eq_some_iff.1 hi).1
        simp at this; omega
      subst hi2
      rw [List.getElem?_append_right (Nat.le_refl _)] at hi
      rw [hjl, List.getElem?_append_right (Nat.le_refl _)] at hl
      simp at hi hl
      subst hi hl
      exact World.ownsRow_nil _ _ _ _
  · refine inj_put (s0 := 3) h.inj hslot (fun b hb' => ?_)
    have e : g = b := by simpa [Lay.slot, hv] using hb'
    subst e
    rcases hb with hb | hb
    · exact .inl hb
    · exact .inr fun s hs => absurd (h.lt ⟨s, hs⟩) (by omega)
  · have h1 : Fr L.Has w w1 := Fr.of_grown hg (fun k hk => ⟨3, hk⟩)
    exact h1.trans (Fr.of_grown (M := L.Has) hg2 (fun k hk => ⟨0, by cases hk; rfl⟩)) (fun x hx => .inl hx)
  · rintro b ⟨s, hs⟩
    by_cases h3 : s = 3
    · subst h3
      have e : g = b := by simpa [Lay.slot, hv] using hs
      subst e
      exact hb.imp (fun h => ⟨3, h⟩) id
    · rw [hslot s h3] at hs
      exact .inl ⟨s, hs⟩

/-- A store into the row 'up'. -/
theorem Rep.set_up {w : World} {L : Lay} {F : FS} (h : Rep w L F) {g c : Nat} (hv : L.vu = .slice (some ⟨g, 0, none⟩) F.up.length c) (i x : Nat) :
    Rep (w.setCell ⟨g, i, none⟩ (.int .i64 x)) L { F with up := F.up.set i x } ∧ Moves w (w.setCell ⟨g, i, none⟩ (.int .i64 x)) L L := by
  have ho := h.up
  rw [hv] at ho
  obtain ⟨h1, hg⟩ := ho.stored i (.int .i64 x)
  have hb : L.slot 1 = some g := by simp [Lay.slot, hv, Value.ownBlock]
  have hk := h.others (row := some g) 1 (fun k hk => hb.trans hk)
  refine ⟨⟨?_, ?_, h.size.kept hg (hk _ 2 rfl (by omega)), h.joints.kept hg (hk _ 3 rfl (by omega)), fun i v l hi hl => (h.each i v l hi hl).kept hg (hk _ (i + 4) (by simp only [Lay.slot, hi]; rfl) (by omega)), h.inj⟩,
    Fr.of_grown hg (fun k hk => ⟨1, by cases hk; exact hb⟩), fun _ h => .inl h, rfl⟩
  · exact (hg.block _ (Array.getElem?_eq_some_iff.1 h.head).1 fun e => absurd (h.inj 0 1 L.p rfl (by cases e; exact hb)) (by omega)).trans h.head
  · show World.ownsRow _ 0 3 1 L.vu (F.up.set i x).length _
    rw [List.length_set, hv]
    have e : upCells (F.up.set i x) = (upCells F.up).set i (.int .i64 x) := by simp [upCells, List.map_set]
    rw [e]; exact h1

/-- A store into the row 'size'. -/
theorem Rep.set_size {w : World} {L : Lay} {F : FS} (h : Rep w L F) {g c : Nat} (hv : L.vs = .slice (some ⟨g, 0, none⟩) F.size.length c) (i : Nat) (x : Int) :
    Rep (w.setCell ⟨g, i, none⟩ (.int .i64 x)) L { F with size := F.size.set i x } ∧ Moves w (w.setCell ⟨g, i, none⟩ (.int .i64 x)) L L := by
  have ho := h.size
  rw [hv] at ho
  obtain ⟨h1, hg⟩ := ho.stored i (.int .i64 x)
  have hb : L.slot 2 = some g := by simp [Lay.slot, hv, Value.ownBlock]
  have hk := h.others (row := some g) 2 (fun k hk => hb.trans hk)
  refine ⟨⟨?_, h.up.kept hg (hk _ 1 rfl (by omega)), ?_, h.joints.kept hg (hk _ 3 rfl (by omega)), fun i v l hi hl => (h.each i v l hi hl).kept hg (hk _ (i + 4) (by simp only [Lay.slot, hi]; rfl) (by omega)), h.inj⟩,
    Fr.of_grown hg (fun k hk => ⟨2, by cases hk; exact hb⟩), fun _ h => .inl h, rfl⟩
  · exact (hg.block _ (Array.getElem?_eq_some_iff.1 h.head).1 fun e => absurd (h.inj 0 2 L.p rfl (by cases e; exact hb)) (by omega)).trans h.head
  · show World.ownsRow _ 0 3 1 L.vs (F.size.set i x).length _
    rw [List.length_set, hv]
    have e : sizeCells (F.size.set i x) = (sizeCells F.size).set i (.int .i64 x) := by simp [sizeCells, List.map_set]
    rw [e]; exact h1

/-- A further joint of member a: its row grown, or a new one; the value stored into the row of rows. -/
theorem Rep.push_joint {w w1 : World} {L : Lay} {F : FS} (h : Rep w L F) {gj c a : Nat} (hj : L.vj = .slice (some ⟨gj, 0, none⟩) F.joints.length c) {u v : Value} {l l' : List JT} {g : Nat} (hu : L.js[a]? = some u)
    (hg : w.grownBy w1 u.ownBlock) (ho : w1.ownsRow 0 71 3 v l'.length (jointCells l')) (hv : v.ownBlock = some g) (hb : u.ownBlock = some g ∨ w.heap.size ≤ g) (_hl : F.joints[a]? = some l) :
    Rep (w1.setCell ⟨gj, a, none⟩ v) { L with js := L.js.set a v } { F with joints := F.joints.set a l' } ∧ Moves w (w1.setCell ⟨gj, a, none⟩ v) L { L with js := L.js.set a v } := by
  have hslota : L.slot (a + 4) = u.ownBlock := by simp only [Lay.slot, hu]; rfl
  have hal : a < L.js.length := (List.getElem?_eq_some_iff.1 hu).1
  have hk := h.others (a + 4) (fun k hk => hslota.trans hk)
  have hb3 : L.slot 3 = some gj := by simp [Lay.slot, hj, Value.ownBlock]
  have hj1 := h.joints.kept hg (hk _ 3 rfl (by omega))
  rw [hj] at hj1
  obtain ⟨hj2, hg2⟩ := hj1.stored a v
  have hne : ∀ (u : Value) s, L.slot s = u.ownBlock → s ≠ 3 → u.ownBlock = none ∨ u.ownBlock ≠ some gj := fun u s hs h0 => by
    cases e : u.ownBlock with
    | none => exact .inl rfl
    | some b => exact .inr fun e' => h0 (h.inj s 3 b (hs.trans e) (by cases e'; exact hb3))
  have hvp : v.ownBlock = none ∨ v.ownBlock ≠ some gj := .inr fun e => by
    rw [hv] at e; cases e
    rcases hb with hb | hb
    · exact absurd (h.inj 3 (a + 4) _ hb3 (hslota.trans hb)) (by omega)
    · have := h.lt ⟨3, hb3⟩; omega
  have hslot : ∀ s, s ≠ a + 4 → Lay.slot { L with js := L.js.set a v } s = L.slot s := fun s hs => by
    rcases s with _ | _ | _ | _ | s
    · rfl
    · rfl
    · rfl
    · rfl
    · simp only [Lay.slot]
      rw [List.getElem?_set_ne (by omega)]
  have hslot' : Lay.slot { L with js := L.js.set a v } (a + 4) = some g := by
    simp only [Lay.slot]
    rw [List.getElem?_set_self hal]
    exact hv
  refine ⟨⟨?_, (h.up.kept hg (hk _ 1 rfl (by omega))).kept hg2 (hne _ 1 rfl (by omega)), (h.size.kept hg (hk _ 2 rfl (by omega))).kept hg2 (hne _ 2 rfl (by omega)), ?_, fun i v' m hi hl => ?_, ?_⟩, ?_, ?_, rfl⟩
  · refine (hg2.block _ ?_ fun e => absurd (h.inj 0 3 L.p rfl (by cases e; exact hb3)) (by omega)).trans
      ((hg.block _ (Array.getElem?_eq_some_iff.1 h.head).1 fun e => absurd (h.inj 0 (a + 4) L.p rfl (hslota.trans e.symm)) (by omega)).trans h.head)
    exact Nat.lt_of_lt_of_le (Array.getElem?_eq_some_iff.1 h.head).1 hg.size
  · show World.ownsRow _ 0 69 1 L.vj (F.joints.set a l').length _
    rw [List.length_set, hj]; exact hj2
  · by_cases hia : i = a
    · subst hia
      rw [List.getElem?_set_self hal] at hi
      cases hi
      rw [List.getElem?_set_self (by rw [← h.js_len]; exact hal)] at hl
      cases hl
      exact ho.kept hg2 hvp
    · rw [List.getElem?_set_ne (by omega)] at hi hl
      exact ((h.each i v' m hi hl).kept hg (hk _ (i + 4) (by simp only [Lay.slot, hi]; rfl) (by omega))).kept hg2 (hne _ (i + 4) (by simp only [Lay.slot, hi]; rfl) (by omega))
  · refine inj_put (s0 := a + 4) h.inj hslot (fun b hb' => ?_)
    rw [hslot'] at hb'
    cases hb'
    rcases hb with hb | hb
    · exact .inl (hslota.trans hb)
    · exact .inr fun s hs => absurd (h.lt ⟨s, hs⟩) (by omega)
  · have h1 : Fr L.Has w w1 := Fr.of_grown hg (fun k hk => ⟨a + 4, hslota.trans hk⟩)
    exact h1.trans (Fr.of_grown (M := L.Has) hg2 (fun k hk => ⟨3, by cases hk; exact hb3⟩)) (fun x hx => .inl hx)
  · rintro b ⟨s, hs⟩
    by_cases h3 : s = a + 4
    · subst h3
      rw [hslot'] at hs
      cases hs
      exact hb.imp (fun h => ⟨a + 4, hslota.trans h⟩) id
    · rw [hslot s h3] at hs
      exact .inl ⟨s, hs⟩

/-- The cells that are read. -/
theorem Rep.cells {w : World} {L : Lay} {F : FS} (h : Rep w L F) : w.cell? ⟨L.p, 0, none⟩ = some L.vu ∧ w.cell? ⟨L.p, 1, none⟩ = some L.vs ∧ w.cell? ⟨L.p, 2, none⟩ = some L.vj := by
  refine ⟨?_, ?_, ?_⟩ <;> simp [World.cell?, h.head]
theorem Rep.unfrozen {w : World} {L : Lay} {F : FS} (h : Rep w L F) (i : Nat) : w.frozen? ⟨L.p, i, none⟩ = false := by
  simp [World.frozen?, h.head]
theorem Rep.up_cell {w : World} {L : Lay} {F : FS} (h : Rep w L F) {g c : Nat} (hv : L.vu = .slice (some ⟨g, 0, none⟩) F.up.length c) {i : Nat} (hi : i < F.up.length) :
    w.cell? ⟨g, i, none⟩ = some (.int .i64 ((F.up.getD i 0 : Nat) : Int)) ∧ w.frozen? ⟨g, i, none⟩ = false := by
  have ho := h.up
  rw [hv] at ho
  refine ⟨?_, ho.frozenAt i⟩
  rw [ho.cellAt i (by omega)]
  simp [upCells, hi]
theorem Rep.size_cell {w : World} {L : Lay} {F : FS} (h : Rep w L F) {g c : Nat} (hv : L.vs = .slice (some ⟨g, 0, none⟩) F.size.length c) {i : Nat} (hi : i < F.size.length) :
    w.cell? ⟨g, i, none⟩ = some (.int .i64 (F.size.getD i 0)) ∧ w.frozen? ⟨g, i, none⟩ = false := by
  have ho := h.size
  rw [hv] at ho
  refine ⟨?_, ho.frozenAt i⟩
  rw [ho.cellAt i (by omega)]
  simp [sizeCells, hi]
theorem Rep.joints_cell {w : World} {L : Lay} {F : FS} (h : Rep w L F) {g c : Nat} (hv : L.vj = .slice (some ⟨g, 0, none⟩) F.joints.length c) {i : Nat} (hi : i < F.joints.length) :
    w.cell? ⟨g, i, none⟩ = L.js[i]? ∧ w.frozen? ⟨g, i, none⟩ = false := by
  have ho := h.joints
  rw [hv] at ho
  exact ⟨ho.cellAt i (by omega), ho.frozenAt i⟩

end Go.Proofs.Ytkgmhkjiblanmaa
