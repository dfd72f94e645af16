/-
  Plain laws: a forest's joints, in the order in which they were made; no ring among them.
-/
import Derived.Test.YtkgmhkjiblanmaaFe
namespace Go.Proofs.Ytkgmhkjiblanmaa
open Go.RowKit

/-- A joint that was made. -/
structure Ed where
  a : Nat
  b : Nat
  why : Value

/-- What a joint leaves at member k. -/
def stub (k : Nat) (e : Ed) : List JT := if e.a = k then [⟨e.b, e.why, false⟩] else if e.b = k then [⟨e.a, e.why, true⟩] else []

/-- Joints, each between two groups; 'rt' names the groups. -/
inductive Wood (n : Nat) : List Ed → (Nat → Nat) → Prop
  | nil : Wood n [] (fun i => i)
  | snoc {es : List Ed} {rt : Nat → Nat} {a b x y : Nat} {why : Value} : Wood n es rt → a < n → b < n → rt a ≠ rt b → ((x = rt a ∧ y = rt b) ∨ (x = rt b ∧ y = rt a)) → Wood n (es ++ [⟨a, b, why⟩]) (join rt x y)

theorem Wood.more {n : Nat} {es : List Ed} {rt : Nat → Nat} (h : Wood n es rt) : Wood (n + 1) es rt := by
  induction h with
  | nil => exact .nil
  | snoc _ ha hb hne hor ih => exact .snoc ih (by omega) (by omega) hne hor

theorem ends {n a b x y : Nat} {rt : Nat → Nat} (hor : (x = rt a ∧ y = rt b) ∨ (x = rt b ∧ y = rt a)) (ha : a < n) (hb : b < n) (hne : rt a ≠ rt b) (h2 : ∀ i, i < n → rt i < n) (h3 : ∀ i, rt (rt i) = rt i) :
    (x < n ∧ rt x = x) ∧ (y < n ∧ rt y = y) ∧ x ≠ y := by
  rcases hor with ⟨rfl, rfl⟩ | ⟨rfl, rfl⟩
  · exact ⟨⟨h2 _ ha, h3 _⟩, ⟨h2 _ hb, h3 _⟩, hne⟩
  · exact ⟨⟨h2 _ hb, h3 _⟩, ⟨h2 _ ha, h3 _⟩, fun e => hne e.symm⟩

/-- What stands alone beyond the members; each group's name is a member of it. -/
theorem Wood.facts {n : Nat} {es : List Ed} {rt : Nat → Nat} (h : Wood n es rt) : (∀ i, n ≤ i → rt i = i) ∧ (∀ i, i < n → rt i < n) ∧ ∀ i, rt (rt i) = rt i := by
  induction h with
  | nil => exact ⟨fun _ _ => rfl, fun _ h => h, fun _ => rfl⟩
  | @snoc es rt a b x y why _ ha hb hne hor ih =>
    obtain ⟨h1, h2, h3⟩ := ih
    obtain ⟨hx, hy, hxy⟩ := ends hor ha hb hne h2 h3
    refine ⟨fun i hi => ?_, fun i hi => ?_, fun i => ?_⟩
    · unfold join; rw [h1 i hi, if_neg (by omega)]
    · unfold join; split
      · exact hx.1
      · exact h2 i hi
    · unfold join
      by_cases e : rt i = y
      · rw [if_pos e, hx.2, if_neg hxy]
      · rw [if_neg e, h3, if_neg e]

def roots (rt : Nat → Nat) (n : Nat) : Nat := (List.range n).countP fun i => rt i == i

theorem countP_less {p q : Nat → Bool} : ∀ (l : List Nat) (y : Nat), (∀ i, p i = true → q i = true) → y ∈ l → q y = true → p y = false → l.countP p + 1 ≤ l.countP q
  | [], y, _, hy, _, _ => by cases hy
  | x :: l, y, hpq, hy, hq, hp => by
    have hmono : l.countP p ≤ l.countP q := List.countP_mono_left fun i _ => hpq i
    rw [List.countP_cons, List.countP_cons]
    rcases List.mem_cons.1 hy with rfl | hy'
    · rw [hp, hq]; simp; exact hmono
    · have := countP_less l y hpq hy' hq hp
      by_cases hx : p x = true
      · rw [hx, hpq x hx]; simp; omega
      · have : p x = false := by simpa using hx
        rw [this]; simp; split <;> omega

theorem Wood.count {n : Nat} {es : List Ed} {rt : Nat → Nat} (h : Wood n es rt) : es.length + roots rt n ≤ n := by
  induction h with
  | nil => unfold roots; simp
  | @snoc es rt a b x y why hw ha hb hne hor ih =>
    obtain ⟨h1, h2, h3⟩ := hw.facts
    obtain ⟨hx, hy, hxy⟩ := ends hor ha hb hne h2 h3
    have : roots (join rt x y) n + 1 ≤ roots rt n := by
      unfold roots
      refine countP_less _ y (fun i hi => ?_) (by simp [hy.1]) (by simp [hy.2]) ?_
      · simp only [join, beq_iff_eq] at hi ⊢
        split at hi
        · rename_i e; subst hi; exact hx.2
        · exact hi
      · simp [join, hy.2, hxy]
    rw [List.length_append]
    simp only [List.length_cons, List.length_nil]
    omega

/-- What holds of every forest that the program makes. -/
structure Good (F : FS) (rt m : Nat → Nat) (es : List Ed) : Prop where
  even : Even F
  tree : Tree F.up rt m
  wood : Wood F.up.length es rt
  joints : F.joints = (List.range F.up.length).map fun k => es.flatMap (stub k)

theorem stubs_le (k : Nat) : ∀ es : List Ed, (es.flatMap (stub k)).length ≤ es.length
  | [] => Nat.le_refl _
  | e :: es => by
    rw [List.flatMap_cons, List.length_append, List.length_cons]
    have := stubs_le k es
    have h1 : (stub k e).length ≤ 1 := by unfold stub; split; · exact Nat.le_refl _
                                          · split <;> simp
    omega

theorem Good.joints_at {F : FS} {rt m : Nat → Nat} {es : List Ed} (h : Good F rt m es) {k : Nat} (hk : k < F.up.length) : F.joints[k]? = some (es.flatMap (stub k)) := by
  rw [h.joints]; simp [hk]

theorem Good.rows {F : FS} {rt m : Nat → Nat} {es : List Ed} (h : Good F rt m es) : ∀ (k : Nat) (l : List JT), F.joints[k]? = some l → l.length < 1048576 := by
  intro k l hl
  have hk : k < F.up.length := by
    have := (List.getElem?_eq_some_iff.1 hl).1
    rw [h.even.joints] at this; exact this
  rw [h.joints_at hk] at hl
  cases hl
  have h1 := stubs_le k es
  have h2 := h.wood.count
  have h3 := h.even.most
  have h4 : 0 < roots rt F.up.length := by
    unfold roots
    refine List.countP_pos_iff.2 ⟨rt k, ?_, ?_⟩
    · simpa using h.wood.facts.2.1 k hk
    · simpa using h.wood.facts.2.2 k
  omega

theorem good0 : Good fs0 (fun i => i) (fun _ => 0) [] :=
  ⟨⟨rfl, rfl, by decide⟩, ⟨fun i hi => by simp [fs0] at hi, fun i hi => by simp [fs0] at hi, fun i hi => by simp [fs0] at hi, fun i hi => by simp [fs0] at hi⟩, .nil, rfl⟩

theorem Good.add {F : FS} {rt m : Nat → Nat} {es : List Ed} (h : Good F rt m es) (hn : F.up.length < 1048576) : Good ⟨F.up ++ [F.up.length], F.size ++ [1], F.joints ++ [[]]⟩ rt m es := by
  have hat : ∀ i, i < F.up.length → (F.up ++ [F.up.length]).getD i 0 = F.up.getD i 0 := fun i hi => by
    simp [List.getD_eq_getElem?_getD, List.getElem?_append_left hi]
  have hat' : (F.up ++ [F.up.length]).getD F.up.length 0 = F.up.length := by simp [List.getD_eq_getElem?_getD]
  have hrt := h.wood.facts.1
  refine ⟨even_add h.even hn, ⟨fun i hi => ?_, fun i hi e => ?_, fun i hi => ?_, fun i hi e => ?_⟩, ?_, ?_⟩
  · simp only [List.length_append, List.length_cons, List.length_nil] at hi ⊢
    rcases Nat.lt_or_ge i F.up.length with h1 | h1
    · rw [hat i h1]; have := h.tree.lt i h1; omega
    · have : i = F.up.length := by omega
      subst this; rw [hat']; omega
  · simp only [List.length_append, List.length_cons, List.length_nil] at hi
    rcases Nat.lt_or_ge i F.up.length with h1 | h1
    · rw [hat i h1] at e; exact h.tree.root i h1 e
    · exact hrt i h1
  · simp only [List.length_append, List.length_cons, List.length_nil] at hi
    rcases Nat.lt_or_ge i F.up.length with h1 | h1
    · rw [hat i h1]; exact h.tree.step i h1
    · have : i = F.up.length := by omega
      subst this; rw [hat']
  · simp only [List.length_append, List.length_cons, List.length_nil] at hi
    rcases Nat.lt_or_ge i F.up.length with h1 | h1
    · rw [hat i h1] at e ⊢; exact h.tree.falls i h1 e
    · have : i = F.up.length := by omega
      subst this; exact absurd hat' e
  · simp only [List.length_append, List.length_cons, List.length_nil]
    exact h.wood.more
  · show F.joints ++ [[]] = _
    simp only [List.length_append, List.length_cons, List.length_nil]
    rw [List.range_succ, List.map_append, ← h.joints]
    congr 1
    have hnone : es.flatMap (stub F.up.length) = [] := by
      have hw := h.wood
      generalize F.up.length = n at hw
      clear h hat hat' hrt hn
      induction hw with
      | nil => rfl
      | @snoc es rt a b x y why _ ha hb _ _ ih =>
        rw [List.flatMap_append, ih, List.flatMap_cons, List.flatMap_nil]
        unfold stub
        rw [if_neg (by dsimp only; omega), if_neg (by dsimp only; omega)]
        rfl
    simp [hnone]

theorem Good.same {F F' : FS} {rt m : Nat → Nat} {es : List Ed} (h : Good F rt m es) (hs : Same F F' rt m) : Good F' rt m es := by
  obtain ⟨h1, h2, h3, h4⟩ := hs
  exact ⟨⟨by rw [h1, h3]; exact h.even.size, by rw [h2, h3]; exact h.even.joints, by rw [h3]; exact h.even.most⟩, h4, by rw [h3]; exact h.wood, by rw [h2, h3]; exact h.joints⟩

theorem Good.joined {L : Lay} {F : FS} {rt m : Nat → Nat} {es : List Ed} {a b : Nat} {why : Value} {w w' : World} (h : Good F rt m es) (ha : a < F.up.length) (hb : b < F.up.length) (hne : rt a ≠ rt b) (hj : Joined L F rt m a b why w w') :
    ∃ L' F' x y, ((x = rt a ∧ y = rt b) ∨ (x = rt b ∧ y = rt a)) ∧ Rep w' L' F' ∧ Moves w w' L L' ∧ F'.up.length = F.up.length ∧ Good F' (join rt x y) (joinM rt m x y) (es ++ [⟨a, b, why⟩]) := by
  obtain ⟨L', F', x, y, hor, hr, hm, hl, hs, ht, hJ⟩ := hj
  refine ⟨L', F', x, y, hor, hr, hm, hl, ⟨⟨by omega, ?_, by rw [hl]; exact h.even.most⟩, ht, by rw [hl]; exact .snoc h.wood ha hb hne hor, ?_⟩⟩
  · rw [hJ, List.length_set, List.length_set, h.even.joints, hl]
  · have hab : a ≠ b := fun e => hne (by rw [e])
    rw [hJ, hl]
    apply List.ext_getElem?
    intro k
    rcases Nat.lt_or_ge k F.up.length with hk | hk
    · have hga : F.joints.getD a [] = es.flatMap (stub a) := by rw [List.getD_eq_getElem?_getD, h.joints_at ha]; rfl
      have hgb : F.joints.getD b [] = es.flatMap (stub b) := by rw [List.getD_eq_getElem?_getD, h.joints_at hb]; rfl
      rw [hga, hgb]
      have hr2 : ((List.range F.up.length).map fun k => (es ++ [(⟨a, b, why⟩ : Ed)]).flatMap (stub k))[k]? = some (es.flatMap (stub k) ++ stub k ⟨a, b, why⟩) := by
        simp [hk]
      rw [hr2]
      by_cases hkb : k = b
      · subst hkb
        rw [List.getElem?_set_self (by rw [List.length_set, h.even.joints]; exact hk)]
        simp [stub, hab]
      · rw [List.getElem?_set_ne (fun e => hkb e.symm)]
        by_cases hka : k = a
        · subst hka
          rw [List.getElem?_set_self (by rw [h.even.joints]; exact hk)]
          simp [stub]
        · rw [List.getElem?_set_ne (fun e => hka e.symm), h.joints_at hk]
          have e : stub k (⟨a, b, why⟩ : Ed) = [] := by
            unfold stub
            rw [if_neg (fun e => hka e.symm), if_neg (fun e => hkb e.symm)]
          rw [e, List.append_nil]
    · rw [List.getElem?_eq_none (by rw [List.length_set, List.length_set, h.even.joints]; exact hk), List.getElem?_eq_none (by simpa using hk)]

/-- Joined or not: a forest that the program makes, again. -/
def Next (L : Lay) (F : FS) (rt : Nat → Nat) (es : List Ed) (a b : Nat) (why : Value) (w w' : World) : Prop :=
  ∃ L' F' rt' m' es', Rep w' L' F' ∧ Moves w w' L L' ∧ F'.up.length = F.up.length ∧ Good F' rt' m' es' ∧
    ((rt a = rt b ∧ rt' = rt ∧ es' = es) ∨ (rt a ≠ rt b ∧ es' = es ++ [⟨a, b, why⟩] ∧ ∃ x y, ((x = rt a ∧ y = rt b) ∨ (x = rt b ∧ y = rt a)) ∧ rt' = join rt x y))

theorem join_in (L : Lay) (F : FS) (rt m : Nat → Nat) (es : List Ed) (a b : Nat) (why : Value) (w : World) (h : Rep w L F) (hg : Good F rt m es) (ha : a < F.up.length) (hb : b < F.up.length) (hw : why.oneCell' = true) :
    Calls Try.prog 14 #[.pointer (some ⟨L.p, 0, none⟩), .int .i64 a, .int .i64 b, why] w fun e w' => e = .returned (.tuple #[.bool (!(rt a == rt b)), .int .i64 0]) ∧ Next L F rt es a b why w w' := by
  by_cases hne : rt a = rt b
  · refine (join_same L F rt m a b why w h hg.even.most hg.tree ha hb hne).mono ?_
    rintro e w' ⟨rfl, F', hs, hr, hm⟩
    exact ⟨by simp [hne], L, F', rt, m, es, hr, hm, hs.2.2.1, hg.same hs, .inl ⟨hne, rfl, rfl⟩⟩
  · refine (join_new L F rt m a b why w h hg.even hg.tree ha hb hne hw hg.rows).mono ?_
    rintro e w' ⟨rfl, hj⟩
    obtain ⟨L', F', x, y, hor, hr, hm, hl, hG⟩ := hg.joined ha hb hne hj
    exact ⟨by simp [hne], L', F', _, _, _, hr, hm, hl, hG, .inr ⟨hne, rfl, x, y, hor, rfl⟩⟩

end Go.Proofs.Ytkgmhkjiblanmaa
