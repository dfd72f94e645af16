/-
  Plain laws: a line of the table is the rule's of that name if it begins with the name and a semicolon.
-/
import Derived.Test.YthicopkfgefbpaaRnA
namespace Go.Proofs.Ythicopkfgefbpaa.Rn

theorem take_to (c : UInt8) : ∀ (n rest : List UInt8), c ∉ n → (n ++ c :: rest).takeWhile (· != c) = n
  | [], rest, _ => by simp
  | x :: n, rest, h => by
    have hx : x ≠ c := fun e => h (by simp [e])
    have ih := take_to c n rest fun e => h (List.mem_cons_of_mem _ e)
    simp [hx, ih]

theorem begins_iff (c : UInt8) (n rest name : List UInt8) (h : c ∉ n) : ((name ++ [c]) <+: (n ++ c :: rest) ∧ c ∉ name) ↔ name = n := by
  constructor
  · rintro ⟨⟨t, ht⟩, hc⟩
    have h1 := take_to c n rest h
    have h2 := take_to c name t hc
    rw [← ht, List.append_assoc, List.singleton_append, h2] at h1
    exact h1
  · rintro rfl
    exact ⟨⟨rest, by simp⟩, h⟩

end Go.Proofs.Ythicopkfgefbpaa.Rn
