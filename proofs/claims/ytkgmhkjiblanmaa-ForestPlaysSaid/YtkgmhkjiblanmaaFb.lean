/-
  The walks of New, Len and has (package forest), with slices.ContainsFunc.
-/
import Derived.Test.YtkgmhkjiblanmaaFa
namespace Go.Proofs.Ytkgmhkjiblanmaa
open Go.RowKit

/-- The cells of a slice of numbers. -/
def Ints (w : World) (A : Option Addr) (xs : List Int) : Prop :=
  xs ≠ [] → ∃ b off, A = some ⟨b, off, none⟩ ∧ b < w.heap.size ∧ ∀ i (h : i < xs.length), w.cell? ⟨b, off + i, none⟩ = some (.int .i64 xs[i])

theorem ints_new (W : World) (n : Nat) (hn : n = W.heap.size) (xs : List Int) (t : TypeId) : Ints (W.alloc (.cells (xs.map (.int .i64)).toArray t)) (some ⟨n, 0, none⟩) xs := fun _ => by
  subst hn
  refine ⟨_, 0, rfl, by simp, fun i hi => ?_⟩
  rw [Nat.zero_add, World.cell?_alloc_new]
  simp [hi]

theorem Ints.later {w w' : World} {A : Option Addr} {xs : List Int} (h : Ints w A xs) (hb : Below w.heap.size w w') : Ints w' A xs := fun hn => by
  obtain ⟨b, off, hA, hlt, hc⟩ := h hn
  exact ⟨b, off, hA, Nat.lt_of_lt_of_le hlt hb.size, fun i hi => (hb.cell (p := ⟨b, _, none⟩) hlt).trans (hc i hi)⟩

/-- Is a number no member? -/
def out (n : Nat) (x : Int) : Bool := decide (x < 0) || decide ((n : Int) ≤ x)

set_option maxRecDepth 100000 in
set_option maxHeartbeats 400000 in
theorem has1_any (x : Int) (q p n c : Nat) (A : Option Addr) (w : World) (h1 : w.cell? ⟨q, 0, none⟩ = some (.pointer (some ⟨p, 0, none⟩))) (h2 : w.cell? ⟨p, 0, none⟩ = some (.slice A n c)) :
    Calls Try.prog 40 #[.int .i64 x, .pointer (some ⟨q, 0, none⟩)] w fun e w' => e = .returned (.bool (out n x)) ∧ w = w' := by
  by_cases hx : x < 0
  · have : out n x = true := by simp [out, hx]
    rw [this]
    go_enter Try.func40, Try.ntmps40
    go_wp2
    go_ret
    exact ⟨rfl, rfl⟩
  · have : out n x = decide ((n : Int) ≤ x) := by simp [out, hx]
    rw [this]
    go_enter Try.func40, Try.ntmps40
    go_wp2
    go_ret
    exact ⟨rfl, rfl⟩

theorem any_out (n : Nat) (xs : List Int) : (∀ i (h : i < xs.length), out n xs[i] = false) → xs.any (out n) = false := by
  intro h
  rw [List.any_eq_false]
  intro x hx
  obtain ⟨i, hi, rfl⟩ := List.getElem_of_mem hx
  rw [h i hi]; decide

set_option maxRecDepth 100000 in
set_option maxHeartbeats 400000 in
theorem index_any (xs : List Int) (B : Option Addr) (cap : Nat) (q p n c : Nat) (A : Option Addr) (w : World) (hl : xs.length ≤ 1000) (hx : Ints w B xs) (h1 : w.cell? ⟨q, 0, none⟩ = some (.pointer (some ⟨p, 0, none⟩))) (h2 : w.cell? ⟨p, 0, none⟩ = some (.slice A n c)) :
    Calls Try.prog 45 #[.slice B xs.length cap, .func (.func 40) #[] #[.pointer (some ⟨q, 0, none⟩)]] w fun e w' => (∃ r : Int, e = .returned (.int .i64 r) ∧ decide (0 ≤ r) = xs.any (out n)) ∧ w = w' := by
  go_enter Try.func45, Try.ntmps45
  go_wp2
  go_loop [8] (fun v => ∃ k : Nat, k ≤ xs.length ∧ v = .int .i64 k ∧ ∀ i (h : i < xs.length), i < k → out n xs[i] = false) (fun v => xs.length - (intOf v).toNat)
  case atStart => exact ⟨0, by omega, rfl, fun i _ h => by omega⟩
  case round =>
    obtain ⟨k, hk, rfl, hno⟩ := hrel
    by_cases hlt : k < xs.length
    · obtain ⟨b, off, rfl, _, hc⟩ := hx (by rintro rfl; simp at hlt)
      have hck := hc k hlt
      have Hno := Lib.hid hno
      clear hno hc hx
      have hlt' : ((k : Int) < xs.length) := by omega
      cases ho : out n xs[k]
      · have hno' : ∀ i (h : i < xs.length), i < k + 1 → out n xs[i] = false := fun i h hi => by
          by_cases he : i = k
          · subst he; exact ho
          · exact Hno.out i h (by omega)
        have Hno' := Lib.hid hno'
        clear hno'
        have Ho := Lib.hid ho
        clear ho
        generalize xs[k] = x at hck Ho
        go_wp2_with fail
        refine (has1_any x q p n c A _ h1 h2).mono ?_
        rw [Ho.out]
        rintro e w' ⟨rfl, rfl⟩
        go_wp2
        go_round
        case rel => exact ⟨k + 1, by omega, by go_num, Hno'.out⟩
        case measure => simp [intOf]; omega
      · have hany : Hid (true = xs.any (out n)) := (List.any_eq_true.2 ⟨_, List.getElem_mem hlt, ho⟩).symm
        have Ho := Lib.hid ho
        clear ho
        generalize xs[k] = x at hck Ho
        go_wp2_with fail
        refine (has1_any x q p n c A _ h1 h2).mono ?_
        rw [Ho.out]
        rintro e w' ⟨rfl, rfl⟩
        go_wp2
        go_ret
        exact ⟨⟨_, rfl, by rw [← hany.out]; simp⟩, rfl⟩
    · have hn := any_out n xs fun i h => hno i h (by omega)
      have Hn := Lib.hid hn
      clear hno hn
      have hk' : k = xs.length := by omega
      subst hk'
      go_wp2
      go_ret
      exact ⟨⟨_, rfl, by rw [Hn.out]; rfl⟩, rfl⟩

set_option maxRecDepth 100000 in
set_option maxHeartbeats 400000 in
theorem contains_any (xs : List Int) (B : Option Addr) (cap : Nat) (q p n c : Nat) (A : Option Addr) (w : World) (hl : xs.length ≤ 1000) (hx : Ints w B xs) (h1 : w.cell? ⟨q, 0, none⟩ = some (.pointer (some ⟨p, 0, none⟩))) (h2 : w.cell? ⟨p, 0, none⟩ = some (.slice A n c)) :
    Calls Try.prog 39 #[.slice B xs.length cap, .func (.func 40) #[] #[.pointer (some ⟨q, 0, none⟩)]] w fun e w' => e = .returned (.bool (xs.any (out n))) ∧ w = w' := by
  go_enter Try.func39, Try.ntmps39
  go_wp2_with fail
  refine (index_any xs B cap q p n c A _ hl hx h1 h2).mono ?_
  rintro e w' ⟨⟨r, rfl, hr⟩, rfl⟩
  have Hr := Lib.hid hr
  clear hr
  go_wp2
  go_ret
  exact ⟨by rw [← Hr.out]; rfl, rfl⟩

set_option maxRecDepth 100000 in
set_option maxHeartbeats 400000 in
/-- 'has' of a forest that is not nil. -/
theorem has_any (xs : List Int) (B : Option Addr) (cap p n c : Nat) (A : Option Addr) (w : World) (hl : xs.length ≤ 1000) (hx : Ints w B xs) (h2 : w.cell? ⟨p, 0, none⟩ = some (.slice A n c)) :
    Calls Try.prog 22 #[.pointer (some ⟨p, 0, none⟩), .slice B xs.length cap] w fun e w' => e = .returned (.bool (!xs.any (out n))) ∧ Below w.heap.size w w' := by
  have hmf : ∀ (fn : Fn) (first cap : Array Value) (w : World), (Instr.makeFunc fn first cap).run Try.prog w = .ok (.func fn first cap) w := fun _ _ _ _ => rfl
  have hb : Below w.heap.size w (w.alloc (.cells #[.pointer (some ⟨p, 0, none⟩)] 23)) := (Below.refl _ _).alloc (Nat.le_refl _) _
  have hx' := hx.later hb
  have h2' := (hb.cell (p := ⟨p, 0, none⟩) (World.block_lt_of_cell? w _ h2)).trans h2
  have Hb := Lib.hid hb
  have Hx := Lib.hid hx'
  clear hb hx hx'
  go_enter Try.func22, Try.ntmps22
  go_wp2_with fail
  refine (contains_any xs B cap w.heap.size p n c A _ hl Hx.out (by simp [go_sem]) h2').mono ?_
  rintro e w' ⟨rfl, rfl⟩
  go_wp2
  go_ret
  exact ⟨rfl, Hb.out⟩

set_option maxRecDepth 100000 in
set_option maxHeartbeats 400000 in
/-- 'has' of nil. -/
theorem has_nil (B : Option Addr) (n cap : Nat) (w : World) :
    Calls Try.prog 22 #[.pointer none, .slice B n cap] w fun e w' => e = .returned (.bool false) ∧ Below w.heap.size w w' := by
  have hmf : ∀ (fn : Fn) (first cap : Array Value) (w : World), (Instr.makeFunc fn first cap).run Try.prog w = .ok (.func fn first cap) w := fun _ _ _ _ => rfl
  go_enter Try.func22, Try.ntmps22
  go_wp2
  go_ret
  exact ⟨rfl, (Below.refl _ _).alloc (Nat.le_refl _) _⟩

set_option maxRecDepth 100000 in
set_option maxHeartbeats 400000 in
theorem len_nil (w : World) : Calls Try.prog 10 #[.pointer none] w fun e w' => e = .returned (.int .i64 0) ∧ w = w' := by
  go_enter Try.func10, Try.ntmps10
  go_wp2
  go_ret
  exact ⟨rfl, rfl⟩

set_option maxRecDepth 100000 in
set_option maxHeartbeats 400000 in
theorem len_any (p n c : Nat) (A : Option Addr) (w : World) (h2 : w.cell? ⟨p, 0, none⟩ = some (.slice A n c)) : Calls Try.prog 10 #[.pointer (some ⟨p, 0, none⟩)] w fun e w' => e = .returned (.int .i64 n) ∧ w = w' := by
  go_enter Try.func10, Try.ntmps10
  go_wp2
  go_ret
  exact ⟨rfl, rfl⟩

def lay0 (p : Nat) : Lay := ⟨p, .slice none 0 0, .slice none 0 0, .slice none 0 0, []⟩
def fs0 : FS := ⟨[], [], []⟩

theorem rep_new (w : World) : Rep (w.alloc (.cells #[.slice none 0 0, .slice none 0 0, .slice none 0 0] 66)) (lay0 w.heap.size) fs0 := by
  refine ⟨heap_alloc_new w _, World.ownsRow_nil _ _ _ _, World.ownsRow_nil _ _ _ _, World.ownsRow_nil _ _ _ _, fun i v l h => by simp [lay0] at h, ?_⟩
  intro s t b hs ht
  have h0 : ∀ s, (lay0 w.heap.size).slot s = some b → s = 0 := fun s h => by
    rcases s with _ | _ | _ | _ | s
    · rfl
    all_goals simp [Lay.slot, lay0, Value.ownBlock] at h
  rw [h0 s hs, h0 t ht]

set_option maxRecDepth 100000 in
set_option maxHeartbeats 400000 in
theorem new_any (w : World) : Calls Try.prog 19 #[] w fun e w' => e = .returned (.pointer (some ⟨w.heap.size, 0, none⟩)) ∧ Rep w' (lay0 w.heap.size) fs0 ∧ Below w.heap.size w w' := by
  go_enter Try.func19, Try.ntmps19
  go_wp2
  go_ret
  exact ⟨rfl, rep_new w, (Below.refl _ _).alloc (Nat.le_refl _) _⟩

end Go.Proofs.Ytkgmhkjiblanmaa
