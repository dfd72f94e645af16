/-
  What a text's number is: the digits of a script from a place on. Plain laws.
-/
import Derived.Lib.RuneCountTail
import Derived.Lib.QuoteLoop
import Derived.Lib.Strings
import Derived.Laws.RangeAny
namespace Go.Proofs.YtmknbfpkpimlnaaDoor

def scr (r : Int) : Int := if 48 ≤ r ∧ r ≤ 57 then 48 else if 1632 ≤ r ∧ r ≤ 1641 then 1632 else if 65296 ≤ r ∧ r ≤ 65305 then 65296 else 0
theorem scr_cases (r : Int) : (scr r = 48 ∧ 48 ≤ r ∧ r ≤ 57) ∨ (scr r = 1632 ∧ 1632 ≤ r ∧ r ≤ 1641) ∨ (scr r = 65296 ∧ 65296 ≤ r ∧ r ≤ 65305) ∨ (scr r = 0 ∧ ¬ (48 ≤ r ∧ r ≤ 57) ∧ ¬ (1632 ≤ r ∧ r ≤ 1641) ∧ ¬ (65296 ≤ r ∧ r ≤ 65305)) := by
  unfold scr
  split
  · exact .inl ⟨rfl, by omega⟩
  split
  · exact .inr (.inl ⟨rfl, by omega⟩)
  split
  · exact .inr (.inr (.inl ⟨rfl, by omega⟩))
  · exact .inr (.inr (.inr ⟨rfl, by omega, by omega, by omega⟩))
theorem scr_in {r t : Int} (h : scr r = t) (ht : t ≠ 0) : t ≤ r ∧ r ≤ t + 9 ∧ (t = 48 ∨ t = 1632 ∨ t = 65296) := by
  rcases scr_cases r with h1 | h1 | h1 | h1 <;> omega
theorem scr_iff {r t : Int} (ht : t = 48 ∨ t = 1632 ∨ t = 65296) : scr r = t ↔ t ≤ r ∧ r ≤ t + 9 := by
  rcases scr_cases r with h1 | h1 | h1 | h1 <;> omega

def rn (s : ByteArray) (p : Nat) : Int := ((Utf8.decode s p).1 : Nat)
def wd (s : ByteArray) (p : Nat) : Nat := (Utf8.decode s p).2
theorem rn_in (s : ByteArray) (p : Nat) : 0 ≤ rn s p ∧ rn s p ≤ 1114111 := by
  have := Lib.rune_le s p
  unfold rn; omega
theorem wd_pos (s : ByteArray) (p : Nat) : 1 ≤ wd s p := Lib.width_pos s p
theorem rn_tail (s : ByteArray) (n p : Nat) : rn (s.extract n s.size) p = rn s (n + p) := by unfold rn; rw [Lib.tail_decode]
theorem wd_tail (s : ByteArray) (n p : Nat) : wd (s.extract n s.size) p = wd s (n + p) := by unfold wd; rw [Lib.tail_decode]
theorem wd_in {s : ByteArray} {p : Nat} (h : p < s.size) : p + wd s p ≤ s.size := by
  have h1 := Lib.width_le (s.extract p s.size) (by rw [Lib.tail_size]; omega)
  rw [Lib.tail_size] at h1
  have h2 := wd_tail s p 0
  unfold wd at h2 ⊢
  rw [Nat.add_zero] at h2
  omega

/-- The digits of script t from place p on: their value behind V, and where they end. -/
def run (s : ByteArray) (t : Int) : Nat → Nat → Nat → Nat × Nat
  | 0, p, V => (V, p)
  | f + 1, p, V => if p < s.size then (if scr (rn s p) = t then run s t f (p + wd s p) (10 * V + (rn s p - t).toNat) else (V, p)) else (V, s.size)

theorem run_end {s : ByteArray} {t : Int} {f p V : Nat} (hf : s.size + 1 ≤ f + p) (hp : p ≤ s.size) (h : ¬ p < s.size) : run s t f p V = (V, s.size) := by
  cases f with
  | zero => omega
  | succ f => unfold run; rw [if_neg h]
theorem run_stop {s : ByteArray} {t : Int} {f p V : Nat} (hf : s.size + 1 ≤ f + p) (h : p < s.size) (hs : scr (rn s p) ≠ t) : run s t f p V = (V, p) := by
  cases f with
  | zero => omega
  | succ f => unfold run; rw [if_pos h, if_neg hs]
theorem run_step {s : ByteArray} {t : Int} {f p V : Nat} (hf : s.size + 1 ≤ f + p) (h : p < s.size) (hs : scr (rn s p) = t) :
    ∃ f', s.size + 1 ≤ f' + (p + wd s p) ∧ run s t f p V = run s t f' (p + wd s p) (10 * V + (rn s p - t).toNat) := by
  cases f with
  | zero => omega
  | succ f =>
    have := wd_pos s p
    refine ⟨f, by omega, ?_⟩
    conv => lhs; unfold run
    rw [if_pos h, if_pos hs]
theorem run_ge (s : ByteArray) (t : Int) : ∀ f p V, V ≤ (run s t f p V).1
  | 0, p, V => Nat.le_refl _
  | f + 1, p, V => by
    unfold run
    split
    · split
      · exact Nat.le_trans (by omega) (run_ge s t f _ _)
      · exact Nat.le_refl _
    · exact Nat.le_refl _

def script (s : ByteArray) : Int := if 0 < s.size then scr (rn s 0) else 0
def whole (s : ByteArray) : Nat × Nat := run s (script s) (s.size + 1) 0 0
/-- The number that digits of one script write; none: they are not, or none. -/
def reads (s : ByteArray) : Option Nat := if script s = 0 then none else if (whole s).2 = s.size then some (whole s).1 else none

def topOf (minus : Bool) : Nat := if minus then 9223372036854775808 else 9223372036854775807
def readRest (s : ByteArray) (minus : Bool) : Int × Int := match reads s with
  | none => (0, 6)
  | some V => if topOf minus < V then (0, 10) else (if minus then -(V : Int) else V, 0)
def minusOf (s : ByteArray) : Bool := decide (0 < s.size) && (rn s 0 == 45 || rn s 0 == 8722)
def restOf (s : ByteArray) : ByteArray := if minusOf s then s.extract (wd s 0) s.size else s
def readOf (s : ByteArray) : Int × Int := if 4096 < s.size then (0, 3) else readRest (restOf s) (minusOf s)

/-! ### The two minus signs -/
theorem get_of (s : ByteArray) (i : Nat) : s.get! i = s.data.toList.getD i 0 := (Lib.getD_get!' s i).symm

theorem dash_iff (s : ByteArray) : Lib.hasPrefix s.data.toList [45] = true ↔ 0 < s.size ∧ rn s 0 = 45 := by
  unfold rn
  rw [Lib.decode_at, get_of, get_of, get_of, get_of]
  have hsz := Lib.size_eq s
  rw [hsz]
  generalize s.data.toList = l at *
  cases l with
  | nil => simp [Lib.hasPrefix]
  | cons b l =>
    have h1 : Lib.hasPrefix (b :: l) [45] = (45 == b) := by simp [Lib.hasPrefix, List.isPrefixOf]
    rw [h1]
    have hb := b.toNat_lt
    simp only [List.getD_cons_zero, List.length_cons, beq_iff_eq]
    constructor
    · rintro rfl
      exact ⟨by omega, by simp [Lib.decodeN]⟩
    · rintro ⟨_, h⟩
      apply UInt8.toNat_inj.1
      show 45 = b.toNat
      unfold Lib.decodeN at h
      repeat' split at h
      all_goals (simp only at h; omega)
theorem dash_wd {s : ByteArray} (h : Lib.hasPrefix s.data.toList [45] = true) : wd s 0 = 1 := by
  unfold wd
  rw [Lib.decode_at, get_of, get_of, get_of, get_of]
  generalize s.size = n
  generalize s.data.toList = l at *
  cases l with
  | nil => simp [Lib.hasPrefix] at h
  | cons b l =>
    have h1 : Lib.hasPrefix (b :: l) [45] = (45 == b) := by simp [Lib.hasPrefix, List.isPrefixOf]
    rw [h1, beq_iff_eq] at h
    subst h
    simp [Lib.decodeN]

theorem bar_cases (l : List UInt8) : Lib.hasPrefix l [226, 136, 146] = true ↔ ∃ r, l = 226 :: 136 :: 146 :: r := by
  constructor
  · intro h
    unfold Lib.hasPrefix at h
    rw [List.isPrefixOf_iff_prefix] at h
    obtain ⟨r, rfl⟩ := h
    exact ⟨r, rfl⟩
  · rintro ⟨r, rfl⟩
    simp [Lib.hasPrefix, List.isPrefixOf]

theorem bar_iff (s : ByteArray) : Lib.hasPrefix s.data.toList [226, 136, 146] = true ↔ 0 < s.size ∧ rn s 0 = 8722 := by
  rw [bar_cases]
  unfold rn
  rw [Lib.decode_at, get_of, get_of, get_of, get_of]
  have hsz := Lib.size_eq s
  rw [hsz]
  generalize s.data.toList = l at *
  constructor
  · rintro ⟨r, rfl⟩
    simp [Lib.decodeN]
  · rintro ⟨h0, h⟩
    match l, h0, h with
    | [], h0, _ => simp at h0
    | [b0], _, h =>
      have hb := b0.toNat_lt
      unfold Lib.decodeN at h
      repeat' split at h
      all_goals (simp at *; try omega)
    | [b0, b1], _, h =>
      have hb := b0.toNat_lt
      have hb1 := b1.toNat_lt
      unfold Lib.decodeN at h
      repeat' split at h
      all_goals (simp at *; try omega)
    | b0 :: b1 :: b2 :: r, _, h =>
      have hb := b0.toNat_lt
      have hb1 := b1.toNat_lt
      have hb2 := b2.toNat_lt
      have key : b0.toNat = 226 ∧ b1.toNat = 136 ∧ b2.toNat = 146 := by
        simp only [List.getD_cons_zero, Nat.zero_add, List.getD_cons_succ] at h
        generalize b0.toNat = x0 at *
        generalize b1.toNat = x1 at *
        generalize b2.toNat = x2 at *
        unfold Lib.decodeN at h
        repeat' split at h
        all_goals (simp only at h; omega)
      obtain ⟨k0, k1, k2⟩ := key
      have e0 : b0 = 226 := UInt8.toNat_inj.1 k0
      have e1 : b1 = 136 := UInt8.toNat_inj.1 k1
      have e2 : b2 = 146 := UInt8.toNat_inj.1 k2
      subst e0 e1 e2
      exact ⟨r, rfl⟩
theorem bar_wd {s : ByteArray} (h : Lib.hasPrefix s.data.toList [226, 136, 146] = true) : wd s 0 = 3 := by
  rw [bar_cases] at h
  obtain ⟨r, h⟩ := h
  have hsz := Lib.size_eq s
  unfold wd
  rw [Lib.decode_at, get_of, get_of, get_of, get_of, hsz, h]
  simp [Lib.decodeN]

theorem drop_extract (s : ByteArray) (k : Nat) : (⟨(s.data.toList.drop k).toArray⟩ : ByteArray) = s.extract k s.size := by
  apply ByteArray.ext
  apply Array.toList_inj.1
  show s.data.toList.drop k = (s.extract k s.size).data.toList
  rw [Lib.extract_data, List.take_of_length_le (by rw [List.length_drop, ← Lib.size_eq]; exact Nat.le_refl _)]

end Go.Proofs.YtmknbfpkpimlnaaDoor
