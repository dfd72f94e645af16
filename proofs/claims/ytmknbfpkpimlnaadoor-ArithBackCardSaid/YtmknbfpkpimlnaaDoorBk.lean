/-
  What digits written one behind the other read as. Plain laws.
-/
import Derived.Test.YtmknbfpkpimlnaaDoorTx
namespace Go.Proofs.YtmknbfpkpimlnaaDoor
open Go.RowKit

theorem append_list (x y : ByteArray) : (x ++ y).data.toList = x.data.toList ++ y.data.toList := by simp
theorem tail_append (x y : ByteArray) : (x ++ y).extract x.size (x ++ y).size = y := by
  rw [← drop_extract, append_list, Lib.size_eq x, List.drop_left]

def dig (t : Int) (d : Nat) : ByteArray := Utf8.encode (t + d)

theorem dig_ascii {d : Nat} (hd : d ≤ 9) : dig 48 d = ⟨#[UInt8.ofNat (48 + d)]⟩ := by
  have hd' : d = 0 ∨ d = 1 ∨ d = 2 ∨ d = 3 ∨ d = 4 ∨ d = 5 ∨ d = 6 ∨ d = 7 ∨ d = 8 ∨ d = 9 := by omega
  rcases hd' with rfl | rfl | rfl | rfl | rfl | rfl | rfl | rfl | rfl | rfl <;> rfl
theorem dig_two {d : Nat} (hd : d ≤ 9) : dig 1632 d = ⟨#[217, UInt8.ofNat (160 + d)]⟩ := by
  have hd' : d = 0 ∨ d = 1 ∨ d = 2 ∨ d = 3 ∨ d = 4 ∨ d = 5 ∨ d = 6 ∨ d = 7 ∨ d = 8 ∨ d = 9 := by omega
  rcases hd' with rfl | rfl | rfl | rfl | rfl | rfl | rfl | rfl | rfl | rfl <;> rfl
theorem dig_three {d : Nat} (hd : d ≤ 9) : dig 65296 d = ⟨#[239, 188, UInt8.ofNat (144 + d)]⟩ := by
  have hd' : d = 0 ∨ d = 1 ∨ d = 2 ∨ d = 3 ∨ d = 4 ∨ d = 5 ∨ d = 6 ∨ d = 7 ∨ d = 8 ∨ d = 9 := by omega
  rcases hd' with rfl | rfl | rfl | rfl | rfl | rfl | rfl | rfl | rfl | rfl <;> rfl

theorem dec_one (n d x1 x2 x3 : Nat) (hd : d ≤ 9) : Lib.decodeN n (48 + d) x1 x2 x3 = (48 + d, 1) := by unfold Lib.decodeN; rw [if_pos (by omega)]
theorem dec_two (n d x2 x3 : Nat) (hd : d ≤ 9) (hn : 2 ≤ n) : Lib.decodeN n 217 (160 + d) x2 x3 = (1632 + d, 2) := by
  unfold Lib.decodeN
  rw [if_neg (by omega), if_pos ⟨by decide, by omega, by omega⟩, if_pos (by omega)]
  congr 1; omega
theorem dec_three (n d x3 : Nat) (hd : d ≤ 9) (hn : 3 ≤ n) : Lib.decodeN n 239 188 (144 + d) x3 = (65296 + d, 3) := by
  unfold Lib.decodeN
  rw [if_neg (by omega), if_neg (by omega), if_pos ⟨by decide, ⟨by omega, by decide⟩, by omega, by omega⟩, if_pos ⟨by omega, by omega⟩]
  congr 1; omega

theorem dig_dec {t : Int} (ht : t = 48 ∨ t = 1632 ∨ t = 65296) {d : Nat} (hd : d ≤ 9) (ext : ByteArray) : rn (dig t d ++ ext) 0 = t + d ∧ wd (dig t d ++ ext) 0 = (dig t d).size ∧ 1 ≤ (dig t d).size ∧ (dig t d).size ≤ 3 := by
  unfold rn wd
  rw [Lib.decode_at, get_of, get_of, get_of, get_of, append_list, ByteArray.size_append]
  rcases ht with rfl | rfl | rfl
  · rw [dig_ascii hd]
    have e : (UInt8.ofNat (48 + d)).toNat = 48 + d := by simp; omega
    show ((Lib.decodeN _ (UInt8.ofNat (48 + d)).toNat _ _ _).1 : Int) = _ ∧ (Lib.decodeN _ (UInt8.ofNat (48 + d)).toNat _ _ _).2 = 1 ∧ 1 ≤ 1 ∧ 1 ≤ 3
    rw [e, dec_one _ d _ _ _ hd]
    refine ⟨by omega, rfl, by decide, by decide⟩
  · rw [dig_two hd]
    have e : (UInt8.ofNat (160 + d)).toNat = 160 + d := by simp; omega
    show ((Lib.decodeN (2 + ext.size - 0) 217 (UInt8.ofNat (160 + d)).toNat _ _).1 : Int) = _ ∧ (Lib.decodeN (2 + ext.size - 0) 217 (UInt8.ofNat (160 + d)).toNat _ _).2 = 2 ∧ 1 ≤ 2 ∧ 2 ≤ 3
    rw [e, dec_two _ d _ _ hd (by omega)]
    refine ⟨by omega, rfl, by decide, by decide⟩
  · rw [dig_three hd]
    have e : (UInt8.ofNat (144 + d)).toNat = 144 + d := by simp; omega
    show ((Lib.decodeN (3 + ext.size - 0) 239 188 (UInt8.ofNat (144 + d)).toNat _).1 : Int) = _ ∧ (Lib.decodeN (3 + ext.size - 0) 239 188 (UInt8.ofNat (144 + d)).toNat _).2 = 3 ∧ 1 ≤ 3 ∧ 3 ≤ 3
    rw [e, dec_three _ d _ hd (by omega)]
    refine ⟨by omega, rfl, by decide, by decide⟩

/-- x is digits of script t, of value V. -/
structure Digs (t : Int) (x : ByteArray) (V : Nat) : Prop where
  run : ∀ ext : ByteArray, ∃ f', (x ++ ext).size + 1 ≤ f' + x.size ∧ run (x ++ ext) t ((x ++ ext).size + 1) 0 0 = run (x ++ ext) t f' x.size V
  first : 0 < x.size → ∀ ext : ByteArray, scr (rn (x ++ ext) 0) = t

theorem Digs.nil (t : Int) : Digs t ⟨#[]⟩ 0 := ⟨fun ext => ⟨_, by exact Nat.le_refl _, rfl⟩, fun h => by cases h⟩

theorem Digs.snoc {t : Int} {x : ByteArray} {V d : Nat} (h : Digs t x V) (ht : t = 48 ∨ t = 1632 ∨ t = 65296) (hd : d ≤ 9) : Digs t (x ++ dig t d) (10 * V + d) := by
  have hs : scr (t + d) = t := (scr_iff ht).2 (by omega)
  refine ⟨fun ext => ?_, fun _ ext => ?_⟩
  · obtain ⟨h1, h2, h3, h4⟩ := dig_dec ht hd ext
    rw [ByteArray.append_assoc]
    obtain ⟨f', hf, hr⟩ := h.run (dig t d ++ ext)
    have hlt : x.size < (x ++ (dig t d ++ ext)).size := by rw [ByteArray.size_append, ByteArray.size_append]; omega
    have e1 : rn (x ++ (dig t d ++ ext)) x.size = t + d := by
      have := rn_tail (x ++ (dig t d ++ ext)) x.size 0
      rw [tail_append, Nat.add_zero] at this
      rw [← this, h1]
    have e2 : wd (x ++ (dig t d ++ ext)) x.size = (dig t d).size := by
      have := wd_tail (x ++ (dig t d ++ ext)) x.size 0
      rw [tail_append, Nat.add_zero] at this
      rw [← this, h2]
    obtain ⟨f'', hf2, hr2⟩ := run_step (t := t) hf hlt (by rw [e1]; exact hs) (V := V)
    rw [e1, e2] at hr2
    rw [e2] at hf2
    have e3 : (t + (d : Int) - t).toNat = d := by omega
    rw [e3] at hr2
    refine ⟨f'', by rw [ByteArray.size_append (a := x) (b := dig t d)]; exact hf2, ?_⟩
    rw [hr, hr2]
    rw [ByteArray.size_append (a := x)]
  · rw [ByteArray.append_assoc]
    by_cases h0 : 0 < x.size
    · exact h.first h0 _
    · have hx : x = ⟨#[]⟩ := by
        apply ByteArray.ext
        apply Array.eq_empty_of_size_eq_zero
        show x.size = 0
        omega
      subst hx
      have e : (⟨#[]⟩ ++ (dig t d ++ ext) : ByteArray) = dig t d ++ ext := by
        apply ByteArray.ext
        simp
      rw [e, (dig_dec ht hd ext).1]
      exact hs

theorem append_none (x : ByteArray) : (x ++ ⟨#[]⟩ : ByteArray) = x := by
  apply ByteArray.ext
  simp

theorem Digs.reads {t : Int} {x : ByteArray} {V : Nat} (h : Digs t x V) (ht : t ≠ 0) (h0 : 0 < x.size) : reads x = some V := by
  have hs : script x = t := by
    unfold script
    rw [if_pos h0]
    have := h.first h0 ⟨#[]⟩
    rwa [append_none] at this
  obtain ⟨f', hf, hr⟩ := h.run ⟨#[]⟩
  rw [append_none] at hf hr
  have hw : whole x = (V, x.size) := by
    unfold whole
    rw [hs, hr]
    exact run_end hf (Nat.le_refl _) (Nat.lt_irrefl _)
  rw [reads_some (by rw [hs]; exact ht) (by rw [hw]), hw]

theorem Digs.spoil {t : Int} {x ext : ByteArray} {V : Nat} (h : Digs t x V) (h0 : 0 < x.size) (he : 0 < ext.size) (hs : scr (rn ext 0) ≠ t) : YtmknbfpkpimlnaaDoor.reads (x ++ ext) = none := by
  apply reads_off
  have hsz : 0 < (x ++ ext).size := by rw [ByteArray.size_append]; omega
  have hsc : script (x ++ ext) = t := by
    unfold script
    rw [if_pos hsz]
    exact h.first h0 ext
  obtain ⟨f', hf, hr⟩ := h.run ext
  have hlt : x.size < (x ++ ext).size := by rw [ByteArray.size_append]; omega
  have e1 : rn (x ++ ext) x.size = rn ext 0 := by
    have := rn_tail (x ++ ext) x.size 0
    rw [tail_append, Nat.add_zero] at this
    exact this.symm
  unfold whole
  rw [hsc, hr, run_stop hf hlt (by rw [e1]; exact hs)]
  exact Nat.ne_of_lt hlt

/-! ### The numeral -/
def bytes (l : List UInt8) : ByteArray := ⟨l.toArray⟩
theorem bytes_append (l k : List UInt8) : bytes (l ++ k) = bytes l ++ bytes k := by
  apply ByteArray.ext
  simp [bytes]
theorem bytes_size (l : List UInt8) : (bytes l).size = l.length := by simp [bytes, ByteArray.size]

theorem digs_dec (u : Nat) : Digs 48 (bytes (Lib.decDigits u)) u := by
  induction u using Nat.strongRecOn with
  | _ u ih =>
    rw [Lib.decDigits]
    by_cases h : u < 10
    · rw [dif_pos h]
      have := (Digs.nil 48).snoc (.inl rfl) (d := u) (by omega)
      rw [dig_ascii (by omega)] at this
      have e : (⟨#[]⟩ ++ ⟨#[UInt8.ofNat (48 + u)]⟩ : ByteArray) = bytes [UInt8.ofNat (48 + u)] := by apply ByteArray.ext; simp [bytes]
      rw [e] at this
      simpa using this
    · rw [dif_neg h, bytes_append]
      have := (ih (u / 10) (by omega)).snoc (.inl rfl) (d := u % 10) (by omega)
      rw [dig_ascii (by omega)] at this
      have e : 10 * (u / 10) + u % 10 = u := by omega
      rw [e] at this
      exact this

theorem dec_bytes (u : Nat) : ∀ b ∈ Lib.decDigits u, 48 ≤ b.toNat ∧ b.toNat ≤ 57 := by
  induction u using Nat.strongRecOn with
  | _ u ih =>
    have key : ∀ d, d ≤ 9 → 48 ≤ (UInt8.ofNat (48 + d)).toNat ∧ (UInt8.ofNat (48 + d)).toNat ≤ 57 := fun d hd => by
      have : (UInt8.ofNat (48 + d)).toNat = 48 + d := by simp; omega
      omega
    rw [Lib.decDigits]
    by_cases h : u < 10
    · rw [dif_pos h]
      intro b hb
      rw [List.mem_singleton] at hb
      subst hb
      exact key u (by omega)
    · rw [dif_neg h]
      intro b hb
      rcases List.mem_append.1 hb with hb | hb
      · exact ih (u / 10) (by omega) b hb
      · rw [List.mem_singleton] at hb
        subst hb
        exact key _ (by omega)

theorem dec_head (u : Nat) (hu : u ≠ 0) : ∃ b l, Lib.decDigits u = b :: l ∧ b.toNat ≠ 48 := by
  induction u using Nat.strongRecOn with
  | _ u ih =>
    rw [Lib.decDigits]
    by_cases h : u < 10
    · rw [dif_pos h]
      exact ⟨_, [], rfl, by simp; omega⟩
    · rw [dif_neg h]
      obtain ⟨b, l, e, hb⟩ := ih (u / 10) (by omega) (by omega)
      rw [e]
      exact ⟨b, l ++ [UInt8.ofNat (48 + u % 10)], rfl, hb⟩

def val (l : List UInt8) : Nat := l.foldl (fun V b => 10 * V + (b.toNat - 48)) 0
theorem val_snoc (l : List UInt8) (b : UInt8) : val (l ++ [b]) = 10 * val l + (b.toNat - 48) := by unfold val; rw [List.foldl_append]; rfl
theorem val_dec (u : Nat) : val (Lib.decDigits u) = u := by
  induction u using Nat.strongRecOn with
  | _ u ih =>
    have key : ∀ d, d ≤ 9 → (UInt8.ofNat (48 + d)).toNat = 48 + d := fun d hd => by simp; omega
    rw [Lib.decDigits]
    by_cases h : u < 10
    · rw [dif_pos h]
      show 10 * 0 + ((UInt8.ofNat (48 + u)).toNat - 48) = u
      rw [key u (by omega)]; omega
    · rw [dif_neg h, val_snoc, ih (u / 10) (by omega), key _ (by omega)]; omega

end Go.Proofs.YtmknbfpkpimlnaaDoor
