/-
  The walk of Values (package sorrellaw03): what the value of each cell is.
-/
import Derived.Test.YthicopkfgefbpaaRows
import Derived.WalkKit
import Derived.WalkSpells
import Derived.WalkLawsBesides
import Derived.Lib.Hide
import Derived.Deep.OwnRows
import Derived.StillTailTactics
import Derived.Deep.QuietTactic
import Derived.BigQuiet
namespace Go.Proofs.Ythicopkfgefbpaa.Box
open Go.RowKit

/-- A cell of the law's argument. -/
structure CellD where
  kind : Int
  op : Int
  n : Int
  name : ByteArray
  a : Int
  b : Int
  c : Int

/-- The argument: a slice that reads as the cells l. -/
structure CellsIn (w : World) (A : Option Addr) (len : Nat) (l : List CellD) : Prop where
  len_eq : l.length = len
  at_ : 0 < len → ∃ b off, A = some ⟨b, off, none⟩ ∧ b < w.heap.size ∧ ∀ i (h : i < l.length),
    w.cell? ⟨b, off + i * 7, none⟩ = some (.int .i64 l[i].kind) ∧ w.cell? ⟨b, off + i * 7 + 1, none⟩ = some (.int .i64 l[i].op) ∧ w.cell? ⟨b, off + i * 7 + 2, none⟩ = some (.int .i64 l[i].n) ∧
    w.cell? ⟨b, off + i * 7 + 3, none⟩ = some (.string l[i].name) ∧ w.cell? ⟨b, off + i * 7 + 4, none⟩ = some (.int .i64 l[i].a) ∧ w.cell? ⟨b, off + i * 7 + 5, none⟩ = some (.int .i64 l[i].b) ∧ w.cell? ⟨b, off + i * 7 + 6, none⟩ = some (.int .i64 l[i].c)

theorem CellsIn.later {w w' : World} {A : Option Addr} {len : Nat} {l : List CellD} (h : CellsIn w A len l) (hb : Below w.heap.size w w') : CellsIn w' A len l := by
  refine ⟨h.len_eq, fun h0 => ?_⟩
  obtain ⟨b, off, hA, hlt, hc⟩ := h.at_ h0
  have he : ∀ o, w'.cell? ⟨b, o, none⟩ = w.cell? ⟨b, o, none⟩ := fun o => hb.cell (p := ⟨b, o, none⟩) hlt
  exact ⟨b, off, hA, Nat.lt_of_lt_of_le hlt hb.size, fun i hi => by simp only [he]; exact hc i hi⟩

/-- What 'get' gives in round i. -/
def got (xs : List Value) (i : Nat) (k : Int) : Value := if 0 ≤ k ∧ k < i then xs.getD k.toNat .nilIface else .nilIface

/-- The value of cell i. -/
def ValOf (c : CellD) (xs : List Value) (i : Nat) (v : Value) : Prop :=
  (c.kind = 1 ∧ v = .iface 68 (.agg #[.int .i64 c.n])) ∨ (c.kind = 2 ∧ v = .iface 70 (.agg #[.string c.name])) ∨ (c.kind = 3 ∧ v = .iface 73 (.agg #[.int .i64 c.op, got xs i c.a])) ∨
  (c.kind = 4 ∧ v = .iface 75 (.agg #[.int .i64 c.op, got xs i c.a, got xs i c.b])) ∨ (c.kind = 5 ∧ v = .iface 77 (.agg #[got xs i c.c, got xs i c.a, got xs i c.b])) ∨
  (c.kind = 6 ∧ ∃ b, v = .iface 78 (.pointer (some ⟨b, 0, none⟩))) ∨ (c.kind = 7 ∧ v = .iface 79 (.agg #[.int .i64 c.n])) ∨ (¬ (1 ≤ c.kind ∧ c.kind ≤ 7) ∧ v = .nilIface)

/-- The values behind k rounds. -/
structure Vals (l : List CellD) (xs : List Value) (k : Nat) : Prop where
  len : xs.length = l.length
  done : ∀ i (h : i < l.length), i < k → ValOf l[i] xs i (xs.getD i .nilIface)
  todo : ∀ i, k ≤ i → xs.getD i .nilIface = .nilIface

/-- Values' own memory: the captured variable and the row. -/
structure Mem (w wr : World) (bs : Nat) (len : Nat) (xs : List Value) : Prop where
  below : Below w.heap.size w wr
  var : wr.heap[bs + 1]? = some (.cells #[.slice (some ⟨bs, 0, none⟩) len len] 32 (0, 0))
  row : wr.heap[bs]? = some (.cells xs.toArray 37 (0, 0))
  base : w.heap.size ≤ bs

theorem cell_row {w : World} {g i : Nat} {t : TypeId} {xs : List Value} (h : w.heap[g]? = some (.cells xs.toArray t (0, 0))) : w.cell? ⟨g, i, none⟩ = xs[i]? := by
  simp [World.cell?, h]
theorem free_row {w : World} {g i : Nat} {t : TypeId} {cs : Array Value} (h : w.heap[g]? = some (.cells cs t (0, 0))) : w.frozen? ⟨g, i, none⟩ = false := by
  simp [World.frozen?, h]

set_option maxRecDepth 100000 in
set_option maxHeartbeats 400000 in
/-- 'get(i, k)': no value. -/
theorem get_none (i : Nat) (k : Int) (p : Addr) (w : World) (hk : k < 0 ∨ (i : Int) ≤ k) :
    Calls Try.prog 27 #[.int .i64 i, .int .i64 k, .pointer (some p)] w fun e w' => e = .returned .nilIface ∧ w = w' := by
  rcases hk with hk | hk
  · go_enter Try.func27, Try.ntmps27
    go_wp2
    go_ret
    exact ⟨rfl, rfl⟩
  · by_cases h0 : k < 0
    · go_enter Try.func27, Try.ntmps27
      go_wp2
      go_ret
      exact ⟨rfl, rfl⟩
    · go_enter Try.func27, Try.ntmps27
      go_wp2
      go_ret
      exact ⟨rfl, rfl⟩

set_option maxRecDepth 100000 in
set_option maxHeartbeats 400000 in
/-- 'get(i, k)': the value of cell k. -/
theorem get_some (i k : Nat) (bs len : Nat) (v : Value) (w : World) (hk : k < i) (hi : i ≤ len) (hl : w.cell? ⟨bs + 1, 0, none⟩ = some (.slice (some ⟨bs, 0, none⟩) len len))
    (hv : w.cell? ⟨bs, k, none⟩ = some v) :
    Calls Try.prog 27 #[.int .i64 i, .int .i64 k, .pointer (some ⟨bs + 1, 0, none⟩)] w fun e w' => e = .returned v ∧ w = w' := by
  have h1 : ¬ ((k : Int) < 0) := by omega
  have h2 : ¬ ((i : Int) ≤ (k : Int)) := by omega
  have h3 : k < len := by omega
  go_enter Try.func27, Try.ntmps27
  go_wp2
  go_ret
  exact ⟨rfl, rfl⟩

/-- 'get(i, k)'. -/
theorem get_any (i : Nat) (k : Int) (bs len : Nat) (xs : List Value) (w : World) (hi : i ≤ len) (hx : xs.length = len) (hl : w.cell? ⟨bs + 1, 0, none⟩ = some (.slice (some ⟨bs, 0, none⟩) len len))
    (hv : w.heap[bs]? = some (.cells xs.toArray 37 (0, 0))) :
    Calls Try.prog 27 #[.int .i64 i, .int .i64 k, .pointer (some ⟨bs + 1, 0, none⟩)] w fun e w' => e = .returned (got xs i k) ∧ w = w' := by
  by_cases h : 0 ≤ k ∧ k < i
  · obtain ⟨k, rfl⟩ : ∃ m : Nat, k = (m : Int) := ⟨k.toNat, by omega⟩
    have hg : got xs i (k : Int) = xs.getD k .nilIface := by unfold got; rw [if_pos h]; simp
    rw [hg]
    refine get_some i k bs len _ w (by omega) hi hl ?_
    rw [cell_row hv, List.getD_eq_getElem?_getD, List.getElem?_eq_getElem (by omega)]
    simp
  · have hg : got xs i k = .nilIface := by unfold got; rw [if_neg h]
    rw [hg]
    exact get_none i k _ w (by omega)

theorem getD_rep (n i : Nat) (v : Value) : (List.replicate n v).getD i v = v := by
  rw [List.getD_eq_getElem?_getD, List.getElem?_replicate]; split <;> rfl

theorem vals_start (l : List CellD) (len : Nat) (h : l.length = len) : Vals l (madeCells #[Value.nilIface] len).toList 0 := by
  rw [toList_madeCells_one]
  exact ⟨by simp [h], fun i _ hi => absurd hi (by omega), fun i _ => getD_rep _ _ _⟩

theorem mem_start (w : World) (len : Nat) : Mem w ((w.alloc (.cells (madeCells #[Value.nilIface] len) 37)).alloc (.cells #[.slice (some ⟨w.heap.size, 0, none⟩) len len] 32)) w.heap.size len (madeCells #[Value.nilIface] len).toList := by
  refine ⟨((Below.refl _ _).alloc (Nat.le_refl _) _).alloc (by simp) _, ?_, ?_, Nat.le_refl _⟩
  · have := heap_alloc_new (w.alloc (.cells (madeCells #[Value.nilIface] len) 37)) (.cells #[.slice (some ⟨w.heap.size, 0, none⟩) len len] 32)
    simpa using this
  · rw [Below.heap_alloc _ _ _ (by simp)]
    exact heap_alloc_new w _

theorem Mem.lt {w wr : World} {bs len : Nat} {xs : List Value} (h : Mem w wr bs len xs) : bs + 1 < wr.heap.size := by
  rcases Nat.lt_or_ge (bs + 1) wr.heap.size with h' | h'
  · exact h'
  · have := h.var; rw [Array.getElem?_eq_none h'] at this; cases this

theorem Mem.slot {w wr : World} {bs len : Nat} {xs : List Value} (h : Mem w wr bs len xs) : wr.cell? ⟨bs + 1, 0, none⟩ = some (.slice (some ⟨bs, 0, none⟩) len len) := by
  simp [World.cell?, h.var]

/-- A new block of the round's. -/
theorem Mem.alloc {w wr : World} {bs len : Nat} {xs : List Value} (h : Mem w wr bs len xs) (o : Obj) : Mem w (wr.alloc o) bs len xs := by
  have := h.lt; have := h.base
  exact ⟨h.below.alloc h.below.size o, by rw [Below.heap_alloc _ _ _ (by omega)]; exact h.var, by rw [Below.heap_alloc _ _ _ (by omega)]; exact h.row, h.base⟩

theorem Mem.drew {w wr : World} {bs len : Nat} {xs : List Value} (h : Mem w wr bs len xs) : Mem w wr.drew bs len xs := ⟨h.below.drew, h.var, h.row, h.base⟩

theorem Mem.drewN {w wr : World} {bs len : Nat} {xs : List Value} (h : Mem w wr bs len xs) (n : Nat) : Mem w (wr.drewN n) bs len xs := ⟨⟨h.below.os, h.below.tape, h.below.output, h.below.size, h.below.block⟩, h.var, h.row, h.base⟩

/-- The store of the round's value. -/
theorem Mem.store {w wr : World} {bs len : Nat} {xs : List Value} (h : Mem w wr bs len xs) (k : Nat) (v : Value) : Mem w (wr.setCell ⟨bs, k, none⟩ v) bs len (xs.set k v) := by
  have := h.lt; have := h.base
  refine ⟨h.below.setCell (p := ⟨bs, k, none⟩) h.base v, by rw [Below.heap_setCell _ _ _ _ (by simp)]; exact h.var, ?_, h.base⟩
  simp [World.setCell, Array.getElem?_modify, h.row]

theorem got_set {xs : List Value} {i k : Nat} (h : i ≤ k) (m : Int) (v : Value) : got (xs.set k v) i m = got xs i m := by
  unfold got
  by_cases h' : 0 ≤ m ∧ m < i
  · rw [if_pos h', if_pos h', List.getD_eq_getElem?_getD, List.getD_eq_getElem?_getD, List.getElem?_set_ne (by omega)]
  · rw [if_neg h', if_neg h']

theorem valOf_set {c : CellD} {xs : List Value} {i k : Nat} (h : i ≤ k) (v u : Value) : ValOf c (xs.set k v) i u ↔ ValOf c xs i u := by
  unfold ValOf
  rw [got_set h, got_set h, got_set h]

/-- One round. -/
theorem Vals.step {l : List CellD} {xs : List Value} {k : Nat} (h : Vals l xs k) (hk : k < l.length) (v : Value) (hv : ValOf l[k] xs k v) : Vals l (xs.set k v) (k + 1) := by
  have hl := h.len
  refine ⟨by simp [hl], fun i hi hik => ?_, fun i hi => ?_⟩
  · by_cases e : i = k
    · subst e
      rw [List.getD_eq_getElem?_getD, List.getElem?_set_self (by omega)]
      exact (valOf_set (Nat.le_refl _) _ _).2 hv
    · rw [List.getD_eq_getElem?_getD, List.getElem?_set_ne (by omega), ← List.getD_eq_getElem?_getD]
      exact (valOf_set (by omega) _ _).2 (h.done i hi (by omega))
  · rw [List.getD_eq_getElem?_getD, List.getElem?_set_ne (by omega), ← List.getD_eq_getElem?_getD]
    exact h.todo i (by omega)

theorem Vals.idle {l : List CellD} {xs : List Value} {k : Nat} (h : Vals l xs k) (hk : k < l.length) (hv : ¬ (1 ≤ l[k].kind ∧ l[k].kind ≤ 7)) : Vals l xs (k + 1) := by
  refine ⟨h.len, fun i hi hik => ?_, fun i hi => h.todo i (by omega)⟩
  by_cases e : i = k
  · subst e
    rw [h.todo i (Nat.le_refl _)]
    exact .inr (.inr (.inr (.inr (.inr (.inr (.inr ⟨hv, rfl⟩))))))
  · exact h.done i hi (by omega)

/-- An interface value: one cell. -/
def IsIface (v : Value) : Prop := v = .nilIface ∨ ∃ t u, v = .iface t u

theorem IsIface.cells {v : Value} (h : IsIface v) : v.cells = #[v] := by
  rcases h with rfl | ⟨t, u, rfl⟩ <;> rfl

theorem ValOf.iface {c : CellD} {xs : List Value} {i : Nat} {v : Value} (h : ValOf c xs i v) : IsIface v := by
  rcases h with ⟨_, rfl⟩ | ⟨_, rfl⟩ | ⟨_, rfl⟩ | ⟨_, rfl⟩ | ⟨_, rfl⟩ | ⟨_, b, rfl⟩ | ⟨_, rfl⟩ | ⟨_, rfl⟩
  all_goals first | exact .inl rfl | exact .inr ⟨_, _, rfl⟩

theorem Vals.got_iface {l : List CellD} {xs : List Value} {k : Nat} (h : Vals l xs k) (hk : k ≤ l.length) (m : Int) : IsIface (got xs k m) := by
  unfold got
  split
  · exact (h.done m.toNat (by omega) (by omega)).iface
  · exact .inl rfl

def ValuesPost (l : List CellD) (w : World) (e : Ending) (w' : World) : Prop :=
  ∃ bs xs, e = .returned (.slice (some ⟨bs, 0, none⟩) l.length l.length) ∧ Vals l xs l.length ∧ Mem w w' bs l.length xs

set_option maxRecDepth 100000 in
set_option maxHeartbeats 800000 in
theorem values_any (A : Option Addr) (len cap : Nat) (l : List CellD) (w : World) (hin : CellsIn w A len l) (hreach : len * 64 ≤ 140737488351232) :
    Calls Try.prog 11 #[.slice A len cap] w (ValuesPost l w) := by
  have hmf : ∀ (fn : Fn) (first cap : Array Value) (w : World), (Instr.makeFunc fn first cap).run Try.prog w = .ok (.func fn first cap) w := fun _ _ _ _ => rfl
  have hmk := fun W : World => run_make_row' (P := Try.prog) 32 37 .nilIface 16 Try.underlying32 (by kernel_rfl) rfl .i64 .i64 len (by omega) (by omega) W
  go_enter Try.func11, Try.ntmps11
  go_wp2
  go_loopw [13] (fun c wr => ∃ k : Nat, k ≤ len ∧ c = .int .i64 k ∧ ∃ xs, Vals l xs k ∧ Mem w wr w.heap.size len xs) (fun c _ => len - (intOf c).toNat)
  case atStart => exact ⟨0, Nat.zero_le _, rfl, _, vals_start l len hin.len_eq, mem_start w len⟩
  case round =>
    obtain ⟨k, hk, rfl, xs, hvals, hmem⟩ := hrel
    have hs := hmem.slot
    by_cases hlt : k < len
    · obtain ⟨b, off, rfl, hb, hat⟩ := hin.at_ (by omega)
      have hkl : k < l.length := by have := hin.len_eq; omega
      have hold : ∀ o, wr.cell? ⟨b, o, none⟩ = w.cell? ⟨b, o, none⟩ := fun o => hmem.below.cell (p := ⟨b, o, none⟩) hb
      obtain ⟨g0, g1, g2, g3, g4, g5, g6⟩ := hat k hkl
      rw [← hold] at g0 g1 g2 g3 g4 g5 g6
      clear hold hat
      have hz := hmem.lt
      have hz0 : w.heap.size < wr.heap.size := by omega
      have hz1 : ¬ w.heap.size = wr.heap.size := by omega
      have hstep := fun v (hv : ValOf l[k] xs k v) => hvals.step hkl v hv
      have hidle := fun (hv : ¬ (1 ≤ l[k].kind ∧ l[k].kind ≤ 7)) => hvals.idle hkl hv
      generalize l[k] = ck at g0 g1 g2 g3 g4 g5 g6 hstep hidle
      obtain ⟨kind, op, n, name, ca, cb, cc⟩ := ck
      dsimp only at g0 g1 g2 g3 g4 g5 g6 hidle
      have hget : ∀ (W : World) (m : Int), Mem w W w.heap.size len xs → Calls Try.prog 27 #[.int .i64 k, .int .i64 m, .pointer (some ⟨w.heap.size + 1, 0, none⟩)] W fun e w' => e = .returned (got xs k m) ∧ w' = W := fun W m hM =>
        (get_any k m w.heap.size len xs W hk (by have := hvals.len; have := hin.len_eq; omega) hM.slot hM.row).mono fun e w' ⟨h1, h2⟩ => ⟨h1, h2.symm⟩
      have hget := Lib.hid hget
      have hcell : ∀ m, (got xs k m).cells = #[got xs k m] := fun m => (hvals.got_iface (by omega) m).cells
      unfold Value.cells at hcell
      have hstep := Lib.hid hstep
      have hidle := Lib.hid hidle
      have hmem := Lib.hid hmem
      have hfr : wr.frozen? ⟨w.heap.size, k, none⟩ = false := free_row hmem.out.row
      have hck : wr.cell? ⟨w.heap.size, k, none⟩ = some (xs.getD k .nilIface) := by rw [cell_row hmem.out.row, List.getD_eq_getElem?_getD, List.getElem?_eq_getElem (by have := hvals.len; have := hin.len_eq; omega)]; rfl
      clear hvals hin hb hkl
      by_cases k1 : kind = 1
      · subst k1
        go_wp2
        go_roundw
        case rel => exact ⟨k + 1, by omega, by go_num, _, hstep.out _ (.inl ⟨rfl, rfl⟩), (hmem.out.store _ _).alloc _⟩
        case measure => simp [intOf]; omega
      by_cases k2 : kind = 2
      · subst k2
        go_wp2
        go_roundw
        case rel => exact ⟨k + 1, by omega, by go_num, _, hstep.out _ (.inr (.inl ⟨rfl, rfl⟩)), (hmem.out.store _ _).alloc _⟩
        case measure => simp [intOf]; omega
      by_cases k3 : kind = 3
      · subst k3
        go_wp2
        refine wp_region_still_tail 12 (by kernel_rfl) (by kernel_rfl) ?_
        show wpStill _ _ (World.drew _) _ _ _
        simp only [List.take_succ_cons, List.take_zero, List.drop_succ_cons, List.drop_zero]
        repeat still_step
        still_call (hget.out _ _ (hmem.out.alloc _).drew)
        repeat still_step
        refine wpStill_nil ?_
        show wpList _ _ _ _ _ (World.drew _)
        go_wp2
        go_roundw
        case rel => exact ⟨k + 1, by omega, by go_num, _, hstep.out _ (.inr (.inr (.inl ⟨rfl, rfl⟩))), ((hmem.out.store _ _).alloc _).drew⟩
        case measure => simp [intOf]; omega
      by_cases k4 : kind = 4
      · subst k4
        go_wp2
        refine wp_region_still_tail 17 (by kernel_rfl) (by kernel_rfl) ?_
        show wpStill _ _ (World.drew _) _ _ _
        simp only [List.take_succ_cons, List.take_zero, List.drop_succ_cons, List.drop_zero]
        repeat still_step
        still_call (hget.out _ _ (hmem.out.alloc _).drew)
        repeat still_step
        still_call (hget.out _ _ (hmem.out.alloc _).drew)
        repeat still_step
        refine wpStill_nil ?_
        show wpList _ _ _ _ _ (World.drew _)
        go_wp2
        go_roundw
        case rel => exact ⟨k + 1, by omega, by go_num, _, hstep.out _ (.inr (.inr (.inr (.inl ⟨rfl, rfl⟩)))), ((hmem.out.store _ _).alloc _).drew⟩
        case measure => simp [intOf]; omega
      by_cases k5 : kind = 5
      · subst k5
        go_wp2
        refine wp_region_still_tail 20 (by kernel_rfl) (by kernel_rfl) ?_
        show wpStill _ _ (World.drew _) _ _ _
        simp only [List.take_succ_cons, List.take_zero, List.drop_succ_cons, List.drop_zero]
        repeat still_step
        still_call (hget.out _ _ (hmem.out.alloc _).drew)
        repeat still_step
        still_call (hget.out _ _ (hmem.out.alloc _).drew)
        repeat still_step
        still_call (hget.out _ _ (hmem.out.alloc _).drew)
        repeat still_step
        refine wpStill_nil ?_
        show wpList _ _ _ _ _ (World.drew _)
        go_wp2
        go_roundw
        case rel => exact ⟨k + 1, by omega, by go_num, _, hstep.out _ (.inr (.inr (.inr (.inr (.inl ⟨rfl, rfl⟩))))), ((hmem.out.store _ _).alloc _).drew⟩
        case measure => simp [intOf]; omega
      by_cases k6 : kind = 6
      · subst k6
        go_wp2
        go_roundw
        case rel => exact ⟨k + 1, by omega, by go_num, _, hstep.out _ (.inr (.inr (.inr (.inr (.inr (.inl ⟨rfl, _, rfl⟩)))))), ((hmem.out.store _ _).alloc _).alloc _⟩
        case measure => simp [intOf]; omega
      by_cases k7 : kind = 7
      · subst k7
        go_wp2
        go_roundw
        case rel => exact ⟨k + 1, by omega, by go_num, _, hstep.out _ (.inr (.inr (.inr (.inr (.inr (.inr (.inl ⟨rfl, rfl⟩))))))), (hmem.out.store _ _).alloc _⟩
        case measure => simp [intOf]; omega
      have n1 : (kind == 1) = false := by simpa using k1
      have n2 : (kind == 2) = false := by simpa using k2
      have n3 : (kind == 3) = false := by simpa using k3
      have n4 : (kind == 4) = false := by simpa using k4
      have n5 : (kind == 5) = false := by simpa using k5
      have n6 : (kind == 6) = false := by simpa using k6
      have n7 : (kind == 7) = false := by simpa using k7
      go_wp2
      go_roundw
      case rel => exact ⟨k + 1, by omega, by go_num, _, hidle.out (by omega), hmem.out.alloc _⟩
      case measure => simp [intOf]; omega
    · go_wp2
      go_ret
      obtain rfl : k = len := by omega
      have he := hin.len_eq
      exact ⟨w.heap.size, xs, by rw [he]; rfl, by rw [he]; exact hvals, by rw [he]; exact hmem⟩

end Go.Proofs.Ythicopkfgefbpaa.Box
