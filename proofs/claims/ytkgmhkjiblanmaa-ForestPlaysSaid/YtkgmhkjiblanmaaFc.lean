/-
  The walk of Add (package forest).
-/
import Derived.Test.YtkgmhkjiblanmaaFb
import Derived.Deep.RegionLaw
import Derived.Deep.AppendLies
namespace Go.Proofs.Ytkgmhkjiblanmaa
open Go.RowKit

theorem info3 : (Try.prog.info? 3).map (fun i => (i.zero, i.size, i.bytes)) = some (some (.int .i64 0), 1, 8) := by kernel_rfl
theorem info69 : (Try.prog.info? 69).map (fun i => (i.zero, i.size, i.bytes)) = some (some (.slice none 0 0), 1, 24) := by kernel_rfl

theorem info71 : (Try.prog.info? 71).map (fun i => (i.zero, i.size, i.bytes)) = some (some (.agg #[.int .i64 0, .nilIface, .bool false]), 3, 32) := by kernel_rfl

/-- The three rows are as long as one another; no more members than the program allows. -/
structure Even (F : FS) : Prop where
  size : F.size.length = F.up.length
  joints : F.joints.length = F.up.length
  most : F.up.length ≤ 1048576

set_option maxRecDepth 100000 in
set_option maxHeartbeats 800000 in
theorem add_full (L : Lay) (F : FS) (w : World) (h : Rep w L F) (hn : ¬ F.up.length < 1048576) :
    Calls Try.prog 18 #[.pointer (some ⟨L.p, 0, none⟩)] w fun e w' => e = .returned (.tuple #[.int .i64 0, .int .i64 10]) ∧ w = w' := by
  obtain ⟨A, c, hv⟩ := own_form h.up
  have h0 := h.cells.1
  rw [hv] at h0
  have hn' : (1048576 : Int) ≤ F.up.length := by omega
  clear h hv
  go_enter Try.func18, Try.ntmps18
  go_wp2
  go_ret2
  exact ⟨rfl, rfl⟩

/-- The header's cell behind an append to the row 'up'. -/
theorem Rep.far {w w1 : World} {L : Lay} {F : FS} (h : Rep w L F) {row : Option Nat} (hg : w.grownBy w1 row) (hr : row ≠ some L.p) : w1.cell? ⟨L.p, 0, none⟩ = some L.vu ∧ w1.cell? ⟨L.p, 1, none⟩ = some L.vs ∧ w1.cell? ⟨L.p, 2, none⟩ = some L.vj ∧ ∀ i, w1.frozen? ⟨L.p, i, none⟩ = false := by
  have e := (hg.block L.p (Array.getElem?_eq_some_iff.1 h.head).1 (fun e => hr e.symm)).trans h.head
  refine ⟨?_, ?_, ?_, fun i => ?_⟩
  · simp [World.cell?, e]
  · simp [World.cell?, e]
  · simp [World.cell?, e]
  · simp [World.frozen?, e]

theorem Rep.row_ne {w : World} {L : Lay} {F : FS} (h : Rep w L F) (s : Nat) (hs : s ≠ 0) : L.slot s ≠ some L.p := fun e => hs (h.inj s 0 L.p e rfl)

theorem own_up {w : World} {L : Lay} {F : FS} {A : Option Addr} {c : Nat} (h : Rep w L F) (hv : L.vu = .slice A F.up.length c) (o : Obj) : (w.alloc o).drew.ownsRow 0 3 1 (.slice A F.up.length c) F.up.length (upCells F.up) := by
  rw [← hv]; exact ((h.alloc o).drew).up
theorem news_drawn (w : World) (cs : Array Value) (t : TypeId) : ∀ j u, cs.toList[j]? = some u → (w.alloc (.cells cs t)).drew.cell? ((⟨w.heap.size, 0, none⟩ : Addr).add j) = some u :=
  World.news_of_block (w := (w.alloc (.cells cs t)).drew) (heap_alloc_new w _)

theorem news_set (w : World) (a : Addr) (v : Value) (cs : Array Value) (t : TypeId) : ∀ j u, cs.toList[j]? = some u → ((w.setCell a v).alloc (.cells cs t)).cell? ((⟨w.heap.size, 0, none⟩ : Addr).add j) = some u := by
  have e : w.heap.size = (w.setCell a v).heap.size := by simp
  rw [e]
  exact World.news_of_block (heap_alloc_new _ _)

theorem up_grown {w w3 : World} {L : Lay} {F : FS} {A : Option Addr} {c g cap : Nat} {o : Obj} (h : Rep w L F) (hv : L.vu = .slice A F.up.length c) (hown : w3.ownsRow 0 3 1 (.slice (some ⟨g, 0, none⟩) (F.up.length + 1) cap) (F.up.length + 1) (upCells F.up ++ [.int .i64 F.up.length])) (hgrow : (w.alloc o).drew.grownBy w3 (Value.slice A F.up.length c).ownBlock) (hat : (Value.slice A F.up.length c).ownBlock = some g ∨ g = w.heap.size + 1) :
    (w3.cell? ⟨L.p, 0, none⟩ = some (.slice A F.up.length c) ∧ w3.frozen? ⟨L.p, 0, none⟩ = false) ∧ (Rep (w3.setCell ⟨L.p, 0, none⟩ (.slice (some ⟨g, 0, none⟩) (F.up.length + 1) cap)) { L with vu := .slice (some ⟨g, 0, none⟩) (F.up.length + 1) cap } { F with up := F.up ++ [F.up.length] } ∧
      Moves w (w3.setCell ⟨L.p, 0, none⟩ (.slice (some ⟨g, 0, none⟩) (F.up.length + 1) cap)) L { L with vu := .slice (some ⟨g, 0, none⟩) (F.up.length + 1) cap }) := by
  have h1 : Rep (w.alloc o).drew L F := (h.alloc o).drew
  have hm : Moves w (w.alloc o).drew L L := Moves.still L (((Below.refl _ _).alloc (Nat.le_refl _) o).drew)
  rw [← hv] at hgrow hat
  obtain ⟨f0, f1, f2, f3⟩ := h1.far hgrow (h1.row_ne 1 (by omega))
  have hl : (F.up ++ [F.up.length]).length = F.up.length + 1 := by simp
  obtain ⟨r1, r2⟩ := h1.new_up (l := F.up ++ [F.up.length]) (v := .slice (some ⟨g, 0, none⟩) (F.up.length + 1) cap) (g := g) hgrow (by rw [hl]; simpa [upCells] using hown) rfl (hat.imp id fun e => Nat.le_of_eq (by rw [e]; exact (Go.Deep.nblk_alloc w o)))
  exact ⟨⟨hv ▸ f0, f3 0⟩, r1, hm.trans r2⟩

theorem size_grown {w w3 : World} {L : Lay} {F : FS} {A : Option Addr} {c g cap : Nat} {o : Obj} (h : Rep w L F) (hv : L.vs = .slice A F.size.length c) (hown : w3.ownsRow 0 3 1 (.slice (some ⟨g, 0, none⟩) (F.size.length + 1) cap) (F.size.length + 1) (sizeCells F.size ++ [.int .i64 1])) (hgrow : (w.alloc o).grownBy w3 (Value.slice A F.size.length c).ownBlock) (hat : (Value.slice A F.size.length c).ownBlock = some g ∨ g = w.heap.size + 1) :
    (w3.cell? ⟨L.p, 1, none⟩ = some (.slice A F.size.length c) ∧ w3.frozen? ⟨L.p, 1, none⟩ = false ∧ w3.cell? ⟨L.p, 2, none⟩ = some L.vj ∧ w3.frozen? ⟨L.p, 2, none⟩ = false) ∧ (Rep (w3.setCell ⟨L.p, 1, none⟩ (.slice (some ⟨g, 0, none⟩) (F.size.length + 1) cap)) { L with vs := .slice (some ⟨g, 0, none⟩) (F.size.length + 1) cap } { F with size := F.size ++ [1] } ∧
      Moves w (w3.setCell ⟨L.p, 1, none⟩ (.slice (some ⟨g, 0, none⟩) (F.size.length + 1) cap)) L { L with vs := .slice (some ⟨g, 0, none⟩) (F.size.length + 1) cap }) := by
  have h1 : Rep (w.alloc o) L F := h.alloc o
  have hm : Moves w (w.alloc o) L L := Moves.still L ((Below.refl _ _).alloc (Nat.le_refl _) o)
  rw [← hv] at hgrow hat
  obtain ⟨f0, f1, f2, f3⟩ := h1.far hgrow (h1.row_ne 2 (by omega))
  have hl : (F.size ++ [1]).length = F.size.length + 1 := by simp
  obtain ⟨r1, r2⟩ := h1.new_size (l := F.size ++ [1]) (v := .slice (some ⟨g, 0, none⟩) (F.size.length + 1) cap) (g := g) hgrow (by rw [hl]; simpa [sizeCells] using hown) rfl (hat.imp id fun e => Nat.le_of_eq (by rw [e]; exact (Go.Deep.nblk_alloc w o)))
  exact ⟨⟨hv ▸ f1, f3 1, f2, f3 2⟩, r1, hm.trans r2⟩

theorem joints_grown {w w3 : World} {L : Lay} {F : FS} {A : Option Addr} {c g cap : Nat} {o : Obj} (h : Rep w L F) (hv : L.vj = .slice A F.joints.length c) (hown : w3.ownsRow 0 69 1 (.slice (some ⟨g, 0, none⟩) (F.joints.length + 1) cap) (F.joints.length + 1) (L.js ++ [.slice none 0 0])) (hgrow : (w.alloc o).grownBy w3 (Value.slice A F.joints.length c).ownBlock) (hat : (Value.slice A F.joints.length c).ownBlock = some g ∨ g = w.heap.size + 1) :
    (w3.cell? ⟨L.p, 2, none⟩ = some (.slice A F.joints.length c) ∧ w3.frozen? ⟨L.p, 2, none⟩ = false ∧ w3.cell? ⟨L.p, 0, none⟩ = some L.vu) ∧ (Rep (w3.setCell ⟨L.p, 2, none⟩ (.slice (some ⟨g, 0, none⟩) (F.joints.length + 1) cap)) { L with vj := .slice (some ⟨g, 0, none⟩) (F.joints.length + 1) cap, js := L.js ++ [.slice none 0 0] } { F with joints := F.joints ++ [[]] } ∧
      Moves w (w3.setCell ⟨L.p, 2, none⟩ (.slice (some ⟨g, 0, none⟩) (F.joints.length + 1) cap)) L { L with vj := .slice (some ⟨g, 0, none⟩) (F.joints.length + 1) cap, js := L.js ++ [.slice none 0 0] }) := by
  have h1 : Rep (w.alloc o) L F := h.alloc o
  have hm : Moves w (w.alloc o) L L := Moves.still L ((Below.refl _ _).alloc (Nat.le_refl _) o)
  rw [← hv] at hgrow hat
  obtain ⟨f0, f1, f2, f3⟩ := h1.far hgrow (h1.row_ne 3 (by omega))
  obtain ⟨r1, r2⟩ := h1.new_joints (v := .slice (some ⟨g, 0, none⟩) (F.joints.length + 1) cap) (g := g) hgrow hown rfl (hat.imp id fun e => Nat.le_of_eq (by rw [e]; exact (Go.Deep.nblk_alloc w o)))
  exact ⟨⟨hv ▸ f2, f3 2, f0⟩, r1, hm.trans r2⟩

set_option maxRecDepth 100000 in
set_option maxHeartbeats 800000 in
theorem add_any (L : Lay) (F : FS) (w : World) (h : Rep w L F) (he : Even F) (hn : F.up.length < 1048576) :
    Calls Try.prog 18 #[.pointer (some ⟨L.p, 0, none⟩)] w fun e w' => e = .returned (.tuple #[.int .i64 F.up.length, .int .i64 0]) ∧ ∃ L', Rep w' L' ⟨F.up ++ [F.up.length], F.size ++ [1], F.joints ++ [[]]⟩ ∧ Moves w w' L L' := by
  obtain ⟨i3, hi3, hz30, hz31, hz32⟩ := info_parts info3
  obtain ⟨i69, hi69, hz90, hz91, hz92⟩ := info_parts info69
  obtain ⟨A, c, hv⟩ := own_form h.up
  have h0 := h.cells.1
  have hf0 := h.unfrozen 0
  rw [hv] at h0
  have hn' : ¬ (1048576 : Int) ≤ F.up.length := by omega
  have h0a : ∀ o, (w.alloc o).cell? ⟨L.p, 0, none⟩ = some (.slice A F.up.length c) := fun o => by rw [← hv]; exact (h.alloc o).cells.1
  have Hv := Lib.hid hv
  have H := Lib.hid h
  clear h hv
  go_enter Try.func18, Try.ntmps18
  go_wp2
  go_region_law (refine step_append_lies _ rfl (.tmp 16) (.tmp 22) 27 rfl 0 3 i3 (.int .i64 0) 1 8 Try.underlying27 hi3 hz30 hz31 hz32 rfl (by decide) (.slice A F.up.length c) F.up.length (upCells F.up) (by simp [Act.eval]) (own_up H.out Hv.out _) ⟨w.heap.size, 0, none⟩ 1 1 [.int .i64 F.up.length] (by simp [Act.eval]) rfl (news_drawn _ _ _) (by simp [Value.oneCell']) (by decide) (by unfold maxLen; omega) (by omega) (Nat.zero_le _) (w.heap.size + 1) (by exact (Go.Deep.nblk_alloc _ _)) ?_; intro g cap w3 hown hgrow hat hlt; obtain ⟨⟨hc3, hf3⟩, hr⟩ := up_grown H.out Hv.out hown hgrow hat; have Hr := Lib.hid hr; clear hown hgrow hat hr)
  all_goals
    obtain ⟨hr4, hm4⟩ := Hr.out
    clear Hr hc3 hf3 h0 hf0 h0a hlt
    generalize w3.setCell ⟨L.p, 0, none⟩ (.slice (some ⟨g, 0, none⟩) (F.up.length + 1) cap) = w4 at hr4 hm4 ⊢
    obtain ⟨A2, c2, hv2⟩ := own_form hr4.size
    obtain ⟨A3, c3, hv3⟩ := own_form hr4.joints
    have h1 := hr4.cells.2.1
    have hf1 := hr4.unfrozen 1
    rw [hv2] at h1
    have Hv2 := Lib.hid hv2
    have Hv3 := Lib.hid hv3
    have H4 := Lib.hid hr4
    have Hm4 := Lib.hid hm4
    clear hr4 hm4 hv2 hv3
    dsimp only at h1 hf1
    go_wp2_with (at_builtin; first
      | (refine wpList_append_lies _ rfl _ _ 27 rfl 0 3 i3 (.int .i64 0) 1 8 Try.underlying27 hi3 hz30 hz31 hz32 rfl (by decide) (.slice A2 F.size.length c2) F.size.length (sizeCells F.size) rfl ((Hv2.out ▸ H4.out.size).alloc _) ⟨w4.heap.size, 0, none⟩ 1 1 [.int .i64 1] rfl rfl (World.news_of_block (heap_alloc_new _ _)) (by simp [Value.oneCell']) (by decide) (by have := he.size; unfold maxLen; omega) (by have := he.size; omega) (Nat.zero_le _) (w4.heap.size + 1) (by exact (Go.Deep.nblk_alloc _ _)) ?_; intro g2 cap2 w5 hown hgrow hat hlt; obtain ⟨⟨hc5, hf5, hc52, hf52⟩, hr⟩ := size_grown H4.out Hv2.out hown hgrow hat; rw [Hv3.out] at hc52; dsimp only at hc5 hf5 hc52 hf52; have Hr5 := Lib.hid hr; clear hown hgrow hat hr h1 hf1)
      | (refine wpList_append_lies _ rfl _ _ 64 rfl 0 69 i69 (.slice none 0 0) 1 24 Try.underlying64 hi69 hz90 hz91 hz92 rfl (by decide) (.slice A3 F.joints.length c3) F.joints.length L.js rfl ((Hv3.out ▸ Hr5.out.1.joints).alloc _) ⟨w5.heap.size, 0, none⟩ 1 1 [.slice none 0 0] rfl rfl (news_set _ _ _ _ _) (by simp [Value.oneCell']) (by decide) (by have := he.joints; unfold maxLen; omega) (by have := he.joints; omega) (Nat.zero_le _) (w5.heap.size + 1) (by simp) ?_; intro g3 cap3 w6 hown hgrow hat hlt3; obtain ⟨⟨hc6, hf6, hc60⟩, hr⟩ := joints_grown Hr5.out.1 Hv3.out hown hgrow (hat.imp id fun e => by rw [e]; simp); dsimp only at hc6 hf6 hc60; have Hr6 := Lib.hid hr; clear hown hgrow hat hr hc5 hf5 hc52 hf52))
    go_ret2
    refine ⟨?_, _, Hr6.out.1, (Hm4.out.trans Hr5.out.2).trans Hr6.out.2⟩

    simp

theorem even_add {F : FS} (he : Even F) (hn : F.up.length < 1048576) : Even ⟨F.up ++ [F.up.length], F.size ++ [1], F.joints ++ [[]]⟩ :=
  ⟨by simp [he.size], by simp [he.joints], by simp; omega⟩

end Go.Proofs.Ytkgmhkjiblanmaa
