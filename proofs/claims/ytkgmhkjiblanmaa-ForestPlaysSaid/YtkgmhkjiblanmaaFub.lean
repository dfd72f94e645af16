/-
  The walk of Path (package sorrelref09).
-/
import Derived.Test.YtkgmhkjiblanmaaFua
import Derived.BigRegion
namespace Go.Proofs.Ytkgmhkjiblanmaa
open Go.RowKit

theorem Sp.flip_flip (s : Sp) : s.flip.flip = s := by cases s; simp [Sp.flip]
theorem flips_flip (l : List Sp) : (l.map Sp.flip).map Sp.flip = l := by
  rw [List.map_map]
  have : (Sp.flip ∘ Sp.flip) = id := by funext s; exact s.flip_flip
  rw [this, List.map_id]

/-- A step with its reason's number. -/
abbrev Ns := Sp × Int
def Ns.cells (p : Ns) : List Value := [.int .i64 (p.1.fr : Nat), .int .i64 (p.1.dst : Nat), .int .i64 p.2, .bool p.1.back]
def numCells (l : List Ns) : List Value := l.flatMap Ns.cells
def Ns.good (es : List Ed) (js : List JN) (p : Ns) : Prop := ∃ (i : Nat) (e : Ed) (j : JN), es[i]? = some e ∧ js[i]? = some j ∧ p.1.why = e.why ∧ p.2 = j.why

structure Back (es : List Ed) (js : List JN) (w0 : World) (O : List Nat) (a y i : Nat) (v : Value) (P : List Ns) (wr : World) : Prop where
  trail : Trail es O a y i ((P.map Prod.fst).map Sp.flip)
  own : wr.ownsRow w0.heap.size 114 4 v P.length (numCells P)
  below : Below w0.heap.size w0 wr
  good : ∀ p ∈ P, p.good es js

theorem Back.step {es : List Ed} {js : List JN} {w0 wr w5 : World} {O : List Nat} {a y i i' : Nat} {v v' : Value} {P : List Ns} {s : Sp} {k : Int} (h : Back es js w0 O a y i v P wr)
    (ht : Trail es O a s.fr i' ((P.map Prod.fst).map Sp.flip ++ [s])) (hg : Ns.good es js (s.flip, k)) {w2 : World} (hb : Below wr.heap.size wr w2) (hown : w5.ownsRow w0.heap.size 114 4 v' (P.length + 1) (numCells P ++ Ns.cells (s.flip, k))) (hgr : w2.grownBy w5 v.ownBlock) :
    Back es js w0 O a s.fr i' v' (P ++ [(s.flip, k)]) w5 := by
  have hB : Below w0.heap.size w0 w2 := h.below.trans (hb.mono h.below.size)
  refine ⟨?_, ?_, hB.grown hgr hB.size (fun q hq => (h.own.lt q hq).1), fun p hp => ?_⟩
  · rw [List.map_append, List.map_append]
    simpa [Sp.flip_flip] using ht
  · rw [List.length_append]
    have e : numCells (P ++ [(s.flip, k)]) = numCells P ++ Ns.cells (s.flip, k) := by simp [numCells]
    rw [e]; exact hown
  · rcases List.mem_append.1 hp with hp | hp
    · exact h.good p hp
    · rw [List.mem_singleton] at hp; subst hp; exact hg

theorem Reach.from {es : List Ed} {b n : Nat} {O : List Nat} {f : Nat → Option Sp} {mk : List Int} (h : Reach es b n O f mk) {y : Nat} {s : Sp} (hy : y < n) (hs : f y = some s) (hne : y ≠ b) (hyO : y ∈ O) :
    ∃ (q : Nat) (e : Ed), mk[y]? = some ((q : Int) + 1) ∧ es[q]? = some e ∧ s.on e ∧ s.dst = y := by
  obtain ⟨v, hv, hor⟩ := h.at_ y hy
  rcases hor with ⟨_, hn⟩ | ⟨_, hx, _⟩ | ⟨q, e, s', rfl, he, hf, hd, ho, _, _⟩
  · exact absurd hyO hn
  · exact absurd hx hne
  · rw [hs] at hf; cases hf
    exact ⟨q, e, hv, he, ho, hd⟩

def RPathed (es : List Ed) (js : List JN) (a b : Nat) (w : World) (e : Ending) (w' : World) : Prop :=
  ∃ A c l, e = .returned (.tuple #[.slice A l.length c, .int .i64 0]) ∧ Simple es a b (l.map Prod.fst) ∧ (∀ p ∈ l, Ns.good es js p) ∧ w'.ownsRow w.heap.size 114 4 (.slice A l.length c) l.length (numCells l) ∧ Below w.heap.size w w'

theorem Back.done {es : List Ed} {js : List JN} {w0 wr : World} {O : List Nat} {a b i : Nat} {v : Value} {P : List Ns} (h : Back es js w0 O a b i v P wr) : Simple es a b (P.map Prod.fst) := by
  have h1 : Simple es b a ((P.map Prod.fst).map Sp.flip).reverse := ⟨h.trail.way, h.trail.nodup⟩
  have h2 := h1.turn
  rw [List.map_reverse, List.reverse_reverse, flips_flip] at h2
  exact h2

theorem info114 : (Try.prog.info? 114).map (fun i => (i.zero, i.size, i.bytes)) = some (some (.agg #[.int .i64 0, .int .i64 0, .int .i64 0, .bool false]), 4, 32) := by kernel_rfl

theorem news_drawn2 (W : World) (k : Nat) (hk : W.heap.size = k) (cs : Array Value) (t : TypeId) : ∀ j u, cs.toList[j]? = some u → (W.alloc (.cells cs t)).drew.cell? ((⟨k, 0, none⟩ : Addr).add j) = some u := by
  subst hk
  exact news_drawn W cs t

theorem box_kept {wr w5 : World} {o1 o3 : Obj} {cs : Array Value} {t : TypeId} {row : Option Nat} (hg : (((wr.alloc o1).alloc (.cells cs t)).alloc o3).drew.grownBy w5 row) (hr : ∀ k, row = some k → k < wr.heap.size) (i : Nat) : w5.cell? ⟨wr.heap.size + 1, i, none⟩ = cs[i]? := by
  have e : (wr.alloc o1).heap.size = wr.heap.size + 1 := by simp
  have h1 := box_cell (wr.alloc o1) cs t o3 i
  rw [e] at h1
  rw [← h1]
  exact World.cell?_of_block (hg.block _ (by simp) (fun e => by have := hr _ e.symm; dsimp only at this; omega))

section
variable {w : World} {base pw n : Nat} {jv : Value} {js : List JN} {es : List Ed} {rt : Nat → Nat}

set_option maxRecDepth 100000 in
set_option maxHeartbeats 1600000 in
theorem rpath_in (h : Side w base pw n jv js es rt) {a b : Nat} (ha : a < n) (hb : b < n) (hr : rt a = rt b) : Calls Try.prog 35 #[.pointer (some ⟨pw, 0, none⟩), .int .i64 a, .int .i64 b] w (RPathed es js a b w) := by
  obtain ⟨A, c, rfl⟩ := row_form h.refs.row
  obtain ⟨i114, hi114, hz0, hz1, hz2⟩ := info_parts info114
  have hjl : js.length ≤ n := by have h1 := h.wood.count; have h2 := h.mat.len; omega
  have hmost := h.most
  have H := Lib.hid h
  have Hr := Lib.hid hr
  clear h hr
  go_enter Try.func35, Try.ntmps35
  go_wp2_with fail
  refine (has_in H.out ha).mono ?_
  rintro e w1 ⟨rfl, rfl⟩
  go_wp2_with fail
  refine (has_in H.out hb).mono ?_
  rintro e w1 ⟨rfl, rfl⟩
  go_wp2_with fail
  refine (reach_walk es rt b n base pw _ js w H.out.refs H.out.mat H.out.wood hb H.out.most).mono ?_
  rintro e w1 ⟨rfl, O, f, mk, hs, hO⟩
  obtain ⟨va, hva, hiff⟩ := hs.reach.known ha
  obtain ⟨hcb, _, hgl⟩ := hs.at_ hva
  have hai : (a : Int) < n := by omega
  have haO : a ∈ O := (hO a).2 Hr.out
  have hq : (va == 0) = false := by simp [hiff.1 haO]
  obtain ⟨ia, hia⟩ := List.getElem?_of_mem haO
  have Hs := Lib.hid hs
  have Hback : Hid (Back es js w1 O a a ia (.slice none 0 0) [] w1) := ⟨Trail.start hia, World.ownsRow_nil _ _ _ _, Below.refl _ _, fun p hp => by cases hp⟩
  have Hroom : Hid (O.length ≤ n) := hs.room H.out.wood hb
  clear hs hO hva hiff haO hia
  go_wp2
  clear hcb hgl
  go_loopg [9, 10] ia (fun gi v x wr => ∃ P y, x = .int .i64 (y : Nat) ∧ Back es js w1 O a y gi v P wr)
  case atStart => exact ⟨[], a, rfl, Hback.out⟩
  case round =>
    obtain ⟨P, y, rfl, hh⟩ := hrel
    have Hh := Lib.hid hh
    clear hh Hback
    obtain ⟨A', c', rfl⟩ := row_form Hh.out.own
    have hPl : Hid (P.length < n) := by have h1 := Hh.out.trail.room; have h2 := Hroom.out; rw [List.length_map, List.length_map] at h1; unfold Hid; omega
    have hbw : Below w.heap.size w wr := Hs.out.below.trans (Hh.out.below.mono Hs.out.below.size)
    have Hbw := Lib.hid hbw
    by_cases hyb : y = b
    · have hq1 : ((y : Int) != (b : Int)) = false := by simp [hyb]
      subst hyb
      have Hend : Hid (RPathed es js a y w (.returned (.tuple #[.slice A' P.length c', .int .i64 0])) wr) := ⟨A', c', P, rfl, Hh.out.done, Hh.out.good, own_lower Hh.out.own Hs.out.below.size, hbw⟩
      clear hbw
      go_wp2
      go_ret2
      exact Hend.out
    · have hq1 : ((y : Int) != (b : Int)) = true := by simp; omega
      obtain ⟨s, hs, i', hi', htr⟩ := Hh.out.trail.step Hs.out.reach.bfs hyb
      have hyO : y ∈ O := List.mem_of_getElem? Hh.out.trail.at_
      have hyn : y < n := Hs.out.reach.bfs.lt H.out.wood hb y hyO
      obtain ⟨q, ed, hmk, hed, hon, hdst⟩ := Hs.out.reach.from hyn hs hyb hyO
      obtain ⟨hc0, hc1⟩ := (H.out.refs.below hbw).cells
      have hql : q < js.length := by rw [← H.out.mat.len]; exact (List.getElem?_eq_some_iff.1 hed).1
      obtain ⟨j, hj⟩ : ∃ j, js[q]? = some j := ⟨_, List.getElem?_eq_getElem hql⟩
      have hab := H.out.mat.at_ q ed j hed hj
      have hgood : Ns.good es js (s.flip, j.why) := ⟨q, ed, j, hed, hj, by rcases hon with ⟨_, rfl⟩ | ⟨_, rfl⟩ <;> rfl, rfl⟩
      obtain ⟨gj, rfl, hgj, _⟩ := H.out.refs.block (by omega)
      obtain ⟨c0, c1, c2⟩ := (H.out.refs.below hbw).joint_at hj
      obtain ⟨cy, _, hgl⟩ := Hs.out.at_ hmk
      have hcy : wr.cell? ⟨w.heap.size, y, none⟩ = some (.int .i64 ((q : Int) + 1)) := (World.cell?_of_block (Hh.out.below.block _ hgl)).trans cy
      have hsz := hbw.size
      have hgl' : w.heap.size < wr.heap.size := Nat.lt_of_lt_of_le hgl Hh.out.below.size
      have hgj' : gj < wr.heap.size := by omega
      have hgne : ¬ gj = w.heap.size := by omega
      have hplr : pw < wr.heap.size := by have := H.out.refs.lt; omega
      have hqi : ((q : Nat) : Int) < js.length := by omega
      have hyni : (y : Int) < n := by omega
      have hwq : IntKind.i64.wrap (q : Int) = q := wrap_small _ (by omega) (by omega)
      have hyw := H.out.wood.each ed (List.mem_of_getElem? hed)
      have Hgood := Lib.hid hgood
      have Htr := Lib.hid htr
      have Hi' := Lib.hid hi'
      obtain ⟨sf, sd, sw, sb⟩ := s
      obtain ⟨ja, jb, jw⟩ := j
      dsimp only at hab hdst c0 c1 c2
      subst hdst
      clear hs hi' htr hyO hmk hed hj hgood hbw cy hgl
      rcases hon with ⟨hb', he⟩ | ⟨hb', he⟩
      · dsimp only at hb' he
        subst hb' he
        dsimp only at hab hyw
        obtain ⟨rfl, rfl⟩ := hab
        have q1 : ((sd : Int) == (sd : Int)) = true := by simp
        go_wp2
        go_region
        have hlow : Hid (∀ k, (Value.slice A' P.length c').ownBlock = some k → k < wr.heap.size) := fun k hk => (Hh.out.own.lt k hk).2
        go_wp2_with (at_builtin; refine wpList_append_lies _ rfl _ _ 86 rfl w1.heap.size 114 i114 _ 4 32 Try.underlying86 hi114 hz0 hz1 hz2 rfl (by decide) _ P.length (numCells P) rfl (((Hh.out.own.alloc _).alloc _).alloc _).drew ⟨_, 0, none⟩ 1 1 [.int .i64 (sd : Nat), .int .i64 (sf : Nat), .int .i64 jw, .bool true] rfl rfl (news_drawn2 _ _ (by simp) _ _) (by simp [Value.oneCell']) (by decide) (by have := hPl.out; unfold maxLen; omega) (by have := hPl.out; omega) (by have := Hh.out.below.size; simp; omega) _ rfl ?_; intro g2 cap2 w5 hown hgrow hat hlt2; have hbx := box_kept hgrow hlow.out 1; have Hn := Lib.hid (Hh.out.step Htr.out Hgood.out ((((Below.refl _ _).alloc (Nat.le_refl _) _).alloc (by simp) _).alloc (by simp; omega) _).drew hown hgrow); clear hown hgrow hat hlt2)
        go_roundg i'
        case measure => exact Hi'.out
        case rel => exact ⟨_, sf, rfl, Hn.out⟩
      · dsimp only at hb' he
        subst hb' he
        dsimp only at hab hyw
        obtain ⟨rfl, rfl⟩ := hab
        have q1 : ((sf : Int) == (sd : Int)) = false := by have := hyw.2.2.1; simp; omega
        go_wp2
        go_region
        have hlow : Hid (∀ k, (Value.slice A' P.length c').ownBlock = some k → k < wr.heap.size) := fun k hk => (Hh.out.own.lt k hk).2
        go_wp2_with (at_builtin; refine wpList_append_lies _ rfl _ _ 86 rfl w1.heap.size 114 i114 _ 4 32 Try.underlying86 hi114 hz0 hz1 hz2 rfl (by decide) _ P.length (numCells P) rfl (((Hh.out.own.alloc _).alloc _).alloc _).drew ⟨_, 0, none⟩ 1 1 [.int .i64 (sd : Nat), .int .i64 (sf : Nat), .int .i64 jw, .bool false] rfl rfl (news_drawn2 _ _ (by simp) _ _) (by simp [Value.oneCell']) (by decide) (by have := hPl.out; unfold maxLen; omega) (by have := hPl.out; omega) (by have := Hh.out.below.size; simp; omega) _ rfl ?_; intro g2 cap2 w5 hown hgrow hat hlt2; have hbx := box_kept hgrow hlow.out 1; have Hn := Lib.hid (Hh.out.step Htr.out Hgood.out ((((Below.refl _ _).alloc (Nat.le_refl _) _).alloc (by simp) _).alloc (by simp; omega) _).drew hown hgrow); clear hown hgrow hat hlt2)
        go_roundg i'
        case measure => exact Hi'.out
        case rel => exact ⟨_, sf, rfl, Hn.out⟩
end
end Go.Proofs.Ytkgmhkjiblanmaa
