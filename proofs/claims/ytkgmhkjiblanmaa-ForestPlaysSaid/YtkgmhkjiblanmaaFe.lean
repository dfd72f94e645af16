/-
  The walk of Join (package forest).
-/
import Derived.Test.YtkgmhkjiblanmaaFc
import Derived.Test.YtkgmhkjiblanmaaFd
import Derived.BigQuiet
import Derived.Deep.CutRange
import Derived.Deep.CutBlock
namespace Go.Proofs.Ytkgmhkjiblanmaa
open Go.RowKit

theorem Tree.rt_lt {up : List Nat} {rt m : Nat → Nat} (h : Tree up rt m) : ∀ (k i : Nat), m i ≤ k → i < up.length → rt i < up.length ∧ rt (rt i) = rt i ∧ up.getD (rt i) 0 = rt i := by
  intro k
  induction k with
  | zero =>
    intro i hm hi
    by_cases he : up.getD i 0 = i
    · have hr := h.root i hi he
      rw [hr]; exact ⟨hi, hr, he⟩
    · have := h.falls i hi he; omega
  | succ k ih =>
    intro i hm hi
    by_cases he : up.getD i 0 = i
    · have hr := h.root i hi he
      rw [hr]; exact ⟨hi, hr, he⟩
    · have h1 := h.falls i hi he
      rw [← h.step i hi]
      exact ih _ (by omega) (h.lt i hi)
theorem Tree.rt_ok {up : List Nat} {rt m : Nat → Nat} (h : Tree up rt m) {i : Nat} (hi : i < up.length) : rt i < up.length ∧ rt (rt i) = rt i ∧ up.getD (rt i) 0 = rt i := h.rt_lt (m i) i (Nat.le_refl _) hi

/-- Two roots joined. -/
def join (rt : Nat → Nat) (x y : Nat) : Nat → Nat := fun i => if rt i = y then x else rt i
def joinM (rt m : Nat → Nat) (x y : Nat) : Nat → Nat := fun i => if rt i = y then m i + m x + 1 else m i

theorem Tree.join {up : List Nat} {rt m : Nat → Nat} (h : Tree up rt m) {x y : Nat} (hx : x < up.length) (hy : y < up.length) (hrx : rt x = x) (hry : rt y = y) (hne : x ≠ y) : Tree (up.set y x) (join rt x y) (joinM rt m x y) := by
  refine ⟨fun i hi => ?_, fun i hi e => ?_, fun i hi => ?_, fun i hi e => ?_⟩
  all_goals rw [List.length_set] at hi
  · rw [List.length_set, getD_set _ _ _ _ hy]; split
    · exact hx
    · exact h.lt i hi
  · rw [getD_set _ _ _ _ hy] at e
    split at e
    · rename_i hiy; exact absurd (e.trans hiy) hne
    · rename_i hiy
      have hr := h.root i hi e
      unfold Ytkgmhkjiblanmaa.join
      rw [hr, if_neg hiy]
  · rw [getD_set _ _ _ _ hy]
    unfold Ytkgmhkjiblanmaa.join
    split
    · rename_i hiy; subst hiy; rw [if_neg (by rw [hrx]; exact hne), if_pos hry, hrx]
    · rw [h.step i hi]
  · rw [getD_set _ _ _ _ hy] at e ⊢
    unfold joinM
    split
    · rename_i hiy; subst hiy; rw [if_neg (by rw [hrx]; exact hne), if_pos hry]; omega
    · rename_i hiy; rw [if_neg hiy] at e
      have := h.falls i hi e
      rw [h.step i hi]
      split <;> omega

theorem joint_grown {w w3 : World} {L : Lay} {F : FS} {gj cj a : Nat} {A : Option Addr} {c g cap : Nat} {l : List JT} {o : Obj} {j : JT} (h : Rep w L F) (hj : L.vj = .slice (some ⟨gj, 0, none⟩) F.joints.length cj) (hu : L.js[a]? = some (.slice A l.length c)) (hl : F.joints[a]? = some l)
    (hown : w3.ownsRow 0 71 3 (.slice (some ⟨g, 0, none⟩) (l.length + 1) cap) (l.length + 1) (jointCells l ++ JT.cells j)) (hgrow : (w.alloc o).drew.grownBy w3 (Value.slice A l.length c).ownBlock) (hat : (Value.slice A l.length c).ownBlock = some g ∨ g = w.heap.size + 1) :
    (w3.cell? ⟨L.p, 2, none⟩ = some (.slice (some ⟨gj, 0, none⟩) F.joints.length cj) ∧ w3.cell? ⟨gj, a, none⟩ = some (.slice A l.length c) ∧ w3.frozen? ⟨gj, a, none⟩ = false) ∧
      (Rep (w3.setCell ⟨gj, a, none⟩ (.slice (some ⟨g, 0, none⟩) (l.length + 1) cap)) { L with js := L.js.set a (.slice (some ⟨g, 0, none⟩) (l.length + 1) cap) } { F with joints := F.joints.set a (l ++ [j]) } ∧
        Moves w (w3.setCell ⟨gj, a, none⟩ (.slice (some ⟨g, 0, none⟩) (l.length + 1) cap)) L { L with js := L.js.set a (.slice (some ⟨g, 0, none⟩) (l.length + 1) cap) }) := by
  have h1 : Rep (w.alloc o).drew L F := (h.alloc o).drew
  have hm : Moves w (w.alloc o).drew L L := Moves.still L ((Below.refl _ _).alloc (Nat.le_refl _) o).drew
  have hslota : L.slot (a + 4) = (Value.slice A l.length c).ownBlock := by simp only [Lay.slot, hu]; rfl
  have hb3 : L.slot 3 = some gj := by simp [Lay.slot, hj, Value.ownBlock]
  have hal : a < F.joints.length := (List.getElem?_eq_some_iff.1 hl).1
  obtain ⟨f0, f1, f2, f3⟩ := h1.far hgrow (by rw [← hslota]; exact h1.row_ne (a + 4) (by omega))
  have hne : some gj ≠ (Value.slice A l.length c).ownBlock := fun e => absurd (h.inj 3 (a + 4) gj hb3 (hslota.trans e.symm)) (by omega)
  have hlt : gj < (w.alloc o).drew.heap.size := h1.lt ⟨3, hb3⟩
  obtain ⟨k1, k2⟩ := h1.joints_cell hj hal
  obtain ⟨r1, r2⟩ := h1.push_joint (l' := l ++ [j]) hj hu hgrow (by simpa [jointCells] using hown) rfl (hat.imp id fun e => Nat.le_of_eq (by rw [e]; exact (Go.Deep.nblk_alloc w o))) hl
  exact ⟨⟨hj ▸ f2, by rw [hgrow.cell_far _ hlt hne, k1, hu], by rw [hgrow.frozen_far _ hlt hne, k2]⟩, r1, hm.trans r2⟩

theorem joint_one {b : Nat} {why : Value} {back : Bool} (hw : why.oneCell' = true) : ∀ u ∈ [Value.int .i64 b, why, .bool back], u.oneCell' = true := by
  intro u hu
  simp only [List.mem_cons, List.not_mem_nil, or_false] at hu
  rcases hu with rfl | rfl | rfl
  · rfl
  · exact hw
  · rfl

theorem one_cells {v : Value} (h : v.oneCell' = true) : v.cells = #[v] := by
  cases v <;> first | rfl | (exact absurd h (by simp [Value.oneCell']))

theorem own_joint {w : World} {L : Lay} {F : FS} {A : Option Addr} {c a : Nat} {l : List JT} (h : Rep w L F) (hu : L.js[a]? = some (.slice A l.length c)) (hl : F.joints[a]? = some l) (o : Obj) : (w.alloc o).drew.ownsRow 0 71 3 (.slice A l.length c) l.length (jointCells l) :=
  ((h.alloc o).drew).each a _ l hu hl

theorem drewN_below (w : World) (n : Nat) : Below w.heap.size w (w.drewN n) := ⟨rfl, rfl, rfl, Nat.le_refl _, fun _ _ => rfl⟩

theorem has_two (L : Lay) (F : FS) (a b : Int) (w : World) (h : Rep w L F) (hin : ((!([a, b].any (out F.up.length))) = true)) :
    Calls Try.prog 22 #[.pointer (some ⟨L.p, 0, none⟩), .slice (some ⟨w.heap.size, 0, none⟩) 2 2] (w.alloc (.cells #[.int .i64 a, .int .i64 b] 3)) fun e w' => e = .returned (.bool true) ∧ Rep w' L F ∧ Moves w w' L L := by
  obtain ⟨A, c, hv⟩ := own_form h.up
  have h1 := (h.alloc (.cells #[.int .i64 a, .int .i64 b] 3)).cells.1
  rw [hv] at h1
  have hb : Below w.heap.size w (w.alloc (.cells #[.int .i64 a, .int .i64 b] 3)) := (Below.refl _ _).alloc (Nat.le_refl _) _
  refine (has_any [a, b] _ 2 L.p F.up.length c A _ (by simp) (ints_new w _ rfl [a, b] 3) h1).mono ?_
  rintro e w' ⟨rfl, hb'⟩
  have hb2 : Below w.heap.size w w' := hb.trans (hb'.mono hb.size)
  exact ⟨by rw [hin], h.below hb2, Moves.still L hb2⟩

theorem in_two {n : Nat} {a b : Nat} (ha : a < n) (hb : b < n) : (!([(a : Int), (b : Int)].any (out n))) = true := by
  have h1 : ¬ (n : Int) ≤ a := by omega
  have h2 : ¬ (n : Int) ≤ b := by omega
  simp [out, ha, hb]

/-- What a joint leaves. -/
def Joined (L : Lay) (F : FS) (rt m : Nat → Nat) (a b : Nat) (why : Value) (w w' : World) : Prop :=
  ∃ L' F' x y, ((x = rt a ∧ y = rt b) ∨ (x = rt b ∧ y = rt a)) ∧ Rep w' L' F' ∧ Moves w w' L L' ∧ F'.up.length = F.up.length ∧ F'.size.length = F.up.length ∧ Tree F'.up (join rt x y) (joinM rt m x y) ∧
    F'.joints = (F.joints.set a (F.joints.getD a [] ++ [⟨b, why, false⟩])).set b (F.joints.getD b [] ++ [⟨a, why, true⟩])

set_option maxRecDepth 100000 in
set_option maxHeartbeats 1600000 in
theorem join_new (L : Lay) (F : FS) (rt m : Nat → Nat) (a b : Nat) (why : Value) (w : World) (h : Rep w L F) (he : Even F) (ht : Tree F.up rt m) (ha : a < F.up.length) (hb : b < F.up.length) (hne : rt a ≠ rt b) (hw : why.oneCell' = true) (hrow : ∀ (k : Nat) (l : List JT), F.joints[k]? = some l → l.length < 1048576) :
    Calls Try.prog 14 #[.pointer (some ⟨L.p, 0, none⟩), .int .i64 a, .int .i64 b, why] w fun e w' => e = .returned (.tuple #[.bool true, .int .i64 0]) ∧ Joined L F rt m a b why w w' := by
  have hmost := he.most
  have Hin := Lib.hid (in_two ha hb)
  have hxy : (((rt a : Nat) : Int) == ((rt b : Nat) : Int)) = false := beq_eq_false_iff_ne.2 (by omega)
  have Hne := Lib.hid hne
  have H := Lib.hid h
  have HT := Lib.hid ht
  clear h hne ht
  go_enter Try.func14, Try.ntmps14
  go_wp2_with fail
  refine (has_two L F a b w H.out Hin.out).mono ?_
  rintro e w1 ⟨rfl, hr1, hm1⟩
  have Hm1 := Lib.hid hm1
  have Hr1 := Lib.hid hr1
  clear hm1 hr1 H Hin
  go_wp2_with fail
  refine (top_any L F rt m a _ Hr1.out HT.out ha hmost).mono ?_
  rintro e w2 ⟨rfl, F1, hs1, hr2, hm2⟩
  have Hm2 := Lib.hid (Hm1.out.trans hm2)
  have Hr2 := Lib.hid hr2
  have Hs1 := Lib.hid hs1
  clear hm2 hr2 hs1 Hr1 Hm1
  go_wp2_with fail
  refine (top_any L F1 rt m b _ Hr2.out Hs1.out.2.2.2 (by have := Hs1.out.2.2.1; omega) (by have := Hs1.out.2.2.1; omega)).mono ?_
  rintro e w3 ⟨rfl, F2, hs2, hr3, hm3⟩
  have Hm3 := Lib.hid (Hm2.out.trans hm3)
  have Hr3 := Lib.hid hr3
  have Hs2 : Hid (Same F F2 rt m) := ⟨hs2.1.trans Hs1.out.1, hs2.2.1.trans Hs1.out.2.1, hs2.2.2.1.trans Hs1.out.2.2.1, hs2.2.2.2⟩
  clear hm3 hr3 hs2 Hs1 Hr2 Hm2
  obtain ⟨hx1, hx2, _⟩ := HT.out.rt_ok ha
  obtain ⟨hy1, hy2, _⟩ := HT.out.rt_ok hb
  obtain ⟨gs, cs, hvs⟩ := Hr3.out.size_form (by have := Hs2.out.1; have := he.size; rw [Hs2.out.1]; omega)
  have hsl : F2.size.length = F.up.length := by rw [Hs2.out.1]; exact he.size
  have hcx := (Hr3.out.size_cell hvs (i := rt a) (by omega)).1
  have hcy := (Hr3.out.size_cell hvs (i := rt b) (by omega)).1
  have hp1 := Hr3.out.cells.2.1
  rw [hvs, hsl] at hp1
  have Hvs := Lib.hid hvs
  have Hsl := Lib.hid hsl
  have Hx2 := Lib.hid hx2
  have Hy2 := Lib.hid hy2
  have hxi : ((rt a : Nat) : Int) < F.up.length := by omega
  have hyi : ((rt b : Nat) : Int) < F.up.length := by omega
  clear hvs hsl hx2 hy2
  generalize hX : rt a = x at *
  generalize hY : rt b = y at *
  have HX := Lib.hid hX
  have HY := Lib.hid hY
  clear hX hY
  generalize F2.size.getD x 0 = sx at hcx
  generalize F2.size.getD y 0 = sy at hcy
  go_wp2
  go_quiet (fail)
  go_upto_if 41 with fail
  go_cut [10, 11] from 27 to 43 (fun u v wx => ∃ x' y' : Nat, u = .int .i64 x' ∧ v = .int .i64 y' ∧ ((x' = x ∧ y' = y) ∨ (x' = y ∧ y' = x)) ∧ Rep wx L F2 ∧ Moves w wx L L)
  case first =>
    by_cases hlt : sx < sy
    · go_wp2_with fail
      go_meet
      exact ⟨y, x, rfl, rfl, .inr ⟨rfl, rfl⟩, Hr3.out.drewN _, Hm3.out.then_still (drewN_below _ _)⟩
    · go_wp2_with fail
      go_meet
      exact ⟨x, y, rfl, rfl, .inl ⟨rfl, rfl⟩, Hr3.out.drewN _, Hm3.out.then_still (drewN_below _ _)⟩
  case rest =>
  obtain ⟨x', y', rfl, rfl, hor, hr4, hm4⟩ := hcut
  have hx'l : x' < F.up.length := by omega
  have hy'l : y' < F.up.length := by omega
  have Hor := Lib.hid hor
  have Hm4 := Lib.hid hm4
  clear hor hm4 Hr3 Hm3 hcx hcy hp1 hxi hyi hxy
  obtain ⟨gu, cu, hvu⟩ := hr4.up_form (by have := Hs2.out.2.2.1; omega)
  have hul : F2.up.length = F.up.length := Hs2.out.2.2.1
  have hp0 := hr4.cells.1
  rw [hvu, hul] at hp0
  have hcu := (hr4.up_cell hvu (i := y') (by omega))
  have hcu1 := hcu.1
  have hcu2 := hcu.2
  have hset := hr4.set_up hvu y' x'
  have Hset := Lib.hid hset
  have hx'i : ((x' : Nat) : Int) < F.up.length := by omega
  have hy'i : ((y' : Nat) : Int) < F.up.length := by omega
  have Hul := Lib.hid hul
  clear hset hcu hul hvu hr4
  go_wp2_with fail
  obtain ⟨hr5, hm5⟩ := Hset.out
  have Hm5 := Lib.hid (Hm4.out.trans hm5)
  clear Hset hp0 hcu1 hcu2 hm5 Hm4
  generalize wc.setCell ⟨gu, y', none⟩ (.int .i64 x') = w5 at hr5 Hm5 ⊢
  have hvs := Hvs.out
  have hcx := hr5.size_cell hvs (i := x') (by have := Hsl.out; show x' < F2.size.length; omega)
  have hcx1 := hcx.1
  have hcx2 := hcx.2
  have hcy1 := (hr5.size_cell hvs (i := y') (by have := Hsl.out; show y' < F2.size.length; omega)).1
  have hp1 := hr5.cells.2.1
  rw [hvs, Hsl.out] at hp1
  dsimp only at hcx1 hcy1
  generalize F2.size.getD x' 0 = su at hcx1
  generalize F2.size.getD y' 0 = sv at hcy1
  have hset := hr5.set_size hvs x' (wrap64 (su + sv))
  have Hset := Lib.hid hset
  clear hset hcx hvs hr5
  refine wp_region_still_tail 15 (by kernel_rfl) (by kernel_rfl) ?_
  show wpStill _ _ (World.drew _) _ _ _
  simp only [List.take_succ_cons, List.take_zero, List.drop_succ_cons, List.drop_zero]
  repeat still_step
  refine wpStill_nil ?_
  show wpList _ _ _ _ _ (World.drew _)
  go_upto_region 10 with fail
  obtain ⟨hr6, hm6⟩ := Hset.out
  have Hm6 := Lib.hid (Hm5.out.trans hm6)
  clear Hset hm6 Hm5 hcx1 hcx2 hcy1 hp1
  dsimp only at hr6
  generalize w5.setCell ⟨gs, x', none⟩ (.int .i64 (wrap64 (su + sv))) = w6 at hr6 Hm6 ⊢
  have hr6 := hr6.drew
  have Hm6 : Hid (Moves w w6.drew L L) := Hm6.out.then_still (Below.refl _ _).drew
  generalize w6.drew = w7 at hr6 Hm6 ⊢
  have hjl : F2.joints.length = F.up.length := by rw [Hs2.out.2.1]; exact he.joints
  obtain ⟨gj, cj, hvj⟩ := hr6.joints_form (show 0 < F2.joints.length by omega)
  obtain ⟨la, hla⟩ : ∃ l, F2.joints[a]? = some l := ⟨_, List.getElem?_eq_getElem (show a < F2.joints.length by omega)⟩
  have haj : a < L.js.length := by have := hr6.js_len; dsimp only at this; omega
  obtain ⟨ua, hua⟩ : ∃ u, L.js[a]? = some u := ⟨_, List.getElem?_eq_getElem haj⟩
  obtain ⟨Aa, ca, rfl⟩ := own_form (hr6.each a ua la hua hla)
  have hlen : la.length < 1048576 := hrow a la (by rw [← Hs2.out.2.1]; exact hla)
  have hp2 := hr6.cells.2.2
  rw [hvj] at hp2
  have hga := (hr6.joints_cell hvj (i := a) (show a < F2.joints.length by omega)).1
  rw [hua] at hga
  have hp2a : ∀ o, (w7.alloc o).cell? ⟨L.p, 2, none⟩ = some (.slice (some ⟨gj, 0, none⟩) F2.joints.length cj) := fun o => by rw [← hvj]; exact (hr6.alloc o).cells.2.2
  have hgaa : ∀ o, (w7.alloc o).cell? ⟨gj, a, none⟩ = some (.slice Aa la.length ca) := fun o => by rw [← hua]; exact ((hr6.alloc o).joints_cell hvj (i := a) (show a < F2.joints.length by omega)).1
  have hai : ((a : Nat) : Int) < F2.joints.length := by omega
  obtain ⟨i71, hi71, hz71, hz72, hz73⟩ := info_parts info71
  have H6 := Lib.hid hr6
  have Hvj := Lib.hid hvj
  have Hua := Lib.hid hua
  have Hla := Lib.hid hla
  have Hjl := Lib.hid hjl
  clear hr6 hvj hua hla hjl
  have hwm : why.cells = #[why] := one_cells hw
  unfold Value.cells at hwm
  go_cut [] from 67 to 84 (fun wx => ∃ L', Rep wx L' ⟨F2.up.set y' x', F2.size.set x' (wrap64 (su + sv)), F2.joints.set a (la ++ [⟨b, why, false⟩])⟩ ∧ Moves w7 wx L L')
  case first =>
    go_region_law (refine step_append_lies _ rfl (.tmp 78) (.tmp 82) 69 rfl 0 71 i71 _ 3 32 Try.underlying69 hi71 hz71 hz72 hz73 rfl (by decide) (.slice Aa la.length ca) la.length (jointCells la) (by simp [Act.eval]) (own_joint H6.out Hua.out Hla.out _) ⟨w7.heap.size, 0, none⟩ 1 1 [.int .i64 b, why, .bool false] (by simp [Act.eval]) rfl (news_drawn _ _ _) (joint_one hw) (by decide) (by unfold maxLen; omega) (by omega) (Nat.zero_le _) (w7.heap.size + 1) (by exact (Go.Deep.nblk_alloc _ _)) ?_; intro g cap w8 hown hgrow hat hlt; obtain ⟨⟨hc3, hc4, hf3⟩, hr⟩ := joint_grown (j := ⟨b, why, false⟩) H6.out Hvj.out Hua.out Hla.out hown hgrow hat; have Hr := Lib.hid hr; clear hown hgrow hat hr)
    all_goals
      go_wp2_with fail
      go_meet
      exact ⟨_, Hr.out⟩
  case rest =>
  obtain ⟨L1, hr7, hm7⟩ := hcut
  have hab : a ≠ b := by
    have h1 := Hne.out; have h2 := HX.out; have h3 := HY.out
    rintro rfl
    exact h1 (h2.symm.trans h3)
  have hp7 : L1.p = L.p := hm7.p
  have Hm7 := Lib.hid (Hm6.out.trans hm7)
  have hjl1 : (F2.joints.set a (la ++ [⟨b, why, false⟩])).length = F.up.length := by rw [List.length_set]; exact Hjl.out
  obtain ⟨lb, hlb⟩ : ∃ l, F2.joints[b]? = some l := ⟨_, List.getElem?_eq_getElem (show b < F2.joints.length by have := Hjl.out; omega)⟩
  have hlb1 : (F2.joints.set a (la ++ [⟨b, why, false⟩]))[b]? = some lb := by rw [List.getElem?_set_ne hab]; exact hlb
  have hlenb : lb.length < 1048576 := hrow b lb (by rw [← Hs2.out.2.1]; exact hlb)
  have HF : Hid ((F.joints.set a (F.joints.getD a [] ++ [⟨b, why, false⟩])).set b (F.joints.getD b [] ++ [⟨a, why, true⟩]) = (F2.joints.set a (la ++ [⟨b, why, false⟩])).set b (lb ++ [⟨a, why, true⟩])) := by
    rw [Hid, ← Hs2.out.2.1, List.getD_eq_getElem?_getD, List.getD_eq_getElem?_getD, Hla.out, hlb]; rfl
  clear hlb hm7 Hm6 H6 Hvj Hua Hla hp2 hga hp2a hgaa hai haj hrow
  generalize F2.joints.set a (la ++ [⟨b, why, false⟩]) = J at *
  obtain ⟨gj', cj', hvj⟩ := hr7.joints_form (show 0 < J.length by omega)
  have hbj : b < L1.js.length := by have := hr7.js_len; dsimp only at this; omega
  obtain ⟨ub, hub⟩ : ∃ u, L1.js[b]? = some u := ⟨_, List.getElem?_eq_getElem hbj⟩
  obtain ⟨Ab, cb, rfl⟩ := own_form (hr7.each b ub lb hub hlb1)
  have hp2 := hr7.cells.2.2
  rw [hvj, hp7] at hp2
  have hga := (hr7.joints_cell hvj (i := b) (show b < J.length by omega)).1
  rw [hub] at hga
  have hp2a : ∀ o, (wc.alloc o).cell? ⟨L.p, 2, none⟩ = some (.slice (some ⟨gj', 0, none⟩) J.length cj') := fun o => by rw [← hvj, ← hp7]; exact (hr7.alloc o).cells.2.2
  have hgaa : ∀ o, (wc.alloc o).cell? ⟨gj', b, none⟩ = some (.slice Ab lb.length cb) := fun o => by rw [← hub]; exact ((hr7.alloc o).joints_cell hvj (i := b) (show b < J.length by omega)).1
  have hbi : ((b : Nat) : Int) < J.length := by omega
  have H7 := Lib.hid hr7
  have Hvj := Lib.hid hvj
  have Hub := Lib.hid hub
  have Hlb := Lib.hid hlb1
  have Hjl1 := Lib.hid hjl1
  have Hp7 := Lib.hid hp7
  clear hr7 hvj hub hlb1 hjl1 hp7
  go_upto_region 11 with fail
  go_cut [] from 85 to 102 (fun wx => ∃ L', Rep wx L' ⟨F2.up.set y' x', F2.size.set x' (wrap64 (su + sv)), J.set b (lb ++ [⟨a, why, true⟩])⟩ ∧ Moves wc wx L1 L')
  case first =>
    go_region_law (refine step_append_lies _ rfl (.tmp 96) (.tmp 100) 69 rfl 0 71 i71 _ 3 32 Try.underlying69 hi71 hz71 hz72 hz73 rfl (by decide) (.slice Ab lb.length cb) lb.length (jointCells lb) (by simp [Act.eval]) (own_joint H7.out Hub.out Hlb.out _) ⟨wc.heap.size, 0, none⟩ 1 1 [.int .i64 a, why, .bool true] (by simp [Act.eval]) rfl (news_drawn _ _ _) (joint_one hw) (by decide) (by unfold maxLen; omega) (by omega) (Nat.zero_le _) (wc.heap.size + 1) (by exact (Go.Deep.nblk_alloc _ _)) ?_; intro g cap w8 hown hgrow hat hlt; obtain ⟨⟨hc3, hc4, hf3⟩, hr⟩ := joint_grown (j := ⟨a, why, true⟩) H7.out Hvj.out Hub.out Hlb.out hown hgrow hat; rw [Hp7.out] at hc3; have Hr := Lib.hid hr; clear hown hgrow hat hr)
    all_goals
      go_wp2_with fail
      go_meet
      exact ⟨_, Hr.out⟩
  case rest =>
  obtain ⟨L2, hr8, hm8⟩ := hcut
  have Hm8 := Lib.hid hm8
  have Hr8 := Lib.hid hr8
  clear hm8 hr8 hp2 hga hp2a hgaa hbi
  go_wp2
  go_ret2
  have hor := Hor.out
  have hul := Hul.out
  have hne := Hne.out
  have hx2 := Hx2.out
  have hy2 := Hy2.out
  refine ⟨rfl, L2, _, x', y', by rw [HX.out, HY.out]; exact hor, Hr8.out, Hm7.out.trans Hm8.out, by simpa using hul, by simpa using Hsl.out, ?_, HF.out.symm⟩
  refine Hs2.out.2.2.2.join (by omega) (by omega) ?_ ?_ ?_
  · rcases hor with ⟨rfl, _⟩ | ⟨rfl, _⟩ <;> assumption
  · rcases hor with ⟨_, rfl⟩ | ⟨_, rfl⟩ <;> assumption
  · rcases hor with ⟨rfl, rfl⟩ | ⟨rfl, rfl⟩
    · exact hne
    · exact fun e => hne e.symm

/-- The two are of one group already. -/
def Still (L : Lay) (F : FS) (rt m : Nat → Nat) (w w' : World) : Prop := ∃ F', Same F F' rt m ∧ Rep w' L F' ∧ Moves w w' L L

set_option maxRecDepth 100000 in
set_option maxHeartbeats 800000 in
theorem join_same (L : Lay) (F : FS) (rt m : Nat → Nat) (a b : Nat) (why : Value) (w : World) (h : Rep w L F) (hmost : F.up.length ≤ 1048576) (ht : Tree F.up rt m) (ha : a < F.up.length) (hb : b < F.up.length) (hne : rt a = rt b) :
    Calls Try.prog 14 #[.pointer (some ⟨L.p, 0, none⟩), .int .i64 a, .int .i64 b, why] w fun e w' => e = .returned (.tuple #[.bool false, .int .i64 0]) ∧ Still L F rt m w w' := by
  have Hin := Lib.hid (in_two ha hb)
  have Hne := Lib.hid hne
  have H := Lib.hid h
  have HT := Lib.hid ht
  clear h hne ht
  go_enter Try.func14, Try.ntmps14
  go_wp2_with fail
  refine (has_two L F a b w H.out Hin.out).mono ?_
  rintro e w1 ⟨rfl, hr1, hm1⟩
  have Hm1 := Lib.hid hm1
  have Hr1 := Lib.hid hr1
  clear hm1 hr1 H Hin
  go_wp2_with fail
  refine (top_any L F rt m a _ Hr1.out HT.out ha hmost).mono ?_
  rintro e w2 ⟨rfl, F1, hs1, hr2, hm2⟩
  have Hm2 := Lib.hid (Hm1.out.trans hm2)
  have Hr2 := Lib.hid hr2
  have Hs1 := Lib.hid hs1
  clear hm2 hr2 hs1 Hr1 Hm1
  go_wp2_with fail
  refine (top_any L F1 rt m b _ Hr2.out Hs1.out.2.2.2 (by have := Hs1.out.2.2.1; omega) (by have := Hs1.out.2.2.1; omega)).mono ?_
  rintro e w3 ⟨rfl, F2, hs2, hr3, hm3⟩
  have Hm3 := Lib.hid (Hm2.out.trans hm3)
  have Hr3 := Lib.hid hr3
  have Hs2 : Hid (Same F F2 rt m) := ⟨hs2.1.trans Hs1.out.1, hs2.2.1.trans Hs1.out.2.1, hs2.2.2.1.trans Hs1.out.2.2.1, hs2.2.2.2⟩
  clear hm3 hr3 hs2 Hs1 Hr2 Hm2
  rw [Hne.out]
  go_wp2
  go_ret2
  exact ⟨rfl, F2, Hs2.out, Hr3.out, Hm3.out⟩

theorem has_two_no (L : Lay) (F : FS) (a b : Int) (w : World) (h : Rep w L F) (hin : ((!([a, b].any (out F.up.length))) = false)) :
    Calls Try.prog 22 #[.pointer (some ⟨L.p, 0, none⟩), .slice (some ⟨w.heap.size, 0, none⟩) 2 2] (w.alloc (.cells #[.int .i64 a, .int .i64 b] 3)) fun e w' => e = .returned (.bool false) ∧ Below w.heap.size w w' := by
  obtain ⟨A, c, hv⟩ := own_form h.up
  have h1 := (h.alloc (.cells #[.int .i64 a, .int .i64 b] 3)).cells.1
  rw [hv] at h1
  have hb : Below w.heap.size w (w.alloc (.cells #[.int .i64 a, .int .i64 b] 3)) := (Below.refl _ _).alloc (Nat.le_refl _) _
  refine (has_any [a, b] _ 2 L.p F.up.length c A _ (by simp) (ints_new w _ rfl [a, b] 3) h1).mono ?_
  rintro e w' ⟨rfl, hb'⟩
  exact ⟨by rw [hin], hb.trans (hb'.mono hb.size)⟩

set_option maxRecDepth 100000 in
set_option maxHeartbeats 800000 in
theorem join_out (L : Lay) (F : FS) (a b : Int) (why : Value) (w : World) (h : Rep w L F) (hin : ((!([a, b].any (out F.up.length))) = false)) :
    Calls Try.prog 14 #[.pointer (some ⟨L.p, 0, none⟩), .int .i64 a, .int .i64 b, why] w fun e w' => e = .returned (.tuple #[.bool false, .int .i64 2]) ∧ Below w.heap.size w w' := by
  have Hin := Lib.hid hin
  have H := Lib.hid h
  clear h hin
  go_enter Try.func14, Try.ntmps14
  go_wp2_with fail
  refine (has_two_no L F a b w H.out Hin.out).mono ?_
  rintro e w1 ⟨rfl, hb1⟩
  go_wp2
  go_ret2
  exact ⟨rfl, hb1⟩

end Go.Proofs.Ytkgmhkjiblanmaa
