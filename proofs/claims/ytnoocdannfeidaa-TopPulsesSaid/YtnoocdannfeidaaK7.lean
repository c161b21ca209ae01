/-
  MERGED: W7, W8, W9.
-/
import Derived.Test.YtnoocdannfeidaaK6
/-
  WALK: total.
-/
namespace Go.Proofs.Ytnoocdannfeidaa
open Go.RowKit Go.Shelf Pulse
attribute [local go_sem] Oper.semAt_some

/-- The sum of the points that were told. -/
def totAt (m : Int) (p : List Int) : Nat → V
  | 0 => V.zero
  | q + 1 => sumL m.toNat (p.take q)
theorem totAt_succ {m : Int} {p : List Int} {q : Nat} (h : q ≤ p.length) : totAt m p (q + 1) = (totAt m p q).add (pt m p q) := by
  cases q with
  | zero => simp [totAt, pt, sumL, endL, add_zero']
  | succ k =>
    have hk : k < p.length := h
    show sumL m.toNat (p.take (k + 1)) = (sumL m.toNat (p.take k)).add (pt m p (k + 1))
    unfold pt
    rw [take_snoc' p k hk, sumL_snoc]
theorem totAt_all (m : Int) (p : List Int) : totAt m p (p.length + 1) = sumL m.toNat p := by
  show sumL m.toNat (p.take p.length) = _
  rw [List.take_length]
theorem totAt_wi {m : Int} {p : List Int} (hl : p.length ≤ 12) (h : Forces 99 p) (q : Nat) (hq : q ≤ p.length + 1) : Wi (2000 * q) (totAt m p q) := by
  induction q with
  | zero => unfold Wi totAt V.zero; dsimp only; omega
  | succ q ih =>
    rw [totAt_succ (by omega)]
    have h1 := ih (by omega)
    have h2 := pt_wi hl h q (m := m)
    unfold Wi V.add at *
    dsimp only
    omega
set_option maxRecDepth 100000 in
set_option maxHeartbeats 4000000 in
theorem pTotal (p : List Int) (m : Int) (hl : p.length ≤ 12) (hF : Forces 99 p) (hm : 0 ≤ m) (hm' : m ≤ 3) (A : Option Addr) (c : Nat) (w : World) (B : Nat) (hB : B ≤ w.heap.size) (hr : Rd w B 1 A p.length (ints p)) :
    Calls Try.prog 60 #[.slice A p.length c, .int .i64 m] w fun e w' => e = .returned (vV (sumL m.toNat p)) ∧ Below w.heap.size w w' := by
  refine (callsIn_wide (n := 9)).1 ?_
  refine callsIn_of_wp_marks Try.func60 rfl trivial ?_ rfl
  simp only [Try.ntmps60, List.size_toArray, List.length_cons, List.length_nil, Nat.reduceAdd, Nat.reduceSub, Array.replicate_succ, Array.replicate_zero, List.push_toArray, List.append_toArray, List.nil_append, List.cons_append]
  gi_wp2
  refine ⟨trivial, (callsIn_wide.2 (pPoints _ _ _ _ _)).mono ?_⟩
  rintro e w' ⟨rfl, rfl⟩
  gi_wp2
  have b0 := blk_alloc (blk_alloc (blk_alloc (blk_new w 63 #[.int .i64 0, .int .i64 0]) (.cells #[.int .i64 0, .int .i64 0] 63)) (.cells #[.slice A p.length c] 22)) (.cells #[.int .i64 m] 3)
  have b1 := blk_alloc (blk_alloc (blk_new (w.alloc (.cells #[.int .i64 0, .int .i64 0] 63)) 63 #[.int .i64 0, .int .i64 0]) (.cells #[.slice A p.length c] 22)) (.cells #[.int .i64 m] 3)
  have b2 := blk_alloc (blk_new ((w.alloc (.cells #[.int .i64 0, .int .i64 0] 63)).alloc (.cells #[.int .i64 0, .int .i64 0] 63)) 22 #[.slice A p.length c]) (.cells #[.int .i64 m] 3)
  have b3 := blk_new (((w.alloc (.cells #[.int .i64 0, .int .i64 0] 63)).alloc (.cells #[.int .i64 0, .int .i64 0] 63)).alloc (.cells #[.slice A p.length c] 22)) 3 #[.int .i64 m]
  have hB0 : Below w.heap.size w ((((w.alloc (.cells #[.int .i64 0, .int .i64 0] 63)).alloc (.cells #[.int .i64 0, .int .i64 0] 63)).alloc (.cells #[.slice A p.length c] 22)).alloc (.cells #[.int .i64 m] 3)) :=
    ((((Below.refl _ w).alloc (Nat.le_refl _) _).alloc (by simp) _).alloc (by simp; omega) _).alloc (by simp; omega) _
  have hsz : w.heap.size + 1 + 1 + 2 = ((((w.alloc (.cells #[.int .i64 0, .int .i64 0] 63)).alloc (.cells #[.int .i64 0, .int .i64 0] 63)).alloc (.cells #[.slice A p.length c] 22)).alloc (.cells #[.int .i64 m] 3)).heap.size := by simp
  simp only [World.size_alloc] at b1 b2 b3
  obtain ⟨W0, hW0⟩ : ∃ W0, (((w.alloc (.cells #[.int .i64 0, .int .i64 0] 63)).alloc (.cells #[.int .i64 0, .int .i64 0] 63)).alloc (.cells #[.slice A p.length c] 22)).alloc (.cells #[.int .i64 m] 3) = W0 := ⟨_, rfl⟩
  rw [hW0] at b0 b1 b2 b3 hB0 hsz ⊢
  clear hW0
  have hB0s := hB0.size
  refine wpIn_points (n₀ := w.heap.size) (n₁ := w.heap.size + 1 + 1) (N := p.length + 1) (t := 63) rfl (by omega) (gf := 100) (lb := #[.pointer (some ⟨w.heap.size + 1 + 1, 0, none⟩), .pointer (some ⟨w.heap.size + 1 + 1 + 1, 0, none⟩)]) rfl trivial (enters_of Try.func100 (by kernel_rfl) rfl)
    (x := fun q => vV (pt m p q))
    (ptsIn 8 (by omega) p m hl hF hm hm' A c w.heap.size (w.heap.size + 1 + 1) (by omega) W0 hsz b2 b3 ((hr.more hB).below hB0)) rfl hsz (by omega)
    (fun q W => (W.heap[w.heap.size]? = some (.cells #[.int .i64 0, .int .i64 0] 63 (0, 0)) ∧ W.heap[w.heap.size + 1]? = some (.cells #[.int .i64 (totAt m p q).x, .int .i64 (totAt m p q).y] 63 (0, 0))) ∧ Below w.heap.size w W)
    (fun q X Y ⟨⟨h1, h2⟩, h3⟩ hf => ⟨⟨hf.keep _ _ (fun ⟨h, _⟩ => by omega) h1, hf.keep _ _ (fun ⟨h, _⟩ => by omega) h2⟩, hf.frame h3 (fun g o h ⟨h', _⟩ => by omega) (Nat.le_refl _)⟩)
    ⟨⟨b0, b1⟩, hB0⟩
    (fun q a' W => ∃ Bx, w.heap.size + 1 < Bx ∧ W.heap[Bx]? = some (.cells #[.int .i64 (pt m p q).x, .int .i64 (pt m p q).y] 63 (0, 0)) ∧ a' = { tmps := #[.slice A p.length c, .int .i64 m, undef, undef, .pointer (some ⟨w.heap.size, 0, none⟩), .pointer (some ⟨w.heap.size + 1, 0, none⟩), .pointer (some ⟨Bx, 0, none⟩), .slice A p.length c, .int .i64 m, .func (.func 100) #[] #[.pointer (some ⟨w.heap.size + 1 + 1, 0, none⟩), .pointer (some ⟨w.heap.size + 1 + 1 + 1, 0, none⟩)], vV (pt m p q), undef, undef, undef, undef, undef, undef, undef, undef, undef, undef, undef, undef], defers := [] })
    (fun q a' X l o o' ⟨Bx, h1, h2, h3⟩ ho hc => ⟨Bx, h1, (World.putObj_heap_other (fun e => by subst e; rw [h2] at ho; cases ho; cases hc)).trans h2, h3⟩)
    ?assign ?body ?done
  case assign =>
    rintro l q W K ⟨⟨h1, h2⟩, h3⟩ hq hK
    have L1 := blk_lt h2
    generalize hu : pt m p q = u at hK
    gi_wp2
    have hka : KeepsFrom W0.heap.size W (W.alloc (.cells #[.int .i64 u.x, .int .i64 u.y] 63)) := (KeepsOthers.alloc _ _).from _
    exact hK _ _ hka (Fix.alloc _ _) ⟨⟨blk_alloc h1 _, blk_alloc h2 _⟩, h3.alloc h3.size _⟩ ⟨W.heap.size, L1, blk_new W 63 _, rfl⟩
  case body =>
    rintro l q a' W ⟨⟨h1, h2⟩, h3⟩ ⟨Bx, hx1, hx2, rfl⟩ hq
    have hlast := totAt_succ (m := m) (p := p) (q := q) (by omega)
    have hw1 := totAt_wi hl hF q (by omega) (m := m)
    have hw2 := pt_wi hl hF q (m := m)
    rw [hlast]
    obtain ⟨s, hs⟩ : ∃ s, s = totAt m p q := ⟨_, rfl⟩
    rw [← hs] at h2 hw1 ⊢
    clear hs hlast
    generalize pt m p q = v at hx2 hw2
    obtain ⟨wa, wb, wc, wd⟩ := hw1
    obtain ⟨we, wf, wg, wh⟩ := hw2
    have g1 : s.x + v.x ≤ 100000 ∧ -100000 ≤ s.x + v.x := by omega
    have g2 : s.y + v.y ≤ 100000 ∧ -100000 ≤ s.y + v.y := by omega
    have c1 : W.cell? ⟨Bx, 0, none⟩ = some (.int .i64 v.x) := blk_cell hx2 0
    have c2 : W.cell? ⟨Bx, 1, none⟩ = some (.int .i64 v.y) := blk_cell hx2 1
    have c3 : W.cell? ⟨w.heap.size + 1, 0, none⟩ = some (.int .i64 s.x) := blk_cell h2 0
    have c4 : W.cell? ⟨w.heap.size + 1, 1, none⟩ = some (.int .i64 s.y) := blk_cell h2 1
    have f1 := blk_frozen h2 0
    have f2 := blk_frozen h2 1
    have v1 := blk_set h2 0 (.int .i64 (s.x + v.x))
    have v2 := blk_set v1 1 (.int .i64 (s.y + v.y))
    have v0 := blk_far (blk_far h1 (p := ⟨w.heap.size + 1, 0, none⟩) (by simp only []; omega) (.int .i64 (s.x + v.x))) (p := ⟨w.heap.size + 1, 1, none⟩) (by simp only []; omega) (.int .i64 (s.y + v.y))
    have nk : ∀ o, ¬ KQ 63 w.heap.size (w.heap.size + 1 + 1) (w.heap.size + 1) o := fun o ⟨_, h⟩ => by omega
    have x1 := (Fix.setCell (p := ⟨w.heap.size + 1, 0, none⟩) (.int .i64 (s.x + v.x)) h2 (nk _)).trans (Fix.setCell (p := ⟨w.heap.size + 1, 1, none⟩) (.int .i64 (s.y + v.y)) v1 (nk _))
    have x2 := (h3.setCell (p := ⟨w.heap.size + 1, 0, none⟩) (by simp) (.int .i64 (s.x + v.x))).setCell (p := ⟨w.heap.size + 1, 1, none⟩) (by simp) (.int .i64 (s.y + v.y))
    have x3 : KeepsFrom W0.heap.size W ((W.setCell ⟨w.heap.size + 1, 0, none⟩ (.int .i64 (s.x + v.x))).setCell ⟨w.heap.size + 1, 1, none⟩ (.int .i64 (s.y + v.y))) := ((KeepsOthers.setCell _ _ _).from _).trans ((KeepsOthers.setCell _ _ _).from _)
    have X := Lib.hid (And.intro x3 (And.intro x1 (And.intro (And.intro v0 v2) x2)))
    clear x1 x2 x3 v0 v1 v2 nk hx2 h1 h2
    gi_wp2
    exact X.out
  case done =>
    rintro D W hD ⟨⟨h1, h2⟩, h3⟩ hK
    have hlast := totAt_all m p
    rw [hlast] at h2
    obtain ⟨u, hu⟩ : ∃ u, u = sumL m.toNat p := ⟨_, rfl⟩
    rw [← hu] at h2
    have HU := Lib.hid hu
    clear hu hlast
    have c1 : W.cell? ⟨w.heap.size + 1, 0, none⟩ = some (.int .i64 u.x) := blk_cell h2 0
    have c2 : W.cell? ⟨w.heap.size + 1, 1, none⟩ = some (.int .i64 u.y) := blk_cell h2 1
    have c3 : W.cell? ⟨w.heap.size, 0, none⟩ = some (.int .i64 0) := blk_cell h1 0
    have c4 : W.cell? ⟨w.heap.size, 1, none⟩ = some (.int .i64 0) := blk_cell h1 1
    have f1 := blk_frozen h1 0
    have f2 := blk_frozen h1 1
    have v1 := blk_set h1 0 (.int .i64 u.x)
    have v2 := blk_set v1 1 (.int .i64 u.y)
    have hK2 := blk_far (blk_far hK (p := ⟨w.heap.size, 0, none⟩) (by simp only []; omega) (.int .i64 u.x)) (p := ⟨w.heap.size, 1, none⟩) (by simp only []; omega) (.int .i64 u.y)
    have hb := (h3.setCell (p := ⟨w.heap.size, 0, none⟩) (by simp) (.int .i64 u.x)).setCell (p := ⟨w.heap.size, 1, none⟩) (by simp) (.int .i64 u.y)
    have V := Lib.hid (And.intro v2 (And.intro hK2 hb))
    clear v1 v2 hK2 hb h1 h2
    gi_wp2
    obtain ⟨v2, hK2, hb⟩ := V.out
    refine ⟨by simp, .inl ⟨_, _, rfl, run_takeDeferred hK2, ?_⟩⟩
    have hne : w.heap.size ≠ D := by omega
    have v3 := (World.putObj_heap_other (o := .deferred none) hne).trans v2
    have r0 := blk_cell v3 0
    have r1 := blk_cell v3 1
    exact ⟨vV u, by simp [results, Try.results60, go_sem, r0, r1], by rw [HU.out], hb.trans (belowK_b (w := w) (Nat.le_refl _) _ D _ _ (by omega) hK2 rfl rfl)⟩
end Go.Proofs.Ytnoocdannfeidaa

/-
  WALK: area.
-/
namespace Go.Proofs.Ytnoocdannfeidaa
open Go.RowKit Go.Shelf Pulse
attribute [local go_sem] Oper.semAt_some

theorem keepsFrom_below {B X : Nat} {A C : World} (h : Below X A C) (hx : A.heap.size ≤ X := by exact Nat.le_refl _) : KeepsFrom B A C :=
  ⟨h.size, fun k _ _ hk _ => (h.block k (Nat.lt_of_lt_of_le (Array.getElem?_eq_some_iff.1 hk).1 hx)).trans hk⟩
/-- The sum of the crosses of the points that were told. -/
def crAt (m : Int) (p : List Int) : Nat → Int
  | 0 => 0
  | q + 1 => areaL m.toNat (p.take q)
theorem crAt_succ {m : Int} {p : List Int} {q : Nat} (h : q ≤ p.length) : crAt m p (q + 1) = crAt m p q + cross (lastPt m p q) (pt m p q) := by
  cases q with
  | zero => simp [crAt, pt, lastPt, areaL, endL, cross_zero_right]
  | succ k =>
    have hk : k < p.length := h
    show areaL m.toNat (p.take (k + 1)) = areaL m.toNat (p.take k) + cross (pt m p k) (pt m p (k + 1))
    unfold pt
    rw [take_snoc' p k hk, areaL_snoc]
theorem crAt_all (m : Int) (p : List Int) : crAt m p (p.length + 1) = areaL m.toNat p := by
  show areaL m.toNat (p.take p.length) = _
  rw [List.take_length]
theorem lastPt_wi {m : Int} {p : List Int} (hl : p.length ≤ 12) (h : Forces 99 p) (q : Nat) : Wi 2000 (lastPt m p q) := by
  cases q with
  | zero => exact ⟨by show (-2000 : Int) ≤ 0; decide, by show (0 : Int) ≤ 2000; decide, by show (-2000 : Int) ≤ 0; decide, by show (0 : Int) ≤ 2000; decide⟩
  | succ q => exact pt_wi hl h q
theorem cross_bd {a b : V} (ha : Wi 2000 a) (hb : Wi 2000 b) : -8000000 ≤ cross a b ∧ cross a b ≤ 8000000 := by
  have b1 := mul_bd (a := a.x) (b := b.y) (A := 2000) (B := 2000) (by decide) ⟨ha.1, ha.2.1⟩ ⟨hb.2.2.1, hb.2.2.2⟩
  have b2 := mul_bd (a := a.y) (b := b.x) (A := 2000) (B := 2000) (by decide) ⟨ha.2.2.1, ha.2.2.2⟩ ⟨hb.1, hb.2.1⟩
  unfold cross
  omega
theorem crAt_bd {m : Int} {p : List Int} (hl : p.length ≤ 12) (h : Forces 99 p) (q : Nat) (hq : q ≤ p.length + 1) : -(8000000 * q) ≤ crAt m p q ∧ crAt m p q ≤ 8000000 * q := by
  induction q with
  | zero => exact ⟨by show -(8000000 * ((0 : Nat) : Int)) ≤ 0; omega, by show (0 : Int) ≤ 8000000 * ((0 : Nat) : Int); omega⟩
  | succ q ih =>
    rw [crAt_succ (by omega)]
    have h1 := ih (by omega)
    have h2 := cross_bd (lastPt_wi hl h q (m := m)) (pt_wi hl h q (m := m))
    omega
set_option maxRecDepth 100000 in
set_option maxHeartbeats 4000000 in
theorem pArea (p : List Int) (m : Int) (hl : p.length ≤ 12) (hF : Forces 99 p) (hm : 0 ≤ m) (hm' : m ≤ 3) (A : Option Addr) (c : Nat) (w : World) (B : Nat) (hB : B ≤ w.heap.size) (hr : Rd w B 1 A p.length (ints p)) :
    Calls Try.prog 57 #[.slice A p.length c, .int .i64 m] w fun e w' => e = .returned (.int .i64 (areaL m.toNat p)) ∧ Below w.heap.size w w' := by
  refine (callsIn_wide (n := 9)).1 ?_
  refine callsIn_of_wp_marks Try.func57 rfl trivial ?_ rfl
  simp only [Try.ntmps57, List.size_toArray, List.length_cons, List.length_nil, Nat.reduceAdd, Nat.reduceSub, Array.replicate_succ, Array.replicate_zero, List.push_toArray, List.append_toArray, List.nil_append, List.cons_append]
  gi_wp2
  refine ⟨trivial, (callsIn_wide.2 (pPoints _ _ _ _ _)).mono ?_⟩
  rintro e w' ⟨rfl, rfl⟩
  gi_wp2
  have b0 := blk_alloc (blk_alloc (blk_alloc (blk_new w 63 #[.int .i64 0, .int .i64 0]) (.cells #[.int .i64 0] 3)) (.cells #[.slice A p.length c] 22)) (.cells #[.int .i64 m] 3)
  have b1 := blk_alloc (blk_alloc (blk_new (w.alloc (.cells #[.int .i64 0, .int .i64 0] 63)) 3 #[.int .i64 0]) (.cells #[.slice A p.length c] 22)) (.cells #[.int .i64 m] 3)
  have b2 := blk_alloc (blk_new ((w.alloc (.cells #[.int .i64 0, .int .i64 0] 63)).alloc (.cells #[.int .i64 0] 3)) 22 #[.slice A p.length c]) (.cells #[.int .i64 m] 3)
  have b3 := blk_new (((w.alloc (.cells #[.int .i64 0, .int .i64 0] 63)).alloc (.cells #[.int .i64 0] 3)).alloc (.cells #[.slice A p.length c] 22)) 3 #[.int .i64 m]
  have hB0 : Below w.heap.size w ((((w.alloc (.cells #[.int .i64 0, .int .i64 0] 63)).alloc (.cells #[.int .i64 0] 3)).alloc (.cells #[.slice A p.length c] 22)).alloc (.cells #[.int .i64 m] 3)) :=
    ((((Below.refl _ w).alloc (Nat.le_refl _) _).alloc (by simp) _).alloc (by simp; omega) _).alloc (by simp; omega) _
  have hsz : w.heap.size + 1 + 1 + 2 = ((((w.alloc (.cells #[.int .i64 0, .int .i64 0] 63)).alloc (.cells #[.int .i64 0] 3)).alloc (.cells #[.slice A p.length c] 22)).alloc (.cells #[.int .i64 m] 3)).heap.size := by simp
  simp only [World.size_alloc] at b1 b2 b3
  obtain ⟨W0, hW0⟩ : ∃ W0, (((w.alloc (.cells #[.int .i64 0, .int .i64 0] 63)).alloc (.cells #[.int .i64 0] 3)).alloc (.cells #[.slice A p.length c] 22)).alloc (.cells #[.int .i64 m] 3) = W0 := ⟨_, rfl⟩
  rw [hW0] at b0 b1 b2 b3 hB0 hsz ⊢
  clear hW0
  have hB0s := hB0.size
  refine wpIn_points (n₀ := w.heap.size) (n₁ := w.heap.size + 1 + 1) (N := p.length + 1) (t := 63) rfl (by omega) (gf := 100) (lb := #[.pointer (some ⟨w.heap.size + 1 + 1, 0, none⟩), .pointer (some ⟨w.heap.size + 1 + 1 + 1, 0, none⟩)]) rfl trivial (enters_of Try.func100 (by kernel_rfl) rfl)
    (x := fun q => vV (pt m p q))
    (ptsIn 8 (by omega) p m hl hF hm hm' A c w.heap.size (w.heap.size + 1 + 1) (by omega) W0 hsz b2 b3 ((hr.more hB).below hB0)) rfl hsz (by omega)
    (fun q W => (W.heap[w.heap.size]? = some (.cells #[.int .i64 (lastPt m p q).x, .int .i64 (lastPt m p q).y] 63 (0, 0)) ∧ W.heap[w.heap.size + 1]? = some (.cells #[.int .i64 (crAt m p q)] 3 (0, 0))) ∧ Below w.heap.size w W)
    (fun q X Y ⟨⟨h1, h2⟩, h3⟩ hf => ⟨⟨hf.keep _ _ (fun ⟨h, _⟩ => by omega) h1, hf.keep _ _ (fun ⟨h, _⟩ => by omega) h2⟩, hf.frame h3 (fun g o h ⟨h', _⟩ => by omega) (Nat.le_refl _)⟩)
    ⟨⟨b0, b1⟩, hB0⟩
    (fun q a' W => ∃ Bx, w.heap.size + 1 < Bx ∧ W.heap[Bx]? = some (.cells #[.int .i64 (pt m p q).x, .int .i64 (pt m p q).y] 63 (0, 0)) ∧ a' = { tmps := #[.slice A p.length c, .int .i64 m, undef, undef, .int .i64 0, .pointer (some ⟨w.heap.size, 0, none⟩), .pointer (some ⟨w.heap.size + 1, 0, none⟩), .pointer (some ⟨Bx, 0, none⟩), .slice A p.length c, .int .i64 m, .func (.func 100) #[] #[.pointer (some ⟨w.heap.size + 1 + 1, 0, none⟩), .pointer (some ⟨w.heap.size + 1 + 1 + 1, 0, none⟩)], vV (pt m p q), undef, undef, undef, undef, undef, undef, undef], defers := [] })
    (fun q a' X l o o' ⟨Bx, h1, h2, h3⟩ ho hc => ⟨Bx, h1, (World.putObj_heap_other (fun e => by subst e; rw [h2] at ho; cases ho; cases hc)).trans h2, h3⟩)
    ?assign ?body ?done
  case assign =>
    rintro l q W K ⟨⟨h1, h2⟩, h3⟩ hq hK
    have L1 := blk_lt h2
    generalize hu : pt m p q = u at hK
    gi_wp2
    have hka : KeepsFrom W0.heap.size W (W.alloc (.cells #[.int .i64 u.x, .int .i64 u.y] 63)) := (KeepsOthers.alloc _ _).from _
    exact hK _ _ hka (Fix.alloc _ _) ⟨⟨blk_alloc h1 _, blk_alloc h2 _⟩, h3.alloc h3.size _⟩ ⟨W.heap.size, L1, blk_new W 63 _, rfl⟩
  case body =>
    rintro l q a' W ⟨⟨h1, h2⟩, h3⟩ ⟨Bx, hx1, hx2, rfl⟩ hq
    have hlast : lastPt m p (q + 1) = pt m p q := rfl
    have hcr := crAt_succ (m := m) (p := p) (q := q) (by omega)
    have hc1 := crAt_bd hl hF q (by omega) (m := m)
    have hw1 := lastPt_wi hl hF q (m := m)
    have hw2 := pt_wi hl hF q (m := m)
    have hcb := cross_bd hw1 hw2
    have hq13 : q ≤ 12 := by omega
    rw [hlast, hcr]
    clear hcr hlast
    obtain ⟨t, ht⟩ : ∃ t, t = lastPt m p q := ⟨_, rfl⟩
    rw [← ht] at h1 hw1 hcb ⊢
    clear ht
    obtain ⟨s, hs⟩ : ∃ s, s = crAt m p q := ⟨_, rfl⟩
    rw [← hs] at h2 hc1 ⊢
    clear hs
    generalize pt m p q = v at hx2 hw2 hcb
    have L1 := blk_lt hx2
    have L2 := blk_lt h1
    have L3 := blk_lt h2
    have c1 : W.cell? ⟨Bx, 0, none⟩ = some (.int .i64 v.x) := blk_cell hx2 0
    have c2 : W.cell? ⟨Bx, 1, none⟩ = some (.int .i64 v.y) := blk_cell hx2 1
    have c3 : W.cell? ⟨w.heap.size, 0, none⟩ = some (.int .i64 t.x) := blk_cell h1 0
    have c4 : W.cell? ⟨w.heap.size, 1, none⟩ = some (.int .i64 t.y) := blk_cell h1 1
    have c5 : W.cell? ⟨w.heap.size + 1, 0, none⟩ = some (.int .i64 s) := blk_cell h2 0
    have f1 := blk_frozen h1 0
    have f2 := blk_frozen h1 1
    have f3 := blk_frozen h2 0
    have hmix : Try.prog.follows .mixedOrders = true := by kernel_rfl
    have HWR := Lib.hid (show IntKind.i64.wrap (s + cross t v) = s + cross t v from IntWalk.i64_in _ (by omega))
    have nk : ∀ g o, (g = w.heap.size ∨ g = w.heap.size + 1) → ¬ KQ 63 w.heap.size (w.heap.size + 1 + 1) g o := fun g o e ⟨_, h⟩ => by omega
    have HX := Lib.hid (And.intro h1 (And.intro h2 (And.intro hx2 h3)))
    clear h1 h2 hx2 h3
    gi_wp2
    gi_region_with_o (refine ⟨trivial, ?_⟩; gi_at_call 92; refine (CallsIn.inRound l (callsIn_wide.2 (pcross t v (hw1.mono (by decide)) (hw2.mono (by decide)) W.drew))).mono ?_; rintro e w3 ⟨rfl, hb3⟩; have d5 : w3.cell? ⟨w.heap.size + 1, 0, none⟩ = some (.int .i64 s) := (hb3.cell (p := ⟨w.heap.size + 1, 0, none⟩) L3).trans c5; have d6 : w3.frozen? ⟨w.heap.size + 1, 0, none⟩ = false := (hb3.frozen (p := ⟨w.heap.size + 1, 0, none⟩) L3).trans f3)
    all_goals
      rw [HWR.out]
      obtain ⟨g1, g2, g3, g4⟩ := HX.out
      have j1 := blk_below (w := W.drew) g1 hb3 L2
      have j2 := blk_below (w := W.drew) g2 hb3 L3
      have j3 := blk_below (w := W.drew) g3 hb3 L1
      have j4 : Below w.heap.size W w3 := (Below.refl _ W).drew.trans (hb3.mono g4.size)
      have x4 : KeepsFrom W0.heap.size W w3 := ((KeepsOthers.drew W).from _).trans (keepsFrom_below hb3)
      have x5 : Fix (KQ 63 w.heap.size (w.heap.size + 1 + 1)) W w3 := (Fix.of_below (Below.refl W.heap.size W).drew (Nat.le_refl _)).trans (Fix.of_below hb3 (Nat.le_refl _))
      have s2 := blk_set j2 0 (.int .i64 (s + cross t v))
      have s1 := blk_far j1 (p := ⟨w.heap.size + 1, 0, none⟩) (by simp) (.int .i64 (s + cross t v))
      have s3 := blk_far j3 (p := ⟨w.heap.size + 1, 0, none⟩) (by simp only []; omega) (.int .i64 (s + cross t v))
      have y4 := x4.trans ((KeepsOthers.setCell w3 ⟨w.heap.size + 1, 0, none⟩ (.int .i64 (s + cross t v))).from _)
      have y5 := x5.trans (Fix.setCell (p := ⟨w.heap.size + 1, 0, none⟩) (.int .i64 (s + cross t v)) j2 (nk _ _ (.inr rfl)))
      have y6 := (g4.trans j4).setCell (p := ⟨w.heap.size + 1, 0, none⟩) (by simp) (.int .i64 (s + cross t v))
      generalize w3.setCell ⟨w.heap.size + 1, 0, none⟩ (.int .i64 (s + cross t v)) = w4 at s1 s2 s3 y4 y5 y6 ⊢
      clear c1 c2 c3 c4 c5 f1 f2 f3 d5 d6 j1 j2 j3 j4 x4 x5 g1 g2 g3 g4 hb3
      have c1 : w4.cell? ⟨Bx, 0, none⟩ = some (.int .i64 v.x) := blk_cell s3 0
      have c2 : w4.cell? ⟨Bx, 1, none⟩ = some (.int .i64 v.y) := blk_cell s3 1
      have c3 : w4.cell? ⟨w.heap.size, 0, none⟩ = some (.int .i64 t.x) := blk_cell s1 0
      have c4 : w4.cell? ⟨w.heap.size, 1, none⟩ = some (.int .i64 t.y) := blk_cell s1 1
      have f1 := blk_frozen s1 0
      have f2 := blk_frozen s1 1
      have v1 := blk_set s1 0 (.int .i64 v.x)
      have v2 := blk_set v1 1 (.int .i64 v.y)
      have v0 := blk_far (blk_far s2 (p := ⟨w.heap.size, 0, none⟩) (by simp) (.int .i64 v.x)) (p := ⟨w.heap.size, 1, none⟩) (by simp) (.int .i64 v.y)
      have x1 := y5.trans ((Fix.setCell (p := ⟨w.heap.size, 0, none⟩) (.int .i64 v.x) s1 (nk _ _ (.inl rfl))).trans (Fix.setCell (p := ⟨w.heap.size, 1, none⟩) (.int .i64 v.y) v1 (nk _ _ (.inl rfl))))
      have x2 := (y6.setCell (p := ⟨w.heap.size, 0, none⟩) (by simp) (.int .i64 v.x)).setCell (p := ⟨w.heap.size, 1, none⟩) (by simp) (.int .i64 v.y)
      have x3 : KeepsFrom W0.heap.size W ((w4.setCell ⟨w.heap.size, 0, none⟩ (.int .i64 v.x)).setCell ⟨w.heap.size, 1, none⟩ (.int .i64 v.y)) := y4.trans (((KeepsOthers.setCell _ _ _).from _).trans ((KeepsOthers.setCell _ _ _).from _))
      have X := Lib.hid (And.intro x3 (And.intro x1 (And.intro (And.intro v2 v0) x2)))
      clear x1 x2 x3 v0 v1 v2 y4 y5 y6 s1 s2 s3
      gi_wp2
      exact X.out
  case done =>
    rintro D W hD ⟨⟨h1, h2⟩, h3⟩ hK
    rw [crAt_all] at h2
    have c1 : W.cell? ⟨w.heap.size + 1, 0, none⟩ = some (.int .i64 (areaL m.toNat p)) := blk_cell h2 0
    gi_wp2
    refine ⟨by simp, .inl ⟨_, _, rfl, run_takeDeferred hK, ?_⟩⟩
    exact ⟨_, results_tmp rfl _ _ _, rfl, h3.trans (belowK_b (w := w) (Nat.le_refl _) _ D _ _ (by omega) hK rfl rfl)⟩
end Go.Proofs.Ytnoocdannfeidaa

/-
  WALK: Area, Sum, End; which modes close a pulse.
-/
namespace Go.Proofs.Ytnoocdannfeidaa
open Go.RowKit Pulse

def areaN (p : List Int) (m : Int) : Int := if moded p m = 0 then areaL m.toNat p else 0
def sumV (p : List Int) (m : Int) : V := if moded p m = 0 then sumL m.toNat p else V.zero
def endV (p : List Int) (m : Int) : V := if moded p m = 0 then endL m.toNat p else V.zero

theorem ret_two {a a' b b' : Value} (h : a = a') (h' : b = b') : Ending.returned (.tuple #[a, b]) = .returned (.tuple #[a', b']) := by rw [h, h']
theorem pAreaF (A : Option Addr) (k c : Nat) (p : List Int) (m : Int) (w : World) (hl : p.length ≤ 1000) (B : Nat) (hB : B ≤ w.heap.size) (hr : Rd w B 1 A k (ints p)) :
    Calls Try.prog 19 #[.slice A k c, .int .i64 m] w fun e w' => e = .returned (.tuple #[.int .i64 (areaN p m), .int .i64 (moded p m)]) ∧ Below w.heap.size w w' := by
  obtain rfl := hr.int_len
  have H := Lib.hid (pmoded A p.length c p m w hl B hB hr)
  by_cases h : moded p m = 0
  · obtain ⟨h1, h2, h3⟩ := moded_ok h
    obtain ⟨h4, h5⟩ := vald_ok h1
    have HA := Lib.hid (show areaN p m = areaL m.toNat p by rw [areaN, if_pos h])
    have HM := Lib.hid h
    clear h
    go_enter Try.func19, Try.ntmps19
    go_wp2_with fail
    refine H.out.mono ?_
    rw [HM.out]
    rintro e w1 ⟨rfl, hb1⟩
    go_wp2_with fail
    refine (pArea p m h4 h5 h2 h3 A c w1 B (by have := hb1.size; omega) (hr.below' hb1 hB)).mono ?_
    rintro e w2 ⟨rfl, hb2⟩
    go_wp2
    go_ret2
    exact ⟨ret_two (by rw [HA.out]; rfl) (by rw [HM.out]; rfl), hb1.trans (hb2.mono hb1.size)⟩
  · have HA := Lib.hid (show areaN p m = 0 by rw [areaN, if_neg h])
    have hd : (moded p m != 0) = true := by simpa using h
    clear h
    go_enter Try.func19, Try.ntmps19
    go_wp2_with fail
    refine H.out.mono ?_
    rintro e w1 ⟨rfl, hb1⟩
    go_wp2
    go_ret2
    exact ⟨ret_two (by rw [HA.out]; rfl) rfl, hb1⟩

/-- The path does not come back. -/
def away (p : List Int) (m : Int) : Bool := !(decide ((endL m.toNat p).x = 0) && decide ((endL m.toNat p).y = 0))
set_option maxHeartbeats 400000 in
theorem closFn (p : List Int) (A : Option Addr) (c g : Nat) (m : Int) (hl : p.length ≤ 12) (hF : Forces 99 p) (hm : 0 ≤ m) (hm' : m ≤ 3) (w : World) (B : Nat) (hB : B ≤ w.heap.size) (hr : Rd w B 1 A p.length (ints p)) (hg : w.heap[g]? = some (.cells #[.slice A p.length c] 22 (0, 0))) :
    Calls Try.prog 98 #[.int .i64 m, .pointer (some ⟨g, 0, none⟩)] w fun e w' => e = .returned (.bool (away p m)) ∧ Below w.heap.size w w' := by
  have c1 : w.cell? ⟨g, 0, none⟩ = some (.slice A p.length c) := blk_cell hg 0
  have H := Lib.hid (pEnd p m hl hF hm hm' A c w B hB hr)
  clear hg
  have HA : away p m = !(decide ((endL m.toNat p).x = 0) && decide ((endL m.toNat p).y = 0)) := rfl
  obtain ⟨u, hu⟩ : ∃ u, u = endL m.toNat p := ⟨_, rfl⟩
  rw [← hu] at HA
  have HH := Lib.hid HA
  have HU := Lib.hid hu
  clear HA hu
  go_enter Try.func98, Try.ntmps98
  go_wp2_with fail
  refine H.out.mono ?_
  rw [← HU.out]
  rintro e w1 ⟨rfl, hb1⟩
  go_wp2
  all_goals
    go_ret
    exact ⟨ret_bool (by rw [HH.out]; simp [*]), hb1⟩

theorem retc {w w' : World} {e : Ending} {v v' : Value} {X : Nat} (h : e = .returned v ∧ Below X w w') (hv : v = v') : e = .returned v' ∧ Below X w w' := by rw [← hv]; exact h
/-- Closed in all modes of a list. -/
def shut (p ms : List Int) : Bool := !(ms.any (away p))
set_option maxHeartbeats 400000 in
theorem pisClosed (p ms : List Int) (A A' : Option Addr) (c k' c' : Nat) (hl : p.length ≤ 12) (hF : Forces 99 p) (hms : ∀ m ∈ ms, 0 ≤ m ∧ m ≤ 3) (hl' : ms.length ≤ 1000) (w : World) (B : Nat) (hB : B ≤ w.heap.size) (hr : Rd w B 1 A p.length (ints p)) (hr' : Rd w B 1 A' k' (ints ms)) :
    Calls Try.prog 72 #[.slice A p.length c, .slice A' k' c'] w fun e w' => e = .returned (.bool (shut p ms)) ∧ Below w.heap.size w w' := by
  have hn := blk_new w 22 #[.slice A p.length c]
  have hs : (w.alloc (.cells #[.slice A p.length c] 22)).heap.size = w.heap.size + 1 := by simp
  have H := Lib.hid (intContainsFunc 98 Try.call98 #[.pointer (some ⟨w.heap.size, 0, none⟩)] (away p) A' k' c' ms (w.alloc (.cells #[.slice A p.length c] 22)) hl' (w.heap.size + 1) (by omega) ((hr'.alloc hB _).more (by omega))
    (fun m hm W hb => closFn p A c w.heap.size m hl hF (hms m hm).1 (hms m hm).2 W B (by have := hb.size; omega) ((hr.alloc hB _).below' hb (by omega)) (blk_below hn hb (by omega))))
  have HB := Lib.hid ((Below.refl w.heap.size w).alloc (Nat.le_refl _) (.cells #[.slice A p.length c] 22))
  have HN := Lib.hid (show shut p ms = !(ms.any (away p)) from rfl)
  clear hn hs hms
  generalize ms.any (away p) = b at H HN
  cases b
  all_goals
    go_enter Try.func72, Try.ntmps72
    go_wp2_with fail
    refine H.out.mono ?_
    rintro e w1 ⟨rfl, hb1⟩
    go_wp2
    go_ret
    exact ⟨ret_bool (by rw [HN.out]; rfl), HB.out.trans (hb1.mono (by simp))⟩
end Go.Proofs.Ytnoocdannfeidaa
