/-
  WALK: the functions that go along a path: end, total, area.
-/
import Derived.Test.YtnoocdannfeidaaW5
namespace Go.Proofs.Ytnoocdannfeidaa
open Go.RowKit Go.Shelf Pulse
attribute [local go_sem] Oper.semAt_some

/-- What the caller lays ahead of a loop over points. -/
theorem ptsIn (n : Nat) (hn : 2 ≤ n) (p : List Int) (m : Int) (hl : p.length ≤ 12) (hF : Forces 99 p) (hm : 0 ≤ m) (hm' : m ≤ 3) (A : Option Addr) (c n₀ n₁ : Nat) (h01 : n₀ ≤ n₁)
    (w : World) (hs : n₁ + 2 = w.heap.size) (hb1 : w.heap[n₁]? = some (.cells #[.slice A p.length c] 22 (0, 0))) (hb2 : w.heap[n₁ + 1]? = some (.cells #[.int .i64 m] 3 (0, 0))) (hr : Rd w n₀ 1 A p.length (ints p)) :
    PtsIn Fence.wide n Try.prog 100 #[.pointer (some ⟨n₁, 0, none⟩), .pointer (some ⟨n₁ + 1, 0, none⟩)] 63 n₀ n₁ (p.length + 1) (fun q => vV (pt m p q)) w := by
  intro l J W hb hJ hY h0
  have hsz := hb.size
  exact iter_in n hn p m hl hF hm hm' A c n₀ n₁ h01 l J hJ hY W (by omega) (blk_below hb1 hb (by omega)) (blk_below hb2 hb (by omega)) (hr.below' hb (by omega)) h0

/-- The point that was told last. -/
def lastPt (m : Int) (p : List Int) : Nat → V
  | 0 => V.zero
  | q + 1 => pt m p q
theorem pt_all (m : Int) (p : List Int) : pt m p p.length = endL m.toNat p := by rw [pt, List.take_length]

set_option maxRecDepth 100000 in
set_option maxHeartbeats 4000000 in
theorem pEnd (p : List Int) (m : Int) (hl : p.length ≤ 12) (hF : Forces 99 p) (hm : 0 ≤ m) (hm' : m ≤ 3) (A : Option Addr) (c : Nat) (w : World) (B : Nat) (hB : B ≤ w.heap.size) (hr : Rd w B 1 A p.length (ints p)) :
    Calls Try.prog 76 #[.slice A p.length c, .int .i64 m] w fun e w' => e = .returned (vV (endL m.toNat p)) ∧ Below w.heap.size w w' := by
  refine (callsIn_wide (n := 9)).1 ?_
  refine callsIn_of_wp_marks Try.func76 rfl trivial ?_ rfl
  simp only [Try.ntmps76, List.size_toArray, List.length_cons, List.length_nil, Nat.reduceAdd, Nat.reduceSub, Array.replicate_succ, Array.replicate_zero, List.push_toArray, List.append_toArray, List.nil_append, List.cons_append]
  gi_wp2
  refine ⟨trivial, (callsIn_wide.2 (pPoints _ _ _ _ _)).mono ?_⟩
  rintro e w' ⟨rfl, rfl⟩
  gi_wp2
  have b0 := blk_alloc (blk_alloc (blk_alloc (blk_new w 63 #[.int .i64 0, .int .i64 0]) (.cells #[.int .i64 0, .int .i64 0] 63)) (.cells #[.slice A p.length c] 22)) (.cells #[.int .i64 m] 3)
  have b1 := blk_alloc (blk_alloc (blk_new (w.alloc (.cells #[.int .i64 0, .int .i64 0] 63)) 63 #[.int .i64 0, .int .i64 0]) (.cells #[.slice A p.length c] 22)) (.cells #[.int .i64 m] 3)
  have b2 := blk_alloc (blk_new ((w.alloc (.cells #[.int .i64 0, .int .i64 0] 63)).alloc (.cells #[.int .i64 0, .int .i64 0] 63)) 22 #[.slice A p.length c]) (.cells #[.int .i64 m] 3)
  have b3 := blk_new (((w.alloc (.cells #[.int .i64 0, .int .i64 0] 63)).alloc (.cells #[.int .i64 0, .int .i64 0] 63)).alloc (.cells #[.slice A p.length c] 22)) 3 #[.int .i64 m]
  have hB0 : Below w.heap.size w ((((w.alloc (.cells #[.int .i64 0, .int .i64 0] 63)).alloc (.cells #[.int .i64 0, .int .i64 0] 63)).alloc (.cells #[.slice A p.length c] 22)).alloc (.cells #[.int .i64 m] 3)) :=
    ((((Below.refl _ w).alloc (Nat.le_refl _) _).alloc (by simp) _).alloc (by simp; omega) _).alloc (by simp; omega) _
  have hsz : w.heap.size + 1 + 1 + 2 = ((((w.alloc (.cells #[.int .i64 0, .int .i64 0] 63)).alloc (.cells #[.int .i64 0, .int .i64 0] 63)).alloc (.cells #[.slice A p.length c] 22)).alloc (.cells #[.int .i64 m] 3)).heap.size := by simp
  simp only [World.size_alloc] at b1 b2 b3
  obtain ⟨W0, hW0⟩ : ∃ W0, (((w.alloc (.cells #[.int .i64 0, .int .i64 0] 63)).alloc (.cells #[.int .i64 0, .int .i64 0] 63)).alloc (.cells #[.slice A p.length c] 22)).alloc (.cells #[.int .i64 m] 3) = W0 := ⟨_, rfl⟩
  rw [hW0] at b0 b1 b2 b3 hB0 hsz ⊢
  clear hW0
  have hB0s := hB0.size
  refine wpIn_points (n₀ := w.heap.size) (n₁ := w.heap.size + 1 + 1) (N := p.length + 1) (t := 63) rfl (by omega) (gf := 100) (lb := #[.pointer (some ⟨w.heap.size + 1 + 1, 0, none⟩), .pointer (some ⟨w.heap.size + 1 + 1 + 1, 0, none⟩)]) rfl trivial (enters_of Try.func100 (by kernel_rfl) rfl)
    (x := fun q => vV (pt m p q))
    (ptsIn 8 (by omega) p m hl hF hm hm' A c w.heap.size (w.heap.size + 1 + 1) (by omega) W0 hsz b2 b3 ((hr.more hB).below hB0)) rfl hsz (by omega)
    (fun q W => (W.heap[w.heap.size]? = some (.cells #[.int .i64 0, .int .i64 0] 63 (0, 0)) ∧ W.heap[w.heap.size + 1]? = some (.cells #[.int .i64 (lastPt m p q).x, .int .i64 (lastPt m p q).y] 63 (0, 0))) ∧ Below w.heap.size w W)
    (fun q X Y ⟨⟨h1, h2⟩, h3⟩ hf => ⟨⟨hf.keep _ _ (fun ⟨h, _⟩ => by omega) h1, hf.keep _ _ (fun ⟨h, _⟩ => by omega) h2⟩, hf.frame h3 (fun g o h ⟨h', _⟩ => by omega) (Nat.le_refl _)⟩)
    ⟨⟨b0, b1⟩, hB0⟩
    (fun q a' W => ∃ Bx, w.heap.size + 1 < Bx ∧ W.heap[Bx]? = some (.cells #[.int .i64 (pt m p q).x, .int .i64 (pt m p q).y] 63 (0, 0)) ∧ a' = { tmps := #[.slice A p.length c, .int .i64 m, undef, undef, .pointer (some ⟨w.heap.size, 0, none⟩), .pointer (some ⟨w.heap.size + 1, 0, none⟩), .pointer (some ⟨Bx, 0, none⟩), .slice A p.length c, .int .i64 m, .func (.func 100) #[] #[.pointer (some ⟨w.heap.size + 1 + 1, 0, none⟩), .pointer (some ⟨w.heap.size + 1 + 1 + 1, 0, none⟩)], vV (pt m p q), undef, undef], defers := [] })
    (fun q a' X l o o' ⟨Bx, h1, h2, h3⟩ ho hc => ⟨Bx, h1, (World.putObj_heap_other (fun e => by subst e; rw [h2] at ho; cases ho; cases hc)).trans h2, h3⟩)
    ?assign ?body ?done
  case assign =>
    rintro l q W K ⟨⟨h1, h2⟩, h3⟩ hq hK
    have L1 := blk_lt h2
    generalize hu : pt m p q = u at hK
    gi_wp2
    have hka : KeepsFrom W0.heap.size W (W.alloc (.cells #[.int .i64 u.x, .int .i64 u.y] 63)) := (KeepsOthers.alloc _ _).from _
    exact hK _ _ hka (Fix.alloc _ _) ⟨⟨blk_alloc h1 _, blk_alloc h2 _⟩, h3.alloc h3.size _⟩ ⟨W.heap.size, L1, blk_new W 63 _, rfl⟩
  case body =>
    rintro l q a' W ⟨⟨h1, h2⟩, h3⟩ ⟨Bx, hx1, hx2, rfl⟩ hq
    have hlast : lastPt m p (q + 1) = pt m p q := rfl
    rw [hlast]
    generalize pt m p q = u at hx2
    have c1 : W.cell? ⟨Bx, 0, none⟩ = some (.int .i64 u.x) := blk_cell hx2 0
    have c2 : W.cell? ⟨Bx, 1, none⟩ = some (.int .i64 u.y) := blk_cell hx2 1
    have c3 : W.cell? ⟨w.heap.size + 1, 0, none⟩ = some (.int .i64 (lastPt m p q).x) := blk_cell h2 0
    have c4 : W.cell? ⟨w.heap.size + 1, 1, none⟩ = some (.int .i64 (lastPt m p q).y) := blk_cell h2 1
    have f1 := blk_frozen h2 0
    have f2 := blk_frozen h2 1
    have v1 := blk_set h2 0 (.int .i64 u.x)
    have v2 := blk_set v1 1 (.int .i64 u.y)
    have v0 := blk_far (blk_far h1 (p := ⟨w.heap.size + 1, 0, none⟩) (by simp only []; omega) (.int .i64 u.x)) (p := ⟨w.heap.size + 1, 1, none⟩) (by simp only []; omega) (.int .i64 u.y)
    have nk : ∀ o, ¬ KQ 63 w.heap.size (w.heap.size + 1 + 1) (w.heap.size + 1) o := fun o ⟨_, h⟩ => by omega
    have x1 := (Fix.setCell (p := ⟨w.heap.size + 1, 0, none⟩) (.int .i64 u.x) h2 (nk _)).trans (Fix.setCell (p := ⟨w.heap.size + 1, 1, none⟩) (.int .i64 u.y) v1 (nk _))
    have x2 := (h3.setCell (p := ⟨w.heap.size + 1, 0, none⟩) (by simp) (.int .i64 u.x)).setCell (p := ⟨w.heap.size + 1, 1, none⟩) (by simp) (.int .i64 u.y)
    have x3 : KeepsFrom W0.heap.size W ((W.setCell ⟨w.heap.size + 1, 0, none⟩ (.int .i64 u.x)).setCell ⟨w.heap.size + 1, 1, none⟩ (.int .i64 u.y)) := ((KeepsOthers.setCell _ _ _).from _).trans ((KeepsOthers.setCell _ _ _).from _)
    have X := Lib.hid (And.intro x3 (And.intro x1 (And.intro (And.intro v0 v2) x2)))
    clear x1 x2 x3 v0 v1 v2 nk hx2 h1 h2
    gi_wp2
    exact X.out
  case done =>
    rintro D W hD ⟨⟨h1, h2⟩, h3⟩ hK
    have hlast : lastPt m p (p.length + 1) = endL m.toNat p := pt_all m p
    rw [hlast] at h2
    obtain ⟨u, hu⟩ : ∃ u, u = endL m.toNat p := ⟨_, rfl⟩
    rw [← hu] at h2
    have HU := Lib.hid hu
    clear hu hlast
    have c1 : W.cell? ⟨w.heap.size + 1, 0, none⟩ = some (.int .i64 u.x) := blk_cell h2 0
    have c2 : W.cell? ⟨w.heap.size + 1, 1, none⟩ = some (.int .i64 u.y) := blk_cell h2 1
    have c3 : W.cell? ⟨w.heap.size, 0, none⟩ = some (.int .i64 0) := blk_cell h1 0
    have c4 : W.cell? ⟨w.heap.size, 1, none⟩ = some (.int .i64 0) := blk_cell h1 1
    have f1 := blk_frozen h1 0
    have f2 := blk_frozen h1 1
    have v1 := blk_set h1 0 (.int .i64 u.x)
    have v2 := blk_set v1 1 (.int .i64 u.y)
    have hK2 := blk_far (blk_far hK (p := ⟨w.heap.size, 0, none⟩) (by simp only []; omega) (.int .i64 u.x)) (p := ⟨w.heap.size, 1, none⟩) (by simp only []; omega) (.int .i64 u.y)
    have hb := (h3.setCell (p := ⟨w.heap.size, 0, none⟩) (by simp) (.int .i64 u.x)).setCell (p := ⟨w.heap.size, 1, none⟩) (by simp) (.int .i64 u.y)
    have V := Lib.hid (And.intro v2 (And.intro hK2 hb))
    clear v1 v2 hK2 hb h1 h2
    gi_wp2
    obtain ⟨v2, hK2, hb⟩ := V.out
    refine ⟨by simp, .inl ⟨_, _, rfl, run_takeDeferred hK2, ?_⟩⟩
    have hne : w.heap.size ≠ D := by omega
    have v3 := (World.putObj_heap_other (o := .deferred none) hne).trans v2
    have r0 := blk_cell v3 0
    have r1 := blk_cell v3 1
    exact ⟨vV u, by simp [results, Try.results76, go_sem, r0, r1], by rw [HU.out], hb.trans (belowK_b (w := w) (Nat.le_refl _) _ D _ _ (by omega) hK2 rfl rfl)⟩
end Go.Proofs.Ytnoocdannfeidaa
