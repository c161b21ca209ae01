/-
  MERGED: W5, W6.
-/
import Derived.Test.YtnoocdannfeidaaK5
/-
  WALK: the iterator 'points'.
-/
namespace Go.Proofs.Ytnoocdannfeidaa
open Go.RowKit Go.Shelf Pulse
attribute [local go_sem] Oper.semAt_some

theorem pPoints (a : Option Addr) (k c : Nat) (m : Int) (w : World) : Calls Try.prog 74 #[.slice a k c, .int .i64 m] w fun e w' =>
    e = .returned (.func (.func 100) #[] #[.pointer (some ⟨w.heap.size, 0, none⟩), .pointer (some ⟨w.heap.size + 1, 0, none⟩)]) ∧ w' = (w.alloc (.cells #[.slice a k c] 22)).alloc (.cells #[.int .i64 m] 3) := by
  go_enter Try.func74, Try.ntmps74
  go_wp2
  go_ret
  exact ⟨rfl, rfl⟩

/-- Point q of the path of p in mode m. -/
def pt (m : Int) (p : List Int) (q : Nat) : V := endL m.toNat (p.take q)
def stepAt (m : Int) (q : Nat) : V := rotN (m.toNat * q) V.e1
theorem pt_succ {m : Int} {p : List Int} {q : Nat} (h : q < p.length) : pt m p (q + 1) = (pt m p q).add ((stepAt m q).sm p[q]) := by
  unfold pt stepAt
  rw [take_snoc' p q h, endL_snoc, List.length_take, Nat.min_eq_left (Nat.le_of_lt h)]
theorem pt_wi {m : Int} {p : List Int} (hl : p.length ≤ 12) (h : Forces 99 p) (q : Nat) : Wi 2000 (pt m p q) := by
  refine (endL_wi (F := 99) (by decide) m.toNat (p.take q) (h.take q)).mono ?_
  have : (p.take q).length ≤ 12 := by rw [List.length_take]; omega
  omega
theorem stepAt_succ {m : Int} (h : 0 ≤ m) (h' : m ≤ 3) (q : Nat) : rotN (m % 4).toNat (stepAt m q) = stepAt m (q + 1) := by
  unfold stepAt
  rw [← rotN_add]
  refine rotN_congr ?_ _
  rw [show (m % 4).toNat = m.toNat by omega, Nat.mul_add, Nat.mul_one, Nat.add_comm]
theorem stepAt_wi (m : Int) (q : Nat) : Wi 1 (stepAt m q) := wi_e1.rotN _

theorem rd_fix {n₀ n₁ : Nat} {X Y : World} {A : Option Addr} {k : Nat} {xs : List Value} (hf : Fix (KQ 63 n₀ n₁) X Y) (h : Rd X n₀ 1 A k xs) : Rd Y n₀ 1 A k xs := by
  refine ⟨h.1, fun hk => ?_⟩
  obtain ⟨b, off, e, hb, hc⟩ := h.2 hk
  refine ⟨b, off, e, hb, fun j u hu => ?_⟩
  have h1 := hc j u hu
  obtain ⟨o, hg, ho⟩ := cells_of_cell h1
  have h2 := hf.keep b o ⟨ho, .inl hb⟩ hg
  have h3 : Y.heap[b]? = X.heap[b]? := h2.trans hg.symm
  exact (World.cell?_of_block h3).trans h1

set_option maxRecDepth 100000 in
set_option maxHeartbeats 4000000 in
theorem iter_in (n : Nat) (hn : 2 ≤ n) (p : List Int) (m : Int) (hl : p.length ≤ 12) (hF : Forces 99 p) (hm : 0 ≤ m) (hm' : m ≤ 3) (A : Option Addr) (c n₀ n₁ : Nat) (h01 : n₀ ≤ n₁)
    (l : Nat) (J : Nat → World → Prop) (hJ : ∀ q A B, J q A → Fix (KJ 63 (n₁ + 2)) A B → J q B)
    (hY : ∀ q A, J q A → q < p.length + 1 → YieldAt Fence.wide (n - 1) Try.prog l #[vV (pt m p q)] A fun e B => e = .returned (.bool true) ∧ J (q + 1) B ∧ Fix (KQ 63 n₀ n₁) A B)
    (W : World) (hs : n₁ + 2 ≤ W.heap.size) (hb1 : W.heap[n₁]? = some (.cells #[.slice A p.length c] 22 (0, 0))) (hb2 : W.heap[n₁ + 1]? = some (.cells #[.int .i64 m] 3 (0, 0))) (hr : Rd W n₀ 1 A p.length (ints p)) (h0 : J 0 W) :
    CallsIn Fence.wide n Try.prog 100 #[.func (.yield l) #[] #[], .pointer (some ⟨n₁, 0, none⟩), .pointer (some ⟨n₁ + 1, 0, none⟩)] W fun e B => (∃ v, e = .returned v) ∧ J (p.length + 1) B := by
  have z0 : vV (pt m p 0) = .agg #[.int .i64 0, .int .i64 0] := rfl
  have L0 : n₁ < W.heap.size := by omega
  have L1 : n₁ + 1 < W.heap.size := by omega
  have hJ1 := hJ _ _ ((W.alloc (.cells #[.int .i64 0, .int .i64 0] 63)).alloc (.cells #[.int .i64 1, .int .i64 0] 63)) h0 ((Fix.alloc _ _).trans (Fix.alloc _ _))
  obtain ⟨fn, tmps, assign, body, hy, hR⟩ := hY 0 _ hJ1 (by omega)
  rw [z0] at hy
  have hx1 := blk_alloc (blk_alloc hb1 (.cells #[.int .i64 0, .int .i64 0] 63)) (.cells #[.int .i64 1, .int .i64 0] 63)
  have hx2 := blk_alloc (blk_alloc hb2 (.cells #[.int .i64 0, .int .i64 0] 63)) (.cells #[.int .i64 1, .int .i64 0] 63)
  have hx3 := blk_alloc (blk_new W 63 #[.int .i64 0, .int .i64 0]) (.cells #[.int .i64 1, .int .i64 0] 63)
  have hx4 := blk_new (W.alloc (.cells #[.int .i64 0, .int .i64 0] 63)) 63 #[.int .i64 1, .int .i64 0]
  rw [World.size_alloc] at hx4
  have hr1 := (hr.alloc (by omega) (.cells #[.int .i64 0, .int .i64 0] 63)).alloc (by simp; omega) (.cells #[.int .i64 1, .int .i64 0] 63)
  have HX := Lib.hid (And.intro hx1 (And.intro hx2 (And.intro hx3 (And.intro hx4 hr1))))
  clear hx1 hx2 hx3 hx4 hr1 hJ1
  have q1 : KQ 63 n₀ n₁ n₁ (.cells #[.slice A p.length c] 22 (0, 0)) := ⟨rfl, .inr (.inl rfl)⟩
  have q2 : KQ 63 n₀ n₁ (n₁ + 1) (.cells #[.int .i64 m] 3 (0, 0)) := ⟨rfl, .inr (.inr (.inl rfl))⟩
  have q3 : ∀ (g : Nat) (cs : Array Value), n₁ + 2 ≤ g → KQ 63 n₀ n₁ g (.cells cs 63 (0, 0)) := fun g cs h => ⟨rfl, .inr (.inr (.inr ⟨h, _, rfl⟩))⟩
  have Q1 := Lib.hid q1
  have Q2 := Lib.hid q2
  have Q3 := Lib.hid q3
  clear q1 q2 q3
  refine callsIn_of_wp Try.func100 rfl trivial ?_ rfl
  simp only [Try.ntmps100, List.size_toArray, List.length_cons, List.length_nil, Nat.reduceAdd, Nat.reduceSub, Array.replicate_succ, Array.replicate_zero, List.push_toArray, List.append_toArray, List.nil_append, List.cons_append]
  gi_wp2
  refine ⟨fun _ => by omega, hR.mono ?_⟩
  rintro e W3 ⟨rfl, hJ3, hq3⟩
  obtain ⟨hx1, hx2, hx3, hx4, hr1⟩ := HX.out
  have y1 := hq3.keep _ _ Q1.out hx1
  have y2 := hq3.keep _ _ Q2.out hx2
  have y3 := hq3.keep _ _ (Q3.out _ _ (by omega)) hx3
  have y4 := hq3.keep _ _ (Q3.out _ _ (by omega)) hx4
  have r3 := rd_fix hq3 hr1
  have sz3 := hq3.size
  simp only [World.size_alloc] at sz3
  have c1 : W3.cell? ⟨n₁, 0, none⟩ = some (.slice A p.length c) := blk_cell y1 0
  have HY := Lib.hid (And.intro y1 (And.intro y2 (And.intro y3 (And.intro y4 r3))))
  have HJ3 := Lib.hid hJ3
  clear hx1 hx2 hx3 hx4 hr1 y1 y2 y3 y4 r3 hq3 hJ3 hR hy HX
  gi_wp2
  gi_loopw [16] (fun i wr => ∃ q : Nat, i = .int .i64 q ∧ q ≤ p.length ∧ J (q + 1) wr ∧ wr.heap[n₁]? = some (.cells #[.slice A p.length c] 22 (0, 0)) ∧ wr.heap[n₁ + 1]? = some (.cells #[.int .i64 m] 3 (0, 0)) ∧
      wr.heap[W.heap.size]? = some (.cells #[.int .i64 (pt m p q).x, .int .i64 (pt m p q).y] 63 (0, 0)) ∧ wr.heap[W.heap.size + 1]? = some (.cells #[.int .i64 (stepAt m q).x, .int .i64 (stepAt m q).y] 63 (0, 0)) ∧ Rd wr n₀ 1 A p.length (ints p))
    (fun i _ => p.length - (intOf i).toNat)
  case atStart => exact ⟨0, rfl, Nat.zero_le _, HJ3.out, HY.out.1, HY.out.2.1, HY.out.2.2.1, HY.out.2.2.2.1, HY.out.2.2.2.2⟩
  case round =>
    obtain ⟨q, rfl, hq, hj, y1, y2, y3, y4, r3⟩ := hrel
    by_cases hlt : q < p.length
    · obtain ⟨b, off, rfl, hbb, hc⟩ := r3.2 (by omega)
      have hc1 := hc q (.int .i64 p[q]) (by simp [hlt])
      have hfb := hF p[q] (List.getElem_mem hlt)
      generalize hfq : p[q] = f at hc1 hfb
      have HFQ := Lib.hid hfq
      have hwu := pt_wi hl hF q (m := m)
      have hwt := stepAt_wi m q
      have hwn := pt_wi hl hF (q + 1) (m := m)
      have hsu := pt_succ (m := m) hlt
      rw [hfq] at hsu
      clear hfq
      obtain ⟨u, hu⟩ : ∃ u, u = pt m p q := ⟨_, rfl⟩
      obtain ⟨t, ht⟩ : ∃ t, t = stepAt m q := ⟨_, rfl⟩
      rw [← hu, ← ht] at hsu
      rw [← hu] at hwu y3
      rw [← ht] at hwt y4
      have HNX := Lib.hid hsu
      clear hsu
      have HT := Lib.hid ht
      have HU := Lib.hid hu
      have HR3 := Lib.hid r3
      clear ht hu hc r3
      have hd1 : decide (q < p.length) = true := by simpa using hlt
      have b1 := mul_bd (a := f) (b := t.x) (A := 99) (B := 1) (by decide) hfb ⟨hwt.1, hwt.2.1⟩
      have b2 := mul_bd (a := f) (b := t.y) (A := 99) (B := 1) (by decide) hfb ⟨hwt.2.2.1, hwt.2.2.2⟩
      have g1 : u.x + f * t.x ≤ 4000 ∧ -4000 ≤ u.x + f * t.x := by have := hwu.1; have := hwu.2.1; omega
      have g2 : u.y + f * t.y ≤ 4000 ∧ -4000 ≤ u.y + f * t.y := by have := hwu.2.2.1; have := hwu.2.2.2; omega
      have c1 : wr.cell? ⟨W.heap.size, 0, none⟩ = some (.int .i64 u.x) := blk_cell y3 0
      have c2 : wr.cell? ⟨W.heap.size, 1, none⟩ = some (.int .i64 u.y) := blk_cell y3 1
      have c3 : wr.cell? ⟨W.heap.size + 1, 0, none⟩ = some (.int .i64 t.x) := blk_cell y4 0
      have c4 : wr.cell? ⟨W.heap.size + 1, 1, none⟩ = some (.int .i64 t.y) := blk_cell y4 1
      have f1 := blk_frozen y3 0
      have f2 := blk_frozen y3 1
      have HYY := Lib.hid (And.intro y1 (And.intro y2 (And.intro y3 y4)))
      have HJ := Lib.hid hj
      clear y1 y2 y3 y4 hj
      have nk : ∀ (g : Nat) (cs : Array Value), n₁ + 2 ≤ g → ¬ KJ 63 (n₁ + 2) g (.cells cs 63 (0, 0)) := fun g cs h h' => h' ⟨h, _, rfl⟩
      have hxy : vV (pt m p (q + 1)) = .agg #[.int .i64 (u.x + f * t.x), .int .i64 (u.y + f * t.y)] := by rw [HNX.out]; rfl
      have e1 := blk_set HYY.out.2.2.1 0 (.int .i64 (u.x + f * t.x))
      have hJa := hJ _ _ _ HJ.out (Fix.setCell (p := ⟨W.heap.size, 0, none⟩) (.int .i64 (u.x + f * t.x)) HYY.out.2.2.1 (nk _ _ (by simp only []; omega)))
      have hJb := hJ _ _ _ hJa (Fix.setCell (p := ⟨W.heap.size, 1, none⟩) (.int .i64 (u.y + f * t.y)) e1 (nk _ _ (by simp only []; omega)))
      have e2 := blk_set e1 1 (.int .i64 (u.y + f * t.y))
      have k1 := blk_far (blk_far HYY.out.1 (p := ⟨W.heap.size, 0, none⟩) (by simp only []; omega) (.int .i64 (u.x + f * t.x))) (p := ⟨W.heap.size, 1, none⟩) (by simp only []; omega) (.int .i64 (u.y + f * t.y))
      have k2 := blk_far (blk_far HYY.out.2.1 (p := ⟨W.heap.size, 0, none⟩) (by simp only []; omega) (.int .i64 (u.x + f * t.x))) (p := ⟨W.heap.size, 1, none⟩) (by simp only []; omega) (.int .i64 (u.y + f * t.y))
      have k4 := blk_far (blk_far HYY.out.2.2.2 (p := ⟨W.heap.size, 0, none⟩) (by simp only []; omega) (.int .i64 (u.x + f * t.x))) (p := ⟨W.heap.size, 1, none⟩) (by simp only []; omega) (.int .i64 (u.y + f * t.y))
      have kr := (HR3.out.setCell (p := ⟨W.heap.size, 0, none⟩) (by simp only []; omega) (.int .i64 (u.x + f * t.x))).setCell (p := ⟨W.heap.size, 1, none⟩) (by simp only []; omega) (.int .i64 (u.y + f * t.y))
      have HK := Lib.hid (And.intro k1 (And.intro k2 (And.intro e2 (And.intro k4 kr))))
      have NK := Lib.hid nk
      obtain ⟨fn, tmps, assign, body, hy, hR⟩ := hY (q + 1) _ hJb (by omega)
      rw [hxy] at hy
      clear e1 e2 k1 k2 k4 kr hJa hJb hxy nk
      gi_wp2
      refine ⟨fun _ => by omega, hR.mono ?_⟩
      rintro e W3 ⟨rfl, hJ3, hq3⟩
      obtain ⟨k1, k2, k3, k4, kr⟩ := HK.out
      have y1 := hq3.keep _ _ Q1.out k1
      have y2 := hq3.keep _ _ Q2.out k2
      have y3 := hq3.keep _ _ (Q3.out _ _ (by omega)) k3
      have y4 := hq3.keep _ _ (Q3.out _ _ (by omega)) k4
      have r3 := rd_fix hq3 kr
      have sz4 : W.heap.size + 1 < W3.heap.size := blk_lt y4
      have c5 : W3.cell? ⟨n₁ + 1, 0, none⟩ = some (.int .i64 m) := blk_cell y2 0
      have c6 : W3.cell? ⟨W.heap.size + 1, 0, none⟩ = some (.int .i64 t.x) := blk_cell y4 0
      have c7 : W3.cell? ⟨W.heap.size + 1, 1, none⟩ = some (.int .i64 t.y) := blk_cell y4 1
      have HY2 := Lib.hid (And.intro y1 (And.intro y2 (And.intro y3 (And.intro y4 r3))))
      have HJ2 := Lib.hid hJ3
      clear k1 k2 k3 k4 kr y1 y2 y3 y4 r3 hq3 hJ3 hR hy HK c1 c2 c3 c4 f1 f2
      have htt := stepAt_succ hm hm' q
      rw [← HT.out] at htt
      have HTT := Lib.hid htt
      clear htt
      gi_wp2
      refine ⟨trivial, fun _ => by omega, (callsIn_wide.2 (pTurn t (hwt.mono (by decide)) m (by omega) (by omega) W3)).mono ?_⟩
      rintro e w5 ⟨rfl, hb5⟩
      rw [HTT.out]
      have hJ5 := hJ _ _ _ HJ2.out (Fix.of_below hb5 (Nat.le_refl _))
      obtain ⟨y1, y2, y3, y4, r3⟩ := HY2.out
      have z1 := blk_below y1 hb5 (by omega)
      have z2 := blk_below y2 hb5 (by omega)
      have z3 := blk_below y3 hb5 (by omega)
      have z4 := blk_below y4 hb5 (by omega)
      have zr := r3.below' hb5 (by omega)
      have NK := NK.out
      have v0 : (stepAt m (q + 1)).x = (stepAt m (q + 1)).x := rfl
      obtain ⟨s, hs⟩ : ∃ s, s = stepAt m (q + 1) := ⟨_, rfl⟩
      rw [← hs]
      have HS := Lib.hid hs
      have n5 : W.heap.size + 1 < w5.heap.size := blk_lt z4
      have v1 := blk_set z4 0 (.int .i64 s.x)
      have v2 := blk_set v1 1 (.int .i64 s.y)
      have hJ6 := hJ _ _ _ hJ5 (Fix.setCell (p := ⟨W.heap.size + 1, 0, none⟩) (.int .i64 s.x) z4 (NK _ _ (by simp only []; omega)))
      have hJ7 := hJ _ _ _ hJ6 (Fix.setCell (p := ⟨W.heap.size + 1, 1, none⟩) (.int .i64 s.y) v1 (NK _ _ (by simp only []; omega)))
      have d0 : w5.cell? ⟨W.heap.size + 1, 0, none⟩ = some (.int .i64 t.x) := blk_cell z4 0
      have d1 : w5.cell? ⟨W.heap.size + 1, 1, none⟩ = some (.int .i64 t.y) := blk_cell z4 1
      have d2 := blk_frozen z4 0
      have d3 := blk_frozen z4 1
      have HE1 := Lib.hid (blk_far (blk_far z1 (p := ⟨W.heap.size + 1, 0, none⟩) (by simp only []; omega) (.int .i64 s.x)) (p := ⟨W.heap.size + 1, 1, none⟩) (by simp only []; omega) (.int .i64 s.y))
      have HE2 := Lib.hid (blk_far (blk_far z2 (p := ⟨W.heap.size + 1, 0, none⟩) (by simp only []; omega) (.int .i64 s.x)) (p := ⟨W.heap.size + 1, 1, none⟩) (by simp only []; omega) (.int .i64 s.y))
      have HE3 := Lib.hid (blk_far (blk_far z3 (p := ⟨W.heap.size + 1, 0, none⟩) (by simp only []; omega) (.int .i64 s.x)) (p := ⟨W.heap.size + 1, 1, none⟩) (by simp only []; omega) (.int .i64 s.y))
      have HE5 := Lib.hid ((zr.setCell (p := ⟨W.heap.size + 1, 0, none⟩) (by simp only []; omega) (.int .i64 s.x)).setCell (p := ⟨W.heap.size + 1, 1, none⟩) (by simp only []; omega) (.int .i64 s.y))
      have HE4 := Lib.hid v2
      have HJ7 := Lib.hid hJ7
      clear y1 y2 y3 y4 r3 z1 z2 z3 z4 zr v0 v1 v2 hJ5 hJ6 hJ7 hs c5 c6 c7 hb5
      gi_wp2
      go_roundw
      case rel =>
        refine ⟨q + 1, by go_num, by omega, HJ7.out, HE1.out, HE2.out, ?_, ?_, HE5.out⟩
        · rw [HNX.out]; exact HE3.out
        · rw [← HS.out]; exact HE4.out
      case measure => simp [intOf]; omega
    · obtain rfl : q = p.length := by omega
      have hd1 : decide (p.length < p.length) = false := by simp
      gi_wp2
      go_end0
      exact ⟨⟨_, rfl⟩, hj⟩
end Go.Proofs.Ytnoocdannfeidaa

/-
  WALK: the functions that go along a path: end, total, area.
-/
namespace Go.Proofs.Ytnoocdannfeidaa
open Go.RowKit Go.Shelf Pulse
attribute [local go_sem] Oper.semAt_some

/-- What the caller lays ahead of a loop over points. -/
theorem ptsIn (n : Nat) (hn : 2 ≤ n) (p : List Int) (m : Int) (hl : p.length ≤ 12) (hF : Forces 99 p) (hm : 0 ≤ m) (hm' : m ≤ 3) (A : Option Addr) (c n₀ n₁ : Nat) (h01 : n₀ ≤ n₁)
    (w : World) (hs : n₁ + 2 = w.heap.size) (hb1 : w.heap[n₁]? = some (.cells #[.slice A p.length c] 22 (0, 0))) (hb2 : w.heap[n₁ + 1]? = some (.cells #[.int .i64 m] 3 (0, 0))) (hr : Rd w n₀ 1 A p.length (ints p)) :
    PtsIn Fence.wide n Try.prog 100 #[.pointer (some ⟨n₁, 0, none⟩), .pointer (some ⟨n₁ + 1, 0, none⟩)] 63 n₀ n₁ (p.length + 1) (fun q => vV (pt m p q)) w := by
  intro l J W hb hJ hY h0
  have hsz := hb.size
  exact iter_in n hn p m hl hF hm hm' A c n₀ n₁ h01 l J hJ hY W (by omega) (blk_below hb1 hb (by omega)) (blk_below hb2 hb (by omega)) (hr.below' hb (by omega)) h0

/-- The point that was told last. -/
def lastPt (m : Int) (p : List Int) : Nat → V
  | 0 => V.zero
  | q + 1 => pt m p q
theorem pt_all (m : Int) (p : List Int) : pt m p p.length = endL m.toNat p := by rw [pt, List.take_length]

set_option maxRecDepth 100000 in
set_option maxHeartbeats 4000000 in
theorem pEnd (p : List Int) (m : Int) (hl : p.length ≤ 12) (hF : Forces 99 p) (hm : 0 ≤ m) (hm' : m ≤ 3) (A : Option Addr) (c : Nat) (w : World) (B : Nat) (hB : B ≤ w.heap.size) (hr : Rd w B 1 A p.length (ints p)) :
    Calls Try.prog 76 #[.slice A p.length c, .int .i64 m] w fun e w' => e = .returned (vV (endL m.toNat p)) ∧ Below w.heap.size w w' := by
  refine (callsIn_wide (n := 9)).1 ?_
  refine callsIn_of_wp_marks Try.func76 rfl trivial ?_ rfl
  simp only [Try.ntmps76, List.size_toArray, List.length_cons, List.length_nil, Nat.reduceAdd, Nat.reduceSub, Array.replicate_succ, Array.replicate_zero, List.push_toArray, List.append_toArray, List.nil_append, List.cons_append]
  gi_wp2
  refine ⟨trivial, (callsIn_wide.2 (pPoints _ _ _ _ _)).mono ?_⟩
  rintro e w' ⟨rfl, rfl⟩
  gi_wp2
  have b0 := blk_alloc (blk_alloc (blk_alloc (blk_new w 63 #[.int .i64 0, .int .i64 0]) (.cells #[.int .i64 0, .int .i64 0] 63)) (.cells #[.slice A p.length c] 22)) (.cells #[.int .i64 m] 3)
  have b1 := blk_alloc (blk_alloc (blk_new (w.alloc (.cells #[.int .i64 0, .int .i64 0] 63)) 63 #[.int .i64 0, .int .i64 0]) (.cells #[.slice A p.length c] 22)) (.cells #[.int .i64 m] 3)
  have b2 := blk_alloc (blk_new ((w.alloc (.cells #[.int .i64 0, .int .i64 0] 63)).alloc (.cells #[.int .i64 0, .int .i64 0] 63)) 22 #[.slice A p.length c]) (.cells #[.int .i64 m] 3)
  have b3 := blk_new (((w.alloc (.cells #[.int .i64 0, .int .i64 0] 63)).alloc (.cells #[.int .i64 0, .int .i64 0] 63)).alloc (.cells #[.slice A p.length c] 22)) 3 #[.int .i64 m]
  have hB0 : Below w.heap.size w ((((w.alloc (.cells #[.int .i64 0, .int .i64 0] 63)).alloc (.cells #[.int .i64 0, .int .i64 0] 63)).alloc (.cells #[.slice A p.length c] 22)).alloc (.cells #[.int .i64 m] 3)) :=
    ((((Below.refl _ w).alloc (Nat.le_refl _) _).alloc (by simp) _).alloc (by simp; omega) _).alloc (by simp; omega) _
  have hsz : w.heap.size + 1 + 1 + 2 = ((((w.alloc (.cells #[.int .i64 0, .int .i64 0] 63)).alloc (.cells #[.int .i64 0, .int .i64 0] 63)).alloc (.cells #[.slice A p.length c] 22)).alloc (.cells #[.int .i64 m] 3)).heap.size := by simp
  simp only [World.size_alloc] at b1 b2 b3
  obtain ⟨W0, hW0⟩ : ∃ W0, (((w.alloc (.cells #[.int .i64 0, .int .i64 0] 63)).alloc (.cells #[.int .i64 0, .int .i64 0] 63)).alloc (.cells #[.slice A p.length c] 22)).alloc (.cells #[.int .i64 m] 3) = W0 := ⟨_, rfl⟩
  rw [hW0] at b0 b1 b2 b3 hB0 hsz ⊢
  clear hW0
  have hB0s := hB0.size
  refine wpIn_points (n₀ := w.heap.size) (n₁ := w.heap.size + 1 + 1) (N := p.length + 1) (t := 63) rfl (by omega) (gf := 100) (lb := #[.pointer (some ⟨w.heap.size + 1 + 1, 0, none⟩), .pointer (some ⟨w.heap.size + 1 + 1 + 1, 0, none⟩)]) rfl trivial (enters_of Try.func100 (by kernel_rfl) rfl)
    (x := fun q => vV (pt m p q))
    (ptsIn 8 (by omega) p m hl hF hm hm' A c w.heap.size (w.heap.size + 1 + 1) (by omega) W0 hsz b2 b3 ((hr.more hB).below hB0)) rfl hsz (by omega)
    (fun q W => (W.heap[w.heap.size]? = some (.cells #[.int .i64 0, .int .i64 0] 63 (0, 0)) ∧ W.heap[w.heap.size + 1]? = some (.cells #[.int .i64 (lastPt m p q).x, .int .i64 (lastPt m p q).y] 63 (0, 0))) ∧ Below w.heap.size w W)
    (fun q X Y ⟨⟨h1, h2⟩, h3⟩ hf => ⟨⟨hf.keep _ _ (fun ⟨h, _⟩ => by omega) h1, hf.keep _ _ (fun ⟨h, _⟩ => by omega) h2⟩, hf.frame h3 (fun g o h ⟨h', _⟩ => by omega) (Nat.le_refl _)⟩)
    ⟨⟨b0, b1⟩, hB0⟩
    (fun q a' W => ∃ Bx, w.heap.size + 1 < Bx ∧ W.heap[Bx]? = some (.cells #[.int .i64 (pt m p q).x, .int .i64 (pt m p q).y] 63 (0, 0)) ∧ a' = { tmps := #[.slice A p.length c, .int .i64 m, undef, undef, .pointer (some ⟨w.heap.size, 0, none⟩), .pointer (some ⟨w.heap.size + 1, 0, none⟩), .pointer (some ⟨Bx, 0, none⟩), .slice A p.length c, .int .i64 m, .func (.func 100) #[] #[.pointer (some ⟨w.heap.size + 1 + 1, 0, none⟩), .pointer (some ⟨w.heap.size + 1 + 1 + 1, 0, none⟩)], vV (pt m p q), undef, undef], defers := [] })
    (fun q a' X l o o' ⟨Bx, h1, h2, h3⟩ ho hc => ⟨Bx, h1, (World.putObj_heap_other (fun e => by subst e; rw [h2] at ho; cases ho; cases hc)).trans h2, h3⟩)
    ?assign ?body ?done
  case assign =>
    rintro l q W K ⟨⟨h1, h2⟩, h3⟩ hq hK
    have L1 := blk_lt h2
    generalize hu : pt m p q = u at hK
    gi_wp2
    have hka : KeepsFrom W0.heap.size W (W.alloc (.cells #[.int .i64 u.x, .int .i64 u.y] 63)) := (KeepsOthers.alloc _ _).from _
    exact hK _ _ hka (Fix.alloc _ _) ⟨⟨blk_alloc h1 _, blk_alloc h2 _⟩, h3.alloc h3.size _⟩ ⟨W.heap.size, L1, blk_new W 63 _, rfl⟩
  case body =>
    rintro l q a' W ⟨⟨h1, h2⟩, h3⟩ ⟨Bx, hx1, hx2, rfl⟩ hq
    have hlast : lastPt m p (q + 1) = pt m p q := rfl
    rw [hlast]
    generalize pt m p q = u at hx2
    have c1 : W.cell? ⟨Bx, 0, none⟩ = some (.int .i64 u.x) := blk_cell hx2 0
    have c2 : W.cell? ⟨Bx, 1, none⟩ = some (.int .i64 u.y) := blk_cell hx2 1
    have c3 : W.cell? ⟨w.heap.size + 1, 0, none⟩ = some (.int .i64 (lastPt m p q).x) := blk_cell h2 0
    have c4 : W.cell? ⟨w.heap.size + 1, 1, none⟩ = some (.int .i64 (lastPt m p q).y) := blk_cell h2 1
    have f1 := blk_frozen h2 0
    have f2 := blk_frozen h2 1
    have v1 := blk_set h2 0 (.int .i64 u.x)
    have v2 := blk_set v1 1 (.int .i64 u.y)
    have v0 := blk_far (blk_far h1 (p := ⟨w.heap.size + 1, 0, none⟩) (by simp only []; omega) (.int .i64 u.x)) (p := ⟨w.heap.size + 1, 1, none⟩) (by simp only []; omega) (.int .i64 u.y)
    have nk : ∀ o, ¬ KQ 63 w.heap.size (w.heap.size + 1 + 1) (w.heap.size + 1) o := fun o ⟨_, h⟩ => by omega
    have x1 := (Fix.setCell (p := ⟨w.heap.size + 1, 0, none⟩) (.int .i64 u.x) h2 (nk _)).trans (Fix.setCell (p := ⟨w.heap.size + 1, 1, none⟩) (.int .i64 u.y) v1 (nk _))
    have x2 := (h3.setCell (p := ⟨w.heap.size + 1, 0, none⟩) (by simp) (.int .i64 u.x)).setCell (p := ⟨w.heap.size + 1, 1, none⟩) (by simp) (.int .i64 u.y)
    have x3 : KeepsFrom W0.heap.size W ((W.setCell ⟨w.heap.size + 1, 0, none⟩ (.int .i64 u.x)).setCell ⟨w.heap.size + 1, 1, none⟩ (.int .i64 u.y)) := ((KeepsOthers.setCell _ _ _).from _).trans ((KeepsOthers.setCell _ _ _).from _)
    have X := Lib.hid (And.intro x3 (And.intro x1 (And.intro (And.intro v0 v2) x2)))
    clear x1 x2 x3 v0 v1 v2 nk hx2 h1 h2
    gi_wp2
    exact X.out
  case done =>
    rintro D W hD ⟨⟨h1, h2⟩, h3⟩ hK
    have hlast : lastPt m p (p.length + 1) = endL m.toNat p := pt_all m p
    rw [hlast] at h2
    obtain ⟨u, hu⟩ : ∃ u, u = endL m.toNat p := ⟨_, rfl⟩
    rw [← hu] at h2
    have HU := Lib.hid hu
    clear hu hlast
    have c1 : W.cell? ⟨w.heap.size + 1, 0, none⟩ = some (.int .i64 u.x) := blk_cell h2 0
    have c2 : W.cell? ⟨w.heap.size + 1, 1, none⟩ = some (.int .i64 u.y) := blk_cell h2 1
    have c3 : W.cell? ⟨w.heap.size, 0, none⟩ = some (.int .i64 0) := blk_cell h1 0
    have c4 : W.cell? ⟨w.heap.size, 1, none⟩ = some (.int .i64 0) := blk_cell h1 1
    have f1 := blk_frozen h1 0
    have f2 := blk_frozen h1 1
    have v1 := blk_set h1 0 (.int .i64 u.x)
    have v2 := blk_set v1 1 (.int .i64 u.y)
    have hK2 := blk_far (blk_far hK (p := ⟨w.heap.size, 0, none⟩) (by simp only []; omega) (.int .i64 u.x)) (p := ⟨w.heap.size, 1, none⟩) (by simp only []; omega) (.int .i64 u.y)
    have hb := (h3.setCell (p := ⟨w.heap.size, 0, none⟩) (by simp) (.int .i64 u.x)).setCell (p := ⟨w.heap.size, 1, none⟩) (by simp) (.int .i64 u.y)
    have V := Lib.hid (And.intro v2 (And.intro hK2 hb))
    clear v1 v2 hK2 hb h1 h2
    gi_wp2
    obtain ⟨v2, hK2, hb⟩ := V.out
    refine ⟨by simp, .inl ⟨_, _, rfl, run_takeDeferred hK2, ?_⟩⟩
    have hne : w.heap.size ≠ D := by omega
    have v3 := (World.putObj_heap_other (o := .deferred none) hne).trans v2
    have r0 := blk_cell v3 0
    have r1 := blk_cell v3 1
    exact ⟨vV u, by simp [results, Try.results76, go_sem, r0, r1], by rw [HU.out], hb.trans (belowK_b (w := w) (Nat.le_refl _) _ D _ _ (by omega) hK2 rfl rfl)⟩
end Go.Proofs.Ytnoocdannfeidaa
