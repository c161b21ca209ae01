/-
  WALK: the reference's end, sum and area. (Printed by gen_rend.py.)
-/
import Derived.Test.YtnoocdannfeidaaW16
namespace Go.Proofs.Ytnoocdannfeidaa
open Go.RowKit Pulse

theorem pt_stp {m : Int} {p : List Int} {q : Nat} (h : q < p.length) : pt m p (q + 1) = (pt m p q).add (stp m p q) := by
  rw [pt_succ h, stp, show p.getD q 0 = p[q] by simp [h]]
/-- A row of points, at a place. -/
theorem own_pt {w : World} {base n : Nat} {A : Option Addr} {c : Nat} {l : List V} (h : w.ownsRow base 29 2 (.slice A n c) n (ptCells l)) (hn : l.length = n) {q : Nat} (hq : q < l.length) :
    ∃ b off, A = some ⟨b, off, none⟩ ∧ b < w.heap.size ∧ w.cell? ⟨b, off + q * 2, none⟩ = some (.int .i64 l[q].x) ∧ w.cell? ⟨b, off + q * 2 + 1, none⟩ = some (.int .i64 l[q].y) := by
  obtain ⟨b, off, e, hb, hc⟩ := (Rd.of_own h).2 (by omega)
  refine ⟨b, off, e, hb, ?_, ?_⟩
  · have := pts_get l q 0 hq (by omega)
    exact hc (q * 2) _ (by rw [Nat.add_zero] at this; rw [this]; rfl)
  · have := pts_get l q 1 hq (by omega)
    have := hc (q * 2 + 1) _ (by rw [this]; rfl)
    rw [← Nat.add_assoc] at this
    exact this
theorem own_set_far {w : World} {base n sz : Nat} {e : TypeId} {v : Value} {xs : List Value} (h : w.ownsRow base e sz v n xs) {p : Addr} (hp : p.block < base) (u : Value) : (w.setCell p u).ownsRow base e sz v n xs :=
  own_keep h fun g hg => Below.heap_setCell w p u g (by have := (h.lt g hg).1; omega)

set_option maxHeartbeats 1000000 in
theorem rend (p : List Int) (m : Int) (hl : p.length ≤ 12) (hF : Forces 99 p) (hm : 0 ≤ m) (hm' : m ≤ 3) (A : Option Addr) (c : Nat) (w : World) (B : Nat) (hB : B ≤ w.heap.size) (hr : Rd w B 1 A p.length (ints p)) :
    Calls Try.prog 75 #[.slice A p.length c, .int .i64 m] w fun e w' => e = .returned (vV (endL m.toNat p)) ∧ Below w.heap.size w w' := by
  have hn1 := blk_alloc (blk_new w 29 #[.int .i64 0, .int .i64 0]) (.cells #[.int .i64 0, .int .i64 0] 29)
  have hn2 := blk_new (w.alloc (.cells #[.int .i64 0, .int .i64 0] 29)) 29 #[.int .i64 0, .int .i64 0]
  rw [World.size_alloc] at hn2
  have HN := Lib.hid (And.intro hn1 hn2)
  have HB0 := Lib.hid (((Below.refl w.heap.size w).alloc (Nat.le_refl _) (.cells #[.int .i64 0, .int .i64 0] 29)).alloc (by simp) (.cells #[.int .i64 0, .int .i64 0] 29))
  have HST := Lib.hid (rsteps p m hl hF hm hm' A c ((w.alloc (.cells #[.int .i64 0, .int .i64 0] 29)).alloc (.cells #[.int .i64 0, .int .i64 0] 29)) B (by simp; omega) ((hr.alloc hB _).alloc (by simp; omega) _))
  clear hn1 hn2
  go_enter Try.func75, Try.ntmps75
  go_wp2_with fail
  refine HST.out.mono ?_
  rintro e w1 ⟨v1, rfl, hown, hb1⟩
  simp only [World.size_alloc] at hown hb1
  obtain ⟨Av, cv, rfl, hcv, hcv'⟩ := own_cap hown
  have g1 := blk_below HN.out.1 hb1 (by omega)
  have g2 := blk_below HN.out.2 hb1 (by omega)
  have HG := Lib.hid (And.intro g1 (And.intro g2 (And.intro hown (HB0.out.trans (hb1.mono (by omega))))))
  clear g1 g2 hown hb1 HST HB0 HN
  go_wp2
  go_loopw [7] (fun i wr => ∃ q : Nat, i = .int .i64 q ∧ q ≤ p.length ∧ wr.heap[w.heap.size]? = some (.cells #[.int .i64 0, .int .i64 0] 29 (0, 0)) ∧ wr.heap[w.heap.size + 1]? = some (.cells #[.int .i64 (pt m p q).x, .int .i64 (pt m p q).y] 29 (0, 0)) ∧
    wr.ownsRow (w.heap.size + 1 + 1) 29 2 (.slice Av p.length cv) p.length (ptCells (stps m p p.length)) ∧ Below w.heap.size w wr) (fun i _ => p.length - (intOf i).toNat)
  case atStart => exact ⟨0, rfl, Nat.zero_le _, HG.out.1, HG.out.2.1, HG.out.2.2.1, HG.out.2.2.2⟩
  case round =>
    clear HG
    obtain ⟨q, rfl, hq, h1, h2, hown, hb⟩ := hrel
    by_cases hlt : q < p.length
    · obtain ⟨b, off, rfl, hbb, k1, k2⟩ := own_pt hown (stps_len m p p.length) (show q < (stps m p p.length).length by rw [stps_len]; exact hlt)
      rw [stps_get] at k1 k2
      have hsu := stp_wi hF q (m := m)
      have hwu := pt_wi hl hF q (m := m)
      have HPT := Lib.hid (pt_stp (m := m) hlt)
      obtain ⟨s, hs⟩ : ∃ s, s = stp m p q := ⟨_, rfl⟩
      rw [← hs] at k1 k2 hsu HPT
      clear hs
      obtain ⟨u, hu⟩ : ∃ u, u = pt m p q := ⟨_, rfl⟩
      rw [← hu] at h2 hwu HPT
      clear hu
      have c1 : wr.cell? ⟨w.heap.size + 1, 0, none⟩ = some (.int .i64 u.x) := blk_cell h2 0
      have c2 : wr.cell? ⟨w.heap.size + 1, 1, none⟩ = some (.int .i64 u.y) := blk_cell h2 1
      have L1 : w.heap.size + 1 < wr.heap.size := blk_lt h2
      have L0 : w.heap.size < wr.heap.size := by omega
      have HH := Lib.hid (And.intro h1 (And.intro h2 (And.intro hown hb)))
      clear h1 h2 hown hb
      go_wp2
      have mc := cell_mergeW wr
      have mf := frozen_mergeW wr
      refine wp_region_btail 6 (by kernel_rfl) (by kernel_rfl) ?_
      simp only [List.take_succ_cons, List.take_zero, List.drop_succ_cons, List.drop_zero]
      repeat (go_big_quiet_step (first | (go_at_call 95; refine (rplus u s (hwu.mono (by decide)) (hsu.mono (by decide)) _).mono ?_; rintro e w3 ⟨rfl, hb3⟩; exact ⟨rfl, in_mergeW hb3⟩)))
      refine wpQuiet_nil ?_
      rintro w4 ⟨s4, hs4⟩
      have hb3 := below_mergeW wr s4
      rw [← hs4] at hb3
      clear hs4 mc mf
      obtain ⟨h1, h2, hown, hb⟩ := HH.out
      have x1 := blk_below h1 hb3 L0
      have x2 := blk_below h2 hb3 L1
      have x3 := own_below hown hb3
      have d1 : w4.cell? ⟨w.heap.size + 1, 0, none⟩ = some (.int .i64 u.x) := blk_cell x2 0
      have d2 : w4.cell? ⟨w.heap.size + 1, 1, none⟩ = some (.int .i64 u.y) := blk_cell x2 1
      have f1 := blk_frozen x2 0
      have f2 := blk_frozen x2 1
      obtain ⟨r, hr⟩ : ∃ r, r = u.add s := ⟨_, rfl⟩
      rw [← hr] at HPT ⊢
      clear hr
      have v1 := blk_far (blk_far x1 (p := ⟨w.heap.size + 1, 0, none⟩) (by simp) (.int .i64 r.x)) (p := ⟨w.heap.size + 1, 1, none⟩) (by simp) (.int .i64 r.y)
      have v2 := blk_set (blk_set x2 0 (.int .i64 r.x)) 1 (.int .i64 r.y)
      have v3 := own_set_far (own_set_far x3 (p := ⟨w.heap.size + 1, 0, none⟩) (by simp) (.int .i64 r.x)) (p := ⟨w.heap.size + 1, 1, none⟩) (by simp) (.int .i64 r.y)
      have v4 := ((hb.trans (hb3.mono hb.size)).setCell (p := ⟨w.heap.size + 1, 0, none⟩) (by simp) (.int .i64 r.x)).setCell (p := ⟨w.heap.size + 1, 1, none⟩) (by simp) (.int .i64 r.y)
      have V := Lib.hid (And.intro v1 (And.intro v2 (And.intro v3 v4)))
      clear v1 v2 v3 v4 x1 x2 x3 h1 h2 hown hb hb3 c1 c2 k1 k2
      go_wp2
      go_roundw
      case rel => exact ⟨q + 1, by go_num, by omega, V.out.1, by rw [HPT.out]; exact V.out.2.1, V.out.2.2.1, V.out.2.2.2⟩
      case measure => simp [intOf]; omega
    · obtain rfl : q = p.length := by omega
      have hall := pt_all m p
      rw [hall] at h2
      obtain ⟨u, hu⟩ : ∃ u, u = endL m.toNat p := ⟨_, rfl⟩
      rw [← hu] at h2
      have HU := Lib.hid hu
      clear hu hall
      have c1 : wr.cell? ⟨w.heap.size + 1, 0, none⟩ = some (.int .i64 u.x) := blk_cell h2 0
      have c2 : wr.cell? ⟨w.heap.size + 1, 1, none⟩ = some (.int .i64 u.y) := blk_cell h2 1
      have c3 : wr.cell? ⟨w.heap.size, 0, none⟩ = some (.int .i64 0) := blk_cell h1 0
      have c4 : wr.cell? ⟨w.heap.size, 1, none⟩ = some (.int .i64 0) := blk_cell h1 1
      have f1 := blk_frozen h1 0
      have f2 := blk_frozen h1 1
      have v1 := blk_set (blk_set h1 0 (.int .i64 u.x)) 1 (.int .i64 u.y)
      have v4 := (hb.setCell (p := ⟨w.heap.size, 0, none⟩) (Nat.le_refl _) (.int .i64 u.x)).setCell (p := ⟨w.heap.size, 1, none⟩) (Nat.le_refl _) (.int .i64 u.y)
      have V := Lib.hid (And.intro v1 v4)
      clear v1 v4 h1 h2 hown hb
      go_wp2
      have r0 := blk_cell V.out.1 0
      have r1 := blk_cell V.out.1 1
      exact bodyPost_ret (v := vV u) (by simp [results, Try.results75, go_sem, r0, r1]) rfl ⟨by rw [HU.out], V.out.2⟩
end Go.Proofs.Ytnoocdannfeidaa
