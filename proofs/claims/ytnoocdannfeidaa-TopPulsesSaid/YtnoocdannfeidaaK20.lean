/-
  MERGED: LJoins.
-/
import Derived.Test.YtnoocdannfeidaaK1
import Derived.Test.YtnoocdannfeidaaK19
/-
  THE WALK of the law PulseJoins. (Printed by gen_ljoins.py.)
-/
namespace Go.Proofs.Ytnoocdannfeidaa
open Go.RowKit Pulse

theorem joinE_ok {p r : List Int} (h : joinE p r = 0) : vald p = 0 ∧ vald r = 0 ∧ p.length + r.length ≤ 12 ∧ joinL p r = p ++ r := by
  unfold joinE at h
  split at h
  · rename_i h0
    split at h
    · omega
    · rename_i h1
      exact ⟨(bothE_ok h0).1, (bothE_ok h0).2, by omega, by rw [joinL, if_pos ⟨h0, h1⟩]⟩
  · exact absurd h (by assumption)
theorem vald_all {p : List Int} (h : vald p = 0) : p.all isF = true := by
  unfold vald at h
  split at h
  · omega
  · split at h
    · assumption
    · omega
theorem vald_join {p r : List Int} (h : vald p = 0) (h' : vald r = 0) (hl : p.length + r.length ≤ 12) : vald (p ++ r) = 0 := by
  rw [vald, if_neg (by simp; omega), if_pos]
  rw [List.all_append, vald_all h, vald_all h']; rfl
theorem turn_join {m : Int} (hm : 0 ≤ m) (n : Nat) (v : V) : rotN (m * n % 4).toNat v = rotN (m.toNat * n) v := by
  refine rotN_congr ?_ _
  obtain ⟨M, rfl⟩ := Int.eq_ofNat_of_zero_le hm
  rw [show ((M : Int)).toNat = M from rfl]
  have : (M : Int) * (n : Int) = ((M * n : Nat) : Int) := by simp
  rw [this]
  omega

set_option maxRecDepth 100000 in
set_option maxHeartbeats 8000000 in
theorem lawJoins (A : Option Addr) (k c : Nat) (p : List Int) (A' : Option Addr) (k' c' : Nat) (r : List Int) (m : Int) (w : World) (hk : k ≤ c) (hc : c ≤ maxLen) (hr : Rd w w.heap.size 1 A k (ints p)) (_ : Big p)
    (hk' : k' ≤ c') (hc' : c' ≤ maxLen) (hr' : Rd w w.heap.size 1 A' k' (ints r)) (_ : Big r) (_ : I64 m) :
    Calls Try.prog 13 #[.slice A k c, .slice A' k' c', .int .i64 m] w fun e w' => e = .returned (.bool true) ∧ Below w.heap.size w w' := by
  have hkm : k ≤ maxLen := Nat.le_trans hk hc
  have hkm' : k' ≤ maxLen := Nat.le_trans hk' hc'
  obtain rfl := hr.int_len
  obtain rfl := hr'.int_len
  by_cases hL : 100 < p.length
  · have HD := Lib.hid (show decide (100 < p.length) = true by simpa using hL)
    clear hL
    go_enter Try.func13, Try.ntmps13
    go_wp2_with fail
    refine (long _ _ _ _ hkm).mono ?_
    rw [HD.out]
    rintro e w1 ⟨rfl, rfl⟩
    go_wp2_with fail
    refine (known _).mono ?_
    rintro e w2 ⟨rfl, hb2⟩
    go_wp2
    go_ret
    exact ⟨rfl, hb2⟩
  · have HD := Lib.hid (show decide (100 < p.length) = false by simpa using hL)
    by_cases hL' : 100 < r.length
    · have HD' := Lib.hid (show decide (100 < r.length) = true by simpa using hL')
      go_enter Try.func13, Try.ntmps13
      go_wp2_with fail
      refine (long _ _ _ _ hkm).mono ?_
      rw [HD.out]
      rintro e w1 ⟨rfl, rfl⟩
      go_wp2_with fail
      refine (long _ _ _ _ hkm').mono ?_
      rw [HD'.out]
      rintro e w1 ⟨rfl, rfl⟩
      go_wp2_with fail
      refine (known _).mono ?_
      rintro e w2 ⟨rfl, hb2⟩
      go_wp2
      go_ret
      exact ⟨rfl, hb2⟩
    · have HD' := Lib.hid (show decide (100 < r.length) = false by simpa using hL')
      have hl : p.length ≤ 1000 := by omega
      have hl' : r.length ≤ 1000 := by omega
      have hsl : (joinL p r).length ≤ 1000 := by unfold joinL; split <;> simp; omega
      have HOK := Lib.hid (fun h => joinE_ok (p := p) (r := r) h)
      go_enter Try.func13, Try.ntmps13
      go_wp2_with fail
      refine (long _ _ _ _ hkm).mono ?_
      rw [HD.out]
      rintro e w1 ⟨rfl, rfl⟩
      go_wp2_with fail
      refine (long _ _ _ _ hkm').mono ?_
      rw [HD'.out]
      rintro e w1 ⟨rfl, rfl⟩
      clear hL hL'
      go_wp2_with fail
      refine (pJoin A A' p.length c r.length c' p r w hl hl' w.heap.size (Nat.le_refl _) hr hr').mono ?_
      rintro e w1 ⟨v1, rfl, hown1, B1⟩
      obtain ⟨A1, c1, rfl, _, _⟩ := own_cap hown1
      have s1 := B1.size
      have r1 := Rd.of_own hown1
      clear hown1
      go_wp2_with fail
      refine (rJoin A A' p.length c r.length c' p r w1 hl hl' w.heap.size s1 (hr.below B1) (hr'.below B1)).mono ?_
      rintro e w2 ⟨v2, rfl, hown2, hb2⟩
      obtain ⟨A2, c2, rfl, _, _⟩ := own_cap hown2
      have B2 := B1.trans (hb2.mono s1)
      have s2 := hb2.size
      have r1 := (r1.below hb2).more s2
      have r2 := Rd.of_own hown2
      clear hown2 hb2 B1
      go_wp2_with fail
      refine (rSameInts A1 A2 (joinL p r).length (joinL p r).length c1 c2 (joinL p r) (joinL p r) w2 hsl hsl w2.heap.size (Nat.le_refl _) r1 r2).mono ?_
      rw [decide_eq_true rfl]
      rintro e w4 ⟨rfl, hb4⟩
      have B4 := B2.trans (hb4.mono (by omega))
      have s4 := hb4.size
      have r1 := (r1.below hb4).more s4
      clear hb4 B2 r2
      obtain ⟨S, hS⟩ : ∃ S, S = joinL p r := ⟨_, rfl⟩
      obtain ⟨E, hE⟩ : ∃ E, E = joinE p r := ⟨_, rfl⟩
      rw [← hS] at hsl r1 HOK ⊢
      rw [← hE] at HOK ⊢
      clear hS hE
      have hwx := endV_wi p m
      have hwy := endV_wi r m
      have HZ := Lib.hid (fun W B hB h => pEndF A1 S.length c1 S m W hsl B hB h)
      obtain ⟨x, hx⟩ : ∃ x, x = endV p m := ⟨_, rfl⟩
      obtain ⟨y, hy⟩ : ∃ y, y = endV r m := ⟨_, rfl⟩
      obtain ⟨z, hz⟩ : ∃ z, z = endV S m := ⟨_, rfl⟩
      rw [← hx] at hwx
      rw [← hy] at hwy
      rw [← hz] at HZ
      have HX1 := Lib.hid hx
      have HY1 := Lib.hid hy
      have HZ1 := Lib.hid hz
      clear hx hy hz
      go_wp2_with fail
      refine (pEndF A p.length c p m w4 hl w.heap.size (by omega) (hr.below B4)).mono ?_
      rw [← HX1.out]
      rintro e w5 ⟨rfl, hb5⟩
      have s5 := hb5.size
      have B5 := B4.trans (hb5.mono (by omega))
      have B5' := B5.alloc B5.size (.cells #[.int .i64 x.x, .int .i64 x.y] 29)
      have r1 := (((r1.below hb5).more s5).alloc (Nat.le_refl _) (.cells #[.int .i64 x.x, .int .i64 x.y] 29))
      have HNX := Lib.hid (blk_new w5 29 #[.int .i64 x.x, .int .i64 x.y])
      clear hb5 B4 B5
      go_wp2_with fail
      refine (pEndF A' r.length c' r m (w5.alloc (.cells #[.int .i64 x.x, .int .i64 x.y] 29)) hl' w.heap.size (by simp; omega) (hr'.below B5')).mono ?_
      rw [← HY1.out]
      rintro e w6 ⟨rfl, hb6⟩
      have s6 := hb6.size
      rw [World.size_alloc] at s6 hb6
      have B6 := B5'.trans (hb6.mono (by omega))
      have B6' := B6.alloc B6.size (.cells #[.int .i64 y.x, .int .i64 y.y] 29)
      have n6 := blk_alloc (blk_below HNX.out hb6 (by omega)) (.cells #[.int .i64 y.x, .int .i64 y.y] 29)
      have r1 := (((r1.below' hb6 (by omega)).more (B' := w6.heap.size) (by omega)).alloc (Nat.le_refl _) (.cells #[.int .i64 y.x, .int .i64 y.y] 29))
      have HNY := Lib.hid (And.intro n6 (blk_new w6 29 #[.int .i64 y.x, .int .i64 y.y]))
      clear hb6 B5' B6 n6
      go_wp2_with fail
      refine (HZ.out (w6.alloc (.cells #[.int .i64 y.x, .int .i64 y.y] 29)) w6.heap.size (by simp) r1).mono ?_
      rintro e w7 ⟨rfl, hb7⟩
      have s7 := hb7.size
      rw [World.size_alloc] at s7 hb7
      have B7 := B6'.trans (hb7.mono (by omega))
      have B7' := B7.alloc B7.size (.cells #[.int .i64 z.x, .int .i64 z.y] 29)
      have n1 := blk_alloc (blk_below HNY.out.1 hb7 (by omega)) (.cells #[.int .i64 z.x, .int .i64 z.y] 29)
      have n2 := blk_alloc (blk_below HNY.out.2 hb7 (by omega)) (.cells #[.int .i64 z.x, .int .i64 z.y] 29)
      have r1 := (((r1.below' hb7 (by omega)).more (B' := w7.heap.size) (by omega)).alloc (Nat.le_refl _) (.cells #[.int .i64 z.x, .int .i64 z.y] 29))
      have HN7 := Lib.hid (And.intro n1 (And.intro n2 (blk_new w7 29 #[.int .i64 z.x, .int .i64 z.y])))
      have HB7 := Lib.hid B7'
      have s8 : (w7.alloc (.cells #[.int .i64 z.x, .int .i64 z.y] 29)).heap.size = w7.heap.size + 1 := by simp
      clear hb7 B6' B7 B7' n1 n2
      by_cases h0 : E = 0
      · obtain ⟨g1, g2, g3, g4⟩ := HOK.out h0
        subst h0
        have HG := Lib.hid g4
        have hv : vald S = 0 := by rw [g4]; exact vald_join g1 g2 g3
        clear g4
        have hma := moded_same g1 hv m
        have hmr := moded_same g1 g2 m
        have HMA := Lib.hid hma
        have HMR := Lib.hid hmr
        rw [hmr, hma]
        by_cases hm0 : moded p m = 0
        · obtain ⟨_, m0, m3⟩ := moded_ok hm0
          have HM := Lib.hid hm0
          have HPL := Lib.hid (show endV p m = endL m.toNat p by rw [endV, if_pos hm0])
          have HRL := Lib.hid (show endV r m = endL m.toNat r by rw [endV, if_pos (hmr.trans hm0)])
          have HSL := Lib.hid (show endV S m = endL m.toNat S by rw [endV, if_pos (hma.trans hm0)])
          have HAP := Lib.hid (show areaN p m = areaL m.toNat p by rw [areaN, if_pos hm0])
          have HAR := Lib.hid (show areaN r m = areaL m.toNat r by rw [areaN, if_pos (hmr.trans hm0)])
          have HAS := Lib.hid (show areaN S m = areaL m.toNat S by rw [areaN, if_pos (hma.trans hm0)])
          have HZE := Lib.hid (show z = x.add (rotN (m.toNat * p.length) y) by rw [HZ1.out, HX1.out, HY1.out, HSL.out, HPL.out, HRL.out, HG.out, endL_append])
          have HAZ := Lib.hid (show areaN S m = areaN p m + areaN r m + cross x (rotN (m.toNat * p.length) y) by rw [HAS.out, HG.out, HAP.out, HAR.out, HX1.out, HY1.out, HPL.out, HRL.out, areaL_append])
          have HT := Lib.hid (turn_join m0 p.length y)
          have hmq : 0 ≤ m * p.length ∧ m * p.length ≤ 36 := by
            have := mul_bd (a := m) (b := (p.length : Int)) (A := 3) (B := 12) (by decide) ⟨by omega, m3⟩ ⟨by omega, by omega⟩
            exact ⟨Int.mul_nonneg m0 (by omega), by omega⟩
          obtain ⟨mq1, mq2⟩ := hmq
          have HWT := Lib.hid (hwy.rotN (m.toNat * p.length))
          have HWY := Lib.hid (hwy.mono (show (2000 : Int) ≤ 1000000 by decide))
          have hp12 : p.length ≤ 12 := by omega
          rw [hm0]
          clear hm0 hmr hma hv g1 g2 g3 HOK
          have e1 : (w7.alloc (.cells #[.int .i64 z.x, .int .i64 z.y] 29)).cell? ⟨w6.heap.size, 0, none⟩ = some (.int .i64 y.x) := blk_cell HN7.out.2.1 0
          have e2 : (w7.alloc (.cells #[.int .i64 z.x, .int .i64 z.y] 29)).cell? ⟨w6.heap.size, 1, none⟩ = some (.int .i64 y.y) := blk_cell HN7.out.2.1 1
          have L6 : w6.heap.size < w7.heap.size := by omega
          go_wp2_with fail
          refine (pTurn y HWY.out (m * p.length) (by omega) (by omega) (w7.alloc (.cells #[.int .i64 z.x, .int .i64 z.y] 29))).mono ?_
          rw [HT.out]
          rintro e w8 ⟨rfl, hb8⟩
          have hwt := HWT.out
          obtain ⟨t, ht⟩ : ∃ t, t = rotN (m.toNat * p.length) y := ⟨_, rfl⟩
          rw [← ht] at HZE HAZ hwt ⊢
          have HTT := Lib.hid ht
          clear ht HT HWT
          have t8 := hb8.size
          rw [World.size_alloc] at t8 hb8
          have HX8 := Lib.hid (And.intro (blk_alloc (blk_below HN7.out.1 hb8 (by omega)) (.cells #[.int .i64 t.x, .int .i64 t.y] 29)) (And.intro (blk_alloc (blk_below HN7.out.2.1 hb8 (by omega)) (.cells #[.int .i64 t.x, .int .i64 t.y] 29)) (And.intro (blk_alloc (blk_below HN7.out.2.2 hb8 (by omega)) (.cells #[.int .i64 t.x, .int .i64 t.y] 29)) (blk_new w8 29 #[.int .i64 t.x, .int .i64 t.y]))))
          have B8 := (HB7.out.trans (hb8.mono (by omega)))
          have HB8 := Lib.hid (B8.alloc B8.size (.cells #[.int .i64 t.x, .int .i64 t.y] 29))
          have rr1 := ((r1.below' hb8 (by omega)).more (B' := w8.heap.size) (by omega)).alloc (Nat.le_refl _) (.cells #[.int .i64 t.x, .int .i64 t.y] 29)
          have s9 : (w8.alloc (.cells #[.int .i64 t.x, .int .i64 t.y] 29)).heap.size = w8.heap.size + 1 := by simp
          have L7 : w7.heap.size < w8.heap.size := by omega
          have L5 : w5.heap.size < w7.heap.size := by omega
          clear hb8 B8 e1 e2
          have hz := HZE.out
          subst hz
          dsimp only [V.add] at *
          obtain ⟨x0, x1⟩ := x
          obtain ⟨y0, y1⟩ := y
          dsimp only at *
          obtain ⟨hw1, hw2, hw3, hw4⟩ := hwx
          obtain ⟨hw5, hw6, hw7, hw8⟩ := hwt
          dsimp only at hw1 hw2 hw3 hw4
          clear hwy HWY
          by_cases hx : x0 = 0
          · by_cases hx' : x1 = 0
            · subst hx hx'
              have HCR := Lib.hid (show cross (⟨0, 0⟩ : V) t = 0 from cross_zero_left t)
              have c5 : (w8.alloc (.cells #[.int .i64 t.x, .int .i64 t.y] 29)).cell? ⟨w5.heap.size, 0, none⟩ = some (.int .i64 0) := blk_cell HX8.out.1 0
              have c6 : (w8.alloc (.cells #[.int .i64 t.x, .int .i64 t.y] 29)).cell? ⟨w5.heap.size, 1, none⟩ = some (.int .i64 0) := blk_cell HX8.out.1 1
              have c7 : (w8.alloc (.cells #[.int .i64 t.x, .int .i64 t.y] 29)).cell? ⟨w6.heap.size, 0, none⟩ = some (.int .i64 y0) := blk_cell HX8.out.2.1 0
              have c8 : (w8.alloc (.cells #[.int .i64 t.x, .int .i64 t.y] 29)).cell? ⟨w6.heap.size, 1, none⟩ = some (.int .i64 y1) := blk_cell HX8.out.2.1 1
              have c9 : (w8.alloc (.cells #[.int .i64 t.x, .int .i64 t.y] 29)).cell? ⟨w7.heap.size, 0, none⟩ = some (.int .i64 (0 + t.x)) := blk_cell HX8.out.2.2.1 0
              have c10 : (w8.alloc (.cells #[.int .i64 t.x, .int .i64 t.y] 29)).cell? ⟨w7.heap.size, 1, none⟩ = some (.int .i64 (0 + t.y)) := blk_cell HX8.out.2.2.1 1
              have HAQ := Lib.hid (show areaN S m = areaN p m + areaN r m by rw [HAZ.out, HCR.out]; omega)
              have ha1 := areaN_bd (p := p) (m := m)
              have ha2 := areaN_bd (p := r) (m := m)
              go_wp2_with fail
              refine (pAreaF A p.length c p m (w8.alloc (.cells #[.int .i64 t.x, .int .i64 t.y] 29)) hl w.heap.size (by omega) (hr.below HB8.out)).mono ?_
              rw [HM.out]
              rintro e w9 ⟨rfl, hb9⟩
              have t9 := hb9.size
              have HB9 := Lib.hid (HB8.out.trans (hb9.mono (by omega)))
              have rr1 := rr1.below' hb9 (by omega)
              clear hb9 c5 c6 c7 c8 c9 c10
              go_wp2_with fail
              refine (pAreaF A' r.length c' r m w9 hl' w.heap.size (by omega) (hr'.below HB9.out)).mono ?_
              rw [HMR.out, HM.out]
              rintro e w10 ⟨rfl, hb10⟩
              have t10 := hb10.size
              have HB10 := Lib.hid (HB9.out.trans (hb10.mono (by omega)))
              have rr1 := rr1.below' hb10 (by omega)
              clear hb10
              go_wp2_with fail
              refine (pAreaF A1 S.length c1 S m w10 hsl w8.heap.size (by omega) rr1).mono ?_
              rw [HMA.out, HM.out, HAQ.out]
              rintro e w11 ⟨rfl, hb11⟩
              have t11 := hb11.size
              have HB11 := Lib.hid (HB10.out.trans (hb11.mono (by omega)))
              clear hb11 rr1
              generalize areaN p m = a at *
              generalize areaN r m = b at *
              go_wp2_with fail
              refine (known _).mono ?_
              rintro e w12 ⟨rfl, hb12⟩
              go_wp2
              go_ret
              exact ⟨rfl, HB11.out.trans (hb12.mono (by omega))⟩
            · subst hx
              have p1 : (x1 == 0) = false := by simpa using hx'
              have p2 : (x1 != 0) = true := by simpa using hx'
              clear hx'
              by_cases hy : y0 = 0
              · by_cases hy' : y1 = 0
                · subst hy hy'
                  have HCR := Lib.hid (show cross (⟨0, x1⟩ : V) t = 0 by rw [HTT.out]; rw [show (⟨0, 0⟩ : V) = V.zero from rfl, rotN_zero]; exact cross_zero_right _)
                  have c5 : (w8.alloc (.cells #[.int .i64 t.x, .int .i64 t.y] 29)).cell? ⟨w5.heap.size, 0, none⟩ = some (.int .i64 0) := blk_cell HX8.out.1 0
                  have c6 : (w8.alloc (.cells #[.int .i64 t.x, .int .i64 t.y] 29)).cell? ⟨w5.heap.size, 1, none⟩ = some (.int .i64 x1) := blk_cell HX8.out.1 1
                  have c7 : (w8.alloc (.cells #[.int .i64 t.x, .int .i64 t.y] 29)).cell? ⟨w6.heap.size, 0, none⟩ = some (.int .i64 0) := blk_cell HX8.out.2.1 0
                  have c8 : (w8.alloc (.cells #[.int .i64 t.x, .int .i64 t.y] 29)).cell? ⟨w6.heap.size, 1, none⟩ = some (.int .i64 0) := blk_cell HX8.out.2.1 1
                  have c9 : (w8.alloc (.cells #[.int .i64 t.x, .int .i64 t.y] 29)).cell? ⟨w7.heap.size, 0, none⟩ = some (.int .i64 (0 + t.x)) := blk_cell HX8.out.2.2.1 0
                  have c10 : (w8.alloc (.cells #[.int .i64 t.x, .int .i64 t.y] 29)).cell? ⟨w7.heap.size, 1, none⟩ = some (.int .i64 (x1 + t.y)) := blk_cell HX8.out.2.2.1 1
                  have HAQ := Lib.hid (show areaN S m = areaN p m + areaN r m by rw [HAZ.out, HCR.out]; omega)
                  have ha1 := areaN_bd (p := p) (m := m)
                  have ha2 := areaN_bd (p := r) (m := m)
                  go_wp2_with fail
                  refine (pAreaF A p.length c p m (w8.alloc (.cells #[.int .i64 t.x, .int .i64 t.y] 29)) hl w.heap.size (by omega) (hr.below HB8.out)).mono ?_
                  rw [HM.out]
                  rintro e w9 ⟨rfl, hb9⟩
                  have t9 := hb9.size
                  have HB9 := Lib.hid (HB8.out.trans (hb9.mono (by omega)))
                  have rr1 := rr1.below' hb9 (by omega)
                  clear hb9 c5 c6 c7 c8 c9 c10
                  go_wp2_with fail
                  refine (pAreaF A' r.length c' r m w9 hl' w.heap.size (by omega) (hr'.below HB9.out)).mono ?_
                  rw [HMR.out, HM.out]
                  rintro e w10 ⟨rfl, hb10⟩
                  have t10 := hb10.size
                  have HB10 := Lib.hid (HB9.out.trans (hb10.mono (by omega)))
                  have rr1 := rr1.below' hb10 (by omega)
                  clear hb10
                  go_wp2_with fail
                  refine (pAreaF A1 S.length c1 S m w10 hsl w8.heap.size (by omega) rr1).mono ?_
                  rw [HMA.out, HM.out, HAQ.out]
                  rintro e w11 ⟨rfl, hb11⟩
                  have t11 := hb11.size
                  have HB11 := Lib.hid (HB10.out.trans (hb11.mono (by omega)))
                  clear hb11 rr1
                  generalize areaN p m = a at *
                  generalize areaN r m = b at *
                  go_wp2_with fail
                  refine (known _).mono ?_
                  rintro e w12 ⟨rfl, hb12⟩
                  go_wp2
                  go_ret
                  exact ⟨rfl, HB11.out.trans (hb12.mono (by omega))⟩
                · subst hy
                  have q1 : (y1 == 0) = false := by simpa using hy'
                  have q2 : (y1 != 0) = true := by simpa using hy'
                  clear hy'
                  have c5 : (w8.alloc (.cells #[.int .i64 t.x, .int .i64 t.y] 29)).cell? ⟨w5.heap.size, 0, none⟩ = some (.int .i64 0) := blk_cell HX8.out.1 0
                  have c6 : (w8.alloc (.cells #[.int .i64 t.x, .int .i64 t.y] 29)).cell? ⟨w5.heap.size, 1, none⟩ = some (.int .i64 x1) := blk_cell HX8.out.1 1
                  have c7 : (w8.alloc (.cells #[.int .i64 t.x, .int .i64 t.y] 29)).cell? ⟨w6.heap.size, 0, none⟩ = some (.int .i64 0) := blk_cell HX8.out.2.1 0
                  have c8 : (w8.alloc (.cells #[.int .i64 t.x, .int .i64 t.y] 29)).cell? ⟨w6.heap.size, 1, none⟩ = some (.int .i64 y1) := blk_cell HX8.out.2.1 1
                  have c9 : (w8.alloc (.cells #[.int .i64 t.x, .int .i64 t.y] 29)).cell? ⟨w7.heap.size, 0, none⟩ = some (.int .i64 (0 + t.x)) := blk_cell HX8.out.2.2.1 0
                  have c10 : (w8.alloc (.cells #[.int .i64 t.x, .int .i64 t.y] 29)).cell? ⟨w7.heap.size, 1, none⟩ = some (.int .i64 (x1 + t.y)) := blk_cell HX8.out.2.2.1 1
                  go_wp2_with fail
                  refine (known _).mono ?_
                  rintro e w9 ⟨rfl, hb9⟩
                  go_wp2
                  go_ret
                  exact ⟨rfl, HB8.out.trans (hb9.mono (by omega))⟩
              · have q1 : (y0 == 0) = false := by simpa using hy
                have q2 : (y0 != 0) = true := by simpa using hy
                clear hy
                have c5 : (w8.alloc (.cells #[.int .i64 t.x, .int .i64 t.y] 29)).cell? ⟨w5.heap.size, 0, none⟩ = some (.int .i64 0) := blk_cell HX8.out.1 0
                have c6 : (w8.alloc (.cells #[.int .i64 t.x, .int .i64 t.y] 29)).cell? ⟨w5.heap.size, 1, none⟩ = some (.int .i64 x1) := blk_cell HX8.out.1 1
                have c7 : (w8.alloc (.cells #[.int .i64 t.x, .int .i64 t.y] 29)).cell? ⟨w6.heap.size, 0, none⟩ = some (.int .i64 y0) := blk_cell HX8.out.2.1 0
                have c8 : (w8.alloc (.cells #[.int .i64 t.x, .int .i64 t.y] 29)).cell? ⟨w6.heap.size, 1, none⟩ = some (.int .i64 y1) := blk_cell HX8.out.2.1 1
                have c9 : (w8.alloc (.cells #[.int .i64 t.x, .int .i64 t.y] 29)).cell? ⟨w7.heap.size, 0, none⟩ = some (.int .i64 (0 + t.x)) := blk_cell HX8.out.2.2.1 0
                have c10 : (w8.alloc (.cells #[.int .i64 t.x, .int .i64 t.y] 29)).cell? ⟨w7.heap.size, 1, none⟩ = some (.int .i64 (x1 + t.y)) := blk_cell HX8.out.2.2.1 1
                go_wp2_with fail
                refine (known _).mono ?_
                rintro e w9 ⟨rfl, hb9⟩
                go_wp2
                go_ret
                exact ⟨rfl, HB8.out.trans (hb9.mono (by omega))⟩
          · have p1 : (x0 == 0) = false := by simpa using hx
            have p2 : (x0 != 0) = true := by simpa using hx
            clear hx
            by_cases hy : y0 = 0
            · by_cases hy' : y1 = 0
              · subst hy hy'
                have HCR := Lib.hid (show cross (⟨x0, x1⟩ : V) t = 0 by rw [HTT.out]; rw [show (⟨0, 0⟩ : V) = V.zero from rfl, rotN_zero]; exact cross_zero_right _)
                have c5 : (w8.alloc (.cells #[.int .i64 t.x, .int .i64 t.y] 29)).cell? ⟨w5.heap.size, 0, none⟩ = some (.int .i64 x0) := blk_cell HX8.out.1 0
                have c6 : (w8.alloc (.cells #[.int .i64 t.x, .int .i64 t.y] 29)).cell? ⟨w5.heap.size, 1, none⟩ = some (.int .i64 x1) := blk_cell HX8.out.1 1
                have c7 : (w8.alloc (.cells #[.int .i64 t.x, .int .i64 t.y] 29)).cell? ⟨w6.heap.size, 0, none⟩ = some (.int .i64 0) := blk_cell HX8.out.2.1 0
                have c8 : (w8.alloc (.cells #[.int .i64 t.x, .int .i64 t.y] 29)).cell? ⟨w6.heap.size, 1, none⟩ = some (.int .i64 0) := blk_cell HX8.out.2.1 1
                have c9 : (w8.alloc (.cells #[.int .i64 t.x, .int .i64 t.y] 29)).cell? ⟨w7.heap.size, 0, none⟩ = some (.int .i64 (x0 + t.x)) := blk_cell HX8.out.2.2.1 0
                have c10 : (w8.alloc (.cells #[.int .i64 t.x, .int .i64 t.y] 29)).cell? ⟨w7.heap.size, 1, none⟩ = some (.int .i64 (x1 + t.y)) := blk_cell HX8.out.2.2.1 1
                have HAQ := Lib.hid (show areaN S m = areaN p m + areaN r m by rw [HAZ.out, HCR.out]; omega)
                have ha1 := areaN_bd (p := p) (m := m)
                have ha2 := areaN_bd (p := r) (m := m)
                go_wp2_with fail
                refine (pAreaF A p.length c p m (w8.alloc (.cells #[.int .i64 t.x, .int .i64 t.y] 29)) hl w.heap.size (by omega) (hr.below HB8.out)).mono ?_
                rw [HM.out]
                rintro e w9 ⟨rfl, hb9⟩
                have t9 := hb9.size
                have HB9 := Lib.hid (HB8.out.trans (hb9.mono (by omega)))
                have rr1 := rr1.below' hb9 (by omega)
                clear hb9 c5 c6 c7 c8 c9 c10
                go_wp2_with fail
                refine (pAreaF A' r.length c' r m w9 hl' w.heap.size (by omega) (hr'.below HB9.out)).mono ?_
                rw [HMR.out, HM.out]
                rintro e w10 ⟨rfl, hb10⟩
                have t10 := hb10.size
                have HB10 := Lib.hid (HB9.out.trans (hb10.mono (by omega)))
                have rr1 := rr1.below' hb10 (by omega)
                clear hb10
                go_wp2_with fail
                refine (pAreaF A1 S.length c1 S m w10 hsl w8.heap.size (by omega) rr1).mono ?_
                rw [HMA.out, HM.out, HAQ.out]
                rintro e w11 ⟨rfl, hb11⟩
                have t11 := hb11.size
                have HB11 := Lib.hid (HB10.out.trans (hb11.mono (by omega)))
                clear hb11 rr1
                generalize areaN p m = a at *
                generalize areaN r m = b at *
                go_wp2_with fail
                refine (known _).mono ?_
                rintro e w12 ⟨rfl, hb12⟩
                go_wp2
                go_ret
                exact ⟨rfl, HB11.out.trans (hb12.mono (by omega))⟩
              · subst hy
                have q1 : (y1 == 0) = false := by simpa using hy'
                have q2 : (y1 != 0) = true := by simpa using hy'
                clear hy'
                have c5 : (w8.alloc (.cells #[.int .i64 t.x, .int .i64 t.y] 29)).cell? ⟨w5.heap.size, 0, none⟩ = some (.int .i64 x0) := blk_cell HX8.out.1 0
                have c6 : (w8.alloc (.cells #[.int .i64 t.x, .int .i64 t.y] 29)).cell? ⟨w5.heap.size, 1, none⟩ = some (.int .i64 x1) := blk_cell HX8.out.1 1
                have c7 : (w8.alloc (.cells #[.int .i64 t.x, .int .i64 t.y] 29)).cell? ⟨w6.heap.size, 0, none⟩ = some (.int .i64 0) := blk_cell HX8.out.2.1 0
                have c8 : (w8.alloc (.cells #[.int .i64 t.x, .int .i64 t.y] 29)).cell? ⟨w6.heap.size, 1, none⟩ = some (.int .i64 y1) := blk_cell HX8.out.2.1 1
                have c9 : (w8.alloc (.cells #[.int .i64 t.x, .int .i64 t.y] 29)).cell? ⟨w7.heap.size, 0, none⟩ = some (.int .i64 (x0 + t.x)) := blk_cell HX8.out.2.2.1 0
                have c10 : (w8.alloc (.cells #[.int .i64 t.x, .int .i64 t.y] 29)).cell? ⟨w7.heap.size, 1, none⟩ = some (.int .i64 (x1 + t.y)) := blk_cell HX8.out.2.2.1 1
                go_wp2_with fail
                refine (known _).mono ?_
                rintro e w9 ⟨rfl, hb9⟩
                go_wp2
                go_ret
                exact ⟨rfl, HB8.out.trans (hb9.mono (by omega))⟩
            · have q1 : (y0 == 0) = false := by simpa using hy
              have q2 : (y0 != 0) = true := by simpa using hy
              clear hy
              have c5 : (w8.alloc (.cells #[.int .i64 t.x, .int .i64 t.y] 29)).cell? ⟨w5.heap.size, 0, none⟩ = some (.int .i64 x0) := blk_cell HX8.out.1 0
              have c6 : (w8.alloc (.cells #[.int .i64 t.x, .int .i64 t.y] 29)).cell? ⟨w5.heap.size, 1, none⟩ = some (.int .i64 x1) := blk_cell HX8.out.1 1
              have c7 : (w8.alloc (.cells #[.int .i64 t.x, .int .i64 t.y] 29)).cell? ⟨w6.heap.size, 0, none⟩ = some (.int .i64 y0) := blk_cell HX8.out.2.1 0
              have c8 : (w8.alloc (.cells #[.int .i64 t.x, .int .i64 t.y] 29)).cell? ⟨w6.heap.size, 1, none⟩ = some (.int .i64 y1) := blk_cell HX8.out.2.1 1
              have c9 : (w8.alloc (.cells #[.int .i64 t.x, .int .i64 t.y] 29)).cell? ⟨w7.heap.size, 0, none⟩ = some (.int .i64 (x0 + t.x)) := blk_cell HX8.out.2.2.1 0
              have c10 : (w8.alloc (.cells #[.int .i64 t.x, .int .i64 t.y] 29)).cell? ⟨w7.heap.size, 1, none⟩ = some (.int .i64 (x1 + t.y)) := blk_cell HX8.out.2.2.1 1
              go_wp2_with fail
              refine (known _).mono ?_
              rintro e w9 ⟨rfl, hb9⟩
              go_wp2
              go_ret
              exact ⟨rfl, HB8.out.trans (hb9.mono (by omega))⟩
        · have d1 : (moded p m != 0) = true := by simpa using hm0
          clear hm0 hv
          go_wp2_with fail
          refine (known _).mono ?_
          rintro e w9 ⟨rfl, hb9⟩
          go_wp2
          go_ret
          exact ⟨rfl, HB7.out.trans (hb9.mono (by omega))⟩
      · have hd0 : (E != 0) = true := by simpa using h0
        clear h0
        go_wp2_with fail
        refine (known _).mono ?_
        rintro e w9 ⟨rfl, hb9⟩
        go_wp2
        go_ret
        exact ⟨rfl, HB7.out.trans (hb9.mono (by omega))⟩
end Go.Proofs.Ytnoocdannfeidaa
