/-
  PROVED HERE: 'Rows.HeatScalesSaid': the law quadrupolelaw04.HeatScales returns true at every input, and every argument reads behind the call as it read before. No condition.
-/
import Derived.Test.YtkeolmipdoeljaaOpen
import Derived.Test.YtkeolmipdoeljaaP4
import Derived.Test.YtkeolmipdoeljaaW11
namespace Go.Proofs.Ytkeolmipdoeljaa.heatScales
open Go.ChangeShapes Go.WideShapes Go.ChangeAt Go.RowKit Go.Joins Go.Deep Heat

set_option maxRecDepth 100000 in
set_option maxHeartbeats 4000000 in
theorem law (a0 : Int) (a1 : Option Addr) (len1 cap1 : Nat) (lim b : Int) (l : List HAct) (w : World) (_ : I64 a0) (i1 : I64 lim) (i2 : I64 b) (hk : len1 ≤ cap1) (hc : cap1 ≤ maxLen) (hr : Rd w w.heap.size 3 a1 len1 (actCells l)) (_ : Big l) :
    Calls Try.prog 7 #[.int .i64 a0, .slice a1 len1 cap1, .agg #[.int .i64 lim, .int .i64 b]] w fun e w' => e = .returned (.bool true) ∧ Below w.heap.size w w' := by
  obtain rfl := hr.act_len
  have hL1 : l.length ≤ maxLen := by omega
  have hB0 := (Below.refl w.heap.size w).alloc (Nat.le_refl _) (.cells #[.int .i64 lim, .int .i64 b] 43)
  by_cases hL : 100 < l.length
  · have hd : decide (100 < l.length) = true := by simpa using hL
    go_enter Try.func7, Try.ntmps7
    go_wp2_with (first | (go_at_call 18; refine (long _ _ _ _ hL1).mono ?_; rintro e w1 ⟨rfl, rfl⟩) | (go_at_call 19; refine (known _).mono ?_; rintro e w1 ⟨rfl, hb⟩))
    go_ret
    exact ⟨rfl, hB0.trans (hb.mono (by simp))⟩
  · have hd : decide (100 < l.length) = false := by simpa using hL
    have HP := Lib.hid (pScale a0 a1 l.length cap1 b l (w.alloc (.cells #[.int .i64 lim, .int .i64 b] 43)) i2 (by omega) w.heap.size (by simp) (hr.alloc (Nat.le_refl _) _))
    have HX := Lib.hid (blk_new w 43 #[.int .i64 lim, .int .i64 b])
    have hlen := scaleL_len a0 l b
    have HLW := Lib.hid (fun (h : scaleErr a0 l b = 0) (hb : 1 ≤ b) (hL : 0 ≤ lim) (hL' : lim ≤ 100) (hm : lim * b ≤ 100) => scale_law h hb hL hL' hm)
    by_cases h : scaleErr a0 l b = 0
    · have HE := Lib.hid h
      clear h
      by_cases t0 : 1 ≤ b
      · have u0 : decide (b < 1) = false := by simp; omega
        by_cases t1 : b ≤ 100
        · have u1 : decide (100 < b) = false := by simp; omega
          by_cases t2 : 0 ≤ lim
          · have u2 : decide (lim < 0) = false := by simp; omega
            by_cases t3 : lim ≤ 100
            · have u3 : decide (100 < lim) = false := by simp; omega
              have m1 : 0 ≤ lim * b := Int.mul_nonneg t2 (by omega)
              have m2 : lim * b ≤ 10000 := by
                have := Int.mul_le_mul t3 t1 (by omega) (by omega)
                omega
              by_cases t4 : lim * b ≤ 100
              · have u4 : decide (100 < lim * b) = false := by simp; omega
                have LL := Lib.hid (HLW.out HE.out t0 t2 t3 t4).1
                have LM := Lib.hid (HLW.out HE.out t0 t2 t3 t4).2.1
                have LE := Lib.hid (HLW.out HE.out t0 t2 t3 t4).2.2
                go_enter Try.func7, Try.ntmps7
                go_wp2_with (go_at_call 18; refine (long _ _ _ _ hL1).mono ?_; rintro e w1 ⟨rfl, rfl⟩)
                refine HP.out.mono ?_
                rw [HE.out]
                rintro e w1 ⟨v1, rfl, hown1, hb1⟩
                obtain ⟨A1, c1, rfl, _, _⟩ := own_cap hown1
                have x1 := blk_below HX.out hb1 (by simp)
                have B1 := hB0.trans (hb1.mono (by simp))
                have s1 := B1.size
                have c0 : w1.cell? ⟨w.heap.size, 0, none⟩ = some (.int .i64 lim) := blk_cell x1 0
                have c1' : w1.cell? ⟨w.heap.size, 1, none⟩ = some (.int .i64 b) := blk_cell x1 1
                have X1 := Lib.hid x1
                clear x1
                go_wp2_with fail
                refine (rScale a0 a1 l.length cap1 b l w1 i2 (by omega) w.heap.size s1 (hr.below B1)).mono ?_
                rw [HE.out]
                rintro e w2 ⟨v2, rfl, hown2, hb2⟩
                obtain ⟨A2, c2, rfl, _, _⟩ := own_cap hown2
                have B2 := B1.trans (hb2.mono s1)
                have s2 := B2.size
                have s12 := hb2.size
                have x2 := blk_below X1.out hb2 (blk_lt X1.out)
                have hr1 := ((Rd.of_own hown1).below hb2).more s12
                have hr2 := Rd.of_own hown2
                have X2 := Lib.hid x2
                clear x2 c0 c1' hown1 hown2 hb2 hb1
                go_wp2_with fail
                refine (rSame A1 A2 _ _ c1 c2 (scaleL a0 l b) (scaleL a0 l b) w2 (by omega) (by omega) w2.heap.size (Nat.le_refl _) hr1 hr2).mono ?_
                rw [decide_eq_true (rfl : scaleL a0 l b = scaleL a0 l b)]
                rintro e w3 ⟨rfl, hb3⟩
                have B3 := B2.trans (hb3.mono s2)
                have s3 := B3.size
                have s23 := hb3.size
                have x3 := blk_below X2.out hb3 (blk_lt X2.out)
                have hr3 := (hr1.below hb3).more s23
                have d0 : w3.cell? ⟨w.heap.size, 0, none⟩ = some (.int .i64 lim) := blk_cell x3 0
                have d1 : w3.cell? ⟨w.heap.size, 1, none⟩ = some (.int .i64 b) := blk_cell x3 1
                have X3 := Lib.hid x3
                clear x3 hr1 hr2 hb3
                go_wp2_with fail
                refine (pFewest a0 a1 l.length cap1 lim l w3 (by omega) w.heap.size s3 (hr.below B3)).mono ?_
                rw [LL.out]
                rintro e w4 ⟨rfl, hb4⟩
                have B4 := B3.trans (hb4.mono s3)
                have s4 := B4.size
                have x4 := blk_below X3.out hb4 (blk_lt X3.out)
                have e0 : w4.cell? ⟨w.heap.size, 0, none⟩ = some (.int .i64 lim) := blk_cell x4 0
                have e1 : w4.cell? ⟨w.heap.size, 1, none⟩ = some (.int .i64 b) := blk_cell x4 1
                have s34 := hb4.size
                have X4 := Lib.hid x4
                clear x4 d0 d1
                go_wp2_with fail
                refine (pFewest a0 A1 _ c1 (lim * b) (scaleL a0 l b) w4 (by omega) w4.heap.size (Nat.le_refl _) ((hr3.below hb4).more s34)).mono ?_
                rw [LM.out, ← LE.out]
                rintro e w5 ⟨rfl, hb5⟩
                have B5 := B4.trans (hb5.mono s4)
                have s5 := B5.size
                go_wp2_with (go_at_call 19; refine (known _).mono ?_; rintro e w6 ⟨rfl, hb6⟩)
                go_ret
                exact ⟨rfl, B5.trans (hb6.mono s5)⟩
              · have u4 : decide (100 < lim * b) = true := by simp; omega
                go_enter Try.func7, Try.ntmps7
                go_wp2_with (go_at_call 18; refine (long _ _ _ _ hL1).mono ?_; rintro e w1 ⟨rfl, rfl⟩)
                refine HP.out.mono ?_
                rw [HE.out]
                rintro e w1 ⟨v1, rfl, hown1, hb1⟩
                obtain ⟨A1, c1, rfl, _, _⟩ := own_cap hown1
                have x1 := blk_below HX.out hb1 (by simp)
                have B1 := hB0.trans (hb1.mono (by simp))
                have s1 := B1.size
                have c0 : w1.cell? ⟨w.heap.size, 0, none⟩ = some (.int .i64 lim) := blk_cell x1 0
                have c1' : w1.cell? ⟨w.heap.size, 1, none⟩ = some (.int .i64 b) := blk_cell x1 1
                have X1 := Lib.hid x1
                clear x1
                go_wp2_with fail
                refine (rScale a0 a1 l.length cap1 b l w1 i2 (by omega) w.heap.size s1 (hr.below B1)).mono ?_
                rw [HE.out]
                rintro e w2 ⟨v2, rfl, hown2, hb2⟩
                obtain ⟨A2, c2, rfl, _, _⟩ := own_cap hown2
                have B2 := B1.trans (hb2.mono s1)
                have s2 := B2.size
                have s12 := hb2.size
                have x2 := blk_below X1.out hb2 (blk_lt X1.out)
                have hr1 := ((Rd.of_own hown1).below hb2).more s12
                have hr2 := Rd.of_own hown2
                have X2 := Lib.hid x2
                clear x2 c0 c1' hown1 hown2 hb2 hb1
                go_wp2_with fail
                refine (rSame A1 A2 _ _ c1 c2 (scaleL a0 l b) (scaleL a0 l b) w2 (by omega) (by omega) w2.heap.size (Nat.le_refl _) hr1 hr2).mono ?_
                rw [decide_eq_true (rfl : scaleL a0 l b = scaleL a0 l b)]
                rintro e w3 ⟨rfl, hb3⟩
                have B3 := B2.trans (hb3.mono s2)
                have s3 := B3.size
                have s23 := hb3.size
                have x3 := blk_below X2.out hb3 (blk_lt X2.out)
                have hr3 := (hr1.below hb3).more s23
                have d0 : w3.cell? ⟨w.heap.size, 0, none⟩ = some (.int .i64 lim) := blk_cell x3 0
                have d1 : w3.cell? ⟨w.heap.size, 1, none⟩ = some (.int .i64 b) := blk_cell x3 1
                have X3 := Lib.hid x3
                clear x3 hr1 hr2 hb3
                go_wp2_with (go_at_call 19; refine (known _).mono ?_; rintro e w4 ⟨rfl, hb4⟩)
                go_ret
                exact ⟨rfl, B3.trans (hb4.mono s3)⟩
            · have u3 : decide (100 < lim) = true := by simp; omega
              go_enter Try.func7, Try.ntmps7
              go_wp2_with (go_at_call 18; refine (long _ _ _ _ hL1).mono ?_; rintro e w1 ⟨rfl, rfl⟩)
              refine HP.out.mono ?_
              rw [HE.out]
              rintro e w1 ⟨v1, rfl, hown1, hb1⟩
              obtain ⟨A1, c1, rfl, _, _⟩ := own_cap hown1
              have x1 := blk_below HX.out hb1 (by simp)
              have B1 := hB0.trans (hb1.mono (by simp))
              have s1 := B1.size
              have c0 : w1.cell? ⟨w.heap.size, 0, none⟩ = some (.int .i64 lim) := blk_cell x1 0
              have c1' : w1.cell? ⟨w.heap.size, 1, none⟩ = some (.int .i64 b) := blk_cell x1 1
              have X1 := Lib.hid x1
              clear x1
              go_wp2_with fail
              refine (rScale a0 a1 l.length cap1 b l w1 i2 (by omega) w.heap.size s1 (hr.below B1)).mono ?_
              rw [HE.out]
              rintro e w2 ⟨v2, rfl, hown2, hb2⟩
              obtain ⟨A2, c2, rfl, _, _⟩ := own_cap hown2
              have B2 := B1.trans (hb2.mono s1)
              have s2 := B2.size
              have s12 := hb2.size
              have x2 := blk_below X1.out hb2 (blk_lt X1.out)
              have hr1 := ((Rd.of_own hown1).below hb2).more s12
              have hr2 := Rd.of_own hown2
              have X2 := Lib.hid x2
              clear x2 c0 c1' hown1 hown2 hb2 hb1
              go_wp2_with fail
              refine (rSame A1 A2 _ _ c1 c2 (scaleL a0 l b) (scaleL a0 l b) w2 (by omega) (by omega) w2.heap.size (Nat.le_refl _) hr1 hr2).mono ?_
              rw [decide_eq_true (rfl : scaleL a0 l b = scaleL a0 l b)]
              rintro e w3 ⟨rfl, hb3⟩
              have B3 := B2.trans (hb3.mono s2)
              have s3 := B3.size
              have s23 := hb3.size
              have x3 := blk_below X2.out hb3 (blk_lt X2.out)
              have hr3 := (hr1.below hb3).more s23
              have d0 : w3.cell? ⟨w.heap.size, 0, none⟩ = some (.int .i64 lim) := blk_cell x3 0
              have d1 : w3.cell? ⟨w.heap.size, 1, none⟩ = some (.int .i64 b) := blk_cell x3 1
              have X3 := Lib.hid x3
              clear x3 hr1 hr2 hb3
              go_wp2_with (go_at_call 19; refine (known _).mono ?_; rintro e w4 ⟨rfl, hb4⟩)
              go_ret
              exact ⟨rfl, B3.trans (hb4.mono s3)⟩
          · have u2 : decide (lim < 0) = true := by simp; omega
            go_enter Try.func7, Try.ntmps7
            go_wp2_with (go_at_call 18; refine (long _ _ _ _ hL1).mono ?_; rintro e w1 ⟨rfl, rfl⟩)
            refine HP.out.mono ?_
            rw [HE.out]
            rintro e w1 ⟨v1, rfl, hown1, hb1⟩
            obtain ⟨A1, c1, rfl, _, _⟩ := own_cap hown1
            have x1 := blk_below HX.out hb1 (by simp)
            have B1 := hB0.trans (hb1.mono (by simp))
            have s1 := B1.size
            have c0 : w1.cell? ⟨w.heap.size, 0, none⟩ = some (.int .i64 lim) := blk_cell x1 0
            have c1' : w1.cell? ⟨w.heap.size, 1, none⟩ = some (.int .i64 b) := blk_cell x1 1
            have X1 := Lib.hid x1
            clear x1
            go_wp2_with fail
            refine (rScale a0 a1 l.length cap1 b l w1 i2 (by omega) w.heap.size s1 (hr.below B1)).mono ?_
            rw [HE.out]
            rintro e w2 ⟨v2, rfl, hown2, hb2⟩
            obtain ⟨A2, c2, rfl, _, _⟩ := own_cap hown2
            have B2 := B1.trans (hb2.mono s1)
            have s2 := B2.size
            have s12 := hb2.size
            have x2 := blk_below X1.out hb2 (blk_lt X1.out)
            have hr1 := ((Rd.of_own hown1).below hb2).more s12
            have hr2 := Rd.of_own hown2
            have X2 := Lib.hid x2
            clear x2 c0 c1' hown1 hown2 hb2 hb1
            go_wp2_with fail
            refine (rSame A1 A2 _ _ c1 c2 (scaleL a0 l b) (scaleL a0 l b) w2 (by omega) (by omega) w2.heap.size (Nat.le_refl _) hr1 hr2).mono ?_
            rw [decide_eq_true (rfl : scaleL a0 l b = scaleL a0 l b)]
            rintro e w3 ⟨rfl, hb3⟩
            have B3 := B2.trans (hb3.mono s2)
            have s3 := B3.size
            have s23 := hb3.size
            have x3 := blk_below X2.out hb3 (blk_lt X2.out)
            have hr3 := (hr1.below hb3).more s23
            have d0 : w3.cell? ⟨w.heap.size, 0, none⟩ = some (.int .i64 lim) := blk_cell x3 0
            have d1 : w3.cell? ⟨w.heap.size, 1, none⟩ = some (.int .i64 b) := blk_cell x3 1
            have X3 := Lib.hid x3
            clear x3 hr1 hr2 hb3
            go_wp2_with (go_at_call 19; refine (known _).mono ?_; rintro e w4 ⟨rfl, hb4⟩)
            go_ret
            exact ⟨rfl, B3.trans (hb4.mono s3)⟩
        · have u1 : decide (100 < b) = true := by simp; omega
          go_enter Try.func7, Try.ntmps7
          go_wp2_with (go_at_call 18; refine (long _ _ _ _ hL1).mono ?_; rintro e w1 ⟨rfl, rfl⟩)
          refine HP.out.mono ?_
          rw [HE.out]
          rintro e w1 ⟨v1, rfl, hown1, hb1⟩
          obtain ⟨A1, c1, rfl, _, _⟩ := own_cap hown1
          have x1 := blk_below HX.out hb1 (by simp)
          have B1 := hB0.trans (hb1.mono (by simp))
          have s1 := B1.size
          have c0 : w1.cell? ⟨w.heap.size, 0, none⟩ = some (.int .i64 lim) := blk_cell x1 0
          have c1' : w1.cell? ⟨w.heap.size, 1, none⟩ = some (.int .i64 b) := blk_cell x1 1
          have X1 := Lib.hid x1
          clear x1
          go_wp2_with fail
          refine (rScale a0 a1 l.length cap1 b l w1 i2 (by omega) w.heap.size s1 (hr.below B1)).mono ?_
          rw [HE.out]
          rintro e w2 ⟨v2, rfl, hown2, hb2⟩
          obtain ⟨A2, c2, rfl, _, _⟩ := own_cap hown2
          have B2 := B1.trans (hb2.mono s1)
          have s2 := B2.size
          have s12 := hb2.size
          have x2 := blk_below X1.out hb2 (blk_lt X1.out)
          have hr1 := ((Rd.of_own hown1).below hb2).more s12
          have hr2 := Rd.of_own hown2
          have X2 := Lib.hid x2
          clear x2 c0 c1' hown1 hown2 hb2 hb1
          go_wp2_with fail
          refine (rSame A1 A2 _ _ c1 c2 (scaleL a0 l b) (scaleL a0 l b) w2 (by omega) (by omega) w2.heap.size (Nat.le_refl _) hr1 hr2).mono ?_
          rw [decide_eq_true (rfl : scaleL a0 l b = scaleL a0 l b)]
          rintro e w3 ⟨rfl, hb3⟩
          have B3 := B2.trans (hb3.mono s2)
          have s3 := B3.size
          have s23 := hb3.size
          have x3 := blk_below X2.out hb3 (blk_lt X2.out)
          have hr3 := (hr1.below hb3).more s23
          have d0 : w3.cell? ⟨w.heap.size, 0, none⟩ = some (.int .i64 lim) := blk_cell x3 0
          have d1 : w3.cell? ⟨w.heap.size, 1, none⟩ = some (.int .i64 b) := blk_cell x3 1
          have X3 := Lib.hid x3
          clear x3 hr1 hr2 hb3
          go_wp2_with (go_at_call 19; refine (known _).mono ?_; rintro e w4 ⟨rfl, hb4⟩)
          go_ret
          exact ⟨rfl, B3.trans (hb4.mono s3)⟩
      · have u0 : decide (b < 1) = true := by simp; omega
        go_enter Try.func7, Try.ntmps7
        go_wp2_with (go_at_call 18; refine (long _ _ _ _ hL1).mono ?_; rintro e w1 ⟨rfl, rfl⟩)
        refine HP.out.mono ?_
        rw [HE.out]
        rintro e w1 ⟨v1, rfl, hown1, hb1⟩
        obtain ⟨A1, c1, rfl, _, _⟩ := own_cap hown1
        have x1 := blk_below HX.out hb1 (by simp)
        have B1 := hB0.trans (hb1.mono (by simp))
        have s1 := B1.size
        have c0 : w1.cell? ⟨w.heap.size, 0, none⟩ = some (.int .i64 lim) := blk_cell x1 0
        have c1' : w1.cell? ⟨w.heap.size, 1, none⟩ = some (.int .i64 b) := blk_cell x1 1
        have X1 := Lib.hid x1
        clear x1
        go_wp2_with fail
        refine (rScale a0 a1 l.length cap1 b l w1 i2 (by omega) w.heap.size s1 (hr.below B1)).mono ?_
        rw [HE.out]
        rintro e w2 ⟨v2, rfl, hown2, hb2⟩
        obtain ⟨A2, c2, rfl, _, _⟩ := own_cap hown2
        have B2 := B1.trans (hb2.mono s1)
        have s2 := B2.size
        have s12 := hb2.size
        have x2 := blk_below X1.out hb2 (blk_lt X1.out)
        have hr1 := ((Rd.of_own hown1).below hb2).more s12
        have hr2 := Rd.of_own hown2
        have X2 := Lib.hid x2
        clear x2 c0 c1' hown1 hown2 hb2 hb1
        go_wp2_with fail
        refine (rSame A1 A2 _ _ c1 c2 (scaleL a0 l b) (scaleL a0 l b) w2 (by omega) (by omega) w2.heap.size (Nat.le_refl _) hr1 hr2).mono ?_
        rw [decide_eq_true (rfl : scaleL a0 l b = scaleL a0 l b)]
        rintro e w3 ⟨rfl, hb3⟩
        have B3 := B2.trans (hb3.mono s2)
        have s3 := B3.size
        have s23 := hb3.size
        have x3 := blk_below X2.out hb3 (blk_lt X2.out)
        have hr3 := (hr1.below hb3).more s23
        have d0 : w3.cell? ⟨w.heap.size, 0, none⟩ = some (.int .i64 lim) := blk_cell x3 0
        have d1 : w3.cell? ⟨w.heap.size, 1, none⟩ = some (.int .i64 b) := blk_cell x3 1
        have X3 := Lib.hid x3
        clear x3 hr1 hr2 hb3
        go_wp2_with (go_at_call 19; refine (known _).mono ?_; rintro e w4 ⟨rfl, hb4⟩)
        go_ret
        exact ⟨rfl, B3.trans (hb4.mono s3)⟩
    · have q1 : (scaleErr a0 l b == 0) = false := by simpa using h
      have q2 : (scaleErr a0 l b != 0) = true := by simpa using h
      clear h
      go_enter Try.func7, Try.ntmps7
      go_wp2_with (go_at_call 18; refine (long _ _ _ _ hL1).mono ?_; rintro e w1 ⟨rfl, rfl⟩)
      refine HP.out.mono ?_
      rintro e w1 ⟨v1, rfl, hown1, hb1⟩
      obtain ⟨A1, c1, rfl, _, _⟩ := own_cap hown1
      have x1 := blk_below HX.out hb1 (by simp)
      have B1 := hB0.trans (hb1.mono (by simp))
      have s1 := B1.size
      have c0 : w1.cell? ⟨w.heap.size, 0, none⟩ = some (.int .i64 lim) := blk_cell x1 0
      have c1' : w1.cell? ⟨w.heap.size, 1, none⟩ = some (.int .i64 b) := blk_cell x1 1
      have X1 := Lib.hid x1
      clear x1
      go_wp2_with fail
      refine (rScale a0 a1 l.length cap1 b l w1 i2 (by omega) w.heap.size s1 (hr.below B1)).mono ?_
      rintro e w2 ⟨v2, rfl, hown2, hb2⟩
      obtain ⟨A2, c2, rfl, _, _⟩ := own_cap hown2
      have B2 := B1.trans (hb2.mono s1)
      have s2 := B2.size
      have s12 := hb2.size
      have x2 := blk_below X1.out hb2 (blk_lt X1.out)
      have hr1 := ((Rd.of_own hown1).below hb2).more s12
      have hr2 := Rd.of_own hown2
      have X2 := Lib.hid x2
      clear x2 c0 c1' hown1 hown2 hb2 hb1
      go_wp2_with fail
      refine (rSame A1 A2 _ _ c1 c2 (scaleL a0 l b) (scaleL a0 l b) w2 (by omega) (by omega) w2.heap.size (Nat.le_refl _) hr1 hr2).mono ?_
      rw [decide_eq_true (rfl : scaleL a0 l b = scaleL a0 l b)]
      rintro e w3 ⟨rfl, hb3⟩
      have B3 := B2.trans (hb3.mono s2)
      have s3 := B3.size
      have s23 := hb3.size
      have x3 := blk_below X2.out hb3 (blk_lt X2.out)
      have hr3 := (hr1.below hb3).more s23
      have d0 : w3.cell? ⟨w.heap.size, 0, none⟩ = some (.int .i64 lim) := blk_cell x3 0
      have d1 : w3.cell? ⟨w.heap.size, 1, none⟩ = some (.int .i64 b) := blk_cell x3 1
      have X3 := Lib.hid x3
      clear x3 hr1 hr2 hb3
      go_wp2_with (go_at_call 19; refine (known _).mono ?_; rintro e w4 ⟨rfl, hb4⟩)
      go_ret
      exact ⟨rfl, B3.trans (hb4.mono s3)⟩

set_option maxRecDepth 100000 in
theorem lifted (os : Os) (started : os.Started) (H : Type) (enc : TypeId × Value → H) :
    ReturnsInHanded {} Try.checked os 7 .any (Rows.heatScalesSpec.pre6 enc Try.prog Try.f7 Rows.heatScalesRow.domain false) (Rows.heatScalesSpec.post enc Try.prog Try.f7 false true false false) := by
  refine returnsInHanded_of_change (C := Try.checked) ownKnob_none started (by kernel_rfl) Try.func7
    (ChangeSpec.witness6 (enc := enc) (C := Try.checked) false ⟨#[], #[.int .i64 0, .slice none 0 0, .agg #[.int .i64 0, .int .i64 0]], []⟩ 8 (by kernel_rfl) (by kernel_rfl) (by kernel_rfl) (by kernel_rfl)) ?_
  intro W base args ds gs before hval0 hW hcnd _
  have hval : ∀ (j : Nat) t v, Try.f7.params[j]? = some t → args[j]? = some v → Value.okWide Try.prog W .any base t v := hval0
  have hW' := hW
  obtain ⟨p, q, hA0, hV, rfl, hfz, hnd⟩ := hW
  have hA : DataW.TrodAll enc Try.prog W 0 (fun _ => true) true Try.f7.params.toList args.toList ds p := hA0
  rw [Try.params7] at hA hval
  obtain ⟨v0, vs0, d0, ds0, p0, q0, hargs, rfl, rfl, h0, r0⟩ := trodAll_cons hA
  obtain ⟨v1, vs1, d1, ds1, p1, q1, rfl, rfl, rfl, h1, r1⟩ := trodAll_cons r0
  obtain ⟨v2, vs2, d2, ds2, p2, q2, rfl, rfl, rfl, h2, r2⟩ := trodAll_cons r1
  obtain ⟨rfl, rfl, rfl⟩ := trodAll_nil r2
  obtain rfl : args = #[v0, v1, v2] := by cases args; simp_all
  obtain ⟨rfl, rfl⟩ := trodVars_none hV
  obtain ⟨a0, rfl, rfl, rfl, w0⟩ := open_int Try.underlying3 (hval 0 3 v0 rfl rfl) h0
  obtain ⟨a1, len1, cap1, rfl⟩ := okWide_slice Try.underlying22 (hval 1 22 v1 rfl rfl)
  have k1 := h1
  have lt1 : ∀ x ∈ p1, x.block < W.heap.size := by obtain ⟨m, hm⟩ := k1; exact DataW.trod_lt m _ _ _ hm
  obtain ⟨z1, hk1, hc1, w1, b1⟩ : ∃ zs, len1 ≤ cap1 ∧ cap1 ≤ maxLen ∧ Rd W W.heap.size 3 a1 len1 (actCells zs) ∧ Big zs := by
    obtain ⟨fuel, hf⟩ := h1
    obtain ⟨A, l, c, zs, hcs, g1, g2, g3, g4⟩ := open_acts hf
    simp [Value.cells] at hcs
    obtain ⟨rfl, rfl, rfl⟩ := hcs
    exact ⟨zs, g1, g2, g3, g4⟩
  have k2 := h2
  have lt2 : ∀ x ∈ p2, x.block < W.heap.size := by obtain ⟨m, hm⟩ := k2; exact DataW.trod_lt m _ _ _ hm
  obtain ⟨u0, u1, y0, y1, n, rfl, _, _, t0, t1⟩ := open_agg2 Try.underlying43 (by kernel_rfl) (by kernel_rfl) (hval 2 43 v2 rfl rfl) h2
  obtain ⟨a2, e0, _, w2⟩ := DataW.trod_int Try.underlying3 t0
  obtain ⟨a3, e1, _, w3⟩ := DataW.trod_int Try.underlying3 t1
  simp at e0 e1
  subst e0 e1
  clear hA0 hval0
  refine (law a0 a1 len1 cap1 a2 a3 z1 W (i64_wf w0) (i64_wf w2) (i64_wf w3) hk1 hc1 w1 b1).mono fun e W' ⟨he, bel⟩ => ?_
  subst he
  exact ⟨_, rfl, _, _, _, [], _, [], hW', trodAll_mk1 (shut_bool Try.underlying4 _), (trodAll_cons_mk (shut_int Try.underlying3 w0) (trodAll_cons_mk (Below.trod laidOut (by kernel_rfl) (of_decide_eq_true (by kernel_rfl)) k1 bel lt1) (trodAll_cons_mk (Below.trod laidOut (by kernel_rfl) (of_decide_eq_true (by kernel_rfl)) k2 bel lt2) trodAll_mk0))), rfl, bel.frame _, fun h => by cases h⟩

theorem over : Rows.heatScalesRow.holds Try.pinned (OpenSpec.ofChange Rows.heatScalesSpec) :=
  OpenClaim.holds_of_wide 7 Try.f7 rfl rfl rfl rfl rfl rfl rfl ⟨rfl, rfl, rfl, rfl, rfl⟩ rfl rfl rfl rfl rfl (by kernel_rfl) Try.func7 (by kernel_rfl)
    (of_decide_eq_true (by kernel_rfl)) (by unfold Func.isWrapper; first | (rw [if_pos (by decide +kernel)]; kernel_rfl) | (rw [if_neg (by decide +kernel)]; exact ⟨rfl, rfl⟩))
    (fun os started H enc _ => lifted os started H enc)

end Go.Proofs.Ytkeolmipdoeljaa.heatScales
namespace Go.Proofs.Ytkeolmipdoeljaa
/-- The statement. -/
theorem heatScalesProved : Rows.HeatScalesSaid := heatScales.over
#print axioms heatScalesProved
end Go.Proofs.Ytkeolmipdoeljaa

