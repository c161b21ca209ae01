/-
  PROVED HERE: 'Rows.HeatUncoolsSaid': the law quadrupolelaw04.HeatUncools returns true at every input, and every argument reads behind the call as it read before. No condition.
-/
import Derived.Test.YtkeolmipdoeljaaOpen
import Derived.Test.YtkeolmipdoeljaaP5
namespace Go.Proofs.Ytkeolmipdoeljaa.heatUncools
open Go.ChangeShapes Go.WideShapes Go.ChangeAt Go.RowKit Go.Joins Go.Deep Heat

set_option maxRecDepth 100000 in
set_option maxHeartbeats 4000000 in
theorem law (a0 : Int) (a1 : Option Addr) (len1 cap1 : Nat) (limit : Int) (l : List HAct) (w : World) (_ : I64 a0) (_ : I64 limit) (hk : len1 ≤ cap1) (hc : cap1 ≤ maxLen) (hr : Rd w w.heap.size 3 a1 len1 (actCells l)) (_ : Big l) :
    Calls Try.prog 8 #[.int .i64 a0, .slice a1 len1 cap1, .int .i64 limit] w fun e w' => e = .returned (.bool true) ∧ Below w.heap.size w w' := by
  obtain rfl := hr.act_len
  have hL1 : l.length ≤ maxLen := by omega
  by_cases hL : 100 < l.length
  · have hd : decide (100 < l.length) = true := by simpa using hL
    go_enter Try.func8, Try.ntmps8
    go_wp2_with (first | (go_at_call 18; refine (long _ _ _ _ hL1).mono ?_; rintro e w1 ⟨rfl, rfl⟩) | (go_at_call 19; refine (known _).mono ?_; rintro e w1 ⟨rfl, hb⟩))
    go_ret
    exact ⟨rfl, hb⟩
  · have hd : decide (100 < l.length) = false := by simpa using hL
    have HO := Lib.hid (show (w.alloc (.cells #[] 48)).ownsRow w.heap.size 48 3 (.slice (some ⟨w.heap.size, 0, none⟩) 0 0) 0 [] from own_empty (blk_new w 48 #[]) (Nat.le_refl _))
    have HB := Lib.hid ((Below.refl w.heap.size w).alloc (Nat.le_refl _) (.cells #[] 48))
    have HR := hr.alloc (Nat.le_refl _) (.cells #[] 48)
    have hlen : (uncoolL a0 l).length ≤ 100 := by
      unfold uncoolL
      split
      · have := keep_len isCool l; omega
      · simp
    by_cases h : limited a0 l limit = 0
    · have hv : validate a0 l = 0 := by unfold limited at h; split at h; assumption; omega
      have HU := show uncoolL a0 l = keep isCool l by rw [uncoolL, if_pos hv]
      obtain ⟨u1, u2, u3⟩ := uncool_law h
      rw [← HU] at u1 u2 u3
      have HV := Lib.hid hv
      have HL := Lib.hid h
      have HL2 := Lib.hid u1
      have HF := Lib.hid (show fewestN a0 l limit = (cnt limit cold l : Int) by rw [fewestN, if_pos h])
      have HF2 := Lib.hid (show fewestN a0 (uncoolL a0 l) limit = (cnt limit cold (uncoolL a0 l) : Int) by rw [fewestN, if_pos u1])
      have e1 : decide (cnt limit cold l ≤ cnt limit cold (uncoolL a0 l)) = true := by simpa using u2
      have e2 : decide ((cnt limit cold (uncoolL a0 l) : Int) ≤ (cnt limit cold l : Int) + (l.length : Int) - ((uncoolL a0 l).length : Int)) = true := by simp; omega
      have cl := cnt_le limit l cold
      clear h hv u1 HU
      go_enter Try.func8, Try.ntmps8
      go_wp2_with (first | (go_at_call 18; refine (long _ _ _ _ hL1).mono ?_; rintro e w1 ⟨rfl, rfl⟩) | (at_builtin; go_must (refine appN rfl (.tmp 21) (.tmp 22) 22 rfl 48 _ 3 24 E22 w.heap.size _ _ _ rfl HO.out w.heap.size a1 l.length cap1 (actCells l) rfl HR (actCells_one _) (by omega) (by simp) ?_); intro v1 w1 hown1 hg1))
      have B1 := below_own HB.out (by simp) HO.out (Nat.le_refl _) hg1
      obtain ⟨A1, c1, rfl, _, _⟩ := own_cap hown1
      have s1 := B1.size
      have hra := Rd.of_own hown1
      rw [Nat.zero_add, List.nil_append] at hra
      clear hown1 hg1
      rw [Nat.zero_add]
      refine (pUncool a0 A1 l.length c1 l w1 (by omega) w1.heap.size (Nat.le_refl _) hra).mono ?_
      rw [HV.out]
      rintro e w2 ⟨v2, rfl, hown2, hb2⟩
      obtain ⟨A2, c2, rfl, _, _⟩ := own_cap hown2
      have s2 := hb2.size
      have B2 := B1.trans (hb2.mono s1)
      have S2 := B2.size
      go_wp2_with fail
      refine (rUncool a0 a1 l.length cap1 l w2 (by omega) w.heap.size S2 (hr.below B2)).mono ?_
      rw [HV.out]
      rintro e w3 ⟨v3, rfl, hown3, hb3⟩
      obtain ⟨A3, c3, rfl, _, _⟩ := own_cap hown3
      have s3 := hb3.size
      have hown2' := own_below hown2 hb3
      have hb23 := hb2.trans (hb3.mono s2)
      have B3 := B1.trans (hb23.mono s1)
      have S3 := B3.size
      have t3 := hb23.size
      have r2 := Rd.of_own hown2'
      have r3 := Rd.of_own hown3
      clear hown2 hown3 hb2 hb3 B2
      go_wp2_with fail
      refine (rSame A2 A3 _ _ c2 c3 (uncoolL a0 l) (uncoolL a0 l) w3 (by omega) (by omega) w3.heap.size (Nat.le_refl _) r2 r3).mono ?_
      rw [decide_eq_true (rfl : uncoolL a0 l = uncoolL a0 l)]
      rintro e w4 ⟨rfl, hb4⟩
      have hown4 := own_below hown2' hb4
      have hb24 := hb23.trans (hb4.mono t3)
      have B4 := B1.trans (hb24.mono s1)
      have S4 := B4.size
      have t4 := hb24.size
      clear hown2' r2 r3 hb23 B3 hb4
      go_wp2_with fail
      refine (pFewest a0 a1 l.length cap1 limit l w4 (by omega) w.heap.size S4 (hr.below B4)).mono ?_
      rw [HL.out, HF.out]
      rintro e w5 ⟨rfl, hb5⟩
      have hown5 := own_below hown4 hb5
      have hb25 := hb24.trans (hb5.mono t4)
      have B5 := B1.trans (hb25.mono s1)
      have S5 := B5.size
      have t5 := hb25.size
      have r5 := Rd.of_own hown5
      clear hown4 hb24 B4 hb5
      go_wp2_with fail
      refine (pFewest a0 A2 _ c2 limit (uncoolL a0 l) w5 (by omega) w5.heap.size (Nat.le_refl _) r5).mono ?_
      rw [HL2.out, HF2.out]
      rintro e w6 ⟨rfl, hb6⟩
      have hown6 := own_below hown5 hb6
      have hb26 := hb25.trans (hb6.mono t5)
      have t6 := hb26.size
      clear hown5 hb25 B5 hb6 r5
      go_wp2
      go_loopw [17] (fun i wr => ∃ (q : Nat) (m : List HAct), i = .int .i64 q ∧ q ≤ (uncoolL a0 l).length ∧ m.length = (uncoolL a0 l).length ∧ wr.ownsRow w1.heap.size 48 3 (.slice A2 (uncoolL a0 l).length c2) (uncoolL a0 l).length (actCells m) ∧ Below w1.heap.size w1 wr) (fun i _ => (uncoolL a0 l).length - (intOf i).toNat)
      case atStart => exact ⟨0, uncoolL a0 l, rfl, Nat.zero_le _, rfl, hown6, hb26⟩
      case round =>
        clear hown6 hb26
        obtain ⟨q, m, rfl, hq, hml, hown, hb⟩ := hrel
        have hsz := hb.size
        have HML := Lib.hid hml
        have HNL := Lib.hid (rfl : (uncoolL a0 l).length = (uncoolL a0 l).length)
        clear hml
        by_cases hlt : q < (uncoolL a0 l).length
        · have hqm : q < m.length := by have := HML.out; omega
          obtain ⟨g, cap, hv, hg1, hg2⟩ := hown.form (by omega)
          simp only [Value.slice.injEq, true_and] at hv
          obtain ⟨rfl, rfl⟩ := hv
          have r2 := acts_get m q 2 hqm (by omega)
          have k2 : wr.cell? ⟨g, q * 3 + 2, none⟩ = some (.int .i64 m[q].heat) := (hown.cellAt (q * 3 + 2) (by omega)).trans r2
          have kf : wr.frozen? ⟨g, q * 3 + 2, none⟩ = false := own_frozen hown _
          have HOS := Lib.hid (own_scale hown hqm (-1))
          have HMS := Lib.hid (show (m.set q ⟨m[q].kind, m[q].ion, -1⟩).length = (uncoolL a0 l).length by rw [List.length_set]; exact HML.out)
          clear hown r2
          go_wp2
          go_roundw
          case rel => exact ⟨q + 1, m.set q ⟨m[q].kind, m[q].ion, -1⟩, by go_num, by omega, HMS.out, HOS.out, hb.setCell (p := ⟨g, q * 3 + 2, none⟩) hg1 _⟩
          case measure => simp [intOf]; omega
        · have hdq : decide (q < (uncoolL a0 l).length) = false := by simpa using hlt
          have Bw := B1.trans (hb.mono s1)
          have Sw := Bw.size
          clear hown
          go_wp2_with (first | (go_at_call 31; refine (rSame A1 a1 _ _ c1 cap1 l l wr (by omega) (by omega) wr.heap.size (Nat.le_refl _) ((hra.below hb).more hsz) ((hr.below Bw).more Sw)).mono ?_; rw [decide_eq_true (rfl : l = l)]; rintro e w7 ⟨rfl, hb7⟩) | (go_at_call 19; refine (known _).mono ?_; rintro e w8 ⟨rfl, hb8⟩))
          go_ret
          have B7 := Bw.trans (hb7.mono Sw)
          exact ⟨rfl, B7.trans (hb8.mono B7.size)⟩
    · by_cases hv : validate a0 l = 0
      · have HV := Lib.hid hv
        have d1 : (limited a0 l limit == 0) = false := by simpa using h
        have d2 : (limited a0 l limit != 0) = true := by simpa using h
        clear h hv
        go_enter Try.func8, Try.ntmps8
        go_wp2_with (first | (go_at_call 18; refine (long _ _ _ _ hL1).mono ?_; rintro e w1 ⟨rfl, rfl⟩) | (at_builtin; go_must (refine appN rfl (.tmp 21) (.tmp 22) 22 rfl 48 _ 3 24 E22 w.heap.size _ _ _ rfl HO.out w.heap.size a1 l.length cap1 (actCells l) rfl HR (actCells_one _) (by omega) (by simp) ?_); intro v1 w1 hown1 hg1))
        have B1 := below_own HB.out (by simp) HO.out (Nat.le_refl _) hg1
        obtain ⟨A1, c1, rfl, _, _⟩ := own_cap hown1
        have s1 := B1.size
        have hra := Rd.of_own hown1
        rw [Nat.zero_add, List.nil_append] at hra
        clear hown1 hg1
        rw [Nat.zero_add]
        refine (pUncool a0 A1 l.length c1 l w1 (by omega) w1.heap.size (Nat.le_refl _) hra).mono ?_
        rw [HV.out]
        rintro e w2 ⟨v2, rfl, hown2, hb2⟩
        obtain ⟨A2, c2, rfl, _, _⟩ := own_cap hown2
        have s2 := hb2.size
        have B2 := B1.trans (hb2.mono s1)
        have S2 := B2.size
        go_wp2_with fail
        refine (rUncool a0 a1 l.length cap1 l w2 (by omega) w.heap.size S2 (hr.below B2)).mono ?_
        rw [HV.out]
        rintro e w3 ⟨v3, rfl, hown3, hb3⟩
        obtain ⟨A3, c3, rfl, _, _⟩ := own_cap hown3
        have s3 := hb3.size
        have hown2' := own_below hown2 hb3
        have hb23 := hb2.trans (hb3.mono s2)
        have B3 := B1.trans (hb23.mono s1)
        have S3 := B3.size
        have t3 := hb23.size
        have r2 := Rd.of_own hown2'
        have r3 := Rd.of_own hown3
        clear hown2 hown3 hb2 hb3 B2
        go_wp2_with fail
        refine (rSame A2 A3 _ _ c2 c3 (uncoolL a0 l) (uncoolL a0 l) w3 (by omega) (by omega) w3.heap.size (Nat.le_refl _) r2 r3).mono ?_
        rw [decide_eq_true (rfl : uncoolL a0 l = uncoolL a0 l)]
        rintro e w4 ⟨rfl, hb4⟩
        have hown4 := own_below hown2' hb4
        have hb24 := hb23.trans (hb4.mono t3)
        have B4 := B1.trans (hb24.mono s1)
        have S4 := B4.size
        have t4 := hb24.size
        clear hown2' r2 r3 hb23 B3 hb4
        go_wp2_with fail
        refine (pFewest a0 a1 l.length cap1 limit l w4 (by omega) w.heap.size S4 (hr.below B4)).mono ?_
        rintro e w5 ⟨rfl, hb5⟩
        have hown5 := own_below hown4 hb5
        have hb25 := hb24.trans (hb5.mono t4)
        have B5 := B1.trans (hb25.mono s1)
        have S5 := B5.size
        have t5 := hb25.size
        have r5 := Rd.of_own hown5
        clear hown4 hb24 B4 hb5
        go_wp2_with fail
        refine (pFewest a0 A2 _ c2 limit (uncoolL a0 l) w5 (by omega) w5.heap.size (Nat.le_refl _) r5).mono ?_
        rintro e w6 ⟨rfl, hb6⟩
        have hown6 := own_below hown5 hb6
        have hb26 := hb25.trans (hb6.mono t5)
        have t6 := hb26.size
        clear hown5 hb25 B5 hb6 r5
        go_wp2
        go_loopw [17] (fun i wr => ∃ (q : Nat) (m : List HAct), i = .int .i64 q ∧ q ≤ (uncoolL a0 l).length ∧ m.length = (uncoolL a0 l).length ∧ wr.ownsRow w1.heap.size 48 3 (.slice A2 (uncoolL a0 l).length c2) (uncoolL a0 l).length (actCells m) ∧ Below w1.heap.size w1 wr) (fun i _ => (uncoolL a0 l).length - (intOf i).toNat)
        case atStart => exact ⟨0, uncoolL a0 l, rfl, Nat.zero_le _, rfl, hown6, hb26⟩
        case round =>
          clear hown6 hb26
          obtain ⟨q, m, rfl, hq, hml, hown, hb⟩ := hrel
          have hsz := hb.size
          have HML := Lib.hid hml
          have HNL := Lib.hid (rfl : (uncoolL a0 l).length = (uncoolL a0 l).length)
          clear hml
          by_cases hlt : q < (uncoolL a0 l).length
          · have hqm : q < m.length := by have := HML.out; omega
            obtain ⟨g, cap, hv, hg1, hg2⟩ := hown.form (by omega)
            simp only [Value.slice.injEq, true_and] at hv
            obtain ⟨rfl, rfl⟩ := hv
            have r2 := acts_get m q 2 hqm (by omega)
            have k2 : wr.cell? ⟨g, q * 3 + 2, none⟩ = some (.int .i64 m[q].heat) := (hown.cellAt (q * 3 + 2) (by omega)).trans r2
            have kf : wr.frozen? ⟨g, q * 3 + 2, none⟩ = false := own_frozen hown _
            have HOS := Lib.hid (own_scale hown hqm (-1))
            have HMS := Lib.hid (show (m.set q ⟨m[q].kind, m[q].ion, -1⟩).length = (uncoolL a0 l).length by rw [List.length_set]; exact HML.out)
            clear hown r2
            go_wp2
            go_roundw
            case rel => exact ⟨q + 1, m.set q ⟨m[q].kind, m[q].ion, -1⟩, by go_num, by omega, HMS.out, HOS.out, hb.setCell (p := ⟨g, q * 3 + 2, none⟩) hg1 _⟩
            case measure => simp [intOf]; omega
          · have hdq : decide (q < (uncoolL a0 l).length) = false := by simpa using hlt
            have Bw := B1.trans (hb.mono s1)
            have Sw := Bw.size
            clear hown
            go_wp2_with (first | (go_at_call 31; refine (rSame A1 a1 _ _ c1 cap1 l l wr (by omega) (by omega) wr.heap.size (Nat.le_refl _) ((hra.below hb).more hsz) ((hr.below Bw).more Sw)).mono ?_; rw [decide_eq_true (rfl : l = l)]; rintro e w7 ⟨rfl, hb7⟩) | (go_at_call 19; refine (known _).mono ?_; rintro e w8 ⟨rfl, hb8⟩))
            go_ret
            have B7 := Bw.trans (hb7.mono Sw)
            exact ⟨rfl, B7.trans (hb8.mono B7.size)⟩
      · have d1 : (validate a0 l == 0) = false := by simpa using hv
        have d2 : (validate a0 l != 0) = true := by simpa using hv
        clear h hv
        go_enter Try.func8, Try.ntmps8
        go_wp2_with (first | (go_at_call 18; refine (long _ _ _ _ hL1).mono ?_; rintro e w1 ⟨rfl, rfl⟩) | (at_builtin; go_must (refine appN rfl (.tmp 21) (.tmp 22) 22 rfl 48 _ 3 24 E22 w.heap.size _ _ _ rfl HO.out w.heap.size a1 l.length cap1 (actCells l) rfl HR (actCells_one _) (by omega) (by simp) ?_); intro v1 w1 hown1 hg1))
        have B1 := below_own HB.out (by simp) HO.out (Nat.le_refl _) hg1
        obtain ⟨A1, c1, rfl, _, _⟩ := own_cap hown1
        have s1 := B1.size
        have hra := Rd.of_own hown1
        rw [Nat.zero_add, List.nil_append] at hra
        clear hown1 hg1
        rw [Nat.zero_add]
        refine (pUncool a0 A1 l.length c1 l w1 (by omega) w1.heap.size (Nat.le_refl _) hra).mono ?_
        rintro e w2 ⟨v2, rfl, hown2, hb2⟩
        obtain ⟨A2, c2, rfl, _, _⟩ := own_cap hown2
        have s2 := hb2.size
        have B2 := B1.trans (hb2.mono s1)
        have S2 := B2.size
        go_wp2_with fail
        refine (rUncool a0 a1 l.length cap1 l w2 (by omega) w.heap.size S2 (hr.below B2)).mono ?_
        rintro e w3 ⟨v3, rfl, hown3, hb3⟩
        obtain ⟨A3, c3, rfl, _, _⟩ := own_cap hown3
        have s3 := hb3.size
        have hown2' := own_below hown2 hb3
        have hb23 := hb2.trans (hb3.mono s2)
        have B3 := B1.trans (hb23.mono s1)
        have S3 := B3.size
        have t3 := hb23.size
        have r2 := Rd.of_own hown2'
        have r3 := Rd.of_own hown3
        clear hown2 hown3 hb2 hb3 B2
        go_wp2_with fail
        refine (rSame A2 A3 _ _ c2 c3 (uncoolL a0 l) (uncoolL a0 l) w3 (by omega) (by omega) w3.heap.size (Nat.le_refl _) r2 r3).mono ?_
        rw [decide_eq_true (rfl : uncoolL a0 l = uncoolL a0 l)]
        rintro e w4 ⟨rfl, hb4⟩
        have hown4 := own_below hown2' hb4
        have hb24 := hb23.trans (hb4.mono t3)
        have B4 := B1.trans (hb24.mono s1)
        have S4 := B4.size
        have t4 := hb24.size
        clear hown2' r2 r3 hb23 B3 hb4
        go_wp2_with fail
        refine (pFewest a0 a1 l.length cap1 limit l w4 (by omega) w.heap.size S4 (hr.below B4)).mono ?_
        rintro e w5 ⟨rfl, hb5⟩
        have hown5 := own_below hown4 hb5
        have hb25 := hb24.trans (hb5.mono t4)
        have B5 := B1.trans (hb25.mono s1)
        have S5 := B5.size
        have t5 := hb25.size
        have r5 := Rd.of_own hown5
        clear hown4 hb24 B4 hb5
        go_wp2_with fail
        refine (pFewest a0 A2 _ c2 limit (uncoolL a0 l) w5 (by omega) w5.heap.size (Nat.le_refl _) r5).mono ?_
        rintro e w6 ⟨rfl, hb6⟩
        have hown6 := own_below hown5 hb6
        have hb26 := hb25.trans (hb6.mono t5)
        have t6 := hb26.size
        clear hown5 hb25 B5 hb6 r5
        go_wp2
        go_loopw [17] (fun i wr => ∃ (q : Nat) (m : List HAct), i = .int .i64 q ∧ q ≤ (uncoolL a0 l).length ∧ m.length = (uncoolL a0 l).length ∧ wr.ownsRow w1.heap.size 48 3 (.slice A2 (uncoolL a0 l).length c2) (uncoolL a0 l).length (actCells m) ∧ Below w1.heap.size w1 wr) (fun i _ => (uncoolL a0 l).length - (intOf i).toNat)
        case atStart => exact ⟨0, uncoolL a0 l, rfl, Nat.zero_le _, rfl, hown6, hb26⟩
        case round =>
          clear hown6 hb26
          obtain ⟨q, m, rfl, hq, hml, hown, hb⟩ := hrel
          have hsz := hb.size
          have HML := Lib.hid hml
          have HNL := Lib.hid (rfl : (uncoolL a0 l).length = (uncoolL a0 l).length)
          clear hml
          by_cases hlt : q < (uncoolL a0 l).length
          · have hqm : q < m.length := by have := HML.out; omega
            obtain ⟨g, cap, hv, hg1, hg2⟩ := hown.form (by omega)
            simp only [Value.slice.injEq, true_and] at hv
            obtain ⟨rfl, rfl⟩ := hv
            have r2 := acts_get m q 2 hqm (by omega)
            have k2 : wr.cell? ⟨g, q * 3 + 2, none⟩ = some (.int .i64 m[q].heat) := (hown.cellAt (q * 3 + 2) (by omega)).trans r2
            have kf : wr.frozen? ⟨g, q * 3 + 2, none⟩ = false := own_frozen hown _
            have HOS := Lib.hid (own_scale hown hqm (-1))
            have HMS := Lib.hid (show (m.set q ⟨m[q].kind, m[q].ion, -1⟩).length = (uncoolL a0 l).length by rw [List.length_set]; exact HML.out)
            clear hown r2
            go_wp2
            go_roundw
            case rel => exact ⟨q + 1, m.set q ⟨m[q].kind, m[q].ion, -1⟩, by go_num, by omega, HMS.out, HOS.out, hb.setCell (p := ⟨g, q * 3 + 2, none⟩) hg1 _⟩
            case measure => simp [intOf]; omega
          · have hdq : decide (q < (uncoolL a0 l).length) = false := by simpa using hlt
            have Bw := B1.trans (hb.mono s1)
            have Sw := Bw.size
            clear hown
            go_wp2_with (first | (go_at_call 31; refine (rSame A1 a1 _ _ c1 cap1 l l wr (by omega) (by omega) wr.heap.size (Nat.le_refl _) ((hra.below hb).more hsz) ((hr.below Bw).more Sw)).mono ?_; rw [decide_eq_true (rfl : l = l)]; rintro e w7 ⟨rfl, hb7⟩) | (go_at_call 19; refine (known _).mono ?_; rintro e w8 ⟨rfl, hb8⟩))
            go_ret
            have B7 := Bw.trans (hb7.mono Sw)
            exact ⟨rfl, B7.trans (hb8.mono B7.size)⟩

set_option maxRecDepth 100000 in
theorem lifted (os : Os) (started : os.Started) (H : Type) (enc : TypeId × Value → H) :
    ReturnsInHanded {} Try.checked os 8 .any (Rows.heatUncoolsSpec.pre6 enc Try.prog Try.f8 Rows.heatUncoolsRow.domain false) (Rows.heatUncoolsSpec.post enc Try.prog Try.f8 false true false false) := by
  refine returnsInHanded_of_change (C := Try.checked) ownKnob_none started (by kernel_rfl) Try.func8
    (ChangeSpec.witness6 (enc := enc) (C := Try.checked) false ⟨#[], #[.int .i64 0, .slice none 0 0, .int .i64 0], []⟩ 8 (by kernel_rfl) (by kernel_rfl) (by kernel_rfl) (by kernel_rfl)) ?_
  intro W base args ds gs before hval0 hW hcnd _
  have hval : ∀ (j : Nat) t v, Try.f8.params[j]? = some t → args[j]? = some v → Value.okWide Try.prog W .any base t v := hval0
  have hW' := hW
  obtain ⟨p, q, hA0, hV, rfl, hfz, hnd⟩ := hW
  have hA : DataW.TrodAll enc Try.prog W 0 (fun _ => true) true Try.f8.params.toList args.toList ds p := hA0
  rw [Try.params8] at hA hval
  obtain ⟨v0, vs0, d0, ds0, p0, q0, hargs, rfl, rfl, h0, r0⟩ := trodAll_cons hA
  obtain ⟨v1, vs1, d1, ds1, p1, q1, rfl, rfl, rfl, h1, r1⟩ := trodAll_cons r0
  obtain ⟨v2, vs2, d2, ds2, p2, q2, rfl, rfl, rfl, h2, r2⟩ := trodAll_cons r1
  obtain ⟨rfl, rfl, rfl⟩ := trodAll_nil r2
  obtain rfl : args = #[v0, v1, v2] := by cases args; simp_all
  obtain ⟨rfl, rfl⟩ := trodVars_none hV
  obtain ⟨a0, rfl, rfl, rfl, w0⟩ := open_int Try.underlying3 (hval 0 3 v0 rfl rfl) h0
  obtain ⟨a1, len1, cap1, rfl⟩ := okWide_slice Try.underlying22 (hval 1 22 v1 rfl rfl)
  have k1 := h1
  have lt1 : ∀ x ∈ p1, x.block < W.heap.size := by obtain ⟨m, hm⟩ := k1; exact DataW.trod_lt m _ _ _ hm
  obtain ⟨z1, hk1, hc1, w1, b1⟩ : ∃ zs, len1 ≤ cap1 ∧ cap1 ≤ maxLen ∧ Rd W W.heap.size 3 a1 len1 (actCells zs) ∧ Big zs := by
    obtain ⟨fuel, hf⟩ := h1
    obtain ⟨A, l, c, zs, hcs, g1, g2, g3, g4⟩ := open_acts hf
    simp [Value.cells] at hcs
    obtain ⟨rfl, rfl, rfl⟩ := hcs
    exact ⟨zs, g1, g2, g3, g4⟩
  obtain ⟨a2, rfl, rfl, rfl, w2⟩ := open_int Try.underlying3 (hval 2 3 v2 rfl rfl) h2
  clear hA0 hval0
  refine (law a0 a1 len1 cap1 a2 z1 W (i64_wf w0) (i64_wf w2) hk1 hc1 w1 b1).mono fun e W' ⟨he, bel⟩ => ?_
  subst he
  exact ⟨_, rfl, _, _, _, [], _, [], hW', trodAll_mk1 (shut_bool Try.underlying4 _), (trodAll_cons_mk (shut_int Try.underlying3 w0) (trodAll_cons_mk (Below.trod laidOut (by kernel_rfl) (of_decide_eq_true (by kernel_rfl)) k1 bel lt1) (trodAll_cons_mk (shut_int Try.underlying3 w2) trodAll_mk0))), rfl, bel.frame _, fun h => by cases h⟩

theorem over : Rows.heatUncoolsRow.holds Try.pinned (OpenSpec.ofChange Rows.heatUncoolsSpec) :=
  OpenClaim.holds_of_wide 8 Try.f8 rfl rfl rfl rfl rfl rfl rfl ⟨rfl, rfl, rfl, rfl, rfl⟩ rfl rfl rfl rfl rfl (by kernel_rfl) Try.func8 (by kernel_rfl)
    (of_decide_eq_true (by kernel_rfl)) (by unfold Func.isWrapper; first | (rw [if_pos (by decide +kernel)]; kernel_rfl) | (rw [if_neg (by decide +kernel)]; exact ⟨rfl, rfl⟩))
    (fun os started H enc _ => lifted os started H enc)

end Go.Proofs.Ytkeolmipdoeljaa.heatUncools
namespace Go.Proofs.Ytkeolmipdoeljaa
/-- The statement. -/
theorem heatUncoolsProved : Rows.HeatUncoolsSaid := heatUncools.over
#print axioms heatUncoolsProved
end Go.Proofs.Ytkeolmipdoeljaa

