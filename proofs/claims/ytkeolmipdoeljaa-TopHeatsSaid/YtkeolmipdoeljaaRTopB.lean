/-
  The walk of the law TopHeats, part B. (Printed by gen_rtop.py.)
-/
import Derived.Test.YtkeolmipdoeljaaOpen
import Derived.Test.YtkeolmipdoeljaaW11
import Derived.Test.YtkeolmipdoeljaaP9
import Derived.Test.YtkeolmipdoeljaaW32
import Derived.Test.YtkeolmipdoeljaaW26
namespace Go.Proofs.Ytkeolmipdoeljaa.topHeatsB
open Go.ChangeShapes Go.WideShapes Go.ChangeAt Go.RowKit Go.Joins Go.Deep Heat

def exPlan3 : List HAct := [⟨0, 0, 3⟩, ⟨2, 0, 0⟩, ⟨0, 0, 2⟩]
abbrev exCells3 : Array Value := #[.int .i64 0, .int .i64 0, .int .i64 3, .int .i64 2, .int .i64 0, .int .i64 0, .int .i64 0, .int .i64 0, .int .i64 2]
theorem ex7 : peakN 1 exPlan3 = 3 := by decide +kernel
theorem ex8 : validate 1 exPlan3 = 0 := by decide +kernel
set_option maxRecDepth 100000 in
set_option maxHeartbeats 100000000 in
theorem law (a0 : Int) (a1 : Option Addr) (len1 cap1 : Nat) (limit : Int) (l : List HAct) (w : World) (_ : I64 a0) (_ : I64 limit) (hk : len1 ≤ cap1) (hc : cap1 ≤ maxLen) (hr : Rd w w.heap.size 3 a1 len1 (actCells l)) (_ : Big l) (hx : ¬ cnt limit cold l = 0) (hy : (putIn limit cold l).length ≤ 20) :
    Calls Try.prog 17 #[.int .i64 a0, .slice a1 len1 cap1, .int .i64 limit] w fun e w' => e = .returned (.bool true) ∧ Below w.heap.size w w' := by
  obtain rfl := hr.act_len
  have hL1 : l.length ≤ maxLen := by omega
  have HEX := Lib.hid (pPeak 1 (some ⟨w.heap.size, 0, none⟩) 3 3 exPlan3 (w.alloc (.cells exCells3 48)) (by decide) (w.heap.size + 1) (by simp) (rd_lit (blk_new w 48 exCells3) rfl))
  have HBE := Lib.hid ((Below.refl w.heap.size w).alloc (Nat.le_refl _) (.cells exCells3 48))
  by_cases hL : 100 < l.length
  · have hd : decide (100 < l.length) = true := by simpa using hL
    go_enter Try.func17, Try.ntmps17
    go_wp2_with fail
    refine HEX.out.mono ?_
    rw [ex7, ex8]
    rintro e w1 ⟨rfl, hb1⟩
    go_wp2_with (go_at_call 18; refine (long _ _ _ _ hL1).mono ?_; rintro e w2 ⟨rfl, rfl⟩)
    go_ret
    exact ⟨rfl, HBE.out.trans (hb1.mono (by simp))⟩
  · have hd : decide (100 < l.length) = false := by simpa using hL
    by_cases h : limited a0 l limit = 0
    · obtain ⟨⟨h1, h2, h3, h4⟩, h5, h6⟩ := limited_ok h
      obtain ⟨N, rfl⟩ := Int.eq_ofNat_of_zero_le (show 0 ≤ a0 by omega)
      obtain ⟨Lm, rfl⟩ := Int.eq_ofNat_of_zero_le h5
      have hv : validate N l = 0 := by unfold limited at h; split at h; assumption; omega
      have HV := Lib.hid hv
      have HL := Lib.hid h
      obtain ⟨K, hK⟩ : ∃ K, K = cnt (Lm : Int) cold l := ⟨_, rfl⟩
      rw [← hK] at hx
      have HK := Lib.hid hK
      have HF := Lib.hid (show fewestN N l Lm = (K : Int) by rw [fewestN, if_pos h, hK])
      have HI := Lib.hid (show insertL N l Lm = putIn Lm cold l by rw [insertL, if_pos h])
      have HE := Lib.hid (checkErr_insert h)
      have HN := Lib.hid (show checkN N l (putIn Lm cold l) Lm = (K : Int) by rw [checkN_insert h, hK])
      obtain ⟨we, wl⟩ := windows_law h
      have HWE := Lib.hid we
      have HWN := Lib.hid (show winsN N l Lm (windowsOf Lm l) = (K : Int) by rw [winsN, if_pos we, wl, hK])
      have hwl : (windowsOf (Lm : Int) l).length = K := by rw [wl, hK]
      have hpl : (putIn (Lm : Int) cold l).length = l.length + K := by rw [putIn_length, hK]
      have hKl : K ≤ l.length := by rw [hK]; exact cnt_le Lm l cold
      have HLE := Lib.hid (show leastN N l = leastTo l l.length by rw [leastN, if_pos hv])
      have HPK := Lib.hid (show peakN N l = peakTo l l.length by rw [peakN, if_pos hv])
      have hlp := least_le_peak (mild_of h4) l.length (Nat.le_refl _)
      have hll := least_law h
      rw [HLE.out] at hll
      have hHK : K ≤ (hot (Lm : Int) l).length := by rw [hK]; exact cnt_le_hot Lm l (mild_of h4).warm cold cold 0 (fun _ => Int.le_refl _) (fun _ => Int.le_refl _)
      have hhl := hot_len (Lm : Int) l
      have hfb : fitsB N l Lm = decide ((hot (Lm : Int) l).length = 0) := by rw [fitsB, decide_eq_true h, Bool.true_and]
      have hz1 : K = 0 → (hot (Lm : Int) l).length = 0 := fun e => by
        have := not_hot_of_cnt (L := (Lm : Int)) l cold 0 (by rw [← hK]; exact e)
        rw [hot, this]; rfl
      have hz2 : K ≠ 0 → (hot (Lm : Int) l).length ≠ 0 := fun e => by omega
      have HHL := Lib.hid (show hotL N l Lm = hot (Lm : Int) l by rw [hotL, if_pos h])
      have HCL := Lib.hid (show curveL N l = curve l by rw [curveL, if_pos hv])
      have hca := curve_at h4 h2 Lm (by omega)
      rw [← hK] at hca
      have hca1 : Lm < (curve l).length → (curve l)[Lm]? = some (K : Int) := fun h => by rw [List.getElem?_eq_getElem h, hca.1 h]
      have hca2 : (curve l).length ≤ Lm → K = 0 := hca.2
      clear hca
      have hcl := curveL_len N l
      rw [HCL.out] at hcl
      have HVI := Lib.hid (show (putIn (Lm : Int) cold l).length ≤ 20 → limited N (putIn (Lm : Int) cold l) Lm = 0 ∧ fewestN N (putIn (Lm : Int) cold l) Lm = 0 from fun hle => by
        have hvv : validate N (putIn (Lm : Int) cold l) = 0 := by
          rw [validate, if_pos ⟨h1, h2⟩, if_neg (by omega), areActs_insert h4 Lm cold]; rfl
        have hll : limited N (putIn (Lm : Int) cold l) Lm = 0 := by rw [limited, if_pos hvv, if_pos ⟨h5, h6⟩]
        exact ⟨hll, by rw [fewestN, if_pos hll, cnt_insert h5]; rfl⟩)
      have HS := Lib.hid (show sumTo (fun j => cnt (Lm : Int) cold (own j l)) N = K by rw [parts_sum Lm N l h4, hK])
      have HFAR := Lib.hid (far_law (n := N) (l := l) ((actBounds h4).2 N (by omega)))
      have HU := Lib.hid (fun k (hk : k ≤ N) => sumTo_up (fun j => cnt (Lm : Int) cold (own j l)) k N hk)
      have HO := Lib.hid (fun (q : Nat) (hq : q < N) => show onlyErr N l q = 0 by rw [onlyErr, if_neg (by rw [hv]; decide), if_pos (by simp; omega)])
      have HOL := Lib.hid (fun (q : Nat) (hq : q < N) => show onlyL N l q = own q l by rw [onlyL, if_pos (HO.out q hq), keep_own])
      have HOF := Lib.hid (fun (q : Nat) (_ : q < N) => show limited N (own q l) Lm = 0 from by
        rw [← keep_own]
        exact limited_sub h (keep_sub _ _) (keep_len _ _))
      have HOV := Lib.hid (fun (q : Nat) (_ : q < N) => show validate N (own q l) = 0 from by
        rw [← keep_own]
        exact validate_sub hv (keep_sub _ _) (keep_len _ _))
      have HON := Lib.hid (fun (q : Nat) (hq : q < N) => show fewestN N (own q l) Lm = (cnt (Lm : Int) cold (own q l) : Int) by rw [fewestN, if_pos (HOF.out q hq)])
      have HOP := Lib.hid (fun (q : Nat) (hq : q < N) => show peakN N (own q l) = peakTo (own (q : Int) l) (own (q : Int) l).length by rw [peakN, if_pos (HOV.out q hq)])
      have HOE := Lib.hid (fun (q : Nat) => show (own q l).length ≤ l.length from List.length_filter_le _ _)
      have HM := Lib.hid (mild_of h4)
      clear h h4 hv we wl hK
      obtain ⟨P, hP⟩ : ∃ P, P = putIn (Lm : Int) cold l := ⟨_, rfl⟩
      rw [← hP] at HI HE HN hpl HVI hy
      obtain ⟨Ws, hWs⟩ : ∃ Ws, Ws = windowsOf (Lm : Int) l := ⟨_, rfl⟩
      rw [← hWs] at HWE HWN hwl
      obtain ⟨Ht, hHt⟩ : ∃ Ht, Ht = hot (Lm : Int) l := ⟨_, rfl⟩
      rw [← hHt] at hHK hhl hfb hz1 hz2 HHL
      obtain ⟨Cv, hCv⟩ : ∃ Cv, Cv = curve l := ⟨_, rfl⟩
      rw [← hCv] at HCL hcl hca1 hca2
      obtain ⟨LS, hLS⟩ : ∃ LS, LS = leastTo l l.length := ⟨_, rfl⟩
      rw [← hLS] at HLE hlp hll
      obtain ⟨PK, hPK⟩ : ∃ PK, PK = peakTo l l.length := ⟨_, rfl⟩
      rw [← hPK] at HPK hlp HFAR
      have HWs := Lib.hid hWs
      clear hP hWs hHt hCv hLS hPK
      by_cases hK0 : K = 0
      · exact absurd hK0 hx
      · have hh0 := hz2 hK0
        have HFB := Lib.hid (show fitsB N l Lm = false by rw [hfb, decide_eq_false hh0])
        have hle : ¬ LS ≤ (Lm : Int) := by rw [HFB.out] at hll; simpa using hll.symm
        have hcu : Lm < Cv.length := by
          rcases Nat.lt_or_ge Lm Cv.length with h | h
          · exact h
          · exact absurd (hca2 h) hK0
        have HCA := Lib.hid (hca1 hcu)
        have hcui : (Lm : Int) < (Cv.length : Int) := by omega
        have hKpos : 0 < K := by omega
        have dK1 : ((K : Int) == 0) = false := by rw [beq_eq_false_iff_ne]; omega
        have dK2 : (K == 0) = false := by simpa using hK0
        have hHp : 0 < Ht.length := by omega
        have dH1 : ((Ht.length : Int) == 0) = false := by rw [beq_eq_false_iff_ne]; omega
        have dH2 : (Ht.length == 0) = false := by rw [beq_eq_false_iff_ne]; omega
        have hP40 : P.length ≤ 40 := by omega
        have hW20 : Ws.length ≤ 20 := by omega
        clear hca1 hca2 hll hfb hz1 hz2 hK0 hh0 hpl hwl
        by_cases hP20 : P.length ≤ 20
        · obtain ⟨HVL0, HVF0⟩ := HVI.out hP20
          have HVL := Lib.hid HVL0
          have HVF := Lib.hid HVF0
          clear HVL0 HVF0
          go_enter Try.func17, Try.ntmps17
          go_wp2_with fail
          refine HEX.out.mono ?_
          rw [ex7, ex8]
          rintro e w1 ⟨rfl, hb1⟩
          have B1 := HBE.out.trans (hb1.mono (by simp))
          have s1 := B1.size
          clear hb1
          go_wp2_with (go_at_call 18; refine (long _ _ _ _ hL1).mono ?_; rintro e w2 ⟨rfl, rfl⟩)
          refine (pFewest N a1 l.length cap1 Lm l w1 (by omega) w.heap.size s1 (hr.below B1)).mono ?_
          rw [HL.out, HF.out]
          rintro e w2 ⟨rfl, hb2⟩
          have B2 := B1.trans (hb2.mono s1)
          have s2 := B2.size
          have t2 := hb2.size
          clear hb2
          go_wp2_with fail
          refine (pInsert N a1 l.length cap1 Lm l w2 (by omega) w.heap.size s2 (hr.below B2)).mono ?_
          rw [HL.out, HI.out]
          rintro e w3 ⟨v3, rfl, hown3, hb3⟩
          obtain ⟨A3, c3, rfl, _, _⟩ := own_cap hown3
          have B3 := B2.trans (hb3.mono s2)
          have s3 := B3.size
          have t3 := hb3.size
          clear hb3
          have HRP := Lib.hid (Rd.of_own hown3)
          clear hown3
          go_wp2_with fail
          refine (pWindows N a1 l.length cap1 Lm l w3 (by omega) w.heap.size s3 (hr.below B3)).mono ?_
          rw [HL.out, ← HWs.out]
          rintro e w4 ⟨v4, rfl, hwn, _, hb4⟩
          have hown4 := hwn rfl
          clear hwn
          obtain ⟨A4, c4, rfl, hc4, hc4'⟩ := own_cap hown4
          have B4 := B3.trans (hb4.mono s3)
          have s4 := B4.size
          have t4 := hb4.size
          have HRP := Lib.hid (HRP.out.below' hb4 (by omega))
          clear hb4
          have HRW := Lib.hid (Rd.of_own hown4)
          clear hown4
          go_wp2_with fail
          refine (pCheckInsert N a1 A3 l.length cap1 P.length c3 Lm l P w4 (by omega) (by omega) w4.heap.size (Nat.le_refl _) ((hr.below B4).more s4) (HRP.out.more (by omega))).mono ?_
          rw [HE.out, HN.out]
          rintro e w5 ⟨rfl, hb5⟩
          have B5 := B4.trans (hb5.mono s4)
          have s5 := B5.size
          have t5 := hb5.size
          have HRP := Lib.hid (HRP.out.below' hb5 (by omega))
          have HRW := Lib.hid (HRW.out.below' hb5 (by omega))
          clear hb5
          go_wp2_with fail
          refine (pCheckWindows N a1 A4 l.length cap1 Ws.length c4 Lm l Ws w5 (by omega) hk hc (by omega) hc4 hc4' w5.heap.size (Nat.le_refl _) ((hr.below B5).more s5) (HRW.out.more (by omega))).mono ?_
          rw [HWE.out, HWN.out]
          rintro e w6 ⟨rfl, hb6⟩
          have B6 := B5.trans (hb6.mono s5)
          have s6 := B6.size
          have t6 := hb6.size
          have HRP := Lib.hid (HRP.out.below' hb6 (by omega))
          clear hb6
          go_wp2_with fail
          refine (pFits N a1 l.length cap1 Lm l w6 (by omega) w.heap.size s6 (hr.below B6)).mono ?_
          rw [HL.out, HFB.out]
          rintro e w7 ⟨rfl, hb7⟩
          have B7 := B6.trans (hb7.mono s6)
          have s7 := B7.size
          have t7 := hb7.size
          have HRP := Lib.hid (HRP.out.below' hb7 (by omega))
          clear hb7
          go_wp2_with fail
          refine (pHot N a1 l.length cap1 Lm l w7 (by omega) w.heap.size s7 (hr.below B7)).mono ?_
          rw [HL.out, HHL.out]
          rintro e w8 ⟨v8, rfl, hown8, hb8⟩
          obtain ⟨A8, c8, rfl, _, _⟩ := own_cap hown8
          clear hown8
          have B8 := B7.trans (hb8.mono s7)
          have s8 := B8.size
          have t8 := hb8.size
          have HRP := Lib.hid (HRP.out.below' hb8 (by omega))
          clear hb8
          go_wp2_with fail
          refine (pLeast N a1 l.length cap1 l w8 (by omega) w.heap.size s8 (hr.below B8)).mono ?_
          rw [HV.out, HLE.out]
          rintro e w9 ⟨rfl, hb9⟩
          have B9 := B8.trans (hb9.mono s8)
          have s9 := B9.size
          have t9 := hb9.size
          have HRP := Lib.hid (HRP.out.below' hb9 (by omega))
          clear hb9
          go_wp2_with fail
          refine (pPeak N a1 l.length cap1 l w9 (by omega) w.heap.size s9 (hr.below B9)).mono ?_
          rw [HV.out, HPK.out]
          rintro e w10 ⟨rfl, hb10⟩
          have B10 := B9.trans (hb10.mono s9)
          have s10 := B10.size
          have t10 := hb10.size
          have HRP := Lib.hid (HRP.out.below' hb10 (by omega))
          clear hb10
          go_wp2_with fail
          refine (pCurve N a1 l.length cap1 l w10 (by omega) w.heap.size s10 (hr.below B10)).mono ?_
          rw [HV.out, HCL.out]
          rintro e w11 ⟨v11, rfl, hown11, hb11⟩
          have B11 := B10.trans (hb11.mono s10)
          have s11 := B11.size
          have t11 := hb11.size
          have HRP := Lib.hid (HRP.out.below' hb11 (by omega))
          clear hb11
          obtain ⟨A11, c11, rfl, _, _⟩ := own_cap hown11
          obtain ⟨b11, o11, e11, g11, hc11⟩ := (Rd.of_own hown11).2 (Nat.lt_of_le_of_lt (Nat.zero_le _) hcu)
          obtain rfl := e11
          have k11 := hc11 Lm (.int .i64 (K : Int)) (by rw [List.getElem?_map, HCA.out]; rfl)
          clear hc11 hown11
          go_wp2_with fail
          refine (pFewest N A3 P.length c3 Lm P w11 (by omega) w11.heap.size (Nat.le_refl _) (HRP.out.more (by omega))).mono ?_
          rw [HVL.out, HVF.out]
          rintro e w12 ⟨rfl, hb12⟩
          have B12 := B11.trans (hb12.mono s11)
          have s12 := B12.size
          have t12 := hb12.size
          clear hb12
          go_wp2
          go_loopw [28, 29, 30] (fun s f i wr => ∃ q : Nat, i = .int .i64 q ∧ q ≤ N ∧ s = .int .i64 ((sumTo (fun j => cnt (Lm : Int) cold (own j l)) q : Nat) : Int) ∧ f = .int .i64 (farTo l q) ∧ Below w.heap.size w wr) (fun _ _ i _ => N - (intOf i).toNat)
          case atStart => exact ⟨0, rfl, Nat.zero_le _, rfl, rfl, B12⟩
          case round =>
            clear B12
            obtain ⟨q, rfl, hq, rfl, rfl, hb⟩ := hrel
            have hsz := hb.size
            by_cases hlt : q < N
            · have hi4 : (q : Int) < 4 := by omega
              have hd1 : decide (q < N) = true := by simpa using hlt
              have hd2 : decide (q < 4) = true := by simp; omega
              have HQ := Lib.hid (show sumTo (fun j => cnt (Lm : Int) cold (own j l)) (q + 1) = sumTo (fun j => cnt (Lm : Int) cold (own j l)) q + cnt (Lm : Int) cold (own q l) from rfl)
              have hbd : sumTo (fun j => cnt (Lm : Int) cold (own j l)) q + cnt (Lm : Int) cold (own q l) ≤ 1000 := by
                have h1 := HU.out (q + 1) (by omega)
                have h2 := HS.out
                have h3 := HQ.out
                omega
              have HFQ := Lib.hid (show farTo l (q + 1) = mx (farTo l q) (peakTo (own (q : Int) l) (own (q : Int) l).length) from rfl)
              have hol := HOE.out q
              generalize sumTo (fun j => cnt (Lm : Int) cold (own j l)) q = s at *
              generalize farTo l q = f at *
              go_wp2_with fail
              refine (pOnly N a1 l.length cap1 q l wr (by omega) w.heap.size hsz (hr.below hb)).mono ?_
              rw [HO.out q hlt, HOL.out q hlt]
              rintro e w12 ⟨v, rfl, hown, hb2⟩
              obtain ⟨A2, c2, rfl, _, _⟩ := own_cap hown
              have B2 := hb.trans (hb2.mono hsz)
              have s2 := B2.size
              have hr2 := Rd.of_own hown
              clear hown hb2
              go_wp2_with fail
              refine (pFewest N A2 _ c2 Lm (own q l) w12 (by omega) w12.heap.size (Nat.le_refl _) hr2).mono ?_
              rw [HOF.out q hlt, HON.out q hlt]
              rintro e w13 ⟨rfl, hb3⟩
              have B3 := B2.trans (hb3.mono s2)
              have s3 := B3.size
              have s23 := hb3.size
              have hr3 := (hr2.below hb3).more s23
              clear hb3 hr2
              go_wp2_with fail
              refine (pPeak N A2 _ c2 (own q l) w13 (by omega) w13.heap.size (Nat.le_refl _) hr3).mono ?_
              rw [HOV.out q hlt, HOP.out q hlt]
              rintro e w14 ⟨rfl, hb4⟩
              have B4 := B3.trans (hb4.mono s3)
              clear hb4 hr3
              generalize peakTo (own (q : Int) l) (own (q : Int) l).length = pj at *
              generalize cnt (Lm : Int) cold (own (q : Int) l) = cj at *
              by_cases c5 : f < pj
              · have HT := Lib.hid (show pj = farTo l (q + 1) by rw [HFQ.out, mx, if_pos c5])
                go_wp2
                go_roundw
                case rel => exact ⟨q + 1, by go_num, by omega, by rw [HQ.out]; go_num, by rw [← HT.out], B4⟩
                case measure => simp [intOf]; omega
              · have HT := Lib.hid (show f = farTo l (q + 1) by rw [HFQ.out, mx, if_neg c5])
                go_wp2
                go_roundw
                case rel => exact ⟨q + 1, by go_num, by omega, by rw [HQ.out]; go_num, by rw [← HT.out], B4⟩
                case measure => simp [intOf]; omega
            · obtain rfl : q = N := by omega
              have hd1 : decide (q < q) = false := by simp
              rw [HS.out, HFAR.out]
              go_wp2
              go_ret
              exact ⟨rfl, hb⟩
        · exact absurd hy hP20
    · have HX := Lib.hid h
      have HI := Lib.hid (show insertL a0 l limit = [] by rw [insertL, if_neg h])
      have hd1 : (limited a0 l limit == 0) = false := by simpa using h
      have hd2 : (limited a0 l limit != 0) = true := by simpa using h
      clear h
      go_enter Try.func17, Try.ntmps17
      go_wp2_with fail
      refine HEX.out.mono ?_
      rw [ex7, ex8]
      rintro e w1 ⟨rfl, hb1⟩
      have B1 := HBE.out.trans (hb1.mono (by simp))
      have s1 := B1.size
      clear hb1
      go_wp2_with (go_at_call 18; refine (long _ _ _ _ hL1).mono ?_; rintro e w2 ⟨rfl, rfl⟩)
      refine (pFewest a0 a1 l.length cap1 limit l w1 (by omega) w.heap.size s1 (hr.below B1)).mono ?_
      rintro e w2 ⟨rfl, hb2⟩
      have B2 := B1.trans (hb2.mono s1)
      have s2 := B2.size
      clear hb2
      go_wp2_with fail
      refine (pInsert a0 a1 l.length cap1 limit l w2 (by omega) w.heap.size s2 (hr.below B2)).mono ?_
      rw [HI.out]
      rintro e w3 ⟨v3, rfl, hown3, hb3⟩
      obtain ⟨A3, c3, rfl, _, _⟩ := own_cap hown3
      go_wp2
      go_ret
      exact ⟨rfl, B2.trans (hb3.mono s2)⟩

end Go.Proofs.Ytkeolmipdoeljaa.topHeatsB
