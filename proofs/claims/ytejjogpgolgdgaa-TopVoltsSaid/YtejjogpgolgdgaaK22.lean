/-
  MERGED: LTopV1.
-/
import Derived.Test.YtejjogpgolgdgaaK1
import Derived.Test.YtejjogpgolgdgaaK20
/-
  THE WALK of TopVolts, way "no". (Printed by gen_ltopv.py.)
-/
namespace Go.Proofs.Ytejjogpgolgdgaa
open Go.RowKit Pulse

set_option maxRecDepth 100000 in
set_option maxHeartbeats 8000000 in
theorem topWay_no (A : Option Addr) (k c : Nat) (g : List (List Int)) (A' : Option Addr) (k' c' : Nat) (row : List (List Int)) (Aa : Option Addr) (ka ca : Nat) (xa : List Int) (Ab : Option Addr) (kb cb : Nat) (xb : List Int) (w : World) (hk : k ≤ c) (hc : c ≤ maxLen) (hr : TRd w w.heap.size A k g) (hb : ∀ l ∈ g, l.length ≤ maxLen) (hk' : k' ≤ c') (hc' : c' ≤ maxLen) (hr' : TRd w w.heap.size A' k' row) (hb' : ∀ l ∈ row, l.length ≤ maxLen) (hka : ka ≤ ca) (hca : ca ≤ maxLen) (hra : Rd w w.heap.size 1 Aa ka (ints xa)) (hba : Big xa) (hkb : kb ≤ cb) (hcb : cb ≤ maxLen) (hrb : Rd w w.heap.size 1 Ab kb (ints xb)) (hbb : Big xb) (h : longT g = false) (h' : longT row = false) (ha : decide (40 < xa.length) = false) (hb2 : decide (40 < xb.length) = false) (hv : vldG g = 0) (hfa : fieldE g xa ≠ 0) :
    Calls Try.prog 15 #[.slice A k c, .slice A' k' c', .agg #[.slice Aa ka ca, .slice Ab kb cb]] w fun e w' => e = .returned (.bool true) ∧ Below w.heap.size w w' := by
  have hm : k ≤ maxLen := Nat.le_trans hk hc
  have hm' : k' ≤ maxLen := Nat.le_trans hk' hc'
  have hma : ka ≤ maxLen := Nat.le_trans hka hca
  have hmb : kb ≤ maxLen := Nat.le_trans hkb hcb
  obtain rfl := hr.len
  obtain rfl := hr'.len
  obtain rfl := hra.int_len
  obtain rfl := hrb.int_len
  have e1 : decide (40 < (xa.length : Int)) = false := by rw [← ha]; exact decide_eq_decide.2 (by omega)
  have e2 : decide (40 < (xb.length : Int)) = false := by rw [← hb2]; exact decide_eq_decide.2 (by omega)
  have hs := longT_sm h
  have hs' := longT_sm h'
  have hla : xa.length ≤ 1000 := by have := of_decide_eq_false ha; omega
  have hlb : xb.length ≤ 1000 := by have := of_decide_eq_false hb2; omega
  have hf1 := (fields_bd hv).1
  have hgl := (vldG_ok hv).1
  have HG := Lib.hid hv
  go_enter Try.func15, Try.ntmps15
  have s1 : (w.alloc (.cells #[.slice Aa xa.length ca, .slice Ab xb.length cb] 61)).heap.size = w.heap.size + 1 := by simp
  have hr := (hr.alloc (Nat.le_refl _) (.cells #[.slice Aa xa.length ca, .slice Ab xb.length cb] 61)).more (B' := (w.alloc (.cells #[.slice Aa xa.length ca, .slice Ab xb.length cb] 61)).heap.size) (by omega)
  have hr' := (hr'.alloc (Nat.le_refl _) (.cells #[.slice Aa xa.length ca, .slice Ab xb.length cb] 61)).more (B' := (w.alloc (.cells #[.slice Aa xa.length ca, .slice Ab xb.length cb] 61)).heap.size) (by omega)
  have hra := (hra.alloc (Nat.le_refl _) (.cells #[.slice Aa xa.length ca, .slice Ab xb.length cb] 61)).more (B' := (w.alloc (.cells #[.slice Aa xa.length ca, .slice Ab xb.length cb] 61)).heap.size) (by omega)
  have hrb := (hrb.alloc (Nat.le_refl _) (.cells #[.slice Aa xa.length ca, .slice Ab xb.length cb] 61)).more (B' := (w.alloc (.cells #[.slice Aa xa.length ca, .slice Ab xb.length cb] 61)).heap.size) (by omega)
  have HX := Lib.hid (blk_new w 61 #[.slice Aa xa.length ca, .slice Ab xb.length cb])
  have HB1 := Lib.hid ((Below.refl w.heap.size w).alloc (Nat.le_refl _) (.cells #[.slice Aa xa.length ca, .slice Ab xb.length cb] 61))
  have s2 : ((w.alloc (.cells #[.slice Aa xa.length ca, .slice Ab xb.length cb] 61)).alloc (.cells #[.int .i64 (-3), .int .i64 0] 3)).heap.size = (w.alloc (.cells #[.slice Aa xa.length ca, .slice Ab xb.length cb] 61)).heap.size + 1 := by simp
  have hr := (hr.alloc (Nat.le_refl _) (.cells #[.int .i64 (-3), .int .i64 0] 3)).more (B' := ((w.alloc (.cells #[.slice Aa xa.length ca, .slice Ab xb.length cb] 61)).alloc (.cells #[.int .i64 (-3), .int .i64 0] 3)).heap.size) (by omega)
  have hr' := (hr'.alloc (Nat.le_refl _) (.cells #[.int .i64 (-3), .int .i64 0] 3)).more (B' := ((w.alloc (.cells #[.slice Aa xa.length ca, .slice Ab xb.length cb] 61)).alloc (.cells #[.int .i64 (-3), .int .i64 0] 3)).heap.size) (by omega)
  have hra := (hra.alloc (Nat.le_refl _) (.cells #[.int .i64 (-3), .int .i64 0] 3)).more (B' := ((w.alloc (.cells #[.slice Aa xa.length ca, .slice Ab xb.length cb] 61)).alloc (.cells #[.int .i64 (-3), .int .i64 0] 3)).heap.size) (by omega)
  have hrb := (hrb.alloc (Nat.le_refl _) (.cells #[.int .i64 (-3), .int .i64 0] 3)).more (B' := ((w.alloc (.cells #[.slice Aa xa.length ca, .slice Ab xb.length cb] 61)).alloc (.cells #[.int .i64 (-3), .int .i64 0] 3)).heap.size) (by omega)
  have HX := Lib.hid (blk_alloc HX.out (.cells #[.int .i64 (-3), .int .i64 0] 3))
  have HL := Lib.hid (blk_new (w.alloc (.cells #[.slice Aa xa.length ca, .slice Ab xb.length cb] 61)) 3 #[.int .i64 (-3), .int .i64 0])
  have HB2 := Lib.hid (HB1.out.alloc (HB1.out.size) (.cells #[.int .i64 (-3), .int .i64 0] 3))
  have s3 : (((w.alloc (.cells #[.slice Aa xa.length ca, .slice Ab xb.length cb] 61)).alloc (.cells #[.int .i64 (-3), .int .i64 0] 3)).alloc (.cells #[.int .i64 3, .int .i64 1] 3)).heap.size = ((w.alloc (.cells #[.slice Aa xa.length ca, .slice Ab xb.length cb] 61)).alloc (.cells #[.int .i64 (-3), .int .i64 0] 3)).heap.size + 1 := by simp
  have hr := (hr.alloc (Nat.le_refl _) (.cells #[.int .i64 3, .int .i64 1] 3)).more (B' := (((w.alloc (.cells #[.slice Aa xa.length ca, .slice Ab xb.length cb] 61)).alloc (.cells #[.int .i64 (-3), .int .i64 0] 3)).alloc (.cells #[.int .i64 3, .int .i64 1] 3)).heap.size) (by omega)
  have hr' := (hr'.alloc (Nat.le_refl _) (.cells #[.int .i64 3, .int .i64 1] 3)).more (B' := (((w.alloc (.cells #[.slice Aa xa.length ca, .slice Ab xb.length cb] 61)).alloc (.cells #[.int .i64 (-3), .int .i64 0] 3)).alloc (.cells #[.int .i64 3, .int .i64 1] 3)).heap.size) (by omega)
  have hra := (hra.alloc (Nat.le_refl _) (.cells #[.int .i64 3, .int .i64 1] 3)).more (B' := (((w.alloc (.cells #[.slice Aa xa.length ca, .slice Ab xb.length cb] 61)).alloc (.cells #[.int .i64 (-3), .int .i64 0] 3)).alloc (.cells #[.int .i64 3, .int .i64 1] 3)).heap.size) (by omega)
  have hrb := (hrb.alloc (Nat.le_refl _) (.cells #[.int .i64 3, .int .i64 1] 3)).more (B' := (((w.alloc (.cells #[.slice Aa xa.length ca, .slice Ab xb.length cb] 61)).alloc (.cells #[.int .i64 (-3), .int .i64 0] 3)).alloc (.cells #[.int .i64 3, .int .i64 1] 3)).heap.size) (by omega)
  have HX := Lib.hid (blk_alloc HX.out (.cells #[.int .i64 3, .int .i64 1] 3))
  have HL := Lib.hid (blk_alloc HL.out (.cells #[.int .i64 3, .int .i64 1] 3))
  have HM := Lib.hid (blk_new ((w.alloc (.cells #[.slice Aa xa.length ca, .slice Ab xb.length cb] 61)).alloc (.cells #[.int .i64 (-3), .int .i64 0] 3)) 3 #[.int .i64 3, .int .i64 1])
  have HB3 := Lib.hid (HB2.out.alloc (HB2.out.size) (.cells #[.int .i64 3, .int .i64 1] 3))
  rw [s1] at HL
  rw [s2, s1] at HM
  have rl : Rd (((w.alloc (.cells #[.slice Aa xa.length ca, .slice Ab xb.length cb] 61)).alloc (.cells #[.int .i64 (-3), .int .i64 0] 3)).alloc (.cells #[.int .i64 3, .int .i64 1] 3)) (((w.alloc (.cells #[.slice Aa xa.length ca, .slice Ab xb.length cb] 61)).alloc (.cells #[.int .i64 (-3), .int .i64 0] 3)).alloc (.cells #[.int .i64 3, .int .i64 1] 3)).heap.size 1 (some ⟨w.heap.size + 1, 0, none⟩) 2 (ints [-3, 0]) := (rd_lit HL.out rfl).more (by simp)
  have rm : Rd (((w.alloc (.cells #[.slice Aa xa.length ca, .slice Ab xb.length cb] 61)).alloc (.cells #[.int .i64 (-3), .int .i64 0] 3)).alloc (.cells #[.int .i64 3, .int .i64 1] 3)) (((w.alloc (.cells #[.slice Aa xa.length ca, .slice Ab xb.length cb] 61)).alloc (.cells #[.int .i64 (-3), .int .i64 0] 3)).alloc (.cells #[.int .i64 3, .int .i64 1] 3)).heap.size 1 (some ⟨w.heap.size + 1 + 1, 0, none⟩) 2 (ints [3, 1]) := (rd_lit HM.out rfl).more (by simp)
  go_wp2_with fail
  refine (pSteps _ _ 2 2 2 2 [-3, 0] [3, 1] 2 (((w.alloc (.cells #[.slice Aa xa.length ca, .slice Ab xb.length cb] 61)).alloc (.cells #[.int .i64 (-3), .int .i64 0] 3)).alloc (.cells #[.int .i64 3, .int .i64 1] 3)) (by simp) (by simp) (((w.alloc (.cells #[.slice Aa xa.length ca, .slice Ab xb.length cb] 61)).alloc (.cells #[.int .i64 (-3), .int .i64 0] 3)).alloc (.cells #[.int .i64 3, .int .i64 1] 3)).heap.size (Nat.le_refl _) rl rm).mono ?_
  rw [top_kn1, top_kn2]
  rintro e w4 ⟨rfl, hb4⟩
  have s4 := hb4.size
  have HB4 := Lib.hid (HB3.out.trans (hb4.mono (by have := HB3.out.size; omega)))
  have hr := (hr.below hb4).more s4
  have hr' := (hr'.below hb4).more s4
  have hra := (hra.below hb4).more s4
  have hrb := (hrb.below hb4).more s4
  have HX := Lib.hid (blk_below HX.out hb4 (blk_lt HX.out))
  have HL := Lib.hid (blk_below HL.out hb4 (blk_lt HL.out))
  have HM := Lib.hid (blk_below HM.out hb4 (blk_lt HM.out))
  clear hb4
  clear HL HM
  clear rl rm
  have x0 : w4.cell? ⟨w.heap.size, 0, none⟩ = some (.slice Aa xa.length ca) := blk_cell HX.out 0
  have x1 : w4.cell? ⟨w.heap.size, 1, none⟩ = some (.slice Ab xb.length cb) := blk_cell HX.out 1
  go_wp2_with fail
  refine (long_is false _ _ _ g h w4 hm _ hr hb).mono ?_
  rintro e w' ⟨rfl, rfl⟩
  go_wp2_with fail
  refine (long_is false _ _ _ row h' w4 hm' _ hr' hb').mono ?_
  rintro e w' ⟨rfl, rfl⟩
  go_wp2_with fail
  refine (pFields _ _ c g w4 hs w4.heap.size (Nat.le_refl _) hr).mono ?_
  rw [HG.out]
  rintro e w5 ⟨rfl, hb5⟩
  have s5 := hb5.size
  have HB5 := Lib.hid (HB4.out.trans (hb5.mono (by have := HB4.out.size; omega)))
  have hr := (hr.below hb5).more s5
  have hr' := (hr'.below hb5).more s5
  have hra := (hra.below hb5).more s5
  have hrb := (hrb.below hb5).more s5
  have HX := Lib.hid (blk_below HX.out hb5 (blk_lt HX.out))
  clear hb5
  generalize fieldsN g = nf at *
  clear hv
  clear x0 x1
  have x0 : w5.cell? ⟨w.heap.size, 0, none⟩ = some (.slice Aa xa.length ca) := blk_cell HX.out 0
  have x1 : w5.cell? ⟨w.heap.size, 1, none⟩ = some (.slice Ab xb.length cb) := blk_cell HX.out 1
  have d0 : decide (nf < 1) = false := by simpa using hf1
  have d1 : ((g.length : Int) == 0) = false := by rw [beq_eq_false_iff_ne]; omega
  have hd : (fieldE g xa == 0) = false := by simpa using hfa
  go_wp2_with fail
  refine (pField _ _ _ c _ ca g xa w5 hs hla w5.heap.size (Nat.le_refl _) hr hra).mono ?_
  rintro e w6 ⟨v6, rfl, hown6, hb6⟩
  have s6 := hb6.size
  have HB6 := Lib.hid (HB5.out.trans (hb6.mono (by have := HB5.out.size; omega)))
  have hr := (hr.below hb6).more s6
  have hr' := (hr'.below hb6).more s6
  have hra := (hra.below hb6).more s6
  have hrb := (hrb.below hb6).more s6
  have HX := Lib.hid (blk_below HX.out hb6 (blk_lt HX.out))
  obtain ⟨A6, c6, rfl, qa6, qb6⟩ := own_cap hown6
  have r6 := Rd.of_own hown6
  clear hb6 hown6
  generalize fieldE g xa = fe at *
  clear r6
  clear hra hrb
  clear x0 x1 e1 e2
  clear HX
  have hnb := smoothN_bd g row
  go_wp2_with fail
  refine (pSmooth _ _ _ c _ c' g row w6 hs hs' w6.heap.size (Nat.le_refl _) hr hr').mono ?_
  rintro e w7 ⟨rfl, hb7⟩
  have s7 := hb7.size
  have HB7 := Lib.hid (HB6.out.trans (hb7.mono (by have := HB6.out.size; omega)))
  have hr := (hr.below hb7).more s7
  have hr' := (hr'.below hb7).more s7
  clear hb7
  go_wp2_with fail
  refine (pCourse _ _ _ c _ c' g row w7 hs hs' w7.heap.size (Nat.le_refl _) hr hr').mono ?_
  rintro e w8 ⟨crs, A8, c8, rfl, hyes, hno, r8, hb8⟩
  have s8 := hb8.size
  have HB8 := Lib.hid (HB7.out.trans (hb8.mono (by have := HB7.out.size; omega)))
  have hr := (hr.below hb8).more s8
  have hr' := (hr'.below hb8).more s8
  clear hb8
  by_cases hz : rowE g row = 0
  · have HW := Lib.hid (wish_row hz)
    have HYES := Lib.hid hyes
    clear hyes hno
    have HZZ := Lib.hid hz
    have HRV := Lib.hid (smooth_rev hz)
    have HRE := Lib.hid (rowE_rev hz)
    have HEA := Lib.hid (smooth_each' hz)
    have hr1 := (rowE_ok hz).2.1
    have hr5 := (rowE_ok hz).2.2.1
    have HS2 := Lib.hid hs'.2
    rw [hz]
    clear hz
    have hsr : Sm row.reverse := ⟨by simpa using hs'.1, fun l hl => hs'.2 l (by simpa using hl)⟩
    obtain ⟨rr, hrr⟩ : ∃ rr, rr = row.reverse := ⟨_, rfl⟩
    have hrl : rr.length = row.length := by rw [hrr, List.length_reverse]
    have HRR := Lib.hid hrr
    rw [← hrr] at HRV HRE hsr
    clear hrr
    have HRL := Lib.hid hrl
    clear hrl
    have sz := HB8.out.size
    go_wp2
    go_loopw [32, 31, 30] (fun i u x wr => ∃ (q : Nat) (z : Int) (b : Bool), i = .int .i64 z ∧ x = .bool b ∧ q ≤ row.length ∧ Hid (z = (row.length : Int) - 1 - q) ∧ Hid (b = (rr.take q).all (voltsIs g)) ∧ OwnS wr w8.heap.size u (rr.take q) ∧ Below w8.heap.size w8 wr) (fun i _ _ _ => (intOf i + 1).toNat)
    case atStart => exact ⟨0, _, true, rfl, rfl, Nat.zero_le _, by show (row.length : Int) - 1 = _; omega, rfl, OwnS.nil, Below.refl _ _⟩
    case round =>
      obtain ⟨q, z, b, rfl, rfl, hq, HZ, HBB, hos, hb⟩ := hrel
      have hsz := hb.size
      by_cases hlt : q < row.length
      · obtain ⟨t, ht⟩ : ∃ t, row.length = q + t + 1 := ⟨row.length - q - 1, by omega⟩
        obtain rfl : z = (t : Int) := by rw [HZ.out]; omega
        have htl : t < row.length := by omega
        have HT := Lib.hid (rev_step ht htl)
        rw [← HRR.out] at HT
        have HTT := Lib.hid ht
        clear ht
        obtain ⟨b1, o1, A1, c1, rfl, lb1, g1, hc1, hc2, r1⟩ := (hr'.below' hb (Nat.le_refl _)).row htl
        have hx1 := HS2.out _ (List.getElem_mem htl)
        have hwe := HW.out _ (List.getElem_mem htl)
        obtain ⟨l, hl⟩ : ∃ l, l = row[t] := ⟨_, rfl⟩
        rw [← hl] at g1 r1 hx1 HT hc1 hwe
        clear hl
        have HWE := Lib.hid hwe
        have HVW := Lib.hid (volts_ways hwe)
        clear hwe
        have hwb2 := (waysN_bounds g l).2
        have hwb3 := (waysN_bounds g l).1
        have hvl : (voltsL g l).length ≤ (voltsL g l).length := Nat.le_refl _
        have rg := (hr.below' hb (Nat.le_refl _)).more hsz
        have r1 := r1.more hsz
        obtain ⟨wo, hwo⟩ : ∃ z, z = wr := ⟨_, rfl⟩
        rw [← hwo] at hos hb hsz g1 r1 rg ⊢
        clear hwo
        have zt0 : (0 : Int) ≤ (t : Int) := by omega
        have zt1 : (t : Int) < (row.length : Int) := by omega
        have lbo : b1 < wo.heap.size := by omega
        go_wp2_with fail
        refine (pWays _ _ _ c _ c1 g l wo hs hx1 wo.heap.size (Nat.le_refl _) rg r1).mono ?_
        rw [HWE.out]
        rintro e wa ⟨rfl, hba⟩
        have sa := hba.size
        have HBA := Lib.hid hba
        have rg := (rg.below hba).more sa
        have r1 := (r1.below hba).more sa
        have g1 := (hba.cell (p := ⟨b1, o1 + t, none⟩) lbo).trans g1
        clear hba
        go_wp2_with fail
        refine (pVolts _ _ _ c _ c1 g l wa hs hx1 wa.heap.size (Nat.le_refl _) rg r1).mono ?_
        rw [HWE.out]
        rintro e wb ⟨Av, cv, rfl, _, hbv⟩
        have sb := hbv.size
        have r1 := (r1.below hbv).more sb
        have g1 := (hbv.cell (p := ⟨b1, o1 + t, none⟩) (show b1 < wa.heap.size by omega)).trans g1
        have HBV := Lib.hid (HBA.out.trans (hbv.mono sa))
        clear hbv rg HBA
        have HBW := Lib.hid (hb.trans (HBV.out.mono hsz))
        have HOSB := Lib.hid (hos.below HBV.out)
        have hszb : w8.heap.size ≤ wb.heap.size := by have := HBW.out.size; omega
        clear hos hb
        have HD := Lib.hid (show (rr.take (q + 1)).all (voltsIs g) = (b && voltsIs g l) by rw [HT.out, List.all_append, ← HBB.out]; simp)
        obtain ⟨nw, hnw⟩ : ∃ nw, nw = waysN g l := ⟨_, rfl⟩
        rw [← hnw] at hwb2 hwb3 HVW ⊢
        clear hnw HBB hvl
        obtain ⟨vb, hvb⟩ : ∃ vb, vb = voltsIs g l := ⟨_, rfl⟩
        rw [← hvb] at HVW HD ⊢
        clear hvb
        obtain ⟨nv, hnv⟩ : ∃ nv, nv = (voltsL g l).length := ⟨_, rfl⟩
        rw [← hnv]
        clear hnv
        cases b with
        | true =>
          by_cases hn : 0 < nw
          · have hd : decide (0 < nw) = true := by simpa using hn
            obtain rfl : vb = true := by rw [HVW.out, hd]
            have HDD := Lib.hid (show (rr.take (q + 1)).all (voltsIs g) = true by rw [HD.out]; rfl)
            clear HD HVW
            obtain ⟨vs, hown, htt, hsf⟩ := HOSB.out
            have hlq : (rr.take q).length = q := by have := HRL.out; simp; omega
            rw [hlq] at hown
            have HLQ := Lib.hid hlq
            clear hlq
            have HOA := Lib.hid (And.intro hown (And.intro htt (And.intro hsf HBW.out)))
            have HRR1 := Lib.hid (r1.alloc (Nat.le_refl _) (.cells #[] 3))
            have g1a := (World.cell?_alloc_lt wb (.cells #[] 3) ⟨b1, o1 + t, none⟩ (show b1 < wb.heap.size by omega)).trans g1
            have HO := Lib.hid (show (wb.alloc (.cells #[] 3)).ownsRow wb.heap.size 3 1 (.slice (some ⟨wb.heap.size, 0, none⟩) 0 0) 0 [] from own_empty (blk_new wb 3 #[]) (Nat.le_refl _))
            have HB1x := Lib.hid ((Below.refl wb.heap.size wb).alloc (Nat.le_refl _) (.cells #[] 3))
            clear hown htt hsf r1 g1 HBW HBV HOSB
            go_wp2_with (at_builtin; first | ((refine app1x rfl (.tmp 242) (.tmp 249) 22 rfl 23 _ 1 24 E22 w8.heap.size _ _ _ _ rfl u1 _ rfl ?_ ?_ ?_ ?_ ?_ ?_); rfl; rfl; rfl; omega; omega; intro v7 w7 hown7 hg7 hx7) | ((refine appN rfl (.tmp 243) (.tmp 247) 23 rfl 3 _ 1 8 E23 wb.heap.size _ _ _ rfl HO.out wb.heap.size A1 l.length c1 (ints l) rfl HRR1.out (ints_one _) (by omega) (by simp) ?_); intro v5 w5 hown5 hg5; rw [Nat.zero_add, List.nil_append] at hown5; have HB5 := Lib.hid (below_own HB1x.out (by simp) HO.out (Nat.le_refl _) hg5); have sz5 := HB5.out.size; have u1 := own_below HOA.out.1 HB5.out; obtain ⟨A5, c5, rfl, _, _⟩ := own_cap hown5))
            have HOS := Lib.hid (OwnS.push (by rw [HLQ.out]; exact u1) ((HOA.out.2.1.below HB5.out (Nat.le_refl _)).more sz5) (fun v hv => (HOA.out.2.2.1 v hv).below HB5.out) hown5 hszb (fun g hg => (HOA.out.1.lt g hg).2) hown7 (by rw [HLQ.out]) hg7 hx7)
            have HB7 := Lib.hid (below_own (HOA.out.2.2.2.trans (HB5.out.mono hszb)) (by omega) u1 (Nat.le_refl _) hg7)
            clear hown7 hg7 hx7 hown5 hg5 u1 g1a
            go_roundw
            case rel => exact ⟨q + 1, (t : Int) - 1, true, by go_num, rfl, by have := HTT.out; omega, by show (t : Int) - 1 = _; have := HTT.out; omega, HDD.out.symm, by rw [HT.out]; exact HOS.out, HB7.out⟩
            case measure => (first | (simp [intOf]; done) | (simp [intOf]; omega))
          · have hd : decide (0 < nw) = false := by simpa using hn
            obtain rfl : vb = false := by rw [HVW.out, hd]
            have HDD := Lib.hid (show (rr.take (q + 1)).all (voltsIs g) = false by rw [HD.out]; rfl)
            clear HD HVW
            obtain ⟨vs, hown, htt, hsf⟩ := HOSB.out
            have hlq : (rr.take q).length = q := by have := HRL.out; simp; omega
            rw [hlq] at hown
            have HLQ := Lib.hid hlq
            clear hlq
            have HOA := Lib.hid (And.intro hown (And.intro htt (And.intro hsf HBW.out)))
            have HRR1 := Lib.hid (r1.alloc (Nat.le_refl _) (.cells #[] 3))
            have g1a := (World.cell?_alloc_lt wb (.cells #[] 3) ⟨b1, o1 + t, none⟩ (show b1 < wb.heap.size by omega)).trans g1
            have HO := Lib.hid (show (wb.alloc (.cells #[] 3)).ownsRow wb.heap.size 3 1 (.slice (some ⟨wb.heap.size, 0, none⟩) 0 0) 0 [] from own_empty (blk_new wb 3 #[]) (Nat.le_refl _))
            have HB1x := Lib.hid ((Below.refl wb.heap.size wb).alloc (Nat.le_refl _) (.cells #[] 3))
            clear hown htt hsf r1 g1 HBW HBV HOSB
            go_wp2_with (at_builtin; first | ((refine app1x rfl (.tmp 242) (.tmp 249) 22 rfl 23 _ 1 24 E22 w8.heap.size _ _ _ _ rfl u1 _ rfl ?_ ?_ ?_ ?_ ?_ ?_); rfl; rfl; rfl; omega; omega; intro v7 w7 hown7 hg7 hx7) | ((refine appN rfl (.tmp 243) (.tmp 247) 23 rfl 3 _ 1 8 E23 wb.heap.size _ _ _ rfl HO.out wb.heap.size A1 l.length c1 (ints l) rfl HRR1.out (ints_one _) (by omega) (by simp) ?_); intro v5 w5 hown5 hg5; rw [Nat.zero_add, List.nil_append] at hown5; have HB5 := Lib.hid (below_own HB1x.out (by simp) HO.out (Nat.le_refl _) hg5); have sz5 := HB5.out.size; have u1 := own_below HOA.out.1 HB5.out; obtain ⟨A5, c5, rfl, _, _⟩ := own_cap hown5))
            have HOS := Lib.hid (OwnS.push (by rw [HLQ.out]; exact u1) ((HOA.out.2.1.below HB5.out (Nat.le_refl _)).more sz5) (fun v hv => (HOA.out.2.2.1 v hv).below HB5.out) hown5 hszb (fun g hg => (HOA.out.1.lt g hg).2) hown7 (by rw [HLQ.out]) hg7 hx7)
            have HB7 := Lib.hid (below_own (HOA.out.2.2.2.trans (HB5.out.mono hszb)) (by omega) u1 (Nat.le_refl _) hg7)
            clear hown7 hg7 hx7 hown5 hg5 u1 g1a
            go_roundw
            case rel => exact ⟨q + 1, (t : Int) - 1, false, by go_num, rfl, by have := HTT.out; omega, by show (t : Int) - 1 = _; have := HTT.out; omega, HDD.out.symm, by rw [HT.out]; exact HOS.out, HB7.out⟩
            case measure => (first | (simp [intOf]; done) | (simp [intOf]; omega))
        | false =>
          by_cases hn : 0 < nw
          · have hd : decide (0 < nw) = true := by simpa using hn
            obtain rfl : vb = true := by rw [HVW.out, hd]
            have HDD := Lib.hid (show (rr.take (q + 1)).all (voltsIs g) = false by rw [HD.out]; rfl)
            clear HD HVW
            obtain ⟨vs, hown, htt, hsf⟩ := HOSB.out
            have hlq : (rr.take q).length = q := by have := HRL.out; simp; omega
            rw [hlq] at hown
            have HLQ := Lib.hid hlq
            clear hlq
            have HOA := Lib.hid (And.intro hown (And.intro htt (And.intro hsf HBW.out)))
            have HRR1 := Lib.hid (r1.alloc (Nat.le_refl _) (.cells #[] 3))
            have g1a := (World.cell?_alloc_lt wb (.cells #[] 3) ⟨b1, o1 + t, none⟩ (show b1 < wb.heap.size by omega)).trans g1
            have HO := Lib.hid (show (wb.alloc (.cells #[] 3)).ownsRow wb.heap.size 3 1 (.slice (some ⟨wb.heap.size, 0, none⟩) 0 0) 0 [] from own_empty (blk_new wb 3 #[]) (Nat.le_refl _))
            have HB1x := Lib.hid ((Below.refl wb.heap.size wb).alloc (Nat.le_refl _) (.cells #[] 3))
            clear hown htt hsf r1 g1 HBW HBV HOSB
            go_wp2_with (at_builtin; first | ((refine app1x rfl (.tmp 242) (.tmp 249) 22 rfl 23 _ 1 24 E22 w8.heap.size _ _ _ _ rfl u1 _ rfl ?_ ?_ ?_ ?_ ?_ ?_); rfl; rfl; rfl; omega; omega; intro v7 w7 hown7 hg7 hx7) | ((refine appN rfl (.tmp 243) (.tmp 247) 23 rfl 3 _ 1 8 E23 wb.heap.size _ _ _ rfl HO.out wb.heap.size A1 l.length c1 (ints l) rfl HRR1.out (ints_one _) (by omega) (by simp) ?_); intro v5 w5 hown5 hg5; rw [Nat.zero_add, List.nil_append] at hown5; have HB5 := Lib.hid (below_own HB1x.out (by simp) HO.out (Nat.le_refl _) hg5); have sz5 := HB5.out.size; have u1 := own_below HOA.out.1 HB5.out; obtain ⟨A5, c5, rfl, _, _⟩ := own_cap hown5))
            have HOS := Lib.hid (OwnS.push (by rw [HLQ.out]; exact u1) ((HOA.out.2.1.below HB5.out (Nat.le_refl _)).more sz5) (fun v hv => (HOA.out.2.2.1 v hv).below HB5.out) hown5 hszb (fun g hg => (HOA.out.1.lt g hg).2) hown7 (by rw [HLQ.out]) hg7 hx7)
            have HB7 := Lib.hid (below_own (HOA.out.2.2.2.trans (HB5.out.mono hszb)) (by omega) u1 (Nat.le_refl _) hg7)
            clear hown7 hg7 hx7 hown5 hg5 u1 g1a
            go_roundw
            case rel => exact ⟨q + 1, (t : Int) - 1, false, by go_num, rfl, by have := HTT.out; omega, by show (t : Int) - 1 = _; have := HTT.out; omega, HDD.out.symm, by rw [HT.out]; exact HOS.out, HB7.out⟩
            case measure => (first | (simp [intOf]; done) | (simp [intOf]; omega))
          · have hd : decide (0 < nw) = false := by simpa using hn
            obtain rfl : vb = false := by rw [HVW.out, hd]
            have HDD := Lib.hid (show (rr.take (q + 1)).all (voltsIs g) = false by rw [HD.out]; rfl)
            clear HD HVW
            obtain ⟨vs, hown, htt, hsf⟩ := HOSB.out
            have hlq : (rr.take q).length = q := by have := HRL.out; simp; omega
            rw [hlq] at hown
            have HLQ := Lib.hid hlq
            clear hlq
            have HOA := Lib.hid (And.intro hown (And.intro htt (And.intro hsf HBW.out)))
            have HRR1 := Lib.hid (r1.alloc (Nat.le_refl _) (.cells #[] 3))
            have g1a := (World.cell?_alloc_lt wb (.cells #[] 3) ⟨b1, o1 + t, none⟩ (show b1 < wb.heap.size by omega)).trans g1
            have HO := Lib.hid (show (wb.alloc (.cells #[] 3)).ownsRow wb.heap.size 3 1 (.slice (some ⟨wb.heap.size, 0, none⟩) 0 0) 0 [] from own_empty (blk_new wb 3 #[]) (Nat.le_refl _))
            have HB1x := Lib.hid ((Below.refl wb.heap.size wb).alloc (Nat.le_refl _) (.cells #[] 3))
            clear hown htt hsf r1 g1 HBW HBV HOSB
            go_wp2_with (at_builtin; first | ((refine app1x rfl (.tmp 242) (.tmp 249) 22 rfl 23 _ 1 24 E22 w8.heap.size _ _ _ _ rfl u1 _ rfl ?_ ?_ ?_ ?_ ?_ ?_); rfl; rfl; rfl; omega; omega; intro v7 w7 hown7 hg7 hx7) | ((refine appN rfl (.tmp 243) (.tmp 247) 23 rfl 3 _ 1 8 E23 wb.heap.size _ _ _ rfl HO.out wb.heap.size A1 l.length c1 (ints l) rfl HRR1.out (ints_one _) (by omega) (by simp) ?_); intro v5 w5 hown5 hg5; rw [Nat.zero_add, List.nil_append] at hown5; have HB5 := Lib.hid (below_own HB1x.out (by simp) HO.out (Nat.le_refl _) hg5); have sz5 := HB5.out.size; have u1 := own_below HOA.out.1 HB5.out; obtain ⟨A5, c5, rfl, _, _⟩ := own_cap hown5))
            have HOS := Lib.hid (OwnS.push (by rw [HLQ.out]; exact u1) ((HOA.out.2.1.below HB5.out (Nat.le_refl _)).more sz5) (fun v hv => (HOA.out.2.2.1 v hv).below HB5.out) hown5 hszb (fun g hg => (HOA.out.1.lt g hg).2) hown7 (by rw [HLQ.out]) hg7 hx7)
            have HB7 := Lib.hid (below_own (HOA.out.2.2.2.trans (HB5.out.mono hszb)) (by omega) u1 (Nat.le_refl _) hg7)
            clear hown7 hg7 hx7 hown5 hg5 u1 g1a
            go_roundw
            case rel => exact ⟨q + 1, (t : Int) - 1, false, by go_num, rfl, by have := HTT.out; omega, by show (t : Int) - 1 = _; have := HTT.out; omega, HDD.out.symm, by rw [HT.out]; exact HOS.out, HB7.out⟩
            case measure => (first | (simp [intOf]; done) | (simp [intOf]; omega))
      · obtain rfl : q = row.length := by omega
        obtain rfl : z = -1 := by rw [HZ.out]; omega
        have HBE := Lib.hid (show smoothIs g row = b by rw [HEA.out, HBB.out, HRR.out, List.take_of_length_le (by simp), List.all_reverse])
        rw [List.take_of_length_le (by rw [HRL.out]; exact Nat.le_refl _)] at hos
        obtain ⟨A2, c2, rfl, r2⟩ := hos.cap
        clear hos HBB HZ
        obtain ⟨w9, hw9⟩ : ∃ z, z = wr := ⟨_, rfl⟩
        rw [← hw9] at hb r2 hsz ⊢
        clear hw9 hsz
        have s9 := hb.size
        have HB9 := Lib.hid (HB8.out.trans (hb.mono (by have := HB8.out.size; omega)))
        have hr := (hr.below hb).more s9
        have hr' := (hr'.below hb).more s9
        have r8 := (r8.below hb).more s9
        clear hb
        go_wp2_with fail
        refine (pSmooth _ _ _ c _ c2 g rr w9 hs hsr w9.heap.size (Nat.le_refl _) hr r2).mono ?_
        rw [HRV.out.1, HRV.out.2, HRE.out]
        rintro e w10 ⟨rfl, hb10⟩
        have s10 := hb10.size
        have HB10 := Lib.hid (HB9.out.trans (hb10.mono (by have := HB9.out.size; omega)))
        have hr := (hr.below hb10).more s10
        have hr' := (hr'.below hb10).more s10
        have r8 := (r8.below hb10).more s10
        have r2 := (r2.below hb10).more s10
        clear hb10
        clear r2
        have HY2 := Lib.hid (fun hs => HYES.out (HBE.out.trans hs))
        rw [HBE.out]
        obtain ⟨nn, hnn⟩ : ∃ x, x = smoothN g row := ⟨_, rfl⟩
        rw [← hnn] at HY2 hnb ⊢
        have HNN := Lib.hid hnn
        clear hnn
        cases b with
        | false =>
          go_wp2
          go_ret
          exact ⟨rfl, HB10.out⟩
        | true =>
          obtain ⟨k1, k2⟩ := HY2.out rfl
          have HCE := Lib.hid (courseE_of HZZ.out k1)
          have HCN := Lib.hid (show courseN g row crs = nn by rw [courseN, if_pos (courseE_of HZZ.out k1), k2])
          have hsc := isC_sm HZZ.out k1
          have hcl := k1.len
          have HST := Lib.hid (fun (i : Nat) (h : i + 1 < crs.length) (s : Int) h1 h6 hj => top_steps HZZ.out k1 i h (s := s) h1 h6 hj)
          rw [k2] at HST
          have d5 : ((crs.length : Int) != (row.length : Int)) = false := by simp [hcl]
          have HCL := Lib.hid hcl
          clear k1 k2 HYES HY2 hcl
          go_wp2_with fail
          refine (pCheckCourse _ _ _ _ c _ c' _ c8 g row crs w10 hs hs' hsc w10.heap.size (Nat.le_refl _) hr hr' r8).mono ?_
          rw [HCE.out, HCN.out]
          rintro e w11 ⟨rfl, hb11⟩
          have s11 := hb11.size
          have HB11 := Lib.hid (HB10.out.trans (hb11.mono (by have := HB10.out.size; omega)))
          have hr := (hr.below hb11).more s11
          have hr' := (hr'.below hb11).more s11
          have r8 := (r8.below hb11).more s11
          clear hb11
          have hcl5 : crs.length ≤ 5 := by have := HCL.out; omega
          have HCS := Lib.hid hsc.2
          obtain ⟨mx, hmx⟩ : ∃ mx, mx = max 1 nn := ⟨_, rfl⟩
          have hm1 : 1 ≤ mx := by omega
          have hm6 : mx ≤ 6 := by omega
          have hmn : nn ≤ mx := by omega
          rcases Int.lt_trichotomy 1 nn with hz1 | hz1 | hz1
          · obtain rfl : mx = nn := by omega
            clear hmx
            have HST2 := Lib.hid (fun (i : Nat) (h : i + 1 < crs.length) => HST.out i h mx (by omega) (by omega) (by omega))
            clear HST
            go_wp2
            go_loopw [41] (fun i wr => ∃ q : Nat, i = .int .i64 ((q : Int) + 1) ∧ q + 1 ≤ crs.length ∧ Below w11.heap.size w11 wr) (fun i _ => crs.length - (intOf i).toNat)
            case atStart => exact ⟨0, rfl, by have := HCL.out; omega, Below.refl _ _⟩
            case round =>
              obtain ⟨p, rfl, hp, hb⟩ := hrel
              have hsz := hb.size
              by_cases hltp : p + 1 < crs.length
              · have rT := (r8.below' hb (Nat.le_refl _))
                have hp1 : p < crs.length := by omega
                obtain ⟨b1, o1, A1, c1, rfl, lb1, g1, _, _, r1⟩ := rT.row hp1
                obtain ⟨A2, c2, _, lb2, g2, _, _, r2⟩ := rT.rowAt hltp
                have hx1 := HCS.out _ (List.getElem_mem hp1)
                have hx2 := HCS.out _ (List.getElem_mem hltp)
                obtain ⟨f1, f2, f3⟩ := HST2.out p hltp
                obtain ⟨x, hx⟩ : ∃ x, x = crs[p] := ⟨_, rfl⟩
                obtain ⟨y, hy⟩ : ∃ y, y = crs[p + 1] := ⟨_, rfl⟩
                rw [← hx] at g1 r1 hx1 f1 f2 f3
                rw [← hy] at g2 r2 hx2 f1 f2 f3
                clear hx hy
                have HA := Lib.hid (fun s => pSteps _ _ _ c1 _ c2 x y mx (mergeW wr s) hx1 hx2 wr.heap.size (below_mergeW wr s).size ((r1.more hsz).below (below_mergeW wr s)) ((r2.more hsz).below (below_mergeW wr s)))
                rw [f1] at HA
                obtain ⟨z, hz⟩ : ∃ z, z = stepsN x y mx := ⟨_, rfl⟩
                rw [← hz] at HA f2 f3
                clear hz r1 r2 f1 rT
                have mc := cell_mergeW wr
                have mf := frozen_mergeW wr
                have lb3 : b1 < wr.heap.size := by omega
                have zp0 : (0 : Int) ≤ (p : Int) := by omega
                have zp1 : (p : Int) < (crs.length : Int) := by omega
                have zp2 : (p : Int) + 1 < (crs.length : Int) := by omega
                go_wp2
                refine wp_region_btail 16 (by kernel_rfl) (by kernel_rfl) ?_
                simp only [List.take_succ_cons, List.take_zero, List.drop_succ_cons, List.drop_zero]
                repeat (go_big_quiet_step (first | (go_at_call 46; refine (HA.out _).mono ?_; rintro e w4 ⟨rfl, hb4⟩; exact ⟨rfl, in_mergeW hb4⟩)))
                refine wpQuiet_nil ?_
                rintro w4 ⟨s4, hs4⟩
                have hb4 := below_mergeW wr s4
                rw [← hs4] at hb4
                clear hs4 mc mf HA
                have HBK := Lib.hid (hb.trans (hb4.mono hsz))
                clear hb4 hb
                have dz : decide (1 < z) = false := by simp; omega
                go_wp2
                go_roundw
                case rel => exact ⟨p + 1, by go_num, by omega, HBK.out⟩
                case measure => simp [intOf]; omega
              · have zp2 : ¬ (p : Int) + 1 < (crs.length : Int) := by omega
                have HBF := Lib.hid hb
                clear hb
                go_wp2
                go_ret
                exact ⟨rfl, HB11.out.trans (HBF.out.mono (by have := HB11.out.size; omega))⟩
          · subst hz1
            obtain rfl : mx = 1 := by omega
            clear hmx
            have HST2 := Lib.hid (fun (i : Nat) (h : i + 1 < crs.length) => HST.out i h 1 (by omega) (by omega) (by omega))
            clear HST
            go_wp2
            go_loopw [41] (fun i wr => ∃ q : Nat, i = .int .i64 ((q : Int) + 1) ∧ q + 1 ≤ crs.length ∧ Below w11.heap.size w11 wr) (fun i _ => crs.length - (intOf i).toNat)
            case atStart => exact ⟨0, rfl, by have := HCL.out; omega, Below.refl _ _⟩
            case round =>
              obtain ⟨p, rfl, hp, hb⟩ := hrel
              have hsz := hb.size
              by_cases hltp : p + 1 < crs.length
              · have rT := (r8.below' hb (Nat.le_refl _))
                have hp1 : p < crs.length := by omega
                obtain ⟨b1, o1, A1, c1, rfl, lb1, g1, _, _, r1⟩ := rT.row hp1
                obtain ⟨A2, c2, _, lb2, g2, _, _, r2⟩ := rT.rowAt hltp
                have hx1 := HCS.out _ (List.getElem_mem hp1)
                have hx2 := HCS.out _ (List.getElem_mem hltp)
                obtain ⟨f1, f2, f3⟩ := HST2.out p hltp
                obtain ⟨x, hx⟩ : ∃ x, x = crs[p] := ⟨_, rfl⟩
                obtain ⟨y, hy⟩ : ∃ y, y = crs[p + 1] := ⟨_, rfl⟩
                rw [← hx] at g1 r1 hx1 f1 f2 f3
                rw [← hy] at g2 r2 hx2 f1 f2 f3
                clear hx hy
                have HA := Lib.hid (fun s => pSteps _ _ _ c1 _ c2 x y 1 (mergeW wr s) hx1 hx2 wr.heap.size (below_mergeW wr s).size ((r1.more hsz).below (below_mergeW wr s)) ((r2.more hsz).below (below_mergeW wr s)))
                rw [f1] at HA
                obtain ⟨z, hz⟩ : ∃ z, z = stepsN x y 1 := ⟨_, rfl⟩
                rw [← hz] at HA f2 f3
                clear hz r1 r2 f1 rT
                have mc := cell_mergeW wr
                have mf := frozen_mergeW wr
                have lb3 : b1 < wr.heap.size := by omega
                have zp0 : (0 : Int) ≤ (p : Int) := by omega
                have zp1 : (p : Int) < (crs.length : Int) := by omega
                have zp2 : (p : Int) + 1 < (crs.length : Int) := by omega
                go_wp2
                refine wp_region_btail 16 (by kernel_rfl) (by kernel_rfl) ?_
                simp only [List.take_succ_cons, List.take_zero, List.drop_succ_cons, List.drop_zero]
                repeat (go_big_quiet_step (first | (go_at_call 46; refine (HA.out _).mono ?_; rintro e w4 ⟨rfl, hb4⟩; exact ⟨rfl, in_mergeW hb4⟩)))
                refine wpQuiet_nil ?_
                rintro w4 ⟨s4, hs4⟩
                have hb4 := below_mergeW wr s4
                rw [← hs4] at hb4
                clear hs4 mc mf HA
                have HBK := Lib.hid (hb.trans (hb4.mono hsz))
                clear hb4 hb
                have dz : decide (1 < z) = false := by simp; omega
                go_wp2
                go_roundw
                case rel => exact ⟨p + 1, by go_num, by omega, HBK.out⟩
                case measure => simp [intOf]; omega
              · have zp2 : ¬ (p : Int) + 1 < (crs.length : Int) := by omega
                have HBF := Lib.hid hb
                clear hb
                go_wp2
                go_ret
                exact ⟨rfl, HB11.out.trans (HBF.out.mono (by have := HB11.out.size; omega))⟩
          · obtain rfl : mx = 1 := by omega
            clear hmx
            have HST2 := Lib.hid (fun (i : Nat) (h : i + 1 < crs.length) => HST.out i h 1 (by omega) (by omega) (by omega))
            clear HST
            go_wp2
            go_loopw [41] (fun i wr => ∃ q : Nat, i = .int .i64 ((q : Int) + 1) ∧ q + 1 ≤ crs.length ∧ Below w11.heap.size w11 wr) (fun i _ => crs.length - (intOf i).toNat)
            case atStart => exact ⟨0, rfl, by have := HCL.out; omega, Below.refl _ _⟩
            case round =>
              obtain ⟨p, rfl, hp, hb⟩ := hrel
              have hsz := hb.size
              by_cases hltp : p + 1 < crs.length
              · have rT := (r8.below' hb (Nat.le_refl _))
                have hp1 : p < crs.length := by omega
                obtain ⟨b1, o1, A1, c1, rfl, lb1, g1, _, _, r1⟩ := rT.row hp1
                obtain ⟨A2, c2, _, lb2, g2, _, _, r2⟩ := rT.rowAt hltp
                have hx1 := HCS.out _ (List.getElem_mem hp1)
                have hx2 := HCS.out _ (List.getElem_mem hltp)
                obtain ⟨f1, f2, f3⟩ := HST2.out p hltp
                obtain ⟨x, hx⟩ : ∃ x, x = crs[p] := ⟨_, rfl⟩
                obtain ⟨y, hy⟩ : ∃ y, y = crs[p + 1] := ⟨_, rfl⟩
                rw [← hx] at g1 r1 hx1 f1 f2 f3
                rw [← hy] at g2 r2 hx2 f1 f2 f3
                clear hx hy
                have HA := Lib.hid (fun s => pSteps _ _ _ c1 _ c2 x y 1 (mergeW wr s) hx1 hx2 wr.heap.size (below_mergeW wr s).size ((r1.more hsz).below (below_mergeW wr s)) ((r2.more hsz).below (below_mergeW wr s)))
                rw [f1] at HA
                obtain ⟨z, hz⟩ : ∃ z, z = stepsN x y 1 := ⟨_, rfl⟩
                rw [← hz] at HA f2 f3
                clear hz r1 r2 f1 rT
                have mc := cell_mergeW wr
                have mf := frozen_mergeW wr
                have lb3 : b1 < wr.heap.size := by omega
                have zp0 : (0 : Int) ≤ (p : Int) := by omega
                have zp1 : (p : Int) < (crs.length : Int) := by omega
                have zp2 : (p : Int) + 1 < (crs.length : Int) := by omega
                go_wp2
                refine wp_region_btail 16 (by kernel_rfl) (by kernel_rfl) ?_
                simp only [List.take_succ_cons, List.take_zero, List.drop_succ_cons, List.drop_zero]
                repeat (go_big_quiet_step (first | (go_at_call 46; refine (HA.out _).mono ?_; rintro e w4 ⟨rfl, hb4⟩; exact ⟨rfl, in_mergeW hb4⟩)))
                refine wpQuiet_nil ?_
                rintro w4 ⟨s4, hs4⟩
                have hb4 := below_mergeW wr s4
                rw [← hs4] at hb4
                clear hs4 mc mf HA
                have HBK := Lib.hid (hb.trans (hb4.mono hsz))
                clear hb4 hb
                have dz : decide (1 < z) = false := by simp; omega
                go_wp2
                go_roundw
                case rel => exact ⟨p + 1, by go_num, by omega, HBK.out⟩
                case measure => simp [intOf]; omega
              · have zp2 : ¬ (p : Int) + 1 < (crs.length : Int) := by omega
                have HBF := Lib.hid hb
                clear hb
                go_wp2
                go_ret
                exact ⟨rfl, HB11.out.trans (HBF.out.mono (by have := HB11.out.size; omega))⟩
  · have hd2 : (rowE g row != 0) = true := by simpa using hz
    clear hz hyes hno
    generalize rowE g row = e0 at *
    generalize smoothN g row = n at *
    generalize smoothIs g row = b0 at *
    go_wp2
    go_ret
    exact ⟨rfl, HB8.out⟩
end Go.Proofs.Ytejjogpgolgdgaa
