/-
  MERGED: LTop.
-/
import Derived.Test.YtnoocdannfeidaaK1
import Derived.Test.YtnoocdannfeidaaK27
/-
  THE WALK of the law TopPulses. (Printed by gen_ltop.py.)
-/
namespace Go.Proofs.Ytnoocdannfeidaa
open Go.RowKit Pulse

theorem tp1 : closedN [1, 1, 1, 1] = [1, 2, 3] := by decide +kernel
theorem tp2 : vald [1, 1, 1, 1] = 0 := by decide +kernel
theorem backL_len {p : List Int} : (backL p).length ≤ p.length := by unfold backL; split <;> simp
theorem back_ok {p : List Int} (h : vald p = 0) : backL p = p.reverse ∧ vald p.reverse = 0 := ⟨by rw [backL, if_pos h], by rw [vald_reverse]; exact h⟩
theorem areas_bd {ms : List Int} {n f a : Int} (h : a ∈ areasL ms n f) : -288 ≤ a ∧ a ≤ 288 := by
  by_cases hs : srchE ms n f = 0
  · obtain ⟨h1, n1, n2, f1, f2⟩ := srchE_ok hs
    rw [areasL, if_pos hs, mem_areasTo] at h
    exact hasA_bd (by omega) (by omega) h.2
  · rw [areasL, if_neg hs] at h; cases h
/-- What a round holds against each other, at mode q. -/
structure RoundOk (p : List Int) (q : Nat) (S : List V) (u : V) (a : Int) : Prop where
  hS : S = pathN p q
  hu : u = endV p q
  ha : a = areaN p q
  len : S.length = p.length + 1
  hl : p.length < S.length
  at_ : S[p.length]'hl = u
  back : areaN (backL p) q = a
  mo : moded p q = 0
  mob : moded (backL p) q = 0
  even : q % 2 = 0 → a = 0
theorem round_ok {p : List Int} (h : vald p = 0) {q : Nat} (hq : q < 4) : RoundOk p q (pathN p q) (endV p q) (areaN p q) := by
  have hm := moded_q h hq
  obtain ⟨h1, h2⟩ := path_last hm
  have hb := back_ok h
  have hl : p.length < (pathN p q).length := by omega
  rw [List.getElem?_eq_getElem hl] at h2
  injection h2 with h2
  refine ⟨rfl, rfl, rfl, h1, hl, h2, ?_, hm, ?_, fun e => even_area h hq e⟩
  · rw [hb.1]; exact areaN_reverse p q
  · rw [hb.1]; exact moded_q hb.2 hq

set_option maxRecDepth 100000 in
set_option maxHeartbeats 8000000 in
theorem lawTopP (A : Option Addr) (k c : Nat) (p : List Int) (A' : Option Addr) (k' c' : Nat) (r : List Int) (Am : Option Addr) (km cm : Nat) (ms : List Int) (x n f : Int) (w : World)
    (hk : k ≤ c) (hc : c ≤ maxLen) (hr : Rd w w.heap.size 1 A k (ints p)) (_ : Big p) (hk' : k' ≤ c') (hc' : c' ≤ maxLen) (hr' : Rd w w.heap.size 1 A' k' (ints r)) (_ : Big r)
    (hkm : km ≤ cm) (hcm : cm ≤ maxLen) (hrm : Rd w w.heap.size 1 Am km (ints ms)) (hx : I64 x) (hn : I64 n) (hf : I64 f) :
    Calls Try.prog 16 #[.slice A k c, .slice A' k' c', .agg #[.slice Am km cm, .int .i64 x, .int .i64 n, .int .i64 f]] w fun e w' => e = .returned (.bool true) ∧ Below w.heap.size w w' := by
  have lk : k ≤ maxLen := Nat.le_trans hk hc
  have lk' : k' ≤ maxLen := Nat.le_trans hk' hc'
  have lkm : km ≤ maxLen := Nat.le_trans hkm hcm
  obtain rfl := hr.int_len
  obtain rfl := hr'.int_len
  obtain rfl := hrm.int_len
  have W1 : w.heap.size = w.heap.size := rfl
  clear W1
  have s1 : (w.alloc (.cells #[.slice Am ms.length cm, .int .i64 x, .int .i64 n, .int .i64 f] 59)).heap.size = w.heap.size + 1 := by simp
  have hr := (hr.alloc (Nat.le_refl _) (.cells #[.slice Am ms.length cm, .int .i64 x, .int .i64 n, .int .i64 f] 59)).more (B' := (w.alloc (.cells #[.slice Am ms.length cm, .int .i64 x, .int .i64 n, .int .i64 f] 59)).heap.size) (by omega)
  have hr' := (hr'.alloc (Nat.le_refl _) (.cells #[.slice Am ms.length cm, .int .i64 x, .int .i64 n, .int .i64 f] 59)).more (B' := (w.alloc (.cells #[.slice Am ms.length cm, .int .i64 x, .int .i64 n, .int .i64 f] 59)).heap.size) (by omega)
  have hrm := (hrm.alloc (Nat.le_refl _) (.cells #[.slice Am ms.length cm, .int .i64 x, .int .i64 n, .int .i64 f] 59)).more (B' := (w.alloc (.cells #[.slice Am ms.length cm, .int .i64 x, .int .i64 n, .int .i64 f] 59)).heap.size) (by omega)
  have HX := Lib.hid (blk_new w 59 #[.slice Am ms.length cm, .int .i64 x, .int .i64 n, .int .i64 f])
  have HB1 := Lib.hid ((Below.refl w.heap.size w).alloc (Nat.le_refl _) (.cells #[.slice Am ms.length cm, .int .i64 x, .int .i64 n, .int .i64 f] 59))
  obtain ⟨dp, hdp⟩ : ∃ b, b = decide (100 < p.length) := ⟨_, rfl⟩
  obtain ⟨dr, hdr⟩ : ∃ b, b = decide (100 < r.length) := ⟨_, rfl⟩
  obtain ⟨dm, hdm⟩ : ∃ b, b = decide (100 < ms.length) := ⟨_, rfl⟩
  have HDP := Lib.hid hdp
  have HDR := Lib.hid hdr
  have HDM := Lib.hid hdm
  clear hdp hdr hdm
  go_enter Try.func16, Try.ntmps16
  go_wp2_with fail
  have s2 : ((w.alloc (.cells #[.slice Am ms.length cm, .int .i64 x, .int .i64 n, .int .i64 f] 59)).alloc (.cells #[.int .i64 1, .int .i64 1, .int .i64 1, .int .i64 1] 3)).heap.size = (w.alloc (.cells #[.slice Am ms.length cm, .int .i64 x, .int .i64 n, .int .i64 f] 59)).heap.size + 1 := by simp
  have hr := (hr.alloc (Nat.le_refl _) (.cells #[.int .i64 1, .int .i64 1, .int .i64 1, .int .i64 1] 3)).more (B' := ((w.alloc (.cells #[.slice Am ms.length cm, .int .i64 x, .int .i64 n, .int .i64 f] 59)).alloc (.cells #[.int .i64 1, .int .i64 1, .int .i64 1, .int .i64 1] 3)).heap.size) (by omega)
  have hr' := (hr'.alloc (Nat.le_refl _) (.cells #[.int .i64 1, .int .i64 1, .int .i64 1, .int .i64 1] 3)).more (B' := ((w.alloc (.cells #[.slice Am ms.length cm, .int .i64 x, .int .i64 n, .int .i64 f] 59)).alloc (.cells #[.int .i64 1, .int .i64 1, .int .i64 1, .int .i64 1] 3)).heap.size) (by omega)
  have hrm := (hrm.alloc (Nat.le_refl _) (.cells #[.int .i64 1, .int .i64 1, .int .i64 1, .int .i64 1] 3)).more (B' := ((w.alloc (.cells #[.slice Am ms.length cm, .int .i64 x, .int .i64 n, .int .i64 f] 59)).alloc (.cells #[.int .i64 1, .int .i64 1, .int .i64 1, .int .i64 1] 3)).heap.size) (by omega)
  have HX := Lib.hid (blk_alloc HX.out (.cells #[.int .i64 1, .int .i64 1, .int .i64 1, .int .i64 1] 3))
  have HL := Lib.hid (blk_new (w.alloc (.cells #[.slice Am ms.length cm, .int .i64 x, .int .i64 n, .int .i64 f] 59)) 3 #[.int .i64 1, .int .i64 1, .int .i64 1, .int .i64 1])
  have HB2 := Lib.hid (HB1.out.alloc (HB1.out.size) (.cells #[.int .i64 1, .int .i64 1, .int .i64 1, .int .i64 1] 3))
  skip
  refine (pClosed (some ⟨w.heap.size + 1, 0, none⟩) 4 4 [1, 1, 1, 1] ((w.alloc (.cells #[.slice Am ms.length cm, .int .i64 x, .int .i64 n, .int .i64 f] 59)).alloc (.cells #[.int .i64 1, .int .i64 1, .int .i64 1, .int .i64 1] 3)) (by decide) (w.heap.size + 1 + 1) (by simp) (rd_lit (by have := HL.out; simpa using this) rfl)).mono ?_
  rw [tp1, tp2]
  rintro e w3 ⟨v3, rfl, hown3, hb3⟩
  have s3 := hb3.size
  have HB3 := Lib.hid (HB2.out.trans (hb3.mono (by have := HB2.out.size; omega)))
  have hr := (hr.below hb3).more s3
  have hr' := (hr'.below hb3).more s3
  have hrm := (hrm.below hb3).more s3
  have HX := Lib.hid (blk_below HX.out hb3 (blk_lt HX.out))
  have HL := Lib.hid (blk_below HL.out hb3 (blk_lt HL.out))
  obtain ⟨A3, c3, rfl, _, _⟩ := own_cap hown3
  have r3 := Rd.of_own hown3
  clear hb3 hown3
  clear HL
  go_wp2_with fail
  have s4 : (w3.alloc (.cells #[.int .i64 1, .int .i64 2, .int .i64 3] 3)).heap.size = w3.heap.size + 1 := by simp
  have hr := (hr.alloc (Nat.le_refl _) (.cells #[.int .i64 1, .int .i64 2, .int .i64 3] 3)).more (B' := (w3.alloc (.cells #[.int .i64 1, .int .i64 2, .int .i64 3] 3)).heap.size) (by omega)
  have hr' := (hr'.alloc (Nat.le_refl _) (.cells #[.int .i64 1, .int .i64 2, .int .i64 3] 3)).more (B' := (w3.alloc (.cells #[.int .i64 1, .int .i64 2, .int .i64 3] 3)).heap.size) (by omega)
  have hrm := (hrm.alloc (Nat.le_refl _) (.cells #[.int .i64 1, .int .i64 2, .int .i64 3] 3)).more (B' := (w3.alloc (.cells #[.int .i64 1, .int .i64 2, .int .i64 3] 3)).heap.size) (by omega)
  have r3 := (r3.alloc (Nat.le_refl _) (.cells #[.int .i64 1, .int .i64 2, .int .i64 3] 3)).more (B' := (w3.alloc (.cells #[.int .i64 1, .int .i64 2, .int .i64 3] 3)).heap.size) (by omega)
  have HX := Lib.hid (blk_alloc HX.out (.cells #[.int .i64 1, .int .i64 2, .int .i64 3] 3))
  have HL := Lib.hid (blk_new w3 3 #[.int .i64 1, .int .i64 2, .int .i64 3])
  have HB4 := Lib.hid (HB3.out.alloc (HB3.out.size) (.cells #[.int .i64 1, .int .i64 2, .int .i64 3] 3))
  skip
  refine (rSameInts A3 (some ⟨w3.heap.size, 0, none⟩) 3 3 c3 3 [1, 2, 3] [1, 2, 3] (w3.alloc (.cells #[.int .i64 1, .int .i64 2, .int .i64 3] 3)) (by decide) (by decide) (w3.heap.size + 1) (by simp) (r3.more (by simp)) (rd_lit HL.out rfl)).mono ?_
  rw [decide_eq_true rfl]
  rintro e w5 ⟨rfl, hb5⟩
  have s5 := hb5.size
  have HB5 := Lib.hid (HB4.out.trans (hb5.mono (by have := HB4.out.size; omega)))
  have hr := (hr.below hb5).more s5
  have hr' := (hr'.below hb5).more s5
  have hrm := (hrm.below hb5).more s5
  have r3 := (r3.below hb5).more s5
  have HX := Lib.hid (blk_below HX.out hb5 (blk_lt HX.out))
  have HL := Lib.hid (blk_below HL.out hb5 (blk_lt HL.out))
  clear hb5
  clear HL r3
  go_wp2_with fail
  refine (long _ _ _ _ lk).mono ?_
  rw [← HDP.out]
  rintro e w' ⟨rfl, rfl⟩
  cases dp with
  | true =>
    go_wp2
    go_ret
    exact ⟨rfl, HB5.out⟩
  | false =>
    go_wp2_with fail
    refine (long _ _ _ _ lk').mono ?_
    rw [← HDR.out]
    rintro e w' ⟨rfl, rfl⟩
    cases dr with
    | true =>
      go_wp2
      go_ret
      exact ⟨rfl, HB5.out⟩
    | false =>
      have cx : w5.cell? ⟨w.heap.size, 0, none⟩ = some (.slice Am ms.length cm) := blk_cell HX.out 0
      go_wp2_with fail
      refine (long _ _ _ _ lkm).mono ?_
      rw [← HDM.out]
      rintro e w' ⟨rfl, rfl⟩
      clear cx
      cases dm with
      | true =>
        go_wp2
        go_ret
        exact ⟨rfl, HB5.out⟩
      | false =>
        have lp : p.length ≤ 100 := by have := HDP.out; simp at this; omega
        have lr : r.length ≤ 100 := by have := HDR.out; simp at this; omega
        have lm : ms.length ≤ 100 := by have := HDM.out; simp at this; omega
        have lc := closedN_len p
        have lcr := closedN_len r
        have lb := backL_len (p := p)
        go_wp2_with fail
        refine (pClosed A p.length c p w5 (by omega) w5.heap.size (Nat.le_refl _) hr).mono ?_
        rintro e w6 ⟨v6, rfl, hown6, hb6⟩
        have s6 := hb6.size
        have HB6 := Lib.hid (HB5.out.trans (hb6.mono (by have := HB5.out.size; omega)))
        have hr := (hr.below hb6).more s6
        have hr' := (hr'.below hb6).more s6
        have hrm := (hrm.below hb6).more s6
        have HX := Lib.hid (blk_below HX.out hb6 (blk_lt HX.out))
        obtain ⟨A6, c6, rfl, _, _⟩ := own_cap hown6
        have r6 := Rd.of_own hown6
        clear hb6 hown6
        by_cases h0 : vald p = 0
        · have HV := Lib.hid h0
          have HBK := Lib.hid (back_ok h0)
          rw [h0]
          clear h0
          go_wp2_with fail
          refine (pBack A p.length c p w6 (by omega) w6.heap.size (Nat.le_refl _) hr).mono ?_
          rw [HV.out]
          rintro e w7 ⟨v7, rfl, hown7, hb7⟩
          have s7 := hb7.size
          have HB7 := Lib.hid (HB6.out.trans (hb7.mono (by have := HB6.out.size; omega)))
          have hr := (hr.below hb7).more s7
          have hr' := (hr'.below hb7).more s7
          have hrm := (hrm.below hb7).more s7
          have r6 := (r6.below hb7).more s7
          have HX := Lib.hid (blk_below HX.out hb7 (blk_lt HX.out))
          obtain ⟨A7, c7, rfl, _, _⟩ := own_cap hown7
          have r7 := Rd.of_own hown7
          clear hb7 hown7
          have HCB := Lib.hid (show closedN (backL p) = closedN p from by rw [HBK.out.1]; exact closedN_reverse p)
          have HVB := Lib.hid (show vald (backL p) = 0 from by rw [HBK.out.1]; exact HBK.out.2)
          go_wp2_with fail
          refine (pClosed A7 (backL p).length c7 (backL p) w7 (by omega) w7.heap.size (Nat.le_refl _) r7).mono ?_
          rw [HCB.out, HVB.out]
          rintro e w8 ⟨v8, rfl, hown8, hb8⟩
          have s8 := hb8.size
          have HB8 := Lib.hid (HB7.out.trans (hb8.mono (by have := HB7.out.size; omega)))
          have hr := (hr.below hb8).more s8
          have hr' := (hr'.below hb8).more s8
          have hrm := (hrm.below hb8).more s8
          have r6 := (r6.below hb8).more s8
          have r7 := (r7.below hb8).more s8
          have HX := Lib.hid (blk_below HX.out hb8 (blk_lt HX.out))
          obtain ⟨A8, c8, rfl, _, _⟩ := own_cap hown8
          have r8 := Rd.of_own hown8
          clear hb8 hown8
          go_wp2_with fail
          refine (rSameInts A8 A6 (closedN p).length (closedN p).length c8 c6 (closedN p) (closedN p) w8 (by omega) (by omega) w8.heap.size (Nat.le_refl _) r8 r6).mono ?_
          rw [decide_eq_true rfl]
          rintro e w9 ⟨rfl, hb9⟩
          have s9 := hb9.size
          have HB9 := Lib.hid (HB8.out.trans (hb9.mono (by have := HB8.out.size; omega)))
          have hr := (hr.below hb9).more s9
          have hr' := (hr'.below hb9).more s9
          have hrm := (hrm.below hb9).more s9
          have r6 := (r6.below hb9).more s9
          have r7 := (r7.below hb9).more s9
          have r8 := (r8.below hb9).more s9
          have HX := Lib.hid (blk_below HX.out hb9 (blk_lt HX.out))
          clear hb9
          clear r8
          have lj : (joinL p r).length ≤ 200 := by unfold joinL; split <;> simp; omega
          have HJOK := Lib.hid (fun h => joinE_ok (p := p) (r := r) h)
          obtain ⟨E, hE⟩ : ∃ E, E = joinE p r := ⟨_, rfl⟩
          obtain ⟨J, hJ⟩ : ∃ J, J = joinL p r := ⟨_, rfl⟩
          have HJ1 := Lib.hid (pJoin A A' p.length c r.length c' p r w9 (by omega) (by omega) w9.heap.size (Nat.le_refl _) hr hr')
          rw [← hE, ← hJ] at HJ1
          rw [← hE, ← hJ] at HJOK
          rw [← hJ] at lj
          clear hE hJ
          go_wp2_with fail
          refine (HJ1.out).mono ?_
          rintro e w10 ⟨v10, rfl, hown10, hb10⟩
          have s10 := hb10.size
          have HB10 := Lib.hid (HB9.out.trans (hb10.mono (by have := HB9.out.size; omega)))
          have hr := (hr.below hb10).more s10
          have hr' := (hr'.below hb10).more s10
          have hrm := (hrm.below hb10).more s10
          have r6 := (r6.below hb10).more s10
          have r7 := (r7.below hb10).more s10
          have HX := Lib.hid (blk_below HX.out hb10 (blk_lt HX.out))
          obtain ⟨A10, c10, rfl, _, _⟩ := own_cap hown10
          have r10 := Rd.of_own hown10
          clear hb10 hown10
          clear HJ1
          obtain ⟨vr, hvr⟩ : ∃ e, e = vald r := ⟨_, rfl⟩
          have HVR := Lib.hid hvr
          clear hvr
          go_wp2_with fail
          refine (pClosed A' r.length c' r w10 (by omega) w10.heap.size (Nat.le_refl _) hr').mono ?_
          rw [← HVR.out]
          rintro e w11 ⟨v11, rfl, hown11, hb11⟩
          have s11 := hb11.size
          have HB11 := Lib.hid (HB10.out.trans (hb11.mono (by have := HB10.out.size; omega)))
          have hr := (hr.below hb11).more s11
          have hr' := (hr'.below hb11).more s11
          have hrm := (hrm.below hb11).more s11
          have r6 := (r6.below hb11).more s11
          have r7 := (r7.below hb11).more s11
          have r10 := (r10.below hb11).more s11
          have HX := Lib.hid (blk_below HX.out hb11 (blk_lt HX.out))
          obtain ⟨A11, c11, rfl, _, _⟩ := own_cap hown11
          have r11 := Rd.of_own hown11
          clear hb11 hown11
          go_wp2
          go_loopw [18] (fun i wr => ∃ q : Nat, i = .int .i64 q ∧ q ≤ 4 ∧ Below w11.heap.size w11 wr) (fun i _ => 4 - (intOf i).toNat)
          case atStart => exact ⟨0, rfl, by omega, Below.refl _ _⟩
          case round =>
            obtain ⟨q, rfl, hq, hb0⟩ := hrel
            have sR := hb0.size
            have HBR := Lib.hid (HB11.out.trans (hb0.mono (by have := HB11.out.size; omega)))
            have HBL := Lib.hid hb0
            have hr := (hr.below hb0).more sR
            have hr' := (hr'.below hb0).more sR
            have hrm := (hrm.below hb0).more sR
            have r6 := (r6.below hb0).more sR
            have r7 := (r7.below hb0).more sR
            have r10 := (r10.below hb0).more sR
            have r11 := (r11.below hb0).more sR
            have HX := Lib.hid (blk_below HX.out hb0 (blk_lt HX.out))
            clear hb0
            by_cases hlt : q < 4
            · have HOK := Lib.hid (round_ok HV.out hlt)
              obtain ⟨S, hS⟩ : ∃ S, S = pathN p q := ⟨_, rfl⟩
              obtain ⟨u, hu⟩ : ∃ u, u = endV p q := ⟨_, rfl⟩
              obtain ⟨a, ha⟩ : ∃ a, a = areaN p q := ⟨_, rfl⟩
              rw [← hS, ← hu, ← ha] at HOK
              clear hS hu ha
              have hSl := HOK.out.len
              have hab : -200000000 ≤ a ∧ a ≤ 200000000 := by have := areaN_bd (p := p) (m := q); have := HOK.out.ha; omega
              obtain ⟨ev, hev⟩ : ∃ b, b = decide (q % 2 = 0) := ⟨_, rfl⟩
              have hpar : ((q : Int) % 2 == 0) = ev := by rw [hev, Bool.eq_iff_iff]; simp; omega
              have hzero : ev = true → a = 0 := fun h => HOK.out.even (by rw [hev] at h; simpa using h)
              clear hev
              have qpos : (0 : Int) ≤ (q : Int) := by omega
              have qlt : (q : Int) < 4 := by omega
              cases ev
              case false =>
                clear hzero
                go_wp2_with fail
                refine (pPath A p.length c p q wr (by omega) wr.heap.size (Nat.le_refl _) hr).mono ?_
                rw [HOK.out.mo, ← HOK.out.hS]
                rintro e w12 ⟨v12, rfl, hown12, hb12⟩
                have s12 := hb12.size
                have HB12 := Lib.hid (HBR.out.trans (hb12.mono (by have := HBR.out.size; omega)))
                have hr := (hr.below hb12).more s12
                have hr' := (hr'.below hb12).more s12
                have hrm := (hrm.below hb12).more s12
                have r6 := (r6.below hb12).more s12
                have r7 := (r7.below hb12).more s12
                have r10 := (r10.below hb12).more s12
                have r11 := (r11.below hb12).more s12
                have HX := Lib.hid (blk_below HX.out hb12 (blk_lt HX.out))
                have HBL := Lib.hid (HBL.out.trans (hb12.mono (by have := HBL.out.size; omega)))
                obtain ⟨A12, c12, rfl, _, _⟩ := own_cap hown12
                have r12 := Rd.of_own hown12
                clear hb12 hown12
                go_wp2_with fail
                refine (pEndF A p.length c p q w12 (by omega) w12.heap.size (Nat.le_refl _) hr).mono ?_
                rw [HOK.out.mo, ← HOK.out.hu]
                rintro e w13 ⟨rfl, hb13⟩
                have s13 := hb13.size
                have HB13 := Lib.hid (HB12.out.trans (hb13.mono (by have := HB12.out.size; omega)))
                have hr := (hr.below hb13).more s13
                have hr' := (hr'.below hb13).more s13
                have hrm := (hrm.below hb13).more s13
                have r6 := (r6.below hb13).more s13
                have r7 := (r7.below hb13).more s13
                have r10 := (r10.below hb13).more s13
                have r11 := (r11.below hb13).more s13
                have r12 := (r12.below hb13).more s13
                have HX := Lib.hid (blk_below HX.out hb13 (blk_lt HX.out))
                have HBL := Lib.hid (HBL.out.trans (hb13.mono (by have := HBL.out.size; omega)))
                clear hb13
                go_wp2_with fail
                have s14 : (w13.alloc (.cells #[.int .i64 u.x, .int .i64 u.y] 29)).heap.size = w13.heap.size + 1 := by simp
                have hr := (hr.alloc (Nat.le_refl _) (.cells #[.int .i64 u.x, .int .i64 u.y] 29)).more (B' := (w13.alloc (.cells #[.int .i64 u.x, .int .i64 u.y] 29)).heap.size) (by omega)
                have hr' := (hr'.alloc (Nat.le_refl _) (.cells #[.int .i64 u.x, .int .i64 u.y] 29)).more (B' := (w13.alloc (.cells #[.int .i64 u.x, .int .i64 u.y] 29)).heap.size) (by omega)
                have hrm := (hrm.alloc (Nat.le_refl _) (.cells #[.int .i64 u.x, .int .i64 u.y] 29)).more (B' := (w13.alloc (.cells #[.int .i64 u.x, .int .i64 u.y] 29)).heap.size) (by omega)
                have r6 := (r6.alloc (Nat.le_refl _) (.cells #[.int .i64 u.x, .int .i64 u.y] 29)).more (B' := (w13.alloc (.cells #[.int .i64 u.x, .int .i64 u.y] 29)).heap.size) (by omega)
                have r7 := (r7.alloc (Nat.le_refl _) (.cells #[.int .i64 u.x, .int .i64 u.y] 29)).more (B' := (w13.alloc (.cells #[.int .i64 u.x, .int .i64 u.y] 29)).heap.size) (by omega)
                have r10 := (r10.alloc (Nat.le_refl _) (.cells #[.int .i64 u.x, .int .i64 u.y] 29)).more (B' := (w13.alloc (.cells #[.int .i64 u.x, .int .i64 u.y] 29)).heap.size) (by omega)
                have r11 := (r11.alloc (Nat.le_refl _) (.cells #[.int .i64 u.x, .int .i64 u.y] 29)).more (B' := (w13.alloc (.cells #[.int .i64 u.x, .int .i64 u.y] 29)).heap.size) (by omega)
                have r12 := (r12.alloc (Nat.le_refl _) (.cells #[.int .i64 u.x, .int .i64 u.y] 29)).more (B' := (w13.alloc (.cells #[.int .i64 u.x, .int .i64 u.y] 29)).heap.size) (by omega)
                have HX := Lib.hid (blk_alloc HX.out (.cells #[.int .i64 u.x, .int .i64 u.y] 29))
                have HU := Lib.hid (blk_new w13 29 #[.int .i64 u.x, .int .i64 u.y])
                have HB14 := Lib.hid (HB13.out.alloc (HB13.out.size) (.cells #[.int .i64 u.x, .int .i64 u.y] 29))
                have HBL := Lib.hid (HBL.out.alloc (HBL.out.size) (.cells #[.int .i64 u.x, .int .i64 u.y] 29))
                skip
                refine (pAreaF A p.length c p q (w13.alloc (.cells #[.int .i64 u.x, .int .i64 u.y] 29)) (by omega) (w13.alloc (.cells #[.int .i64 u.x, .int .i64 u.y] 29)).heap.size (Nat.le_refl _) hr).mono ?_
                rw [HOK.out.mo, ← HOK.out.ha]
                rintro e w15 ⟨rfl, hb15⟩
                have s15 := hb15.size
                have HB15 := Lib.hid (HB14.out.trans (hb15.mono (by have := HB14.out.size; omega)))
                have hr := (hr.below hb15).more s15
                have hr' := (hr'.below hb15).more s15
                have hrm := (hrm.below hb15).more s15
                have r6 := (r6.below hb15).more s15
                have r7 := (r7.below hb15).more s15
                have r10 := (r10.below hb15).more s15
                have r11 := (r11.below hb15).more s15
                have r12 := (r12.below hb15).more s15
                have HX := Lib.hid (blk_below HX.out hb15 (blk_lt HX.out))
                have HU := Lib.hid (blk_below HU.out hb15 (blk_lt HU.out))
                have HBL := Lib.hid (HBL.out.trans (hb15.mono (by have := HBL.out.size; omega)))
                clear hb15
                go_wp2_with fail
                refine (pAreaF A7 (backL p).length c7 (backL p) q w15 (by omega) w15.heap.size (Nat.le_refl _) r7).mono ?_
                rw [HOK.out.mob, HOK.out.back]
                rintro e w16 ⟨rfl, hb16⟩
                have s16 := hb16.size
                have HB16 := Lib.hid (HB15.out.trans (hb16.mono (by have := HB15.out.size; omega)))
                have hr := (hr.below hb16).more s16
                have hr' := (hr'.below hb16).more s16
                have hrm := (hrm.below hb16).more s16
                have r6 := (r6.below hb16).more s16
                have r7 := (r7.below hb16).more s16
                have r10 := (r10.below hb16).more s16
                have r11 := (r11.below hb16).more s16
                have r12 := (r12.below hb16).more s16
                have HX := Lib.hid (blk_below HX.out hb16 (blk_lt HX.out))
                have HU := Lib.hid (blk_below HU.out hb16 (blk_lt HU.out))
                have HBL := Lib.hid (HBL.out.trans (hb16.mono (by have := HBL.out.size; omega)))
                clear hb16
                obtain ⟨bb, off, hAe, hbl, g0, g1⟩ := rd_pt r12 HOK.out.hl
                subst hAe
                rw [HOK.out.at_] at g0 g1
                have c0 : w16.cell? ⟨w13.heap.size, 0, none⟩ = some (.int .i64 u.x) := blk_cell HU.out 0
                have c1 : w16.cell? ⟨w13.heap.size, 1, none⟩ = some (.int .i64 u.y) := blk_cell HU.out 1
                have hi1 : ((S.length : Nat) : Int) = (p.length : Int) + 1 := by omega
                clear r12 HU
                go_wp2
                go_quiet (fail)
                clear c0 c1 g0 g1 hi1 hpar hSl hab
                obtain ⟨w17, hw17⟩ : ∃ z, z = w16.drewN nq := ⟨_, rfl⟩
                rw [← hw17]
                have hb17 : Below w16.heap.size w16 w17 := by rw [hw17]; exact below_drewN (Below.refl _ _) nq
                clear hw17
                have s17 := hb17.size
                have HB17 := Lib.hid (HB16.out.trans (hb17.mono (by have := HB16.out.size; omega)))
                have hr := (hr.below hb17).more s17
                have hr' := (hr'.below hb17).more s17
                have hrm := (hrm.below hb17).more s17
                have r6 := (r6.below hb17).more s17
                have r7 := (r7.below hb17).more s17
                have r10 := (r10.below hb17).more s17
                have r11 := (r11.below hb17).more s17
                have HX := Lib.hid (blk_below HX.out hb17 (blk_lt HX.out))
                have HBL := Lib.hid (HBL.out.trans (hb17.mono (by have := HBL.out.size; omega)))
                clear hb17
                by_cases hE0 : E = 0
                · subst hE0
                  obtain ⟨_, y2, y3, hJe⟩ := HJOK.out rfl
                  obtain rfl := HVR.out.trans y2
                  have HMR := Lib.hid (moded_q y2 hlt)
                  have HVJ := Lib.hid (show vald J = 0 from by rw [hJe]; exact vald_join HV.out y2 y3)
                  have HMJ := Lib.hid (moded_q HVJ.out hlt)
                  have HJA := Lib.hid (show (hasB (closedN p) q || hasB (closedN r) q) = true → areaN J q = areaN p q + areaN r q from by rw [hJe]; exact fun h => join_area HV.out y2 (vald_join HV.out y2 y3) hlt h)
                  have HJC := Lib.hid (show hasB (closedN p) q = true → hasB (closedN J) q = hasB (closedN r) q from by rw [hJe]; exact fun h => join_closed HV.out y2 (vald_join HV.out y2 y3) hlt h)
                  have lcj := closedN_len J
                  clear y2 y3 hJe
                  have hcb := areaN_bd (p := r) (m := q)
                  have hdb := areaN_bd (p := J) (m := q)
                  rw [← HOK.out.ha] at HJA
                  obtain ⟨cc, hcc⟩ : ∃ z, z = areaN r q := ⟨_, rfl⟩
                  have Hcc := Lib.hid hcc
                  rw [← hcc] at hcb
                  rw [← hcc] at HJA
                  clear hcc
                  obtain ⟨dd, hdd⟩ : ∃ z, z = areaN J q := ⟨_, rfl⟩
                  have Hdd := Lib.hid hdd
                  rw [← hdd] at hdb
                  rw [← hdd] at HJA
                  clear hdd
                  obtain ⟨o1, ho1⟩ : ∃ z, z = hasB (closedN p) q := ⟨_, rfl⟩
                  have Ho1 := Lib.hid ho1
                  rw [← ho1] at HJA
                  rw [← ho1] at HJC
                  clear ho1
                  obtain ⟨o2, ho2⟩ : ∃ z, z = hasB (closedN r) q := ⟨_, rfl⟩
                  have Ho2 := Lib.hid ho2
                  rw [← ho2] at HJA
                  rw [← ho2] at HJC
                  clear ho2
                  obtain ⟨o3, ho3⟩ : ∃ z, z = hasB (closedN J) q := ⟨_, rfl⟩
                  have Ho3 := Lib.hid ho3
                  rw [← ho3] at HJC
                  clear ho3
                  go_wp2_with fail
                  refine (pAreaF A' r.length c' r q w17 (by omega) w17.heap.size (Nat.le_refl _) hr').mono ?_
                  rw [HMR.out, ← Hcc.out]
                  rintro e w18 ⟨rfl, hb18⟩
                  have s18 := hb18.size
                  have HB18 := Lib.hid (HB17.out.trans (hb18.mono (by have := HB17.out.size; omega)))
                  have hr := (hr.below hb18).more s18
                  have hr' := (hr'.below hb18).more s18
                  have hrm := (hrm.below hb18).more s18
                  have r6 := (r6.below hb18).more s18
                  have r7 := (r7.below hb18).more s18
                  have r10 := (r10.below hb18).more s18
                  have r11 := (r11.below hb18).more s18
                  have HX := Lib.hid (blk_below HX.out hb18 (blk_lt HX.out))
                  have HBL := Lib.hid (HBL.out.trans (hb18.mono (by have := HBL.out.size; omega)))
                  clear hb18
                  go_wp2_with fail
                  refine (pAreaF A10 J.length c10 J q w18 (by omega) w18.heap.size (Nat.le_refl _) r10).mono ?_
                  rw [HMJ.out, ← Hdd.out]
                  rintro e w19 ⟨rfl, hb19⟩
                  have s19 := hb19.size
                  have HB19 := Lib.hid (HB18.out.trans (hb19.mono (by have := HB18.out.size; omega)))
                  have hr := (hr.below hb19).more s19
                  have hr' := (hr'.below hb19).more s19
                  have hrm := (hrm.below hb19).more s19
                  have r6 := (r6.below hb19).more s19
                  have r7 := (r7.below hb19).more s19
                  have r10 := (r10.below hb19).more s19
                  have r11 := (r11.below hb19).more s19
                  have HX := Lib.hid (blk_below HX.out hb19 (blk_lt HX.out))
                  have HBL := Lib.hid (HBL.out.trans (hb19.mono (by have := HBL.out.size; omega)))
                  clear hb19
                  go_wp2_with fail
                  refine (rHas A6 (closedN p).length c6 (closedN p) q w19 (by omega) w19.heap.size (Nat.le_refl _) r6).mono ?_
                  rw [← Ho1.out]
                  rintro e w20 ⟨rfl, hb20⟩
                  have s20 := hb20.size
                  have HB20 := Lib.hid (HB19.out.trans (hb20.mono (by have := HB19.out.size; omega)))
                  have hr := (hr.below hb20).more s20
                  have hr' := (hr'.below hb20).more s20
                  have hrm := (hrm.below hb20).more s20
                  have r6 := (r6.below hb20).more s20
                  have r7 := (r7.below hb20).more s20
                  have r10 := (r10.below hb20).more s20
                  have r11 := (r11.below hb20).more s20
                  have HX := Lib.hid (blk_below HX.out hb20 (blk_lt HX.out))
                  have HBL := Lib.hid (HBL.out.trans (hb20.mono (by have := HBL.out.size; omega)))
                  clear hb20
                  cases o1
                  case true =>
                    obtain rfl := HJA.out rfl
                    obtain rfl := HJC.out rfl
                    clear HJA HJC
                    go_wp2_with fail
                    refine (pClosed A10 J.length c10 J w20 (by omega) w20.heap.size (Nat.le_refl _) r10).mono ?_
                    rw [HVJ.out]
                    rintro e w21 ⟨v21, rfl, hown21, hb21⟩
                    have s21 := hb21.size
                    have HB21 := Lib.hid (HB20.out.trans (hb21.mono (by have := HB20.out.size; omega)))
                    have hr := (hr.below hb21).more s21
                    have hr' := (hr'.below hb21).more s21
                    have hrm := (hrm.below hb21).more s21
                    have r6 := (r6.below hb21).more s21
                    have r7 := (r7.below hb21).more s21
                    have r10 := (r10.below hb21).more s21
                    have r11 := (r11.below hb21).more s21
                    have HX := Lib.hid (blk_below HX.out hb21 (blk_lt HX.out))
                    have HBL := Lib.hid (HBL.out.trans (hb21.mono (by have := HBL.out.size; omega)))
                    obtain ⟨A21, c21, rfl, _, _⟩ := own_cap hown21
                    have r21 := Rd.of_own hown21
                    clear hb21 hown21
                    go_wp2_with fail
                    refine (rHas A21 (closedN J).length c21 (closedN J) q w21 (by omega) w21.heap.size (Nat.le_refl _) r21).mono ?_
                    rw [← Ho3.out]
                    rintro e w22 ⟨rfl, hb22⟩
                    have s22 := hb22.size
                    have HB22 := Lib.hid (HB21.out.trans (hb22.mono (by have := HB21.out.size; omega)))
                    have hr := (hr.below hb22).more s22
                    have hr' := (hr'.below hb22).more s22
                    have hrm := (hrm.below hb22).more s22
                    have r6 := (r6.below hb22).more s22
                    have r7 := (r7.below hb22).more s22
                    have r10 := (r10.below hb22).more s22
                    have r11 := (r11.below hb22).more s22
                    have r21 := (r21.below hb22).more s22
                    have HX := Lib.hid (blk_below HX.out hb22 (blk_lt HX.out))
                    have HBL := Lib.hid (HBL.out.trans (hb22.mono (by have := HBL.out.size; omega)))
                    clear hb22
                    go_wp2_with fail
                    refine (rHas A11 (closedN r).length c11 (closedN r) q w22 (by omega) w22.heap.size (Nat.le_refl _) r11).mono ?_
                    rw [← Ho2.out]
                    rintro e w23 ⟨rfl, hb23⟩
                    have s23 := hb23.size
                    have HB23 := Lib.hid (HB22.out.trans (hb23.mono (by have := HB22.out.size; omega)))
                    have hr := (hr.below hb23).more s23
                    have hr' := (hr'.below hb23).more s23
                    have hrm := (hrm.below hb23).more s23
                    have r6 := (r6.below hb23).more s23
                    have r7 := (r7.below hb23).more s23
                    have r10 := (r10.below hb23).more s23
                    have r11 := (r11.below hb23).more s23
                    have r21 := (r21.below hb23).more s23
                    have HX := Lib.hid (blk_below HX.out hb23 (blk_lt HX.out))
                    have HBL := Lib.hid (HBL.out.trans (hb23.mono (by have := HBL.out.size; omega)))
                    clear hb23
                    go_wp2
                    go_roundw
                    case rel => exact ⟨q + 1, by go_num, by omega, HBL.out⟩
                    case measure => simp [intOf]; omega
                  case false =>
                    go_wp2_with fail
                    refine (rHas A11 (closedN r).length c11 (closedN r) q w20 (by omega) w20.heap.size (Nat.le_refl _) r11).mono ?_
                    rw [← Ho2.out]
                    rintro e w21 ⟨rfl, hb21⟩
                    have s21 := hb21.size
                    have HB21 := Lib.hid (HB20.out.trans (hb21.mono (by have := HB20.out.size; omega)))
                    have hr := (hr.below hb21).more s21
                    have hr' := (hr'.below hb21).more s21
                    have hrm := (hrm.below hb21).more s21
                    have r6 := (r6.below hb21).more s21
                    have r7 := (r7.below hb21).more s21
                    have r10 := (r10.below hb21).more s21
                    have r11 := (r11.below hb21).more s21
                    have HX := Lib.hid (blk_below HX.out hb21 (blk_lt HX.out))
                    have HBL := Lib.hid (HBL.out.trans (hb21.mono (by have := HBL.out.size; omega)))
                    clear hb21
                    cases o2
                    case true =>
                      obtain rfl := HJA.out rfl
                      clear HJA HJC
                      go_wp2_with fail
                      refine (pClosed A10 J.length c10 J w21 (by omega) w21.heap.size (Nat.le_refl _) r10).mono ?_
                      rw [HVJ.out]
                      rintro e w22 ⟨v22, rfl, hown22, hb22⟩
                      have s22 := hb22.size
                      have HB22 := Lib.hid (HB21.out.trans (hb22.mono (by have := HB21.out.size; omega)))
                      have hr := (hr.below hb22).more s22
                      have hr' := (hr'.below hb22).more s22
                      have hrm := (hrm.below hb22).more s22
                      have r6 := (r6.below hb22).more s22
                      have r7 := (r7.below hb22).more s22
                      have r10 := (r10.below hb22).more s22
                      have r11 := (r11.below hb22).more s22
                      have HX := Lib.hid (blk_below HX.out hb22 (blk_lt HX.out))
                      have HBL := Lib.hid (HBL.out.trans (hb22.mono (by have := HBL.out.size; omega)))
                      obtain ⟨A22, c22, rfl, _, _⟩ := own_cap hown22
                      have r22 := Rd.of_own hown22
                      clear hb22 hown22
                      go_wp2
                      go_roundw
                      case rel => exact ⟨q + 1, by go_num, by omega, HBL.out⟩
                      case measure => simp [intOf]; omega
                    case false =>
                      clear HJA HJC
                      go_wp2_with fail
                      refine (pClosed A10 J.length c10 J w21 (by omega) w21.heap.size (Nat.le_refl _) r10).mono ?_
                      rw [HVJ.out]
                      rintro e w22 ⟨v22, rfl, hown22, hb22⟩
                      have s22 := hb22.size
                      have HB22 := Lib.hid (HB21.out.trans (hb22.mono (by have := HB21.out.size; omega)))
                      have hr := (hr.below hb22).more s22
                      have hr' := (hr'.below hb22).more s22
                      have hrm := (hrm.below hb22).more s22
                      have r6 := (r6.below hb22).more s22
                      have r7 := (r7.below hb22).more s22
                      have r10 := (r10.below hb22).more s22
                      have r11 := (r11.below hb22).more s22
                      have HX := Lib.hid (blk_below HX.out hb22 (blk_lt HX.out))
                      have HBL := Lib.hid (HBL.out.trans (hb22.mono (by have := HBL.out.size; omega)))
                      obtain ⟨A22, c22, rfl, _, _⟩ := own_cap hown22
                      have r22 := Rd.of_own hown22
                      clear hb22 hown22
                      go_wp2
                      go_roundw
                      case rel => exact ⟨q + 1, by go_num, by omega, HBL.out⟩
                      case measure => simp [intOf]; omega
                · have dE : (E != 0) = true := by simpa using hE0
                  clear hE0
                  go_wp2
                  go_roundw
                  case rel => exact ⟨q + 1, by go_num, by omega, HBL.out⟩
                  case measure => simp [intOf]; omega
              case true =>
                obtain rfl := hzero rfl
                clear hzero
                go_wp2_with fail
                refine (pPath A p.length c p q wr (by omega) wr.heap.size (Nat.le_refl _) hr).mono ?_
                rw [HOK.out.mo, ← HOK.out.hS]
                rintro e w12 ⟨v12, rfl, hown12, hb12⟩
                have s12 := hb12.size
                have HB12 := Lib.hid (HBR.out.trans (hb12.mono (by have := HBR.out.size; omega)))
                have hr := (hr.below hb12).more s12
                have hr' := (hr'.below hb12).more s12
                have hrm := (hrm.below hb12).more s12
                have r6 := (r6.below hb12).more s12
                have r7 := (r7.below hb12).more s12
                have r10 := (r10.below hb12).more s12
                have r11 := (r11.below hb12).more s12
                have HX := Lib.hid (blk_below HX.out hb12 (blk_lt HX.out))
                have HBL := Lib.hid (HBL.out.trans (hb12.mono (by have := HBL.out.size; omega)))
                obtain ⟨A12, c12, rfl, _, _⟩ := own_cap hown12
                have r12 := Rd.of_own hown12
                clear hb12 hown12
                go_wp2_with fail
                refine (pEndF A p.length c p q w12 (by omega) w12.heap.size (Nat.le_refl _) hr).mono ?_
                rw [HOK.out.mo, ← HOK.out.hu]
                rintro e w13 ⟨rfl, hb13⟩
                have s13 := hb13.size
                have HB13 := Lib.hid (HB12.out.trans (hb13.mono (by have := HB12.out.size; omega)))
                have hr := (hr.below hb13).more s13
                have hr' := (hr'.below hb13).more s13
                have hrm := (hrm.below hb13).more s13
                have r6 := (r6.below hb13).more s13
                have r7 := (r7.below hb13).more s13
                have r10 := (r10.below hb13).more s13
                have r11 := (r11.below hb13).more s13
                have r12 := (r12.below hb13).more s13
                have HX := Lib.hid (blk_below HX.out hb13 (blk_lt HX.out))
                have HBL := Lib.hid (HBL.out.trans (hb13.mono (by have := HBL.out.size; omega)))
                clear hb13
                go_wp2_with fail
                have s14 : (w13.alloc (.cells #[.int .i64 u.x, .int .i64 u.y] 29)).heap.size = w13.heap.size + 1 := by simp
                have hr := (hr.alloc (Nat.le_refl _) (.cells #[.int .i64 u.x, .int .i64 u.y] 29)).more (B' := (w13.alloc (.cells #[.int .i64 u.x, .int .i64 u.y] 29)).heap.size) (by omega)
                have hr' := (hr'.alloc (Nat.le_refl _) (.cells #[.int .i64 u.x, .int .i64 u.y] 29)).more (B' := (w13.alloc (.cells #[.int .i64 u.x, .int .i64 u.y] 29)).heap.size) (by omega)
                have hrm := (hrm.alloc (Nat.le_refl _) (.cells #[.int .i64 u.x, .int .i64 u.y] 29)).more (B' := (w13.alloc (.cells #[.int .i64 u.x, .int .i64 u.y] 29)).heap.size) (by omega)
                have r6 := (r6.alloc (Nat.le_refl _) (.cells #[.int .i64 u.x, .int .i64 u.y] 29)).more (B' := (w13.alloc (.cells #[.int .i64 u.x, .int .i64 u.y] 29)).heap.size) (by omega)
                have r7 := (r7.alloc (Nat.le_refl _) (.cells #[.int .i64 u.x, .int .i64 u.y] 29)).more (B' := (w13.alloc (.cells #[.int .i64 u.x, .int .i64 u.y] 29)).heap.size) (by omega)
                have r10 := (r10.alloc (Nat.le_refl _) (.cells #[.int .i64 u.x, .int .i64 u.y] 29)).more (B' := (w13.alloc (.cells #[.int .i64 u.x, .int .i64 u.y] 29)).heap.size) (by omega)
                have r11 := (r11.alloc (Nat.le_refl _) (.cells #[.int .i64 u.x, .int .i64 u.y] 29)).more (B' := (w13.alloc (.cells #[.int .i64 u.x, .int .i64 u.y] 29)).heap.size) (by omega)
                have r12 := (r12.alloc (Nat.le_refl _) (.cells #[.int .i64 u.x, .int .i64 u.y] 29)).more (B' := (w13.alloc (.cells #[.int .i64 u.x, .int .i64 u.y] 29)).heap.size) (by omega)
                have HX := Lib.hid (blk_alloc HX.out (.cells #[.int .i64 u.x, .int .i64 u.y] 29))
                have HU := Lib.hid (blk_new w13 29 #[.int .i64 u.x, .int .i64 u.y])
                have HB14 := Lib.hid (HB13.out.alloc (HB13.out.size) (.cells #[.int .i64 u.x, .int .i64 u.y] 29))
                have HBL := Lib.hid (HBL.out.alloc (HBL.out.size) (.cells #[.int .i64 u.x, .int .i64 u.y] 29))
                skip
                refine (pAreaF A p.length c p q (w13.alloc (.cells #[.int .i64 u.x, .int .i64 u.y] 29)) (by omega) (w13.alloc (.cells #[.int .i64 u.x, .int .i64 u.y] 29)).heap.size (Nat.le_refl _) hr).mono ?_
                rw [HOK.out.mo, ← HOK.out.ha]
                rintro e w15 ⟨rfl, hb15⟩
                have s15 := hb15.size
                have HB15 := Lib.hid (HB14.out.trans (hb15.mono (by have := HB14.out.size; omega)))
                have hr := (hr.below hb15).more s15
                have hr' := (hr'.below hb15).more s15
                have hrm := (hrm.below hb15).more s15
                have r6 := (r6.below hb15).more s15
                have r7 := (r7.below hb15).more s15
                have r10 := (r10.below hb15).more s15
                have r11 := (r11.below hb15).more s15
                have r12 := (r12.below hb15).more s15
                have HX := Lib.hid (blk_below HX.out hb15 (blk_lt HX.out))
                have HU := Lib.hid (blk_below HU.out hb15 (blk_lt HU.out))
                have HBL := Lib.hid (HBL.out.trans (hb15.mono (by have := HBL.out.size; omega)))
                clear hb15
                go_wp2_with fail
                refine (pAreaF A7 (backL p).length c7 (backL p) q w15 (by omega) w15.heap.size (Nat.le_refl _) r7).mono ?_
                rw [HOK.out.mob, HOK.out.back]
                rintro e w16 ⟨rfl, hb16⟩
                have s16 := hb16.size
                have HB16 := Lib.hid (HB15.out.trans (hb16.mono (by have := HB15.out.size; omega)))
                have hr := (hr.below hb16).more s16
                have hr' := (hr'.below hb16).more s16
                have hrm := (hrm.below hb16).more s16
                have r6 := (r6.below hb16).more s16
                have r7 := (r7.below hb16).more s16
                have r10 := (r10.below hb16).more s16
                have r11 := (r11.below hb16).more s16
                have r12 := (r12.below hb16).more s16
                have HX := Lib.hid (blk_below HX.out hb16 (blk_lt HX.out))
                have HU := Lib.hid (blk_below HU.out hb16 (blk_lt HU.out))
                have HBL := Lib.hid (HBL.out.trans (hb16.mono (by have := HBL.out.size; omega)))
                clear hb16
                obtain ⟨bb, off, hAe, hbl, g0, g1⟩ := rd_pt r12 HOK.out.hl
                subst hAe
                rw [HOK.out.at_] at g0 g1
                have c0 : w16.cell? ⟨w13.heap.size, 0, none⟩ = some (.int .i64 u.x) := blk_cell HU.out 0
                have c1 : w16.cell? ⟨w13.heap.size, 1, none⟩ = some (.int .i64 u.y) := blk_cell HU.out 1
                have hi1 : ((S.length : Nat) : Int) = (p.length : Int) + 1 := by omega
                clear r12 HU
                go_wp2
                go_quiet (fail)
                clear c0 c1 g0 g1 hi1 hpar hSl hab
                obtain ⟨w17, hw17⟩ : ∃ z, z = w16.drewN nq := ⟨_, rfl⟩
                rw [← hw17]
                have hb17 : Below w16.heap.size w16 w17 := by rw [hw17]; exact below_drewN (Below.refl _ _) nq
                clear hw17
                have s17 := hb17.size
                have HB17 := Lib.hid (HB16.out.trans (hb17.mono (by have := HB16.out.size; omega)))
                have hr := (hr.below hb17).more s17
                have hr' := (hr'.below hb17).more s17
                have hrm := (hrm.below hb17).more s17
                have r6 := (r6.below hb17).more s17
                have r7 := (r7.below hb17).more s17
                have r10 := (r10.below hb17).more s17
                have r11 := (r11.below hb17).more s17
                have HX := Lib.hid (blk_below HX.out hb17 (blk_lt HX.out))
                have HBL := Lib.hid (HBL.out.trans (hb17.mono (by have := HBL.out.size; omega)))
                clear hb17
                by_cases hE0 : E = 0
                · subst hE0
                  obtain ⟨_, y2, y3, hJe⟩ := HJOK.out rfl
                  obtain rfl := HVR.out.trans y2
                  have HMR := Lib.hid (moded_q y2 hlt)
                  have HVJ := Lib.hid (show vald J = 0 from by rw [hJe]; exact vald_join HV.out y2 y3)
                  have HMJ := Lib.hid (moded_q HVJ.out hlt)
                  have HJA := Lib.hid (show (hasB (closedN p) q || hasB (closedN r) q) = true → areaN J q = areaN p q + areaN r q from by rw [hJe]; exact fun h => join_area HV.out y2 (vald_join HV.out y2 y3) hlt h)
                  have HJC := Lib.hid (show hasB (closedN p) q = true → hasB (closedN J) q = hasB (closedN r) q from by rw [hJe]; exact fun h => join_closed HV.out y2 (vald_join HV.out y2 y3) hlt h)
                  have lcj := closedN_len J
                  clear y2 y3 hJe
                  have hcb := areaN_bd (p := r) (m := q)
                  have hdb := areaN_bd (p := J) (m := q)
                  rw [← HOK.out.ha] at HJA
                  obtain ⟨cc, hcc⟩ : ∃ z, z = areaN r q := ⟨_, rfl⟩
                  have Hcc := Lib.hid hcc
                  rw [← hcc] at hcb
                  rw [← hcc] at HJA
                  clear hcc
                  obtain ⟨dd, hdd⟩ : ∃ z, z = areaN J q := ⟨_, rfl⟩
                  have Hdd := Lib.hid hdd
                  rw [← hdd] at hdb
                  rw [← hdd] at HJA
                  clear hdd
                  obtain ⟨o1, ho1⟩ : ∃ z, z = hasB (closedN p) q := ⟨_, rfl⟩
                  have Ho1 := Lib.hid ho1
                  rw [← ho1] at HJA
                  rw [← ho1] at HJC
                  clear ho1
                  obtain ⟨o2, ho2⟩ : ∃ z, z = hasB (closedN r) q := ⟨_, rfl⟩
                  have Ho2 := Lib.hid ho2
                  rw [← ho2] at HJA
                  rw [← ho2] at HJC
                  clear ho2
                  obtain ⟨o3, ho3⟩ : ∃ z, z = hasB (closedN J) q := ⟨_, rfl⟩
                  have Ho3 := Lib.hid ho3
                  rw [← ho3] at HJC
                  clear ho3
                  go_wp2_with fail
                  refine (pAreaF A' r.length c' r q w17 (by omega) w17.heap.size (Nat.le_refl _) hr').mono ?_
                  rw [HMR.out, ← Hcc.out]
                  rintro e w18 ⟨rfl, hb18⟩
                  have s18 := hb18.size
                  have HB18 := Lib.hid (HB17.out.trans (hb18.mono (by have := HB17.out.size; omega)))
                  have hr := (hr.below hb18).more s18
                  have hr' := (hr'.below hb18).more s18
                  have hrm := (hrm.below hb18).more s18
                  have r6 := (r6.below hb18).more s18
                  have r7 := (r7.below hb18).more s18
                  have r10 := (r10.below hb18).more s18
                  have r11 := (r11.below hb18).more s18
                  have HX := Lib.hid (blk_below HX.out hb18 (blk_lt HX.out))
                  have HBL := Lib.hid (HBL.out.trans (hb18.mono (by have := HBL.out.size; omega)))
                  clear hb18
                  go_wp2_with fail
                  refine (pAreaF A10 J.length c10 J q w18 (by omega) w18.heap.size (Nat.le_refl _) r10).mono ?_
                  rw [HMJ.out, ← Hdd.out]
                  rintro e w19 ⟨rfl, hb19⟩
                  have s19 := hb19.size
                  have HB19 := Lib.hid (HB18.out.trans (hb19.mono (by have := HB18.out.size; omega)))
                  have hr := (hr.below hb19).more s19
                  have hr' := (hr'.below hb19).more s19
                  have hrm := (hrm.below hb19).more s19
                  have r6 := (r6.below hb19).more s19
                  have r7 := (r7.below hb19).more s19
                  have r10 := (r10.below hb19).more s19
                  have r11 := (r11.below hb19).more s19
                  have HX := Lib.hid (blk_below HX.out hb19 (blk_lt HX.out))
                  have HBL := Lib.hid (HBL.out.trans (hb19.mono (by have := HBL.out.size; omega)))
                  clear hb19
                  go_wp2_with fail
                  refine (rHas A6 (closedN p).length c6 (closedN p) q w19 (by omega) w19.heap.size (Nat.le_refl _) r6).mono ?_
                  rw [← Ho1.out]
                  rintro e w20 ⟨rfl, hb20⟩
                  have s20 := hb20.size
                  have HB20 := Lib.hid (HB19.out.trans (hb20.mono (by have := HB19.out.size; omega)))
                  have hr := (hr.below hb20).more s20
                  have hr' := (hr'.below hb20).more s20
                  have hrm := (hrm.below hb20).more s20
                  have r6 := (r6.below hb20).more s20
                  have r7 := (r7.below hb20).more s20
                  have r10 := (r10.below hb20).more s20
                  have r11 := (r11.below hb20).more s20
                  have HX := Lib.hid (blk_below HX.out hb20 (blk_lt HX.out))
                  have HBL := Lib.hid (HBL.out.trans (hb20.mono (by have := HBL.out.size; omega)))
                  clear hb20
                  cases o1
                  case true =>
                    obtain rfl := HJA.out rfl
                    obtain rfl := HJC.out rfl
                    clear HJA HJC
                    go_wp2_with fail
                    refine (pClosed A10 J.length c10 J w20 (by omega) w20.heap.size (Nat.le_refl _) r10).mono ?_
                    rw [HVJ.out]
                    rintro e w21 ⟨v21, rfl, hown21, hb21⟩
                    have s21 := hb21.size
                    have HB21 := Lib.hid (HB20.out.trans (hb21.mono (by have := HB20.out.size; omega)))
                    have hr := (hr.below hb21).more s21
                    have hr' := (hr'.below hb21).more s21
                    have hrm := (hrm.below hb21).more s21
                    have r6 := (r6.below hb21).more s21
                    have r7 := (r7.below hb21).more s21
                    have r10 := (r10.below hb21).more s21
                    have r11 := (r11.below hb21).more s21
                    have HX := Lib.hid (blk_below HX.out hb21 (blk_lt HX.out))
                    have HBL := Lib.hid (HBL.out.trans (hb21.mono (by have := HBL.out.size; omega)))
                    obtain ⟨A21, c21, rfl, _, _⟩ := own_cap hown21
                    have r21 := Rd.of_own hown21
                    clear hb21 hown21
                    go_wp2_with fail
                    refine (rHas A21 (closedN J).length c21 (closedN J) q w21 (by omega) w21.heap.size (Nat.le_refl _) r21).mono ?_
                    rw [← Ho3.out]
                    rintro e w22 ⟨rfl, hb22⟩
                    have s22 := hb22.size
                    have HB22 := Lib.hid (HB21.out.trans (hb22.mono (by have := HB21.out.size; omega)))
                    have hr := (hr.below hb22).more s22
                    have hr' := (hr'.below hb22).more s22
                    have hrm := (hrm.below hb22).more s22
                    have r6 := (r6.below hb22).more s22
                    have r7 := (r7.below hb22).more s22
                    have r10 := (r10.below hb22).more s22
                    have r11 := (r11.below hb22).more s22
                    have r21 := (r21.below hb22).more s22
                    have HX := Lib.hid (blk_below HX.out hb22 (blk_lt HX.out))
                    have HBL := Lib.hid (HBL.out.trans (hb22.mono (by have := HBL.out.size; omega)))
                    clear hb22
                    go_wp2_with fail
                    refine (rHas A11 (closedN r).length c11 (closedN r) q w22 (by omega) w22.heap.size (Nat.le_refl _) r11).mono ?_
                    rw [← Ho2.out]
                    rintro e w23 ⟨rfl, hb23⟩
                    have s23 := hb23.size
                    have HB23 := Lib.hid (HB22.out.trans (hb23.mono (by have := HB22.out.size; omega)))
                    have hr := (hr.below hb23).more s23
                    have hr' := (hr'.below hb23).more s23
                    have hrm := (hrm.below hb23).more s23
                    have r6 := (r6.below hb23).more s23
                    have r7 := (r7.below hb23).more s23
                    have r10 := (r10.below hb23).more s23
                    have r11 := (r11.below hb23).more s23
                    have r21 := (r21.below hb23).more s23
                    have HX := Lib.hid (blk_below HX.out hb23 (blk_lt HX.out))
                    have HBL := Lib.hid (HBL.out.trans (hb23.mono (by have := HBL.out.size; omega)))
                    clear hb23
                    go_wp2
                    go_roundw
                    case rel => exact ⟨q + 1, by go_num, by omega, HBL.out⟩
                    case measure => simp [intOf]; omega
                  case false =>
                    go_wp2_with fail
                    refine (rHas A11 (closedN r).length c11 (closedN r) q w20 (by omega) w20.heap.size (Nat.le_refl _) r11).mono ?_
                    rw [← Ho2.out]
                    rintro e w21 ⟨rfl, hb21⟩
                    have s21 := hb21.size
                    have HB21 := Lib.hid (HB20.out.trans (hb21.mono (by have := HB20.out.size; omega)))
                    have hr := (hr.below hb21).more s21
                    have hr' := (hr'.below hb21).more s21
                    have hrm := (hrm.below hb21).more s21
                    have r6 := (r6.below hb21).more s21
                    have r7 := (r7.below hb21).more s21
                    have r10 := (r10.below hb21).more s21
                    have r11 := (r11.below hb21).more s21
                    have HX := Lib.hid (blk_below HX.out hb21 (blk_lt HX.out))
                    have HBL := Lib.hid (HBL.out.trans (hb21.mono (by have := HBL.out.size; omega)))
                    clear hb21
                    cases o2
                    case true =>
                      obtain rfl := HJA.out rfl
                      clear HJA HJC
                      go_wp2_with fail
                      refine (pClosed A10 J.length c10 J w21 (by omega) w21.heap.size (Nat.le_refl _) r10).mono ?_
                      rw [HVJ.out]
                      rintro e w22 ⟨v22, rfl, hown22, hb22⟩
                      have s22 := hb22.size
                      have HB22 := Lib.hid (HB21.out.trans (hb22.mono (by have := HB21.out.size; omega)))
                      have hr := (hr.below hb22).more s22
                      have hr' := (hr'.below hb22).more s22
                      have hrm := (hrm.below hb22).more s22
                      have r6 := (r6.below hb22).more s22
                      have r7 := (r7.below hb22).more s22
                      have r10 := (r10.below hb22).more s22
                      have r11 := (r11.below hb22).more s22
                      have HX := Lib.hid (blk_below HX.out hb22 (blk_lt HX.out))
                      have HBL := Lib.hid (HBL.out.trans (hb22.mono (by have := HBL.out.size; omega)))
                      obtain ⟨A22, c22, rfl, _, _⟩ := own_cap hown22
                      have r22 := Rd.of_own hown22
                      clear hb22 hown22
                      go_wp2
                      go_roundw
                      case rel => exact ⟨q + 1, by go_num, by omega, HBL.out⟩
                      case measure => simp [intOf]; omega
                    case false =>
                      clear HJA HJC
                      go_wp2_with fail
                      refine (pClosed A10 J.length c10 J w21 (by omega) w21.heap.size (Nat.le_refl _) r10).mono ?_
                      rw [HVJ.out]
                      rintro e w22 ⟨v22, rfl, hown22, hb22⟩
                      have s22 := hb22.size
                      have HB22 := Lib.hid (HB21.out.trans (hb22.mono (by have := HB21.out.size; omega)))
                      have hr := (hr.below hb22).more s22
                      have hr' := (hr'.below hb22).more s22
                      have hrm := (hrm.below hb22).more s22
                      have r6 := (r6.below hb22).more s22
                      have r7 := (r7.below hb22).more s22
                      have r10 := (r10.below hb22).more s22
                      have r11 := (r11.below hb22).more s22
                      have HX := Lib.hid (blk_below HX.out hb22 (blk_lt HX.out))
                      have HBL := Lib.hid (HBL.out.trans (hb22.mono (by have := HBL.out.size; omega)))
                      obtain ⟨A22, c22, rfl, _, _⟩ := own_cap hown22
                      have r22 := Rd.of_own hown22
                      clear hb22 hown22
                      go_wp2
                      go_roundw
                      case rel => exact ⟨q + 1, by go_num, by omega, HBL.out⟩
                      case measure => simp [intOf]; omega
                · have dE : (E != 0) = true := by simpa using hE0
                  clear hE0
                  go_wp2
                  go_roundw
                  case rel => exact ⟨q + 1, by go_num, by omega, HBL.out⟩
                  case measure => simp [intOf]; omega
            · obtain rfl : q = 4 := by omega
              have hal := areasL_len ms n f
              have HFO := Lib.hid (fun h => find_ok (ms := ms) (n := n) (f := f) (a := x) h)
              have HSE := Lib.hid (fun h => srchE_ok (ms := ms) (n := n) (f := f) h)
              have HFN := Lib.hid (fun h => find_none (ms := ms) (n := n) (f := f) (a := x) h)
              have HFH := Lib.hid (find_has ms n f x)
              have HHZ := Lib.hid (fun h => has_zero (ms := ms) (n := n) (f := f) h)
              have HNEG := Lib.hid (fun (a : Int) h h0 h2 ha => areas_neg (ms := ms) (n := n) (f := f) (a := a) h h0 h2 ha)
              have HNO := Lib.hid (show srchE ms n f ≠ 0 → findIs ms n f x = false from fun h => by rw [findIs, findO, if_neg h]; rfl)
              have HBG := Lib.hid (fun (a : Int) (h : a ∈ areasL ms n f) => areas_bd h)
              have H1 := Lib.hid (pFind Am ms.length cm ms x n f wr (by omega) wr.heap.size (Nat.le_refl _) hrm)
              have H2 := Lib.hid (fun w1 B hB h => pAreas Am ms.length cm ms n f w1 (by omega) B hB h)
              obtain ⟨L, hL⟩ : ∃ z, z = areasL ms n f := ⟨_, rfl⟩
              obtain ⟨P, hP⟩ : ∃ z, z = findL ms n f x := ⟨_, rfl⟩
              obtain ⟨e0, he0⟩ : ∃ z, z = srchE ms n f := ⟨_, rfl⟩
              obtain ⟨i0, hi0⟩ : ∃ z, z = findIs ms n f x := ⟨_, rfl⟩
              rw [← hP, ← hi0, ← he0] at H1 HFO
              rw [← he0] at HSE
              rw [← hP, ← hi0] at HFN
              rw [← he0, ← hi0] at HNO
              rw [← hL, ← he0] at H2 HNEG HHZ
              rw [← hL, ← hi0] at HFH
              rw [← hL] at hal HBG
              clear hL hP he0 hi0
              have c0 : wr.cell? ⟨w.heap.size, 0, none⟩ = some (.slice Am ms.length cm) := blk_cell HX.out 0
              have c1 : wr.cell? ⟨w.heap.size, 1, none⟩ = some (.int .i64 x) := blk_cell HX.out 1
              have c2 : wr.cell? ⟨w.heap.size, 2, none⟩ = some (.int .i64 n) := blk_cell HX.out 2
              have c3 : wr.cell? ⟨w.heap.size, 3, none⟩ = some (.int .i64 f) := blk_cell HX.out 3
              clear hr hr' r7 r6 r10 r11 HBL HJOK HVR HBK HCB HVB
              go_wp2_with fail
              refine (H1.out).mono ?_
              rintro e w12 ⟨v12, rfl, hown12, hb12⟩
              have s12 := hb12.size
              have HB12 := Lib.hid (HBR.out.trans (hb12.mono (by have := HBR.out.size; omega)))
              have hrm := (hrm.below hb12).more s12
              have HX := Lib.hid (blk_below HX.out hb12 (blk_lt HX.out))
              obtain ⟨A12, c12, rfl, _, _⟩ := own_cap hown12
              have r12 := Rd.of_own hown12
              clear hb12 hown12
              clear c0 c1 c2 c3
              have c0 : w12.cell? ⟨w.heap.size, 0, none⟩ = some (.slice Am ms.length cm) := blk_cell HX.out 0
              have c1 : w12.cell? ⟨w.heap.size, 1, none⟩ = some (.int .i64 x) := blk_cell HX.out 1
              have c2 : w12.cell? ⟨w.heap.size, 2, none⟩ = some (.int .i64 n) := blk_cell HX.out 2
              have c3 : w12.cell? ⟨w.heap.size, 3, none⟩ = some (.int .i64 f) := blk_cell HX.out 3
              go_wp2_with fail
              refine (H2.out w12 w12.heap.size (Nat.le_refl _) hrm).mono ?_
              rintro e w13 ⟨v13, rfl, hown13, hb13⟩
              have s13 := hb13.size
              have HB13 := Lib.hid (HB12.out.trans (hb13.mono (by have := HB12.out.size; omega)))
              have hrm := (hrm.below hb13).more s13
              have r12 := (r12.below hb13).more s13
              have HX := Lib.hid (blk_below HX.out hb13 (blk_lt HX.out))
              obtain ⟨A13, c13, rfl, _, _⟩ := own_cap hown13
              have r13 := Rd.of_own hown13
              clear hb13 hown13
              clear c0 c1 c2 c3
              have c0 : w13.cell? ⟨w.heap.size, 0, none⟩ = some (.slice Am ms.length cm) := blk_cell HX.out 0
              have c1 : w13.cell? ⟨w.heap.size, 1, none⟩ = some (.int .i64 x) := blk_cell HX.out 1
              have c2 : w13.cell? ⟨w.heap.size, 2, none⟩ = some (.int .i64 n) := blk_cell HX.out 2
              have c3 : w13.cell? ⟨w.heap.size, 3, none⟩ = some (.int .i64 f) := blk_cell HX.out 3
              have dd : (e0 != e0) = false := by simp
              have dd2 : (e0 == e0) = true := by simp
              go_wp2_with fail
              refine (rHas A13 L.length c13 L x w13 (by omega) w13.heap.size (Nat.le_refl _) r13).mono ?_
              rw [← HFH.out]
              rintro e w14 ⟨rfl, hb14⟩
              have s14 := hb14.size
              have HB14 := Lib.hid (HB13.out.trans (hb14.mono (by have := HB13.out.size; omega)))
              have hrm := (hrm.below hb14).more s14
              have r12 := (r12.below hb14).more s14
              have r13 := (r13.below hb14).more s14
              have HX := Lib.hid (blk_below HX.out hb14 (blk_lt HX.out))
              clear hb14
              clear c0 c1 c2 c3
              by_cases h0 : e0 = 0
              · subst h0
                have c0 : w14.cell? ⟨w.heap.size, 0, none⟩ = some (.slice Am ms.length cm) := blk_cell HX.out 0
                have c1 : w14.cell? ⟨w.heap.size, 1, none⟩ = some (.int .i64 x) := blk_cell HX.out 1
                have c2 : w14.cell? ⟨w.heap.size, 2, none⟩ = some (.int .i64 n) := blk_cell HX.out 2
                have c3 : w14.cell? ⟨w.heap.size, 3, none⟩ = some (.int .i64 f) := blk_cell HX.out 3
                cases i0
                case true =>
                  obtain ⟨p1, p2, p3, p4⟩ := HFO.out rfl
                  have HCK := Lib.hid p2
                  obtain ⟨_, n1, n2, _⟩ := HSE.out (by trivial)
                  have hPl : P.length ≤ 6 := by omega
                  have q1 : ((P.length : Int) != n) = false := by simpa using p1
                  have q2 : ((P.length : Int) == n) = true := by simpa using p1
                  clear p1 p2 p3 p4 HFO HFN
                  go_wp2_with fail
                  refine (pCheck A12 Am P.length c12 ms.length cm P ms x w14 (by omega) (by omega) w14.heap.size (Nat.le_refl _) r12 hrm).mono ?_
                  rw [HCK.out]
                  rintro e w15 ⟨rfl, hb15⟩
                  have s15 := hb15.size
                  have HB15 := Lib.hid (HB14.out.trans (hb15.mono (by have := HB14.out.size; omega)))
                  have hrm := (hrm.below hb15).more s15
                  have r12 := (r12.below hb15).more s15
                  have r13 := (r13.below hb15).more s15
                  have HX := Lib.hid (blk_below HX.out hb15 (blk_lt HX.out))
                  clear hb15
                  clear c0 c1 c2 c3 q1 q2
                  have c0 : w15.cell? ⟨w.heap.size, 0, none⟩ = some (.slice Am ms.length cm) := blk_cell HX.out 0
                  have c1 : w15.cell? ⟨w.heap.size, 1, none⟩ = some (.int .i64 x) := blk_cell HX.out 1
                  have c2 : w15.cell? ⟨w.heap.size, 2, none⟩ = some (.int .i64 n) := blk_cell HX.out 2
                  have c3 : w15.cell? ⟨w.heap.size, 3, none⟩ = some (.int .i64 f) := blk_cell HX.out 3
                  obtain ⟨o0, ho0⟩ : ∃ z, z = hasB ms 0 := ⟨_, rfl⟩
                  have Ho0 := Lib.hid ho0
                  clear ho0
                  obtain ⟨o2, ho2⟩ : ∃ z, z = hasB ms 2 := ⟨_, rfl⟩
                  have Ho2 := Lib.hid ho2
                  clear ho2
                  go_wp2_with fail
                  refine (rHas Am ms.length cm ms 0 w15 (by omega) w15.heap.size (Nat.le_refl _) hrm).mono ?_
                  rw [← Ho0.out]
                  rintro e w16 ⟨rfl, hb16⟩
                  have s16 := hb16.size
                  have HB16 := Lib.hid (HB15.out.trans (hb16.mono (by have := HB15.out.size; omega)))
                  have hrm := (hrm.below hb16).more s16
                  have r12 := (r12.below hb16).more s16
                  have r13 := (r13.below hb16).more s16
                  have HX := Lib.hid (blk_below HX.out hb16 (blk_lt HX.out))
                  clear hb16
                  clear c0 c1 c2 c3
                  cases o0
                  case true =>
                    go_wp2_with fail
                    refine (rHas A13 L.length c13 L 0 w16 (by omega) w16.heap.size (Nat.le_refl _) r13).mono ?_
                    rw [HHZ.out (by trivial)]
                    rintro e w17 ⟨rfl, hb17⟩
                    have s17 := hb17.size
                    have HB17 := Lib.hid (HB16.out.trans (hb17.mono (by have := HB16.out.size; omega)))
                    have hrm := (hrm.below hb17).more s17
                    have r12 := (r12.below hb17).more s17
                    have r13 := (r13.below hb17).more s17
                    have HX := Lib.hid (blk_below HX.out hb17 (blk_lt HX.out))
                    clear hb17
                    go_wp2
                    go_ret
                    exact ⟨rfl, HB17.out⟩
                  case false =>
                    have c0 : w16.cell? ⟨w.heap.size, 0, none⟩ = some (.slice Am ms.length cm) := blk_cell HX.out 0
                    have c1 : w16.cell? ⟨w.heap.size, 1, none⟩ = some (.int .i64 x) := blk_cell HX.out 1
                    have c2 : w16.cell? ⟨w.heap.size, 2, none⟩ = some (.int .i64 n) := blk_cell HX.out 2
                    have c3 : w16.cell? ⟨w.heap.size, 3, none⟩ = some (.int .i64 f) := blk_cell HX.out 3
                    go_wp2_with fail
                    refine (rHas Am ms.length cm ms 2 w16 (by omega) w16.heap.size (Nat.le_refl _) hrm).mono ?_
                    rw [← Ho2.out]
                    rintro e w17 ⟨rfl, hb17⟩
                    have s17 := hb17.size
                    have HB17 := Lib.hid (HB16.out.trans (hb17.mono (by have := HB16.out.size; omega)))
                    have hrm := (hrm.below hb17).more s17
                    have r12 := (r12.below hb17).more s17
                    have r13 := (r13.below hb17).more s17
                    have HX := Lib.hid (blk_below HX.out hb17 (blk_lt HX.out))
                    clear hb17
                    clear c0 c1 c2 c3
                    cases o2
                    case true =>
                      go_wp2_with fail
                      refine (rHas A13 L.length c13 L 0 w17 (by omega) w17.heap.size (Nat.le_refl _) r13).mono ?_
                      rw [HHZ.out (by trivial)]
                      rintro e w18 ⟨rfl, hb18⟩
                      have s18 := hb18.size
                      have HB18 := Lib.hid (HB17.out.trans (hb18.mono (by have := HB17.out.size; omega)))
                      have hrm := (hrm.below hb18).more s18
                      have r12 := (r12.below hb18).more s18
                      have r13 := (r13.below hb18).more s18
                      have HX := Lib.hid (blk_below HX.out hb18 (blk_lt HX.out))
                      clear hb18
                      go_wp2
                      go_ret
                      exact ⟨rfl, HB18.out⟩
                    case false =>
                      have HNG := Lib.hid (fun (a : Int) ha => HNEG.out a (by trivial) Ho0.out.symm Ho2.out.symm ha)
                      go_wp2
                      go_loopw [37] (fun i wr => ∃ q : Nat, i = .int .i64 q ∧ q ≤ L.length ∧ Below w17.heap.size w17 wr) (fun i _ => L.length - (intOf i).toNat)
                      case atStart => exact ⟨0, rfl, by omega, Below.refl _ _⟩
                      case round =>
                        obtain ⟨q, rfl, hq, hbq⟩ := hrel
                        have sQ := hbq.size
                        have HBQ := Lib.hid (HB17.out.trans (hbq.mono (by have := HB17.out.size; omega)))
                        have r13 := (r13.below hbq).more sQ
                        have HBL := Lib.hid hbq
                        clear hbq
                        by_cases hlt : q < L.length
                        · obtain ⟨b, off, hAe, _, g0⟩ := r13.int hlt
                          have HN := Lib.hid (HNG.out L[q] (List.getElem_mem hlt))
                          have hbd := HBG.out L[q] (List.getElem_mem hlt)
                          obtain ⟨y, hy⟩ : ∃ y, y = L[q] := ⟨_, rfl⟩
                          rw [← hy] at g0 HN hbd
                          clear hy
                          subst hAe
                          have z0 : (0 : Int) ≤ (q : Int) := by omega
                          have z1 : (q : Int) < (L.length : Int) := by omega
                          go_wp2_with fail
                          refine (rHas (some ⟨b, off, none⟩) L.length c13 L (-y) wr (by omega) wr.heap.size (Nat.le_refl _) r13).mono ?_
                          rw [HN.out]
                          rintro e w18 ⟨rfl, hb18⟩
                          have s18 := hb18.size
                          have HB18 := Lib.hid (HBQ.out.trans (hb18.mono (by have := HBQ.out.size; omega)))
                          have r13 := (r13.below hb18).more s18
                          have HBL := Lib.hid (HBL.out.trans (hb18.mono (by have := HBL.out.size; omega)))
                          clear hb18
                          go_wp2
                          go_roundw
                          case rel => exact ⟨q + 1, by go_num, by omega, HBL.out⟩
                          case measure => simp [intOf]; omega
                        · obtain rfl : q = L.length := by omega
                          go_wp2_with fail
                          refine (rHas A13 L.length c13 L 0 wr (by omega) wr.heap.size (Nat.le_refl _) r13).mono ?_
                          rw [HHZ.out (by trivial)]
                          rintro e w18 ⟨rfl, hb18⟩
                          have s18 := hb18.size
                          have HB18 := Lib.hid (HBQ.out.trans (hb18.mono (by have := HBQ.out.size; omega)))
                          have r13 := (r13.below hb18).more s18
                          clear hb18
                          go_wp2
                          go_ret
                          exact ⟨rfl, HB18.out⟩
                case false =>
                  obtain ⟨o0, ho0⟩ : ∃ z, z = hasB ms 0 := ⟨_, rfl⟩
                  have Ho0 := Lib.hid ho0
                  clear ho0
                  obtain ⟨o2, ho2⟩ : ∃ z, z = hasB ms 2 := ⟨_, rfl⟩
                  have Ho2 := Lib.hid ho2
                  clear ho2
                  go_wp2_with fail
                  refine (rHas Am ms.length cm ms 0 w14 (by omega) w14.heap.size (Nat.le_refl _) hrm).mono ?_
                  rw [← Ho0.out]
                  rintro e w15 ⟨rfl, hb15⟩
                  have s15 := hb15.size
                  have HB15 := Lib.hid (HB14.out.trans (hb15.mono (by have := HB14.out.size; omega)))
                  have hrm := (hrm.below hb15).more s15
                  have r12 := (r12.below hb15).more s15
                  have r13 := (r13.below hb15).more s15
                  have HX := Lib.hid (blk_below HX.out hb15 (blk_lt HX.out))
                  clear hb15
                  clear c0 c1 c2 c3
                  cases o0
                  case true =>
                    go_wp2_with fail
                    refine (rHas A13 L.length c13 L 0 w15 (by omega) w15.heap.size (Nat.le_refl _) r13).mono ?_
                    rw [HHZ.out (by trivial)]
                    rintro e w16 ⟨rfl, hb16⟩
                    have s16 := hb16.size
                    have HB16 := Lib.hid (HB15.out.trans (hb16.mono (by have := HB15.out.size; omega)))
                    have hrm := (hrm.below hb16).more s16
                    have r12 := (r12.below hb16).more s16
                    have r13 := (r13.below hb16).more s16
                    have HX := Lib.hid (blk_below HX.out hb16 (blk_lt HX.out))
                    clear hb16
                    go_wp2
                    go_ret
                    exact ⟨rfl, HB16.out⟩
                  case false =>
                    have c0 : w15.cell? ⟨w.heap.size, 0, none⟩ = some (.slice Am ms.length cm) := blk_cell HX.out 0
                    have c1 : w15.cell? ⟨w.heap.size, 1, none⟩ = some (.int .i64 x) := blk_cell HX.out 1
                    have c2 : w15.cell? ⟨w.heap.size, 2, none⟩ = some (.int .i64 n) := blk_cell HX.out 2
                    have c3 : w15.cell? ⟨w.heap.size, 3, none⟩ = some (.int .i64 f) := blk_cell HX.out 3
                    go_wp2_with fail
                    refine (rHas Am ms.length cm ms 2 w15 (by omega) w15.heap.size (Nat.le_refl _) hrm).mono ?_
                    rw [← Ho2.out]
                    rintro e w16 ⟨rfl, hb16⟩
                    have s16 := hb16.size
                    have HB16 := Lib.hid (HB15.out.trans (hb16.mono (by have := HB15.out.size; omega)))
                    have hrm := (hrm.below hb16).more s16
                    have r12 := (r12.below hb16).more s16
                    have r13 := (r13.below hb16).more s16
                    have HX := Lib.hid (blk_below HX.out hb16 (blk_lt HX.out))
                    clear hb16
                    clear c0 c1 c2 c3
                    cases o2
                    case true =>
                      go_wp2_with fail
                      refine (rHas A13 L.length c13 L 0 w16 (by omega) w16.heap.size (Nat.le_refl _) r13).mono ?_
                      rw [HHZ.out (by trivial)]
                      rintro e w17 ⟨rfl, hb17⟩
                      have s17 := hb17.size
                      have HB17 := Lib.hid (HB16.out.trans (hb17.mono (by have := HB16.out.size; omega)))
                      have hrm := (hrm.below hb17).more s17
                      have r12 := (r12.below hb17).more s17
                      have r13 := (r13.below hb17).more s17
                      have HX := Lib.hid (blk_below HX.out hb17 (blk_lt HX.out))
                      clear hb17
                      go_wp2
                      go_ret
                      exact ⟨rfl, HB17.out⟩
                    case false =>
                      have HNG := Lib.hid (fun (a : Int) ha => HNEG.out a (by trivial) Ho0.out.symm Ho2.out.symm ha)
                      go_wp2
                      go_loopw [37] (fun i wr => ∃ q : Nat, i = .int .i64 q ∧ q ≤ L.length ∧ Below w16.heap.size w16 wr) (fun i _ => L.length - (intOf i).toNat)
                      case atStart => exact ⟨0, rfl, by omega, Below.refl _ _⟩
                      case round =>
                        obtain ⟨q, rfl, hq, hbq⟩ := hrel
                        have sQ := hbq.size
                        have HBQ := Lib.hid (HB16.out.trans (hbq.mono (by have := HB16.out.size; omega)))
                        have r13 := (r13.below hbq).more sQ
                        have HBL := Lib.hid hbq
                        clear hbq
                        by_cases hlt : q < L.length
                        · obtain ⟨b, off, hAe, _, g0⟩ := r13.int hlt
                          have HN := Lib.hid (HNG.out L[q] (List.getElem_mem hlt))
                          have hbd := HBG.out L[q] (List.getElem_mem hlt)
                          obtain ⟨y, hy⟩ : ∃ y, y = L[q] := ⟨_, rfl⟩
                          rw [← hy] at g0 HN hbd
                          clear hy
                          subst hAe
                          have z0 : (0 : Int) ≤ (q : Int) := by omega
                          have z1 : (q : Int) < (L.length : Int) := by omega
                          go_wp2_with fail
                          refine (rHas (some ⟨b, off, none⟩) L.length c13 L (-y) wr (by omega) wr.heap.size (Nat.le_refl _) r13).mono ?_
                          rw [HN.out]
                          rintro e w17 ⟨rfl, hb17⟩
                          have s17 := hb17.size
                          have HB17 := Lib.hid (HBQ.out.trans (hb17.mono (by have := HBQ.out.size; omega)))
                          have r13 := (r13.below hb17).more s17
                          have HBL := Lib.hid (HBL.out.trans (hb17.mono (by have := HBL.out.size; omega)))
                          clear hb17
                          go_wp2
                          go_roundw
                          case rel => exact ⟨q + 1, by go_num, by omega, HBL.out⟩
                          case measure => simp [intOf]; omega
                        · obtain rfl : q = L.length := by omega
                          go_wp2_with fail
                          refine (rHas A13 L.length c13 L 0 wr (by omega) wr.heap.size (Nat.le_refl _) r13).mono ?_
                          rw [HHZ.out (by trivial)]
                          rintro e w17 ⟨rfl, hb17⟩
                          have s17 := hb17.size
                          have HB17 := Lib.hid (HBQ.out.trans (hb17.mono (by have := HBQ.out.size; omega)))
                          have r13 := (r13.below hb17).more s17
                          clear hb17
                          go_wp2
                          go_ret
                          exact ⟨rfl, HB17.out⟩
              · have dE : (e0 != 0) = true := by simpa using h0
                obtain rfl := HNO.out h0
                clear h0
                go_wp2
                go_ret
                exact ⟨rfl, HB14.out⟩
        · have dV : (vald p != 0) = true := by simpa using h0
          clear h0
          obtain ⟨e1, he1⟩ : ∃ e, e = vald p := ⟨_, rfl⟩
          have HE1 := Lib.hid he1
          rw [← he1] at dV
          rw [← he1]
          clear he1
          go_wp2_with fail
          refine (pValidate A p.length c p w6 (by omega) w6.heap.size (Nat.le_refl _) hr).mono ?_
          rw [← HE1.out]
          rintro e w7 ⟨rfl, hb7⟩
          have s7 := hb7.size
          have HB7 := Lib.hid (HB6.out.trans (hb7.mono (by have := HB6.out.size; omega)))
          have hr := (hr.below hb7).more s7
          have hr' := (hr'.below hb7).more s7
          have hrm := (hrm.below hb7).more s7
          have r6 := (r6.below hb7).more s7
          have HX := Lib.hid (blk_below HX.out hb7 (blk_lt HX.out))
          clear hb7
          go_wp2
          go_ret
          exact ⟨rfl, HB7.out⟩
end Go.Proofs.Ytnoocdannfeidaa
