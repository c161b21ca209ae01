/-
  THE WALK of the law VoltJumps. (Printed by gen_ljumps.py.)
-/
import Derived.Test.YtejjogpgolgdgaaOpen
import Derived.Test.YtejjogpgolgdgaaP1
import Derived.Test.YtejjogpgolgdgaaW34
namespace Go.Proofs.Ytejjogpgolgdgaa
open Go.RowKit Pulse

theorem rampT_sm (a b : List Int) (s : Int) (hl : a.length ≤ 1000) : Sm (rampT a b s) := by
  by_cases h : slewE a b s = 0
  · obtain ⟨hp, hs1, hs6⟩ := slewE_ok h
    obtain ⟨_, _, f1, f2, f3⟩ := pairE_ok hp
    have hj := jumpL_le (x := 3) (y := 3) (by decide) (by decide) f1 f3
    have hN := rampN_le hs1 hj
    rw [rampT, if_pos h]
    refine ⟨by rw [rampTo_len]; omega, fun l hl' => ?_⟩
    obtain ⟨k, _, rfl⟩ := List.mem_map.1 hl'
    rw [rampAt_len f2.symm]; exact hl
  · rw [rampT, if_neg h]; exact ⟨by simp, fun l hl => by cases hl⟩
theorem ramps {a b : List Int} {s : Int} (h : slewE a b s = 0) : ∃ N : Nat, N ≤ 6 ∧ stepsN a b s = (N : Int) ∧ (rampT a b s).length = N + 1 ∧ 1 ≤ s ∧ s ≤ 6 ∧ 0 ≤ jumpN a b ∧ jumpN a b ≤ 6 ∧ (jumpN a b + s - 1) / s = (N : Int) ∧
    ∀ (t : Nat) (p q : List Int), t + 1 ≤ N → (rampT a b s)[t]? = some p → (rampT a b s)[t + 1]? = some q → pairE p q = 0 ∧ 1 ≤ jumpN p q ∧ jumpN p q ≤ s := by
  obtain ⟨hp, hs1, hs6⟩ := slewE_ok h
  obtain ⟨g1, g2, f1, f2, f3⟩ := pairE_ok hp
  have hj0 := jumpL_nn a b
  have hj := jumpL_le (x := 3) (y := 3) (by decide) (by decide) f1 f3
  have hN := rampN_le hs1 hj
  have hN0 := rampN_nn (a := a) (b := b) hs1
  obtain ⟨N, hNe⟩ := Int.eq_ofNat_of_zero_le hN0
  have hjn : jumpN a b = jumpL a b := by rw [jumpN, if_pos hp]
  have hst : stepsN a b s = rampN a b s := by rw [stepsN, if_pos h]; rfl
  have hT : rampT a b s = rampTo a b s (N + 1) := by rw [rampT, if_pos h, hNe]; rfl
  refine ⟨N, by omega, by rw [hst, hNe], by rw [hT, rampTo_len], hs1, hs6, by omega, by omega, by rw [hjn]; exact hNe, fun t p q ht h1 h2 => ?_⟩
  rw [hT] at h1 h2
  have e : ∀ k, k < N + 1 → (rampTo a b s (N + 1))[k]? = some (rampAt a b s k) := fun k hk => by
    rw [rampTo, List.getElem?_map, List.getElem?_range hk]; rfl
  rw [e t (by omega)] at h1
  rw [e (t + 1) (by omega)] at h2
  injection h1 with h1
  injection h2 with h2
  subst h1 h2
  have l1 := rampAt_len (s := s) f2.symm t
  have l2 := rampAt_len (s := s) f2.symm (t + 1)
  have r1 := rampAt_forces (s := s) hs1 f1 f3 t
  have r2 := rampAt_forces (s := s) hs1 f1 f3 (t + 1)
  have hpr : pairE (rampAt a b s t) (rampAt a b s (t + 1)) = 0 := by
    rw [pairE, if_pos]
    simp only [withinB, Bool.and_eq_true, decide_eq_true_eq, List.all_eq_true, isIn]
    refine ⟨⟨⟨by omega, by omega⟩, ⟨by simp, fun x hx => r1 x hx⟩⟩, ⟨by omega, fun x hx => r2 x hx⟩⟩
  have hr := ramp_jump hs1 f2.symm t (by omega)
  rw [jumpN, if_pos hpr]
  exact ⟨hpr, hr.2, hr.1⟩

set_option maxRecDepth 100000 in
set_option maxHeartbeats 4000000 in
theorem lawJumps (A : Option Addr) (k c : Nat) (a : List Int) (A' : Option Addr) (k' c' : Nat) (b : List Int) (s : Int) (w : World) (hk : k ≤ c) (hc : c ≤ maxLen) (hr : Rd w w.heap.size 1 A k (ints a)) (hb : Big a) (hk' : k' ≤ c') (hc' : c' ≤ maxLen) (hr' : Rd w w.heap.size 1 A' k' (ints b)) (hb' : Big b) (hi'' : I64 s) :
    Calls Try.prog 13 #[.slice A k c, .slice A' k' c', .int .i64 s] w fun e w' => e = .returned (.bool true) ∧ Below w.heap.size w w' := by
  have hm : k ≤ maxLen := Nat.le_trans hk hc
  have hm' : k' ≤ maxLen := Nat.le_trans hk' hc'
  obtain rfl := hr.int_len
  obtain rfl := hr'.int_len
  by_cases h : 40 < a.length
  · skip
    go_enter Try.func13, Try.ntmps13
    go_wp2_with fail
    refine (many _ _ _ w hm).mono ?_
    rw [show decide (40 < a.length) = true from by simpa using h]
    rintro e w' ⟨rfl, rfl⟩
    go_wp2_with fail
    refine (known w).mono ?_
    rintro e w1 ⟨rfl, hb1⟩
    have s1 := hb1.size
    have HB1 := Lib.hid hb1
    clear hb1
    go_wp2
    go_ret
    exact ⟨rfl, HB1.out⟩
  · skip
    by_cases h' : 40 < b.length
    · skip
      go_enter Try.func13, Try.ntmps13
      go_wp2_with fail
      refine (many _ _ _ w hm).mono ?_
      rw [show decide (40 < a.length) = false from by simpa using h]
      rintro e w' ⟨rfl, rfl⟩
      go_wp2_with fail
      refine (many _ _ _ w hm').mono ?_
      rw [show decide (40 < b.length) = true from by simpa using h']
      rintro e w' ⟨rfl, rfl⟩
      go_wp2_with fail
      refine (known w).mono ?_
      rintro e w1 ⟨rfl, hb1⟩
      have s1 := hb1.size
      have HB1 := Lib.hid hb1
      clear hb1
      go_wp2
      go_ret
      exact ⟨rfl, HB1.out⟩
    · skip
      go_enter Try.func13, Try.ntmps13
      go_wp2_with fail
      refine (many _ _ _ w hm).mono ?_
      rw [show decide (40 < a.length) = false from by simpa using h]
      rintro e w' ⟨rfl, rfl⟩
      go_wp2_with fail
      refine (many _ _ _ w hm').mono ?_
      rw [show decide (40 < b.length) = false from by simpa using h']
      rintro e w' ⟨rfl, rfl⟩
      have hl : a.length ≤ 1000 := by omega
      have hl' : b.length ≤ 1000 := by omega
      clear h h'
      have HSM := Lib.hid (rampT_sm a b s hl)
      have HR := Lib.hid (fun h => ramps (a := a) (b := b) (s := s) h)
      go_wp2_with fail
      refine (pJump _ _ _ c _ c' a b w hl hl' w.heap.size (Nat.le_refl _) hr hr').mono ?_
      rintro e w1 ⟨rfl, hb1⟩
      have s1 := hb1.size
      have HB1 := Lib.hid hb1
      have hr := (hr.below hb1).more s1
      have hr' := (hr'.below hb1).more s1
      clear hb1
      go_wp2_with fail
      refine (rJump _ _ _ c _ c' a b w1 hl hl' w1.heap.size (Nat.le_refl _) hr hr').mono ?_
      rintro e w2 ⟨rfl, hb2⟩
      have s2 := hb2.size
      have HB2 := Lib.hid (HB1.out.trans (hb2.mono (by have := HB1.out.size; omega)))
      have hr := (hr.below hb2).more s2
      have hr' := (hr'.below hb2).more s2
      clear hb2
      go_wp2_with fail
      refine (pSteps _ _ _ c _ c' a b s w2 hl hl' w2.heap.size (Nat.le_refl _) hr hr').mono ?_
      rintro e w3 ⟨rfl, hb3⟩
      have s3 := hb3.size
      have HB3 := Lib.hid (HB2.out.trans (hb3.mono (by have := HB2.out.size; omega)))
      have hr := (hr.below hb3).more s3
      have hr' := (hr'.below hb3).more s3
      clear hb3
      go_wp2_with fail
      refine (rSteps _ _ _ c _ c' a b s w3 hl hl' w3.heap.size (Nat.le_refl _) hr hr').mono ?_
      rintro e w4 ⟨rfl, hb4⟩
      have s4 := hb4.size
      have HB4 := Lib.hid (HB3.out.trans (hb4.mono (by have := HB3.out.size; omega)))
      have hr := (hr.below hb4).more s4
      have hr' := (hr'.below hb4).more s4
      clear hb4
      go_wp2_with fail
      refine (pRamp _ _ _ c _ c' a b s w4 hl hl' w4.heap.size (Nat.le_refl _) hr hr').mono ?_
      rintro e w5 ⟨u5, rfl, ho5, hb5⟩
      have s5 := hb5.size
      have HB5 := Lib.hid (HB4.out.trans (hb5.mono (by have := HB4.out.size; omega)))
      have hr := (hr.below hb5).more s5
      have hr' := (hr'.below hb5).more s5
      clear hb5
      obtain ⟨A5, c5, rfl, r5⟩ := ho5.cap
      clear ho5
      go_wp2_with fail
      refine (rRamp _ _ _ c _ c' a b s w5 hl hl' w5.heap.size (Nat.le_refl _) hr hr').mono ?_
      rintro e w6 ⟨u6, rfl, ho6, hb6⟩
      have s6 := hb6.size
      have HB6 := Lib.hid (HB5.out.trans (hb6.mono (by have := HB5.out.size; omega)))
      have hr := (hr.below hb6).more s6
      have hr' := (hr'.below hb6).more s6
      have r5 := (r5.below hb6).more s6
      clear hb6
      obtain ⟨A6, c6, rfl, r6⟩ := ho6.cap
      clear ho6
      obtain ⟨e0, he0⟩ : ∃ x, x = slewE a b s := ⟨_, rfl⟩
      rw [← he0] at HR ⊢
      clear he0
      obtain ⟨T, hT⟩ : ∃ x, x = rampT a b s := ⟨_, rfl⟩
      rw [← hT] at HR HSM r5 r6 ⊢
      clear hT
      obtain ⟨j0, hj0⟩ : ∃ x, x = jumpN a b := ⟨_, rfl⟩
      rw [← hj0] at HR ⊢
      clear hj0
      obtain ⟨n0, hn0⟩ : ∃ x, x = stepsN a b s := ⟨_, rfl⟩
      rw [← hn0] at HR ⊢
      clear hn0
      generalize pairE a b = p0 at *
      go_wp2_with fail
      refine (rSameTables true _ _ _ c5 _ c6 T T (by simp) w6 HSM.out HSM.out w6.heap.size (Nat.le_refl _) r5 r6).mono ?_
      rintro e w7 ⟨rfl, hb7⟩
      have s7 := hb7.size
      have HB7 := Lib.hid (HB6.out.trans (hb7.mono (by have := HB6.out.size; omega)))
      have hr := (hr.below hb7).more s7
      have hr' := (hr'.below hb7).more s7
      have r5 := (r5.below hb7).more s7
      have r6 := (r6.below hb7).more s7
      clear hb7
      clear r6
      clear hr hr'
      by_cases hz : e0 = 0
      · subst hz
        obtain ⟨N, k1, k2, k3, k4, k5, k6, k7, k8, k9⟩ := HR.out rfl
        have HST := Lib.hid k9
        have HTL := Lib.hid k3
        clear k9 HR
        subst k2
        have hq1 : ((T.length : Int) != (N : Int) + 1) = false := by simp; omega
        have hq2 : ((N : Int) != (j0 + s - 1) / s) = false := by rw [k8]; simp
        have hTN : T.length ≤ N + 1 := by omega
        have hTN2 : N + 1 ≤ T.length := by omega
        clear k3 k8
        have HB9 := Lib.hid HB7.out
        have HTS := Lib.hid HSM.out.2
        go_wp2
        go_loopw [19] (fun i wr => ∃ q : Nat, i = .int .i64 q ∧ 1 ≤ q ∧ q ≤ T.length ∧ Below w7.heap.size w7 wr) (fun i _ => T.length - (intOf i).toNat)
        case atStart => exact ⟨1, rfl, Nat.le_refl _, by omega, Below.refl _ _⟩
        case round =>
          obtain ⟨q, rfl, hq1, hq, hb⟩ := hrel
          have hsz := hb.size
          by_cases hlt : q < T.length
          · obtain ⟨p, rfl⟩ : ∃ p, q = p + 1 := ⟨q - 1, by omega⟩
            have rT := (r5.below' hb (Nat.le_refl _))
            have hp1 : p < T.length := by omega
            have hp2 : p + 1 < T.length := hlt
            obtain ⟨b1, o1, A1, c1, rfl, lb1, g1, _, _, r1⟩ := rT.row hp1
            obtain ⟨A2, c2, _, lb2, g2, _, _, r2⟩ := rT.rowAt hp2
            have hx1 := HTS.out _ (List.getElem_mem hp1)
            have hx2 := HTS.out _ (List.getElem_mem hp2)
            obtain ⟨f1, f2, f3⟩ := HST.out p T[p] T[p + 1] (by omega) (List.getElem?_eq_getElem hp1) (List.getElem?_eq_getElem hp2)
            obtain ⟨x, hx⟩ : ∃ x, x = T[p] := ⟨_, rfl⟩
            obtain ⟨y, hy⟩ : ∃ y, y = T[p + 1] := ⟨_, rfl⟩
            rw [← hx] at g1 r1 hx1 f1 f2 f3
            rw [← hy] at g2 r2 hx2 f1 f2 f3
            clear hx hy
            have HA := Lib.hid (fun s => pJump _ _ _ c1 _ c2 x y (mergeW wr s) hx1 hx2 wr.heap.size (below_mergeW wr s).size ((r1.more hsz).below (below_mergeW wr s)) ((r2.more hsz).below (below_mergeW wr s)))
            rw [f1] at HA
            obtain ⟨z, hz⟩ : ∃ z, z = jumpN x y := ⟨_, rfl⟩
            rw [← hz] at HA f2 f3
            clear hz r1 r2 f1 rT
            have mc := cell_mergeW wr
            have mf := frozen_mergeW wr
            have lb3 : b1 < wr.heap.size := by omega
            have zp0 : (0 : Int) ≤ (p : Int) := by omega
            have zp1 : (p : Int) < (T.length : Int) := by omega
            have zp2 : (p : Int) + 1 < (T.length : Int) := by omega
            go_wp2
            refine wp_region_btail 14 (by kernel_rfl) (by kernel_rfl) ?_
            simp only [List.take_succ_cons, List.take_zero, List.drop_succ_cons, List.drop_zero]
            repeat (go_big_quiet_step (first | (go_at_call 44; refine (HA.out _).mono ?_; rintro e w4 ⟨rfl, hb4⟩; exact ⟨rfl, in_mergeW hb4⟩)))
            refine wpQuiet_nil ?_
            rintro w4 ⟨s4, hs4⟩
            have hb4 := below_mergeW wr s4
            rw [← hs4] at hb4
            clear hs4 mc mf HA
            have HBK := Lib.hid (hb.trans (hb4.mono hsz))
            clear hb4 hb
            go_wp2
            go_roundw
            case rel => exact ⟨p + 1 + 1, by go_num, by omega, by omega, HBK.out⟩
            case measure => simp [intOf]; omega
          · obtain rfl : q = T.length := by omega
            obtain ⟨w8, hw8⟩ : ∃ z, z = wr := ⟨_, rfl⟩
            rw [← hw8] at hb hsz ⊢
            clear hw8 hsz
            have s8 := hb.size
            have HB8 := Lib.hid (HB7.out.trans (hb.mono (by have := HB7.out.size; omega)))
            have r5 := (r5.below hb).more s8
            clear hb
            go_wp2_with fail
            refine (known w8).mono ?_
            rintro e w9 ⟨rfl, hb9⟩
            have s9 := hb9.size
            have HB9 := Lib.hid (HB8.out.trans (hb9.mono (by have := HB8.out.size; omega)))
            have r5 := (r5.below hb9).more s9
            clear hb9
            go_wp2
            go_ret
            exact ⟨rfl, HB9.out⟩
      · have hd : (e0 != 0) = true := by simpa using hz
        clear hz HR
        go_wp2_with fail
        refine (known w7).mono ?_
        rintro e w8 ⟨rfl, hb8⟩
        have s8 := hb8.size
        have HB8 := Lib.hid (HB7.out.trans (hb8.mono (by have := HB7.out.size; omega)))
        have r5 := (r5.below hb8).more s8
        clear hb8
        go_wp2
        go_ret
        exact ⟨rfl, HB8.out⟩
end Go.Proofs.Ytejjogpgolgdgaa
