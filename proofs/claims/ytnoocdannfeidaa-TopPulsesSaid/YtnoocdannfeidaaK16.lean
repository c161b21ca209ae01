/-
  MERGED: LCloses.
-/
import Derived.Test.YtnoocdannfeidaaK1
import Derived.Test.YtnoocdannfeidaaK15
import Derived.Test.YtnoocdannfeidaaK14
/-
  THE WALK of the law PulseCloses. (Printed by gen_lcloses.py.)
-/
namespace Go.Proofs.Ytnoocdannfeidaa
open Go.RowKit Pulse

theorem hasB_append (l m : List Int) (x : Int) : hasB (l ++ m) x = (hasB l x || hasB m x) := List.any_append
theorem has_clTo (p : List Int) (q k : Nat) : hasB (clTo p k) q = (decide (q < k) && !away p q) := by
  induction k with
  | zero => rfl
  | succ k ih =>
    rw [clTo, hasB_append, ih]
    by_cases h : q = k
    · subst h
      rw [decide_eq_false (Nat.lt_irrefl _), decide_eq_true (Nat.lt_succ_self _)]
      cases away p q <;> simp [hasB]
    · have hx : hasB (if away p k then [] else [(k : Int)]) q = false := by
        split
        · rfl
        · simp [hasB]; omega
      rw [hx, Bool.or_false]
      congr 1
      exact decide_eq_decide.2 (by omega)
theorem has_calmTo (p : List Int) (q k : Nat) : hasB (calmTo p k) q = (decide (q < k) && (!away p q && !busy p q)) := by
  induction k with
  | zero => rfl
  | succ k ih =>
    rw [calmTo, hasB_append, ih]
    by_cases h : q = k
    · subst h
      rw [decide_eq_false (Nat.lt_irrefl _), decide_eq_true (Nat.lt_succ_self _)]
      cases away p q <;> cases busy p q <;> simp [hasB]
    · have hx : hasB (if away p k then [] else if busy p k then [] else [(k : Int)]) q = false := by
        split
        · rfl
        · split
          · rfl
          · simp [hasB]; omega
      rw [hx, Bool.or_false]
      congr 1
      exact decide_eq_decide.2 (by omega)
theorem calmN_len (p : List Int) : (calmN p).length ≤ 4 := by
  unfold calmN
  split
  · exact calmTo_len p 4
  · exact Nat.zero_le _

set_option maxRecDepth 100000 in
set_option maxHeartbeats 4000000 in
theorem lawCloses (A : Option Addr) (k c : Nat) (p : List Int) (w : World) (hk : k ≤ c) (hc : c ≤ maxLen) (hr : Rd w w.heap.size 1 A k (ints p)) (_ : Big p) :
    Calls Try.prog 11 #[.slice A k c] w fun e w' => e = .returned (.bool true) ∧ Below w.heap.size w w' := by
  have hkm : k ≤ maxLen := Nat.le_trans hk hc
  obtain rfl := hr.int_len
  by_cases hL : 100 < p.length
  · have hd : decide (100 < p.length) = true := by simpa using hL
    go_enter Try.func11, Try.ntmps11
    go_wp2_with fail
    refine (long _ _ _ _ hkm).mono ?_
    rw [hd]
    rintro e w1 ⟨rfl, rfl⟩
    go_wp2_with fail
    refine (known _).mono ?_
    rintro e w2 ⟨rfl, hb2⟩
    go_wp2
    go_ret
    exact ⟨rfl, hb2⟩
  · have hd : decide (100 < p.length) = false := by simpa using hL
    have hl : p.length ≤ 1000 := by omega
    have HCL := Lib.hid (show vald p = 0 → closedN p = clTo p 4 ∧ calmN p = calmTo p 4 from fun h => ⟨by rw [closedN, if_pos h], by rw [calmN, if_pos h]⟩)
    have hcl := closedN_len p
    have hca := calmN_len p
    go_enter Try.func11, Try.ntmps11
    go_wp2_with fail
    refine (long _ _ _ _ hkm).mono ?_
    rw [hd]
    rintro e w1 ⟨rfl, rfl⟩
    clear hL
    go_wp2_with fail
    refine (pClosed A p.length c p w hl w.heap.size (Nat.le_refl _) hr).mono ?_
    rintro e w1 ⟨v1, rfl, hown1, B1⟩
    obtain ⟨A1, c1, rfl, _, _⟩ := own_cap hown1
    have s1 := B1.size
    have r1 := Rd.of_own hown1
    clear hown1
    go_wp2_with fail
    refine (rClosed A p.length c p w1 hl w.heap.size s1 (hr.below B1)).mono ?_
    rintro e w2 ⟨v2, rfl, hown2, hb2⟩
    obtain ⟨A2, c2, rfl, _, _⟩ := own_cap hown2
    have B2 := B1.trans (hb2.mono s1)
    have s2 := hb2.size
    have r1 := (r1.below hb2).more s2
    have r2 := Rd.of_own hown2
    clear hown2 hb2 B1
    go_wp2_with fail
    refine (pCalm A p.length c p w2 hl w.heap.size (by omega) (hr.below B2)).mono ?_
    rintro e w3 ⟨v3, rfl, hown3, hb3⟩
    obtain ⟨A3, c3, rfl, _, _⟩ := own_cap hown3
    have B3 := B2.trans (hb3.mono (by omega))
    have s3 := hb3.size
    have r1 := (r1.below hb3).more s3
    have r2 := (r2.below hb3).more s3
    have r3 := Rd.of_own hown3
    clear hown3 hb3 B2
    go_wp2_with fail
    refine (rCalm A p.length c p w3 hl w.heap.size (by omega) (hr.below B3)).mono ?_
    rintro e w4 ⟨v4, rfl, hown4, hb4⟩
    obtain ⟨A4, c4, rfl, _, _⟩ := own_cap hown4
    have B4 := B3.trans (hb4.mono (by omega))
    have s4 := hb4.size
    have r1 := (r1.below hb4).more s4
    have r2 := (r2.below hb4).more s4
    have r3 := (r3.below hb4).more s4
    have r4 := Rd.of_own hown4
    clear hown4 hb4 B3
    go_wp2_with fail
    refine (rSameInts A1 A2 (closedN p).length (closedN p).length c1 c2 (closedN p) (closedN p) w4 (by omega) (by omega) w4.heap.size (Nat.le_refl _) r1 r2).mono ?_
    rw [decide_eq_true rfl]
    rintro e w5 ⟨rfl, hb5⟩
    have B5 := B4.trans (hb5.mono (by omega))
    have s5 := hb5.size
    have r1 := (r1.below hb5).more s5
    have r3 := (r3.below hb5).more s5
    have r4 := (r4.below hb5).more s5
    clear hb5 B4 r2
    go_wp2_with fail
    refine (rSameInts A3 A4 (calmN p).length (calmN p).length c3 c4 (calmN p) (calmN p) w5 (by omega) (by omega) w5.heap.size (Nat.le_refl _) r3 r4).mono ?_
    rw [decide_eq_true rfl]
    rintro e w6 ⟨rfl, hb6⟩
    have B6 := B5.trans (hb6.mono (by omega))
    have s6 := hb6.size
    have r1 := (r1.below hb6).more s6
    have r3 := (r3.below hb6).more s6
    clear hb6 B5 r4
    by_cases h0 : vald p = 0
    · obtain ⟨g1, g2⟩ := HCL.out h0
      have HV := Lib.hid h0
      rw [g1] at r1 hcl
      rw [g2] at r3 hca
      rw [g1, g2, h0]
      have HM := Lib.hid (show ∀ q : Nat, q < 4 → moded p q = 0 from fun q hq => by
        rw [moded, if_pos h0, if_pos]
        rw [isMode, Bool.and_eq_true, decide_eq_true_eq, decide_eq_true_eq]
        omega)
      have HH1 := Lib.hid (fun q => has_clTo p q 4)
      have HH2 := Lib.hid (fun q => has_calmTo p q 4)
      clear h0 g1 g2 HCL
      generalize clTo p 4 = L1 at *
      generalize calmTo p 4 = L3 at *
      go_wp2
      go_loopw [11, 12, 13] (fun i _ _ wr => ∃ q : Nat, i = .int .i64 q ∧ q ≤ 4 ∧ Below w6.heap.size w6 wr) (fun i _ _ _ => 4 - (intOf i).toNat)
      case atStart => exact ⟨0, rfl, Nat.zero_le _, Below.refl _ _⟩
      case round =>
        obtain ⟨q, rfl, hq, hb⟩ := hrel
        have hsz := hb.size
        have BB := B6.trans (hb.mono (by omega))
        by_cases hlt : q < 4
        · have HM0 := Lib.hid (HM.out q hlt)
          have HEV := Lib.hid (show endV p q = endL ((q : Int)).toNat p by rw [endV, if_pos HM0.out])
          have HA := Lib.hid (show away p (q : Int) = !(decide ((endL ((q : Int)).toNat p).x = 0) && decide ((endL ((q : Int)).toNat p).y = 0)) from rfl)
          have H1 := HH1.out q
          have H2 := HH2.out q
          rw [decide_eq_true hlt, Bool.true_and] at H1 H2
          have H1 := Lib.hid H1
          have H2 := Lib.hid H2
          have HE := Lib.hid (pEndF A p.length c p q wr hl w.heap.size (by omega) (hr.below BB))
          rw [HM0.out, HEV.out] at HE
          obtain ⟨u, hu⟩ : ∃ u, u = endL ((q : Int)).toNat p := ⟨_, rfl⟩
          rw [← hu] at HE HA
          clear hu BB
          obtain ⟨ux, uy⟩ := u
          dsimp only [vV] at HE HA
          go_wp2_with fail
          refine HE.out.mono ?_
          rintro e w7 ⟨rfl, hb7⟩
          have hb8 := (hb.trans (hb7.mono hsz)).alloc (by have := hb7.size; omega) (.cells #[.int .i64 ux, .int .i64 uy] 29)
          have HX := Lib.hid (blk_new w7 29 #[.int .i64 ux, .int .i64 uy])
          have s7 := hb7.size
          clear hb7 hb
          have HB8 := Lib.hid hb8
          have hs8 : (w7.alloc (.cells #[.int .i64 ux, .int .i64 uy] 29)).heap.size = w7.heap.size + 1 := by simp
          have K1 := Lib.hid (fun s => rHas A1 L1.length c1 L1 q (mergeW (w7.alloc (.cells #[.int .i64 ux, .int .i64 uy] 29)) s) (by omega) w6.heap.size (by have := (below_mergeW (w7.alloc (.cells #[.int .i64 ux, .int .i64 uy] 29)) s).size; omega) ((r1.below' HB8.out (by omega)).below' (below_mergeW _ s) (by omega)))
          have K3 := Lib.hid (fun s => rHas A3 L3.length c3 L3 q (mergeW (w7.alloc (.cells #[.int .i64 ux, .int .i64 uy] 29)) s) (by omega) w6.heap.size (by have := (below_mergeW (w7.alloc (.cells #[.int .i64 ux, .int .i64 uy] 29)) s).size; omega) ((r3.below' HB8.out (by omega)).below' (below_mergeW _ s) (by omega)))
          rw [H1.out] at K1
          rw [H2.out] at K3
          clear hb8
          by_cases hx : ux = 0
          · by_cases hy : uy = 0
            · subst hx hy
              rw [show away p (q : Int) = false from HA.out] at K1 K3
              cases hbz : busy p (q : Int) with
              | true =>
                rw [hbz] at K3
                clear hbz
                simp only [Bool.not_true, Bool.not_false, Bool.false_and, Bool.true_and, Bool.and_true] at K1 K3
                have z0 : (w7.alloc (.cells #[.int .i64 0, .int .i64 0] 29)).cell? ⟨w7.heap.size, 0, none⟩ = some (.int .i64 0) := blk_cell HX.out 0
                have z1 : (w7.alloc (.cells #[.int .i64 0, .int .i64 0] 29)).cell? ⟨w7.heap.size, 1, none⟩ = some (.int .i64 0) := blk_cell HX.out 1
                have L7 : w7.heap.size < (w7.alloc (.cells #[.int .i64 0, .int .i64 0] 29)).heap.size := by omega
                go_wp2
                obtain ⟨W, hW⟩ : ∃ W, w7.alloc (.cells #[.int .i64 0, .int .i64 0] 29) = W := ⟨_, rfl⟩
                rw [hW] at HB8 hs8 K1 K3 z0 z1 L7 ⊢
                clear hW
                have mc := cell_mergeW W
                have mf := frozen_mergeW W
                refine wp_region_btail 18 (by kernel_rfl) (by kernel_rfl) ?_
                simp only [List.take_succ_cons, List.take_zero, List.drop_succ_cons, List.drop_zero]
                repeat (go_big_quiet_step (first | (go_at_call 42; with_reducible refine (K1.out _).mono ?_; rintro e w3 ⟨rfl, hb3⟩; exact ⟨rfl, in_mergeW hb3⟩) | (go_at_call 42; with_reducible refine (K3.out _).mono ?_; rintro e w3 ⟨rfl, hb3⟩; exact ⟨rfl, in_mergeW hb3⟩)))
                refine wpQuiet_nil ?_
                rintro w9 ⟨s9, hs9⟩
                have hb9 := below_mergeW W s9
                rw [← hs9] at hb9
                clear hs9 mc mf
                have HBZ := Lib.hid (HB8.out.trans (hb9.mono (by omega)))
                go_wp2
                go_roundw
                case rel => exact ⟨q + 1, by go_num, by omega, HBZ.out⟩
                case measure => simp [intOf]; omega
              | false =>
                rw [hbz] at K3
                clear hbz
                simp only [Bool.not_true, Bool.not_false, Bool.false_and, Bool.true_and, Bool.and_true] at K1 K3
                have z0 : (w7.alloc (.cells #[.int .i64 0, .int .i64 0] 29)).cell? ⟨w7.heap.size, 0, none⟩ = some (.int .i64 0) := blk_cell HX.out 0
                have z1 : (w7.alloc (.cells #[.int .i64 0, .int .i64 0] 29)).cell? ⟨w7.heap.size, 1, none⟩ = some (.int .i64 0) := blk_cell HX.out 1
                have L7 : w7.heap.size < (w7.alloc (.cells #[.int .i64 0, .int .i64 0] 29)).heap.size := by omega
                go_wp2
                obtain ⟨W, hW⟩ : ∃ W, w7.alloc (.cells #[.int .i64 0, .int .i64 0] 29) = W := ⟨_, rfl⟩
                rw [hW] at HB8 hs8 K1 K3 z0 z1 L7 ⊢
                clear hW
                have mc := cell_mergeW W
                have mf := frozen_mergeW W
                refine wp_region_btail 18 (by kernel_rfl) (by kernel_rfl) ?_
                simp only [List.take_succ_cons, List.take_zero, List.drop_succ_cons, List.drop_zero]
                repeat (go_big_quiet_step (first | (go_at_call 42; with_reducible refine (K1.out _).mono ?_; rintro e w3 ⟨rfl, hb3⟩; exact ⟨rfl, in_mergeW hb3⟩) | (go_at_call 42; with_reducible refine (K3.out _).mono ?_; rintro e w3 ⟨rfl, hb3⟩; exact ⟨rfl, in_mergeW hb3⟩)))
                refine wpQuiet_nil ?_
                rintro w9 ⟨s9, hs9⟩
                have hb9 := below_mergeW W s9
                have K9 := Lib.hid (K1.out s9)
                rw [← hs9] at hb9 K9
                clear hs9 mc mf
                go_wp2_with fail
                refine K9.out.mono ?_
                rintro e w10 ⟨rfl, hb10⟩
                have HBZ := Lib.hid (HB8.out.trans ((hb9.mono (by omega)).trans (hb10.mono (by have := hb9.size; omega))))
                go_wp2
                go_roundw
                case rel => exact ⟨q + 1, by go_num, by omega, HBZ.out⟩
                case measure => simp [intOf]; omega
            · subst hx
              rw [show away p (q : Int) = true by rw [HA.out, decide_eq_false hy, Bool.and_false]; rfl] at K1 K3
              have hy1 : (uy == 0) = false := by simpa using hy
              clear hy
              simp only [Bool.not_true, Bool.not_false, Bool.false_and, Bool.true_and, Bool.and_true] at K1 K3
              have z0 : (w7.alloc (.cells #[.int .i64 0, .int .i64 uy] 29)).cell? ⟨w7.heap.size, 0, none⟩ = some (.int .i64 0) := blk_cell HX.out 0
              have z1 : (w7.alloc (.cells #[.int .i64 0, .int .i64 uy] 29)).cell? ⟨w7.heap.size, 1, none⟩ = some (.int .i64 uy) := blk_cell HX.out 1
              have L7 : w7.heap.size < (w7.alloc (.cells #[.int .i64 0, .int .i64 uy] 29)).heap.size := by omega
              go_wp2
              obtain ⟨W, hW⟩ : ∃ W, w7.alloc (.cells #[.int .i64 0, .int .i64 uy] 29) = W := ⟨_, rfl⟩
              rw [hW] at HB8 hs8 K1 K3 z0 z1 L7 ⊢
              clear hW
              have mc := cell_mergeW W
              have mf := frozen_mergeW W
              refine wp_region_btail 18 (by kernel_rfl) (by kernel_rfl) ?_
              simp only [List.take_succ_cons, List.take_zero, List.drop_succ_cons, List.drop_zero]
              repeat (go_big_quiet_step (first | (go_at_call 42; with_reducible refine (K1.out _).mono ?_; rintro e w3 ⟨rfl, hb3⟩; exact ⟨rfl, in_mergeW hb3⟩) | (go_at_call 42; with_reducible refine (K3.out _).mono ?_; rintro e w3 ⟨rfl, hb3⟩; exact ⟨rfl, in_mergeW hb3⟩)))
              refine wpQuiet_nil ?_
              rintro w9 ⟨s9, hs9⟩
              have hb9 := below_mergeW W s9
              rw [← hs9] at hb9
              clear hs9 mc mf
              have HBZ := Lib.hid (HB8.out.trans (hb9.mono (by omega)))
              go_wp2
              go_roundw
              case rel => exact ⟨q + 1, by go_num, by omega, HBZ.out⟩
              case measure => simp [intOf]; omega
          · rw [show away p (q : Int) = true by rw [HA.out, decide_eq_false hx, Bool.false_and]; rfl] at K1 K3
            have hx1 : (ux == 0) = false := by simpa using hx
            clear hx
            simp only [Bool.not_true, Bool.not_false, Bool.false_and, Bool.true_and, Bool.and_true] at K1 K3
            have z0 : (w7.alloc (.cells #[.int .i64 ux, .int .i64 uy] 29)).cell? ⟨w7.heap.size, 0, none⟩ = some (.int .i64 ux) := blk_cell HX.out 0
            have z1 : (w7.alloc (.cells #[.int .i64 ux, .int .i64 uy] 29)).cell? ⟨w7.heap.size, 1, none⟩ = some (.int .i64 uy) := blk_cell HX.out 1
            have L7 : w7.heap.size < (w7.alloc (.cells #[.int .i64 ux, .int .i64 uy] 29)).heap.size := by omega
            go_wp2
            obtain ⟨W, hW⟩ : ∃ W, w7.alloc (.cells #[.int .i64 ux, .int .i64 uy] 29) = W := ⟨_, rfl⟩
            rw [hW] at HB8 hs8 K1 K3 z0 z1 L7 ⊢
            clear hW
            have mc := cell_mergeW W
            have mf := frozen_mergeW W
            refine wp_region_btail 18 (by kernel_rfl) (by kernel_rfl) ?_
            simp only [List.take_succ_cons, List.take_zero, List.drop_succ_cons, List.drop_zero]
            repeat (go_big_quiet_step (first | (go_at_call 42; with_reducible refine (K1.out _).mono ?_; rintro e w3 ⟨rfl, hb3⟩; exact ⟨rfl, in_mergeW hb3⟩) | (go_at_call 42; with_reducible refine (K3.out _).mono ?_; rintro e w3 ⟨rfl, hb3⟩; exact ⟨rfl, in_mergeW hb3⟩)))
            refine wpQuiet_nil ?_
            rintro w9 ⟨s9, hs9⟩
            have hb9 := below_mergeW W s9
            rw [← hs9] at hb9
            clear hs9 mc mf
            have HBZ := Lib.hid (HB8.out.trans (hb9.mono (by omega)))
            go_wp2
            go_roundw
            case rel => exact ⟨q + 1, by go_num, by omega, HBZ.out⟩
            case measure => simp [intOf]; omega
        · obtain rfl : q = 4 := by omega
          go_wp2_with fail
          refine (known _).mono ?_
          rintro e w9 ⟨rfl, hb9⟩
          go_wp2
          go_ret
          exact ⟨rfl, BB.trans (hb9.mono (by omega))⟩
    · have hd0 : (vald p != 0) = true := by simpa using h0
      clear h0
      go_wp2_with fail
      refine (known _).mono ?_
      rintro e w9 ⟨rfl, hb9⟩
      go_wp2
      go_ret
      exact ⟨rfl, B6.trans (hb9.mono (by omega))⟩
end Go.Proofs.Ytnoocdannfeidaa
