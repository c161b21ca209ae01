/-
  THE WALK of the law VoltMakes. (Printed by gen_lways.py.)
-/
import Derived.Test.YtejjogpgolgdgaaOpen
import Derived.Test.YtejjogpgolgdgaaP1
namespace Go.Proofs.Ytejjogpgolgdgaa
open Go.RowKit Pulse

set_option maxRecDepth 100000 in
set_option maxHeartbeats 4000000 in
theorem lawMakes (A : Option Addr) (k c : Nat) (g : List (List Int)) (A' : Option Addr) (k' c' : Nat) (v : List Int) (w : World) (hk : k ≤ c) (hc : c ≤ maxLen) (hr : TRd w w.heap.size A k g) (hb : ∀ l ∈ g, l.length ≤ maxLen) (hk' : k' ≤ c') (hc' : c' ≤ maxLen) (hr' : Rd w w.heap.size 1 A' k' (ints v)) (hb' : Big v) :
    Calls Try.prog 10 #[.slice A k c, .slice A' k' c'] w fun e w' => e = .returned (.bool true) ∧ Below w.heap.size w w' := by
  have hm : k ≤ maxLen := Nat.le_trans hk hc
  have hm' : k' ≤ maxLen := Nat.le_trans hk' hc'
  obtain rfl := hr.len
  obtain rfl := hr'.int_len
  by_cases h : longT g = true
  · skip
    go_enter Try.func10, Try.ntmps10
    go_wp2_with fail
    refine (long_is true _ _ _ g h w hm _ hr hb).mono ?_
    rintro e w' ⟨rfl, rfl⟩
    go_wp2_with fail
    refine (known w).mono ?_
    rintro e w1 ⟨rfl, hb1⟩
    have s1 := hb1.size
    have HB1 := Lib.hid hb1
    clear hb1
    go_wp2
    go_ret
    exact ⟨rfl, HB1.out⟩
  · skip
    have h : longT g = false := by simpa using h
    by_cases h' : 40 < v.length
    · skip
      go_enter Try.func10, Try.ntmps10
      go_wp2_with fail
      refine (long_is false _ _ _ g h w hm _ hr hb).mono ?_
      rintro e w' ⟨rfl, rfl⟩
      go_wp2_with fail
      refine (many _ _ _ w hm').mono ?_
      rw [show decide (40 < v.length) = true from by simpa using h']
      rintro e w' ⟨rfl, rfl⟩
      go_wp2_with fail
      refine (known w).mono ?_
      rintro e w1 ⟨rfl, hb1⟩
      have s1 := hb1.size
      have HB1 := Lib.hid hb1
      clear hb1
      go_wp2
      go_ret
      exact ⟨rfl, HB1.out⟩
    · skip
      go_enter Try.func10, Try.ntmps10
      go_wp2_with fail
      refine (long_is false _ _ _ g h w hm _ hr hb).mono ?_
      rintro e w' ⟨rfl, rfl⟩
      go_wp2_with fail
      refine (many _ _ _ w hm').mono ?_
      rw [show decide (40 < v.length) = false from by simpa using h']
      rintro e w' ⟨rfl, rfl⟩
      have hs := longT_sm h
      have hl' : v.length ≤ 1000 := by omega
      clear h h'
      have hfl := fieldR_len g v
      go_wp2_with fail
      refine (pField _ _ _ c _ c' g v w hs hl' w.heap.size (Nat.le_refl _) hr hr').mono ?_
      rintro e w1 ⟨v1, rfl, hown1, hb1⟩
      have s1 := hb1.size
      have HB1 := Lib.hid hb1
      have hr := (hr.below hb1).more s1
      have hr' := (hr'.below hb1).more s1
      obtain ⟨A1, c1, rfl, _, _⟩ := own_cap hown1
      have r1 := Rd.of_own hown1
      clear hb1 hown1
      by_cases hz : fieldE g v = 0
      · have HM := Lib.hid (makes hz)
        have HF := Lib.hid (fieldE_ok hz).2.2
        have hfr : fieldR g v = fieldL g v := by rw [fieldR, if_pos hz]
        rw [hfr] at r1 hfl
        rw [hz, hfr]
        clear hz hfr
        obtain ⟨f, hf⟩ : ∃ f, f = fieldL g v := ⟨_, rfl⟩
        rw [← hf] at r1 hfl HM ⊢
        clear hf
        have hfl2 : f.length ≤ 1000 := by omega
        go_wp2_with fail
        refine (pWays _ _ _ c _ c1 g f w1 hs hfl2 w1.heap.size (Nat.le_refl _) hr r1).mono ?_
        rw [HM.out.1]
        rintro e w2 ⟨rfl, hb2⟩
        have s2 := hb2.size
        have HB2 := Lib.hid (HB1.out.trans (hb2.mono (by have := HB1.out.size; omega)))
        have hr := (hr.below hb2).more s2
        have hr' := (hr'.below hb2).more s2
        have r1 := (r1.below hb2).more s2
        clear hb2
        go_wp2_with fail
        refine (pCalmest _ _ _ c _ c1 g f w2 hs hfl2 w2.heap.size (Nat.le_refl _) hr r1).mono ?_
        rw [HM.out.1, HM.out.2.2.1]
        rintro e w3 ⟨rfl, hb3⟩
        have s3 := hb3.size
        have HB3 := Lib.hid (HB2.out.trans (hb3.mono (by have := HB2.out.size; omega)))
        have hr := (hr.below hb3).more s3
        have hr' := (hr'.below hb3).more s3
        have r1 := (r1.below hb3).more s3
        clear hb3
        have hcl := HM.out.2.2.2.1
        have hwn := HM.out.2.1
        have hcb : 0 ≤ calmN g f := by unfold calmN; split; exact (calmM_bd _).1; omega
        have hwb := (waysN_bounds g f).2
        have HC := Lib.hid HM.out.2.2.2.2
        clear HM
        generalize waysN g f = nw at *
        generalize calmN g f = nc at *
        have hsv : sizeL v ≤ 3 := sizeL_le (by decide) HF.out
        go_wp2
        go_loopw [13, 12] (fun i s wr => ∃ q : Nat, i = .int .i64 q ∧ q ≤ v.length ∧ s = .int .i64 (sizeL (v.take q)) ∧ Below w3.heap.size w3 wr) (fun i _ _ => v.length - (intOf i).toNat)
        case atStart => exact ⟨0, rfl, Nat.zero_le _, rfl, Below.refl _ _⟩
        case round =>
          obtain ⟨q, rfl, hq, rfl, hb⟩ := hrel
          have hsz := hb.size
          by_cases hlt : q < v.length
          · obtain ⟨b, off, rfl, _, g0⟩ := (hr'.below' hb (Nat.le_refl _)).int hlt
            have hbd := HF.out _ (List.getElem_mem hlt)
            have HT := Lib.hid (sizeL_take hlt)
            have h0 := sizeL_nn (v.take q)
            have h1 := sizeL_le (b := 1000) (by decide) (fun a ha => by have := HF.out a (List.mem_of_mem_take ha); omega : Forces 1000 (v.take q))
            obtain ⟨a, ha⟩ : ∃ a, a = v[q] := ⟨_, rfl⟩
            rw [← ha] at g0 hbd HT
            obtain ⟨s, hs9⟩ : ∃ s, s = sizeL (v.take q) := ⟨_, rfl⟩
            rw [← hs9] at h0 h1 HT ⊢
            clear ha hs9
            have z0 : (0 : Int) ≤ (q : Int) := by omega
            have z1 : (q : Int) < (v.length : Int) := by omega
            go_wp2
            refine wp_region_qtail 10 (by kernel_rfl) (by kernel_rfl) ?_
            simp only [List.take_succ_cons, List.take_zero, List.drop_succ_cons, List.drop_zero]
            repeat (go_big_quiet_step (fail))
            refine wpQuiet_nil ?_
            go_wp2
            all_goals
              go_roundw
              case rel => exact ⟨q + 1, by go_num, by omega, by rw [HT.out]; exact int_eq (by unfold absI; omega), hb.drew⟩
              case measure => simp [intOf]; omega
          · obtain rfl : q = v.length := by omega
            rw [List.take_length]
            obtain ⟨w4, hw4⟩ : ∃ z, z = wr := ⟨_, rfl⟩
            rw [← hw4] at hb ⊢
            clear hw4 hsz
            have s4 := hb.size
            have HB4 := Lib.hid (HB3.out.trans (hb.mono (by have := HB3.out.size; omega)))
            have hr := (hr.below hb).more s4
            have hr' := (hr'.below hb).more s4
            have r1 := (r1.below hb).more s4
            clear hb
            generalize sizeL v = ns at *
            go_wp2_with fail
            refine (pCheckVolts _ _ _ _ c _ c1 _ c' g f v w4 hs hfl2 hl' w4.heap.size (Nat.le_refl _) hr r1 hr').mono ?_
            rw [HC.out]
            rintro e w5 ⟨rfl, hb5⟩
            have s5 := hb5.size
            have HB5 := Lib.hid (HB4.out.trans (hb5.mono (by have := HB4.out.size; omega)))
            have hr := (hr.below hb5).more s5
            have hr' := (hr'.below hb5).more s5
            have r1 := (r1.below hb5).more s5
            clear hb5
            go_wp2_with fail
            refine (known w5).mono ?_
            rintro e w6 ⟨rfl, hb6⟩
            have s6 := hb6.size
            have HB6 := Lib.hid (HB5.out.trans (hb6.mono (by have := HB5.out.size; omega)))
            have hr := (hr.below hb6).more s6
            have hr' := (hr'.below hb6).more s6
            have r1 := (r1.below hb6).more s6
            clear hb6
            go_wp2
            go_ret
            exact ⟨rfl, HB6.out⟩
      · have hd : (fieldE g v != 0) = true := by simpa using hz
        clear hz
        generalize fieldE g v = e0 at *
        go_wp2_with fail
        refine (known w1).mono ?_
        rintro e w2 ⟨rfl, hb2⟩
        have s2 := hb2.size
        have HB2 := Lib.hid (HB1.out.trans (hb2.mono (by have := HB1.out.size; omega)))
        have hr := (hr.below hb2).more s2
        have hr' := (hr'.below hb2).more s2
        have r1 := (r1.below hb2).more s2
        clear hb2
        go_wp2
        go_ret
        exact ⟨rfl, HB2.out⟩
end Go.Proofs.Ytejjogpgolgdgaa
