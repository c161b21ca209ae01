/-
  THE WALK of the law VoltWays. (Printed by gen_lways.py.)
-/
import Derived.Test.YtejjogpgolgdgaaOpen
import Derived.Test.YtejjogpgolgdgaaP1
namespace Go.Proofs.Ytejjogpgolgdgaa
open Go.RowKit Pulse

set_option maxRecDepth 100000 in
set_option maxHeartbeats 4000000 in
theorem lawWays (A : Option Addr) (k c : Nat) (g : List (List Int)) (A' : Option Addr) (k' c' : Nat) (l : List Int) (w : World) (hk : k ≤ c) (hc : c ≤ maxLen) (hr : TRd w w.heap.size A k g) (hb : ∀ l ∈ g, l.length ≤ maxLen) (hk' : k' ≤ c') (hc' : c' ≤ maxLen) (hr' : Rd w w.heap.size 1 A' k' (ints l)) (hb' : Big l) :
    Calls Try.prog 3 #[.slice A k c, .slice A' k' c'] w fun e w' => e = .returned (.bool true) ∧ Below w.heap.size w w' := by
  have hm : k ≤ maxLen := Nat.le_trans hk hc
  have hm' : k' ≤ maxLen := Nat.le_trans hk' hc'
  obtain rfl := hr.len
  obtain rfl := hr'.int_len
  by_cases h : longT g = true
  · skip
    go_enter Try.func3, Try.ntmps3
    go_wp2_with fail
    refine (long_is true _ _ _ g h w hm _ hr hb).mono ?_
    rintro e w' ⟨rfl, rfl⟩
    go_wp2_with fail
    refine (known w).mono ?_
    rintro e w1 ⟨rfl, hb1⟩
    have s1 := hb1.size
    have HB1 := Lib.hid hb1
    clear hb1
    go_wp2
    go_ret
    exact ⟨rfl, HB1.out⟩
  · skip
    have h : longT g = false := by simpa using h
    by_cases h' : 40 < l.length
    · skip
      go_enter Try.func3, Try.ntmps3
      go_wp2_with fail
      refine (long_is false _ _ _ g h w hm _ hr hb).mono ?_
      rintro e w' ⟨rfl, rfl⟩
      go_wp2_with fail
      refine (many _ _ _ w hm').mono ?_
      rw [show decide (40 < l.length) = true from by simpa using h']
      rintro e w' ⟨rfl, rfl⟩
      go_wp2_with fail
      refine (known w).mono ?_
      rintro e w1 ⟨rfl, hb1⟩
      have s1 := hb1.size
      have HB1 := Lib.hid hb1
      clear hb1
      go_wp2
      go_ret
      exact ⟨rfl, HB1.out⟩
    · skip
      have hwb := waysN_bounds g l
      go_enter Try.func3, Try.ntmps3
      go_wp2_with fail
      refine (long_is false _ _ _ g h w hm _ hr hb).mono ?_
      rintro e w' ⟨rfl, rfl⟩
      go_wp2_with fail
      refine (many _ _ _ w hm').mono ?_
      rw [show decide (40 < l.length) = false from by simpa using h']
      rintro e w' ⟨rfl, rfl⟩
      have hs := longT_sm h
      have hl' : l.length ≤ 1000 := by omega
      clear h h'
      go_wp2_with fail
      refine (pWays _ _ _ c _ c' g l w hs hl' w.heap.size (Nat.le_refl _) hr hr').mono ?_
      rintro e w1 ⟨rfl, hb1⟩
      have s1 := hb1.size
      have HB1 := Lib.hid hb1
      have hr := (hr.below hb1).more s1
      have hr' := (hr'.below hb1).more s1
      clear hb1
      go_wp2_with fail
      refine (rWays _ _ _ c _ c' g l w1 hs hl' w1.heap.size (Nat.le_refl _) hr hr').mono ?_
      rintro e w2 ⟨rfl, hb2⟩
      have s2 := hb2.size
      have HB2 := Lib.hid (HB1.out.trans (hb2.mono (by have := HB1.out.size; omega)))
      have hr := (hr.below hb2).more s2
      have hr' := (hr'.below hb2).more s2
      clear hb2
      by_cases hz : wishE g l = 0
      · have HW := Lib.hid hz
        have HF := Lib.hid (wOk_ok (wishE_ok hz).2).2
        have HN := Lib.hid (waysN_neg hz)
        have HE := Lib.hid (wishE_neg hz)
        rw [hz]
        clear hz
        generalize waysN g l = n at *
        have sz := HB2.out.size
        go_wp2
        go_loopw [10, 9] (fun i u wr => ∃ q : Nat, i = .int .i64 q ∧ q ≤ l.length ∧ wr.ownsRow w2.heap.size 3 1 u q (ints (negL (l.take q))) ∧ Below w2.heap.size w2 wr) (fun i _ _ => l.length - (intOf i).toNat)
        case atStart => exact ⟨0, rfl, Nat.zero_le _, World.ownsRow_nil .., Below.refl _ _⟩
        case round =>
          obtain ⟨q, rfl, hq, hown, hb⟩ := hrel
          have hsz := hb.size
          by_cases hlt : q < l.length
          · obtain ⟨b, off, rfl, _, g0⟩ := (hr'.below' hb (Nat.le_refl _)).int hlt
            have e0 := HF.out _ (List.getElem_mem hlt)
            have HT := Lib.hid (negL_take l hlt)
            obtain ⟨x, hx⟩ : ∃ x, x = l[q] := ⟨_, rfl⟩
            rw [← hx] at g0 e0 HT
            clear hx
            have z0 : (0 : Int) ≤ (q : Int) := by omega
            have z1 : (q : Int) < (l.length : Int) := by omega
            have y1 := IntWalk.i64_in (-x) (by omega)
            go_wp2_with (at_builtin; go_must (refine app1 rfl (.tmp 49) (.tmp 55) 23 rfl 3 _ 1 8 E23 w2.heap.size _ _ _ _ rfl hown _ rfl ?_ ?_ ?_ ?_ ?_ ?_); rfl; rfl; rfl; omega; omega; intro v3 w3 hown3 hg3)
            have B3 := below_own hb hsz hown (Nat.le_refl _) hg3
            go_roundw
            case rel => exact ⟨q + 1, by go_num, by omega, by rw [HT.out, ints_snoc]; exact hown3, B3⟩
            case measure => simp [intOf]; omega
          · obtain rfl : q = l.length := by omega
            rw [List.take_length] at hown
            obtain ⟨A2, c2, rfl, _, _⟩ := own_cap hown
            have r2 := Rd.of_own hown
            clear hown
            have r2 : Rd wr wr.heap.size 1 A2 (negL l).length (ints (negL l)) := by rw [negL_len]; exact r2
            have hnl : (negL l).length = l.length := negL_len l
            obtain ⟨w3, hw3⟩ : ∃ z, z = wr := ⟨_, rfl⟩
            rw [← hw3] at hb r2 ⊢
            clear hw3 hsz
            have s3 := hb.size
            have HB3 := Lib.hid (HB2.out.trans (hb.mono (by have := HB2.out.size; omega)))
            have hr := (hr.below hb).more s3
            have hr' := (hr'.below hb).more s3
            clear hb
            rw [← hnl]
            have hnl2 : (negL l).length ≤ 1000 := by omega
            have HX := Lib.hid hnl
            clear hnl
            go_wp2_with fail
            refine (pWays _ _ _ c _ c2 g (negL l) w3 hs hnl2 w3.heap.size (Nat.le_refl _) hr r2).mono ?_
            rw [HN.out, HE.out]
            rintro e w4 ⟨rfl, hb4⟩
            have s4 := hb4.size
            have HB4 := Lib.hid (HB3.out.trans (hb4.mono (by have := HB3.out.size; omega)))
            have hr := (hr.below hb4).more s4
            have hr' := (hr'.below hb4).more s4
            have r2 := (r2.below hb4).more s4
            clear hb4
            go_wp2_with fail
            refine (known w4).mono ?_
            rintro e w5 ⟨rfl, hb5⟩
            have s5 := hb5.size
            have HB5 := Lib.hid (HB4.out.trans (hb5.mono (by have := HB4.out.size; omega)))
            have hr := (hr.below hb5).more s5
            have hr' := (hr'.below hb5).more s5
            have r2 := (r2.below hb5).more s5
            clear hb5
            go_wp2
            go_ret
            exact ⟨rfl, HB5.out⟩
      · have hd : (wishE g l != 0) = true := by simpa using hz
        clear hz
        generalize wishE g l = e0 at *
        generalize waysN g l = n at *
        go_wp2_with fail
        refine (known w2).mono ?_
        rintro e w3 ⟨rfl, hb3⟩
        have s3 := hb3.size
        have HB3 := Lib.hid (HB2.out.trans (hb3.mono (by have := HB2.out.size; omega)))
        have hr := (hr.below hb3).more s3
        have hr' := (hr'.below hb3).more s3
        clear hb3
        go_wp2
        go_ret
        exact ⟨rfl, HB3.out⟩
end Go.Proofs.Ytejjogpgolgdgaa
