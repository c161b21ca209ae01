/-
  THE WALK of the law VoltCalms. (Printed by gen_lcalms.py.)
-/
import Derived.Test.YtejjogpgolgdgaaOpen
import Derived.Test.YtejjogpgolgdgaaP1
namespace Go.Proofs.Ytejjogpgolgdgaa
open Go.RowKit Pulse

set_option maxRecDepth 100000 in
set_option maxHeartbeats 4000000 in
theorem lawCalms (A : Option Addr) (k c : Nat) (g : List (List Int)) (A' : Option Addr) (k' c' : Nat) (l : List Int) (w : World) (hk : k ≤ c) (hc : c ≤ maxLen) (hr : TRd w w.heap.size A k g) (hb : ∀ l ∈ g, l.length ≤ maxLen) (hk' : k' ≤ c') (hc' : c' ≤ maxLen) (hr' : Rd w w.heap.size 1 A' k' (ints l)) (hb' : Big l) :
    Calls Try.prog 7 #[.slice A k c, .slice A' k' c'] w fun e w' => e = .returned (.bool true) ∧ Below w.heap.size w w' := by
  have hm : k ≤ maxLen := Nat.le_trans hk hc
  have hm' : k' ≤ maxLen := Nat.le_trans hk' hc'
  obtain rfl := hr.len
  obtain rfl := hr'.int_len
  by_cases h : longT g = true
  · skip
    go_enter Try.func7, Try.ntmps7
    go_wp2_with fail
    refine (long_is true _ _ _ g h w hm _ hr hb).mono ?_
    rintro e w' ⟨rfl, rfl⟩
    go_wp2_with fail
    refine (known w).mono ?_
    rintro e w1 ⟨rfl, hb1⟩
    have s1 := hb1.size
    have HB1 := Lib.hid hb1
    clear hb1
    go_wp2
    go_ret
    exact ⟨rfl, HB1.out⟩
  · skip
    have h : longT g = false := by simpa using h
    by_cases h' : 40 < l.length
    · skip
      go_enter Try.func7, Try.ntmps7
      go_wp2_with fail
      refine (long_is false _ _ _ g h w hm _ hr hb).mono ?_
      rintro e w' ⟨rfl, rfl⟩
      go_wp2_with fail
      refine (many _ _ _ w hm').mono ?_
      rw [show decide (40 < l.length) = true from by simpa using h']
      rintro e w' ⟨rfl, rfl⟩
      go_wp2_with fail
      refine (known w).mono ?_
      rintro e w1 ⟨rfl, hb1⟩
      have s1 := hb1.size
      have HB1 := Lib.hid hb1
      clear hb1
      go_wp2
      go_ret
      exact ⟨rfl, HB1.out⟩
    · skip
      have HC := Lib.hid (fun h => calms (g := g) (l := l) h)
      have HNB := Lib.hid (near_bd g l)
      go_enter Try.func7, Try.ntmps7
      go_wp2_with fail
      refine (long_is false _ _ _ g h w hm _ hr hb).mono ?_
      rintro e w' ⟨rfl, rfl⟩
      go_wp2_with fail
      refine (many _ _ _ w hm').mono ?_
      rw [show decide (40 < l.length) = false from by simpa using h']
      rintro e w' ⟨rfl, rfl⟩
      have hs := longT_sm h
      have hl' : l.length ≤ 1000 := by omega
      clear h h'
      go_wp2_with fail
      refine (pCalmest _ _ _ c _ c' g l w hs hl' w.heap.size (Nat.le_refl _) hr hr').mono ?_
      rintro e w1 ⟨rfl, hb1⟩
      have s1 := hb1.size
      have HB1 := Lib.hid hb1
      have hr := (hr.below hb1).more s1
      have hr' := (hr'.below hb1).more s1
      clear hb1
      go_wp2_with fail
      refine (rCalmest _ _ _ c _ c' g l w1 hs hl' w1.heap.size (Nat.le_refl _) hr hr').mono ?_
      rintro e w2 ⟨rfl, hb2⟩
      have s2 := hb2.size
      have HB2 := Lib.hid (HB1.out.trans (hb2.mono (by have := HB1.out.size; omega)))
      have hr := (hr.below hb2).more s2
      have hr' := (hr'.below hb2).more s2
      clear hb2
      go_wp2_with fail
      refine (pNearest _ _ _ c _ c' g l w2 hs hl' w2.heap.size (Nat.le_refl _) hr hr').mono ?_
      rintro e w3 ⟨Ara, cra, rfl, ra, hb3⟩
      have s3 := hb3.size
      have HB3 := Lib.hid (HB2.out.trans (hb3.mono (by have := HB2.out.size; omega)))
      have hr := (hr.below hb3).more s3
      have hr' := (hr'.below hb3).more s3
      clear hb3
      go_wp2_with fail
      refine (rNearest _ _ _ c _ c' g l w3 hs hl' w3.heap.size (Nat.le_refl _) hr hr').mono ?_
      rintro e w4 ⟨Arb, crb, rfl, rb, hb4⟩
      have s4 := hb4.size
      have HB4 := Lib.hid (HB3.out.trans (hb4.mono (by have := HB3.out.size; omega)))
      have hr := (hr.below hb4).more s4
      have hr' := (hr'.below hb4).more s4
      have ra := (ra.below hb4).more s4
      clear hb4
      generalize calmN g l = x0 at *
      obtain ⟨n0, hn0⟩ : ∃ n, n = nearN g l := ⟨_, rfl⟩
      rw [← hn0] at HC HNB ⊢
      obtain ⟨b, hb0⟩ : ∃ b, b = voltsIs g l := ⟨_, rfl⟩
      rw [← hb0] at HC ⊢
      obtain ⟨e0, he0⟩ : ∃ e, e = wishE g l := ⟨_, rfl⟩
      rw [← he0] at HC ⊢
      clear hn0 hb0 he0
      go_wp2_with fail
      refine (rSameInts_is true _ _ _ _ _ _ (nearL g l) (nearL g l) (by simp) w4 HNB.out.2 HNB.out.2 w4.heap.size (Nat.le_refl _) ra rb).mono ?_
      rintro e w5 ⟨rfl, hb5⟩
      have s5 := hb5.size
      have HB5 := Lib.hid (HB4.out.trans (hb5.mono (by have := HB4.out.size; omega)))
      have hr := (hr.below hb5).more s5
      have hr' := (hr'.below hb5).more s5
      have ra := (ra.below hb5).more s5
      have rb := (rb.below hb5).more s5
      clear hb5
      by_cases hz : e0 = 0
      · subst hz
        have HD := Lib.hid (HC.out rfl)
        by_cases hn : n0 = 0
        · subst hn
          have hbt : b = true := by rw [HD.out]; rfl
          subst hbt
          go_wp2_with fail
          refine (known w5).mono ?_
          rintro e w6 ⟨rfl, hb6⟩
          have s6 := hb6.size
          have HB6 := Lib.hid (HB5.out.trans (hb6.mono (by have := HB5.out.size; omega)))
          have hr := (hr.below hb6).more s6
          have hr' := (hr'.below hb6).more s6
          have ra := (ra.below hb6).more s6
          have rb := (rb.below hb6).more s6
          clear hb6
          go_wp2
          go_ret
          exact ⟨rfl, HB6.out⟩
        · have hd : (n0 == 0) = false := by simpa using hn
          have hbf : b = false := by rw [HD.out]; simpa using hn
          subst hbf
          clear hn
          go_wp2_with fail
          refine (known w5).mono ?_
          rintro e w6 ⟨rfl, hb6⟩
          have s6 := hb6.size
          have HB6 := Lib.hid (HB5.out.trans (hb6.mono (by have := HB5.out.size; omega)))
          have hr := (hr.below hb6).more s6
          have hr' := (hr'.below hb6).more s6
          have ra := (ra.below hb6).more s6
          have rb := (rb.below hb6).more s6
          clear hb6
          go_wp2
          go_ret
          exact ⟨rfl, HB6.out⟩
      · have hd : (e0 != 0) = true := by simpa using hz
        clear hz
        go_wp2_with fail
        refine (known w5).mono ?_
        rintro e w6 ⟨rfl, hb6⟩
        have s6 := hb6.size
        have HB6 := Lib.hid (HB5.out.trans (hb6.mono (by have := HB5.out.size; omega)))
        have hr := (hr.below hb6).more s6
        have hr' := (hr'.below hb6).more s6
        have ra := (ra.below hb6).more s6
        have rb := (rb.below hb6).more s6
        clear hb6
        go_wp2
        go_ret
        exact ⟨rfl, HB6.out⟩
end Go.Proofs.Ytejjogpgolgdgaa
