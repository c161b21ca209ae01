/-
  THE WALK of the law VoltFields. (Printed by gen_lfields.py.)
-/
import Derived.Test.YtejjogpgolgdgaaOpen
import Derived.Test.YtejjogpgolgdgaaW28
namespace Go.Proofs.Ytejjogpgolgdgaa
open Go.RowKit Pulse

theorem fieldE_ok {g : List (List Int)} {v : List Int} (h : fieldE g v = 0) : vldG g = 0 ∧ v.length = wid g ∧ Forces 3 v := by
  by_cases hv : vldG g = 0
  · rw [fieldE, if_pos hv] at h
    by_cases ho : vOk g v = true
    · exact ⟨hv, vOk_ok ho⟩
    · rw [if_neg ho] at h; omega
  · rw [fieldE, if_neg hv] at h
    exact absurd h hv
theorem fieldR_len (g : List (List Int)) (v : List Int) : (fieldR g v).length ≤ 3 := by
  by_cases h : fieldE g v = 0
  · rw [fieldR, if_pos h, fieldL_len]
    exact (vldG_ok (fieldE_ok h).1).2.1
  · rw [fieldR, if_neg h]; simp

set_option maxRecDepth 100000 in
set_option maxHeartbeats 4000000 in
theorem lawFields (A : Option Addr) (k c : Nat) (g : List (List Int)) (A' : Option Addr) (k' c' : Nat) (v : List Int) (w : World) (hk : k ≤ c) (hc : c ≤ maxLen) (hr : TRd w w.heap.size A k g) (hb : ∀ l ∈ g, l.length ≤ maxLen) (hk' : k' ≤ c') (hc' : c' ≤ maxLen) (hr' : Rd w w.heap.size 1 A' k' (ints v)) (hb' : Big v) :
    Calls Try.prog 5 #[.slice A k c, .slice A' k' c'] w fun e w' => e = .returned (.bool true) ∧ Below w.heap.size w w' := by
  have hm : k ≤ maxLen := Nat.le_trans hk hc
  have hm' : k' ≤ maxLen := Nat.le_trans hk' hc'
  obtain rfl := hr.len
  obtain rfl := hr'.int_len
  by_cases h : longT g = true
  · skip
    go_enter Try.func5, Try.ntmps5
    go_wp2_with fail
    refine (long_is true _ _ _ g h w hm _ hr hb).mono ?_
    rintro e w' ⟨rfl, rfl⟩
    go_wp2_with fail
    refine (known w).mono ?_
    rintro e w1 ⟨rfl, hb1⟩
    have s1 := hb1.size
    have HB1 := Lib.hid hb1
    clear hb1
    go_wp2
    go_ret
    exact ⟨rfl, HB1.out⟩
  · skip
    have h : longT g = false := by simpa using h
    by_cases h' : 40 < v.length
    · skip
      go_enter Try.func5, Try.ntmps5
      go_wp2_with fail
      refine (long_is false _ _ _ g h w hm _ hr hb).mono ?_
      rintro e w' ⟨rfl, rfl⟩
      go_wp2_with fail
      refine (many _ _ _ w hm').mono ?_
      rw [show decide (40 < v.length) = true from by simpa using h']
      rintro e w' ⟨rfl, rfl⟩
      go_wp2_with fail
      refine (known w).mono ?_
      rintro e w1 ⟨rfl, hb1⟩
      have s1 := hb1.size
      have HB1 := Lib.hid hb1
      clear hb1
      go_wp2
      go_ret
      exact ⟨rfl, HB1.out⟩
    · skip
      have hfl := fieldR_len g v
      go_enter Try.func5, Try.ntmps5
      go_wp2_with fail
      refine (long_is false _ _ _ g h w hm _ hr hb).mono ?_
      rintro e w' ⟨rfl, rfl⟩
      go_wp2_with fail
      refine (many _ _ _ w hm').mono ?_
      rw [show decide (40 < v.length) = false from by simpa using h']
      rintro e w' ⟨rfl, rfl⟩
      have hs := longT_sm h
      have hl' : v.length ≤ 1000 := by omega
      clear h h'
      go_wp2_with fail
      refine (pField _ _ _ c _ c' g v w hs hl' w.heap.size (Nat.le_refl _) hr hr').mono ?_
      rintro e w1 ⟨v1, rfl, hown1, hb1⟩
      have s1 := hb1.size
      have HB1 := Lib.hid hb1
      have hr := (hr.below hb1).more s1
      have hr' := (hr'.below hb1).more s1
      obtain ⟨A1, c1, rfl, _, _⟩ := own_cap hown1
      have r1 := Rd.of_own hown1
      clear hb1 hown1
      go_wp2_with fail
      refine (rField _ _ _ c _ c' g v w1 hs hl' w1.heap.size (Nat.le_refl _) hr hr').mono ?_
      rintro e w2 ⟨v2, rfl, hown2, hb2⟩
      have s2 := hb2.size
      have HB2 := Lib.hid (HB1.out.trans (hb2.mono (by have := HB1.out.size; omega)))
      have hr := (hr.below hb2).more s2
      have hr' := (hr'.below hb2).more s2
      have r1 := (r1.below hb2).more s2
      obtain ⟨A2, c2, rfl, _, _⟩ := own_cap hown2
      have r2 := Rd.of_own hown2
      clear hb2 hown2
      generalize fieldE g v = e0 at *
      go_wp2_with fail
      refine (pValidate _ _ _ g w2 hs w2.heap.size (Nat.le_refl _) hr).mono ?_
      rintro e w3 ⟨rfl, hb3⟩
      have s3 := hb3.size
      have HB3 := Lib.hid (HB2.out.trans (hb3.mono (by have := HB2.out.size; omega)))
      have hr := (hr.below hb3).more s3
      have hr' := (hr'.below hb3).more s3
      have r1 := (r1.below hb3).more s3
      have r2 := (r2.below hb3).more s3
      clear hb3
      go_wp2_with fail
      refine (rValidate _ _ _ g w3 hs w3.heap.size (Nat.le_refl _) hr).mono ?_
      rintro e w4 ⟨rfl, hb4⟩
      have s4 := hb4.size
      have HB4 := Lib.hid (HB3.out.trans (hb4.mono (by have := HB3.out.size; omega)))
      have hr := (hr.below hb4).more s4
      have hr' := (hr'.below hb4).more s4
      have r1 := (r1.below hb4).more s4
      have r2 := (r2.below hb4).more s4
      clear hb4
      generalize vldG g = e1 at *
      go_wp2_with fail
      refine (rSameInts_is true _ _ _ _ _ _ (fieldR g v) (fieldR g v) (by simp) w4 (by omega) (by omega) w4.heap.size (Nat.le_refl _) r1 r2).mono ?_
      rintro e w5 ⟨rfl, hb5⟩
      have s5 := hb5.size
      have HB5 := Lib.hid (HB4.out.trans (hb5.mono (by have := HB4.out.size; omega)))
      have hr := (hr.below hb5).more s5
      have hr' := (hr'.below hb5).more s5
      have r1 := (r1.below hb5).more s5
      have r2 := (r2.below hb5).more s5
      clear hb5
      go_wp2_with fail
      refine (known w5).mono ?_
      rintro e w6 ⟨rfl, hb6⟩
      have s6 := hb6.size
      have HB6 := Lib.hid (HB5.out.trans (hb6.mono (by have := HB5.out.size; omega)))
      have hr := (hr.below hb6).more s6
      have hr' := (hr'.below hb6).more s6
      have r1 := (r1.below hb6).more s6
      have r2 := (r2.below hb6).more s6
      clear hb6
      go_wp2
      go_ret
      exact ⟨rfl, HB6.out⟩
end Go.Proofs.Ytejjogpgolgdgaa
