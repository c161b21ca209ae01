/-
  THE WALK of the law VoltSmooth. (Printed by gen_lsmooth.py.)
-/
import Derived.Test.YtejjogpgolgdgaaLCourses
import Derived.Test.YtejjogpgolgdgaaW36
import Derived.Test.YtejjogpgolgdgaaW37
namespace Go.Proofs.Ytejjogpgolgdgaa
open Go.RowKit Pulse

theorem smoothIs_row {g row : List (List Int)} (h : smoothIs g row = true) : rowE g row = 0 := by simp only [smoothIs, Bool.and_eq_true, decide_eq_true_eq] at h; exact h.1
theorem isC_sm {g row crs : List (List Int)} (hr : rowE g row = 0) (h : IsC g row crs) : Sm crs := by
  obtain ⟨hv, h1, h5, _⟩ := rowE_ok hr
  have hw := (vldG_ok hv).2.2.2.1
  have hl := h.len
  refine ⟨by omega, fun l hl' => ?_⟩
  obtain ⟨i, hi, rfl⟩ := List.getElem_of_mem hl'
  have := (makeL_rows ((isC_get hl).1 h i (by omega) hi)).1
  omega

set_option maxRecDepth 100000 in
set_option maxHeartbeats 4000000 in
theorem lawSmooth (A : Option Addr) (k c : Nat) (g : List (List Int)) (A' : Option Addr) (k' c' : Nat) (row : List (List Int)) (w : World) (hk : k ≤ c) (hc : c ≤ maxLen) (hr : TRd w w.heap.size A k g) (hb : ∀ l ∈ g, l.length ≤ maxLen) (hk' : k' ≤ c') (hc' : c' ≤ maxLen) (hr' : TRd w w.heap.size A' k' row) (hb' : ∀ l ∈ row, l.length ≤ maxLen) :
    Calls Try.prog 8 #[.slice A k c, .slice A' k' c'] w fun e w' => e = .returned (.bool true) ∧ Below w.heap.size w w' := by
  have hm : k ≤ maxLen := Nat.le_trans hk hc
  have hm' : k' ≤ maxLen := Nat.le_trans hk' hc'
  obtain rfl := hr.len
  obtain rfl := hr'.len
  by_cases h : longT g = true
  · skip
    go_enter Try.func8, Try.ntmps8
    go_wp2_with fail
    refine (long_is true _ _ _ g h w hm _ hr hb).mono ?_
    rintro e w' ⟨rfl, rfl⟩
    go_wp2_with fail
    refine (known w).mono ?_
    rintro e w1 ⟨rfl, hb1⟩
    have s1 := hb1.size
    have HB1 := Lib.hid hb1
    clear hb1
    go_wp2
    go_ret
    exact ⟨rfl, HB1.out⟩
  · skip
    have h : longT g = false := by simpa using h
    by_cases h' : longT row = true
    · skip
      go_enter Try.func8, Try.ntmps8
      go_wp2_with fail
      refine (long_is false _ _ _ g h w hm _ hr hb).mono ?_
      rintro e w' ⟨rfl, rfl⟩
      go_wp2_with fail
      refine (long_is true _ _ _ row h' w hm' _ hr' hb').mono ?_
      rintro e w' ⟨rfl, rfl⟩
      go_wp2_with fail
      refine (known w).mono ?_
      rintro e w1 ⟨rfl, hb1⟩
      have s1 := hb1.size
      have HB1 := Lib.hid hb1
      clear hb1
      go_wp2
      go_ret
      exact ⟨rfl, HB1.out⟩
    · skip
      have h' : longT row = false := by simpa using h'
      go_enter Try.func8, Try.ntmps8
      go_wp2_with fail
      refine (long_is false _ _ _ g h w hm _ hr hb).mono ?_
      rintro e w' ⟨rfl, rfl⟩
      go_wp2_with fail
      refine (long_is false _ _ _ row h' w hm' _ hr' hb').mono ?_
      rintro e w' ⟨rfl, rfl⟩
      have hs := longT_sm h
      have hs' := longT_sm h'
      clear h h'
      have hnb := smoothN_bd g row
      go_wp2_with fail
      refine (pSmooth _ _ _ c _ c' g row w hs hs' w.heap.size (Nat.le_refl _) hr hr').mono ?_
      rintro e w1 ⟨rfl, hb1⟩
      have s1 := hb1.size
      have HB1 := Lib.hid hb1
      have hr := (hr.below hb1).more s1
      have hr' := (hr'.below hb1).more s1
      clear hb1
      go_wp2_with fail
      refine (rSmooth _ _ _ c _ c' g row w1 hs hs' w1.heap.size (Nat.le_refl _) hr hr').mono ?_
      rintro e w2 ⟨rfl, hb2⟩
      have s2 := hb2.size
      have HB2 := Lib.hid (HB1.out.trans (hb2.mono (by have := HB1.out.size; omega)))
      have hr := (hr.below hb2).more s2
      have hr' := (hr'.below hb2).more s2
      clear hb2
      go_wp2_with fail
      refine (pCourse _ _ _ c _ c' g row w2 hs hs' w2.heap.size (Nat.le_refl _) hr hr').mono ?_
      rintro e w3 ⟨crs, A3, c3, rfl, hyes, hno, r3, hb3⟩
      have s3 := hb3.size
      have HB3 := Lib.hid (HB2.out.trans (hb3.mono (by have := HB2.out.size; omega)))
      have hr := (hr.below hb3).more s3
      have hr' := (hr'.below hb3).more s3
      clear hb3
      cases his : smoothIs g row with
      | true =>
        obtain ⟨k1, k2⟩ := hyes his
        have hz := smoothIs_row his
        have HRE := Lib.hid hz
        have HCE := Lib.hid (courseE_of hz k1)
        have HCN := Lib.hid (show courseN g row crs = smoothN g row by rw [courseN, if_pos (courseE_of hz k1), k2])
        have hsc := isC_sm hz k1
        rw [hz]
        clear k1 k2 hz hyes hno his
        generalize smoothN g row = a at *
        go_wp2_with fail
        refine (rCheckCourse _ _ _ _ c _ c' _ c3 g row crs w3 hs hs' hsc w3.heap.size (Nat.le_refl _) hr hr' r3).mono ?_
        rw [HCE.out, HCN.out]
        rintro e w4 ⟨rfl, hb4⟩
        have s4 := hb4.size
        have HB4 := Lib.hid (HB3.out.trans (hb4.mono (by have := HB3.out.size; omega)))
        have hr := (hr.below hb4).more s4
        have hr' := (hr'.below hb4).more s4
        have r3 := (r3.below hb4).more s4
        clear hb4
        go_wp2_with fail
        refine (known w4).mono ?_
        rintro e w5 ⟨rfl, hb5⟩
        have s5 := hb5.size
        have HB5 := Lib.hid (HB4.out.trans (hb5.mono (by have := HB4.out.size; omega)))
        have hr := (hr.below hb5).more s5
        have hr' := (hr'.below hb5).more s5
        have r3 := (r3.below hb5).more s5
        clear hb5
        go_wp2
        go_ret
        exact ⟨rfl, HB5.out⟩
      | false =>
        obtain rfl := hno his
        have HN := Lib.hid (smoothN_else his)
        rw [HN.out]
        clear hyes hno his
        generalize rowE g row = e0 at *
        go_wp2_with fail
        refine (known w3).mono ?_
        rintro e w4 ⟨rfl, hb4⟩
        have s4 := hb4.size
        have HB4 := Lib.hid (HB3.out.trans (hb4.mono (by have := HB3.out.size; omega)))
        have hr := (hr.below hb4).more s4
        have hr' := (hr'.below hb4).more s4
        have r3 := (r3.below hb4).more s4
        clear hb4
        go_wp2
        go_ret
        exact ⟨rfl, HB4.out⟩
end Go.Proofs.Ytejjogpgolgdgaa
