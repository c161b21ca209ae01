/-
  THE WALK of the law VoltVolts. (Printed by gen_lvolts.py.)
-/
import Derived.Test.YtejjogpgolgdgaaOpen
import Derived.Test.YtejjogpgolgdgaaW28
namespace Go.Proofs.Ytejjogpgolgdgaa
open Go.RowKit Pulse

theorem voltsIs_ways {g : List (List Int)} {l : List Int} : voltsIs g l = decide (0 < waysN g l) := by
  unfold voltsIs waysN
  by_cases h : wishE g l = 0
  · rw [if_pos h, h]; simp
  · rw [if_neg h, decide_eq_false h]; simp
theorem waysN_bounds (g : List (List Int)) (l : List Int) : 0 ≤ waysN g l ∧ waysN g l ≤ 343 := by
  unfold waysN
  split
  · have := makeL_len (l := l) (wishE_ok ‹_›).1; omega
  · omega
theorem voltsL_len (g : List (List Int)) (l : List Int) : (voltsL g l).length ≤ 3 := by
  unfold voltsL
  split
  · rename_i h
    simp only [voltsIs, Bool.and_eq_true, decide_eq_true_eq] at h
    rw [headD_get h.2]
    have := (mem_makeL.1 (List.getElem_mem h.2)).1.1
    have := (vldG_ok (wishE_ok h.1).1).2.2.2.1
    omega
  · simp
theorem voltsL_check {g : List (List Int)} {l : List Int} (h : voltsIs g l = true) : checkE g l (voltsL g l) = 0 := by
  have h0 := h
  simp only [voltsIs, Bool.and_eq_true, decide_eq_true_eq] at h
  obtain ⟨h1, h2⟩ := h
  have hm : voltsL g l ∈ makeL g l := by rw [voltsL, if_pos h0, headD_get h2]; exact List.getElem_mem h2
  obtain ⟨⟨e1, e2⟩, e3⟩ := mem_makeL.1 hm
  rw [checkE, if_pos h1, if_pos, if_pos e3]
  simp only [vOk, withinB, isIn, Bool.and_eq_true, decide_eq_true_eq, List.all_eq_true]
  exact ⟨by omega, fun a ha => e2 a ha⟩

set_option maxRecDepth 100000 in
set_option maxHeartbeats 4000000 in
theorem lawVolts (A : Option Addr) (k c : Nat) (g : List (List Int)) (A' : Option Addr) (k' c' : Nat) (l : List Int) (A'' : Option Addr) (k'' c'' : Nat) (v : List Int) (w : World) (hk : k ≤ c) (hc : c ≤ maxLen) (hr : TRd w w.heap.size A k g) (hb : ∀ l ∈ g, l.length ≤ maxLen) (hk' : k' ≤ c') (hc' : c' ≤ maxLen) (hr' : Rd w w.heap.size 1 A' k' (ints l)) (hb' : Big l) (hk'' : k'' ≤ c'') (hc'' : c'' ≤ maxLen) (hr'' : Rd w w.heap.size 1 A'' k'' (ints v)) (hb'' : Big v) :
    Calls Try.prog 11 #[.slice A k c, .slice A' k' c', .slice A'' k'' c''] w fun e w' => e = .returned (.bool true) ∧ Below w.heap.size w w' := by
  have hm : k ≤ maxLen := Nat.le_trans hk hc
  have hm' : k' ≤ maxLen := Nat.le_trans hk' hc'
  have hm'' : k'' ≤ maxLen := Nat.le_trans hk'' hc''
  obtain rfl := hr.len
  obtain rfl := hr'.int_len
  obtain rfl := hr''.int_len
  by_cases h : longT g = true
  · skip
    go_enter Try.func11, Try.ntmps11
    go_wp2_with fail
    refine (long_is true _ _ _ g h w hm _ hr hb).mono ?_
    rintro e w' ⟨rfl, rfl⟩
    go_wp2_with fail
    refine (known w).mono ?_
    rintro e w1 ⟨rfl, hb1⟩
    have s1 := hb1.size
    have HB1 := Lib.hid hb1
    clear hb1
    go_wp2
    go_ret
    exact ⟨rfl, HB1.out⟩
  · skip
    have h : longT g = false := by simpa using h
    by_cases h' : 40 < l.length
    · skip
      go_enter Try.func11, Try.ntmps11
      go_wp2_with fail
      refine (long_is false _ _ _ g h w hm _ hr hb).mono ?_
      rintro e w' ⟨rfl, rfl⟩
      go_wp2_with fail
      refine (many _ _ _ w hm').mono ?_
      rw [show decide (40 < l.length) = true from by simpa using h']
      rintro e w' ⟨rfl, rfl⟩
      go_wp2_with fail
      refine (known w).mono ?_
      rintro e w1 ⟨rfl, hb1⟩
      have s1 := hb1.size
      have HB1 := Lib.hid hb1
      clear hb1
      go_wp2
      go_ret
      exact ⟨rfl, HB1.out⟩
    · skip
      by_cases h'' : 40 < v.length
      · skip
        go_enter Try.func11, Try.ntmps11
        go_wp2_with fail
        refine (long_is false _ _ _ g h w hm _ hr hb).mono ?_
        rintro e w' ⟨rfl, rfl⟩
        go_wp2_with fail
        refine (many _ _ _ w hm').mono ?_
        rw [show decide (40 < l.length) = false from by simpa using h']
        rintro e w' ⟨rfl, rfl⟩
        go_wp2_with fail
        refine (many _ _ _ w hm'').mono ?_
        rw [show decide (40 < v.length) = true from by simpa using h'']
        rintro e w' ⟨rfl, rfl⟩
        go_wp2_with fail
        refine (known w).mono ?_
        rintro e w1 ⟨rfl, hb1⟩
        have s1 := hb1.size
        have HB1 := Lib.hid hb1
        clear hb1
        go_wp2
        go_ret
        exact ⟨rfl, HB1.out⟩
      · skip
        have hwb := waysN_bounds g l
        have hvl := voltsL_len g l
        have HVI := Lib.hid (voltsIs_ways (g := g) (l := l))
        have HVC := Lib.hid (fun h => voltsL_check (g := g) (l := l) h)
        go_enter Try.func11, Try.ntmps11
        go_wp2_with fail
        refine (long_is false _ _ _ g h w hm _ hr hb).mono ?_
        rintro e w' ⟨rfl, rfl⟩
        go_wp2_with fail
        refine (many _ _ _ w hm').mono ?_
        rw [show decide (40 < l.length) = false from by simpa using h']
        rintro e w' ⟨rfl, rfl⟩
        go_wp2_with fail
        refine (many _ _ _ w hm'').mono ?_
        rw [show decide (40 < v.length) = false from by simpa using h'']
        rintro e w' ⟨rfl, rfl⟩
        have hs := longT_sm h
        have hl' : l.length ≤ 1000 := by omega
        have hl'' : v.length ≤ 1000 := by omega
        clear h h' h''
        go_wp2_with fail
        refine (pCheckVolts _ _ _ _ c _ c' _ c'' g l v w hs hl' hl'' w.heap.size (Nat.le_refl _) hr hr' hr'').mono ?_
        rintro e w1 ⟨rfl, hb1⟩
        have s1 := hb1.size
        have HB1 := Lib.hid hb1
        have hr := (hr.below hb1).more s1
        have hr' := (hr'.below hb1).more s1
        have hr'' := (hr''.below hb1).more s1
        clear hb1
        go_wp2_with fail
        refine (rCheckVolts _ _ _ _ c _ c' _ c'' g l v w1 hs hl' hl'' w1.heap.size (Nat.le_refl _) hr hr' hr'').mono ?_
        rintro e w2 ⟨rfl, hb2⟩
        have s2 := hb2.size
        have HB2 := Lib.hid (HB1.out.trans (hb2.mono (by have := HB1.out.size; omega)))
        have hr := (hr.below hb2).more s2
        have hr' := (hr'.below hb2).more s2
        have hr'' := (hr''.below hb2).more s2
        clear hb2
        go_wp2_with fail
        refine (pVolts _ _ _ c _ c' g l w2 hs hl' w2.heap.size (Nat.le_refl _) hr hr').mono ?_
        rintro e w3 ⟨A3, c3, rfl, r3, hb3⟩
        have s3 := hb3.size
        have HB3 := Lib.hid (HB2.out.trans (hb3.mono (by have := HB2.out.size; omega)))
        have hr := (hr.below hb3).more s3
        have hr' := (hr'.below hb3).more s3
        have hr'' := (hr''.below hb3).more s3
        clear hb3
        go_wp2_with fail
        refine (rWays _ _ _ c _ c' g l w3 hs hl' w3.heap.size (Nat.le_refl _) hr hr').mono ?_
        rintro e w4 ⟨rfl, hb4⟩
        have s4 := hb4.size
        have HB4 := Lib.hid (HB3.out.trans (hb4.mono (by have := HB3.out.size; omega)))
        have hr := (hr.below hb4).more s4
        have hr' := (hr'.below hb4).more s4
        have hr'' := (hr''.below hb4).more s4
        have r3 := (r3.below hb4).more s4
        clear hb4
        generalize wishE g l = e0 at *
        obtain ⟨n, hn⟩ : ∃ n, n = waysN g l := ⟨_, rfl⟩
        rw [← hn] at HVI hwb ⊢
        obtain ⟨b, hb0⟩ : ∃ b, b = voltsIs g l := ⟨_, rfl⟩
        rw [← hb0] at HVI HVC ⊢
        cases b with
        | true =>
          have z1 : 0 < n := by have := HVI.out; simpa using this
          have HC := Lib.hid (HVC.out rfl)
          clear hb0 hn
          go_wp2_with fail
          refine (rCheckVolts _ _ _ _ c _ c' _ c3 g l (voltsL g l) w4 hs hl' (by omega) w4.heap.size (Nat.le_refl _) hr hr' r3).mono ?_
          rw [HC.out]
          rintro e w5 ⟨rfl, hb5⟩
          have s5 := hb5.size
          have HB5 := Lib.hid (HB4.out.trans (hb5.mono (by have := HB4.out.size; omega)))
          have hr := (hr.below hb5).more s5
          have hr' := (hr'.below hb5).more s5
          have hr'' := (hr''.below hb5).more s5
          have r3 := (r3.below hb5).more s5
          clear hb5
          go_wp2_with fail
          refine (known w5).mono ?_
          rintro e w6 ⟨rfl, hb6⟩
          have s6 := hb6.size
          have HB6 := Lib.hid (HB5.out.trans (hb6.mono (by have := HB5.out.size; omega)))
          have hr := (hr.below hb6).more s6
          have hr' := (hr'.below hb6).more s6
          have hr'' := (hr''.below hb6).more s6
          have r3 := (r3.below hb6).more s6
          clear hb6
          go_wp2
          go_ret
          exact ⟨rfl, HB6.out⟩
        | false =>
          have z1 : ¬ 0 < n := by have := HVI.out; simpa using this
          obtain rfl : n = 0 := by omega
          have HC := Lib.hid (show (voltsL g l).length = 0 by rw [voltsL, ← hb0]; rfl)
          rw [HC.out]
          clear hb0 hn
          go_wp2_with fail
          refine (known w4).mono ?_
          rintro e w5 ⟨rfl, hb5⟩
          have s5 := hb5.size
          have HB5 := Lib.hid (HB4.out.trans (hb5.mono (by have := HB4.out.size; omega)))
          have hr := (hr.below hb5).more s5
          have hr' := (hr'.below hb5).more s5
          have hr'' := (hr''.below hb5).more s5
          have r3 := (r3.below hb5).more s5
          clear hb5
          go_wp2
          go_ret
          exact ⟨rfl, HB5.out⟩
end Go.Proofs.Ytejjogpgolgdgaa
