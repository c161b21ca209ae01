/-
  PLAIN LAW of courses that are right; THE WALK of the law VoltCourses. (Printed by gen_lcourses.py.)
-/
import Derived.Test.YtejjogpgolgdgaaOpen
import Derived.Test.YtejjogpgolgdgaaP1
import Derived.Test.YtejjogpgolgdgaaW35
namespace Go.Proofs.Ytejjogpgolgdgaa
open Go.RowKit Pulse

theorem courseE_ok {g row crs : List (List Int)} (h : courseE g row crs = 0) : rowE g row = 0 ∧ crs.length = row.length ∧ (∀ v ∈ crs, vOk g v = true) ∧ crs.map (fieldL g) = row := by
  unfold courseE at h
  split at h
  · split at h
    · split at h
      · rename_i h1 h2 h3
        exact ⟨h1, h2.1, fun v hv => List.all_eq_true.1 h2.2 v hv, h3⟩
      · omega
    · omega
  · exact absurd h ‹_›
theorem courseE_isC {g row crs : List (List Int)} (h : courseE g row crs = 0) : IsC g row crs := by
  obtain ⟨h1, h2, h3, h4⟩ := courseE_ok h
  rw [isC_get h2]
  intro i hi hi'
  refine mem_makeL.2 ⟨vOk_ok (h3 _ (List.getElem_mem hi')), ?_⟩
  subst h4
  simp
theorem courseE_of {g row crs : List (List Int)} (h : rowE g row = 0) (hc : IsC g row crs) : courseE g row crs = 0 := by
  have hl := hc.len
  have hg := (isC_get hl).1 hc
  rw [courseE, if_pos h, if_pos, if_pos]
  · refine List.ext_getElem (by simpa using hl) fun i h1 h2 => ?_
    rw [List.getElem_map]
    exact (mem_makeL.1 (hg i h2 (by simpa using h1))).2
  · refine ⟨hl, List.all_eq_true.2 fun v hv => ?_⟩
    obtain ⟨i, hi, rfl⟩ := List.getElem_of_mem hv
    have := (mem_makeL.1 (hg i (by omega) hi)).1
    exact vOk_of this.1 this.2
theorem courses {g row crs : List (List Int)} (h : courseE g row crs = 0) : rowE g row = 0 ∧ smoothIs g row = true ∧ smoothN g row ≤ courseN g row crs := by
  have hc := courseE_isC h
  have hr := (courseE_ok h).1
  obtain ⟨a1, a2⟩ := smooth_law hr
  have hs := a1.2 ⟨crs, hc⟩
  exact ⟨hr, hs, by rw [courseN, if_pos h]; exact (a2 hs).2 crs hc⟩
theorem courseN_bd (g row crs : List (List Int)) : 0 ≤ courseN g row crs ∧ courseN g row crs ≤ 6 := by
  unfold courseN
  split
  · rename_i h
    exact ⟨jumpC_nn _, jumpC_le (fun v hv => (vOk_ok ((courseE_ok h).2.2.1 v hv)).2)⟩
  · omega

set_option maxRecDepth 100000 in
set_option maxHeartbeats 4000000 in
theorem lawCourses (A : Option Addr) (k c : Nat) (g : List (List Int)) (A' : Option Addr) (k' c' : Nat) (row : List (List Int)) (A'' : Option Addr) (k'' c'' : Nat) (crs : List (List Int)) (w : World) (hk : k ≤ c) (hc : c ≤ maxLen) (hr : TRd w w.heap.size A k g) (hb : ∀ l ∈ g, l.length ≤ maxLen) (hk' : k' ≤ c') (hc' : c' ≤ maxLen) (hr' : TRd w w.heap.size A' k' row) (hb' : ∀ l ∈ row, l.length ≤ maxLen) (hk'' : k'' ≤ c'') (hc'' : c'' ≤ maxLen) (hr'' : TRd w w.heap.size A'' k'' crs) (hb'' : ∀ l ∈ crs, l.length ≤ maxLen) :
    Calls Try.prog 9 #[.slice A k c, .slice A' k' c', .slice A'' k'' c''] w fun e w' => e = .returned (.bool true) ∧ Below w.heap.size w w' := by
  have hm : k ≤ maxLen := Nat.le_trans hk hc
  have hm' : k' ≤ maxLen := Nat.le_trans hk' hc'
  have hm'' : k'' ≤ maxLen := Nat.le_trans hk'' hc''
  obtain rfl := hr.len
  obtain rfl := hr'.len
  obtain rfl := hr''.len
  by_cases h : longT g = true
  · skip
    go_enter Try.func9, Try.ntmps9
    go_wp2_with fail
    refine (long_is true _ _ _ g h w hm _ hr hb).mono ?_
    rintro e w' ⟨rfl, rfl⟩
    go_wp2_with fail
    refine (known w).mono ?_
    rintro e w1 ⟨rfl, hb1⟩
    have s1 := hb1.size
    have HB1 := Lib.hid hb1
    clear hb1
    go_wp2
    go_ret
    exact ⟨rfl, HB1.out⟩
  · skip
    have h : longT g = false := by simpa using h
    by_cases h' : longT row = true
    · skip
      go_enter Try.func9, Try.ntmps9
      go_wp2_with fail
      refine (long_is false _ _ _ g h w hm _ hr hb).mono ?_
      rintro e w' ⟨rfl, rfl⟩
      go_wp2_with fail
      refine (long_is true _ _ _ row h' w hm' _ hr' hb').mono ?_
      rintro e w' ⟨rfl, rfl⟩
      go_wp2_with fail
      refine (known w).mono ?_
      rintro e w1 ⟨rfl, hb1⟩
      have s1 := hb1.size
      have HB1 := Lib.hid hb1
      clear hb1
      go_wp2
      go_ret
      exact ⟨rfl, HB1.out⟩
    · skip
      have h' : longT row = false := by simpa using h'
      by_cases h'' : longT crs = true
      · skip
        go_enter Try.func9, Try.ntmps9
        go_wp2_with fail
        refine (long_is false _ _ _ g h w hm _ hr hb).mono ?_
        rintro e w' ⟨rfl, rfl⟩
        go_wp2_with fail
        refine (long_is false _ _ _ row h' w hm' _ hr' hb').mono ?_
        rintro e w' ⟨rfl, rfl⟩
        go_wp2_with fail
        refine (long_is true _ _ _ crs h'' w hm'' _ hr'' hb'').mono ?_
        rintro e w' ⟨rfl, rfl⟩
        go_wp2_with fail
        refine (known w).mono ?_
        rintro e w1 ⟨rfl, hb1⟩
        have s1 := hb1.size
        have HB1 := Lib.hid hb1
        clear hb1
        go_wp2
        go_ret
        exact ⟨rfl, HB1.out⟩
      · skip
        have h'' : longT crs = false := by simpa using h''
        go_enter Try.func9, Try.ntmps9
        go_wp2_with fail
        refine (long_is false _ _ _ g h w hm _ hr hb).mono ?_
        rintro e w' ⟨rfl, rfl⟩
        go_wp2_with fail
        refine (long_is false _ _ _ row h' w hm' _ hr' hb').mono ?_
        rintro e w' ⟨rfl, rfl⟩
        go_wp2_with fail
        refine (long_is false _ _ _ crs h'' w hm'' _ hr'' hb'').mono ?_
        rintro e w' ⟨rfl, rfl⟩
        have hs := longT_sm h
        have hs' := longT_sm h'
        have hs'' := longT_sm h''
        clear h h' h''
        have hnb := courseN_bd g row crs
        have HC := Lib.hid (fun h => courses (g := g) (row := row) (crs := crs) h)
        go_wp2_with fail
        refine (pCheckCourse _ _ _ _ c _ c' _ c'' g row crs w hs hs' hs'' w.heap.size (Nat.le_refl _) hr hr' hr'').mono ?_
        rintro e w1 ⟨rfl, hb1⟩
        have s1 := hb1.size
        have HB1 := Lib.hid hb1
        have hr := (hr.below hb1).more s1
        have hr' := (hr'.below hb1).more s1
        have hr'' := (hr''.below hb1).more s1
        clear hb1
        go_wp2_with fail
        refine (rCheckCourse _ _ _ _ c _ c' _ c'' g row crs w1 hs hs' hs'' w1.heap.size (Nat.le_refl _) hr hr' hr'').mono ?_
        rintro e w2 ⟨rfl, hb2⟩
        have s2 := hb2.size
        have HB2 := Lib.hid (HB1.out.trans (hb2.mono (by have := HB1.out.size; omega)))
        have hr := (hr.below hb2).more s2
        have hr' := (hr'.below hb2).more s2
        have hr'' := (hr''.below hb2).more s2
        clear hb2
        by_cases hz : courseE g row crs = 0
        · obtain ⟨h1, h2, h3⟩ := HC.out hz
          rw [hz]
          have HR := Lib.hid h1
          have HS := Lib.hid h2
          clear hz h1 h2 HC
          generalize courseN g row crs = m at *
          go_wp2_with fail
          refine (pSmooth _ _ _ c _ c' g row w2 hs hs' w2.heap.size (Nat.le_refl _) hr hr').mono ?_
          rw [HS.out, HR.out]
          rintro e w3 ⟨rfl, hb3⟩
          have s3 := hb3.size
          have HB3 := Lib.hid (HB2.out.trans (hb3.mono (by have := HB2.out.size; omega)))
          have hr := (hr.below hb3).more s3
          have hr' := (hr'.below hb3).more s3
          have hr'' := (hr''.below hb3).more s3
          clear hb3
          generalize smoothN g row = n at *
          go_wp2_with fail
          refine (known w3).mono ?_
          rintro e w4 ⟨rfl, hb4⟩
          have s4 := hb4.size
          have HB4 := Lib.hid (HB3.out.trans (hb4.mono (by have := HB3.out.size; omega)))
          have hr := (hr.below hb4).more s4
          have hr' := (hr'.below hb4).more s4
          have hr'' := (hr''.below hb4).more s4
          clear hb4
          go_wp2
          go_ret
          exact ⟨rfl, HB4.out⟩
        · have hd : (courseE g row crs != 0) = true := by simpa using hz
          clear hz HC
          generalize courseE g row crs = e0 at *
          generalize courseN g row crs = m at *
          go_wp2_with fail
          refine (known w2).mono ?_
          rintro e w3 ⟨rfl, hb3⟩
          have s3 := hb3.size
          have HB3 := Lib.hid (HB2.out.trans (hb3.mono (by have := HB2.out.size; omega)))
          have hr := (hr.below hb3).more s3
          have hr' := (hr'.below hb3).more s3
          have hr'' := (hr''.below hb3).more s3
          clear hb3
          go_wp2
          go_ret
          exact ⟨rfl, HB3.out⟩
end Go.Proofs.Ytejjogpgolgdgaa
