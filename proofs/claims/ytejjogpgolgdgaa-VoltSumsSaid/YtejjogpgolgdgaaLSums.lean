/-
  THE WALK of the law VoltSums. (Printed by gen_lsums.py.)
-/
import Derived.Test.YtejjogpgolgdgaaOpen
import Derived.Test.YtejjogpgolgdgaaP1
import Derived.Test.YtejjogpgolgdgaaW29
namespace Go.Proofs.Ytejjogpgolgdgaa
open Go.RowKit Pulse

theorem dot_add : ∀ (l a b : List Int), a.length = b.length → dot l (addS a b) = dot l a + dot l b
  | [], a, b, _ => by simp [dot]
  | x :: l, [], [], _ => by simp [dot, addS]
  | x :: l, [], b :: v, h => by simp at h
  | x :: l, a :: u, [], h => by simp at h
  | x :: l, a :: u, b :: v, h => by
    have := dot_add l u v (by simpa using h)
    simp only [addS] at this ⊢
    rw [List.zipWith_cons_cons, dot, dot, dot, this, Int.mul_add]
    omega
theorem fieldL_get (g : List (List Int)) (v : List Int) {q : Nat} (h : q < g.length) : (fieldL g v)[q]'(by rw [fieldL_len]; exact h) = dot g[q] v := by simp [fieldL]
theorem fieldE_of {g : List (List Int)} {v : List Int} (h : vldG g = 0) (h' : vOk g v = true) : fieldE g v = 0 := by rw [fieldE, if_pos h, if_pos h']
theorem sums {g : List (List Int)} {a b : List Int} (h : sumIs g a b = true) :
    sumR g a b = addS a b ∧ a.length = b.length ∧ FitG g a ∧ FitG g b ∧ fieldE g a = 0 ∧ fieldE g b = 0 ∧ fieldE g (addS a b) = 0 := by
  have h0 := h
  simp only [sumIs, Bool.and_eq_true, decide_eq_true_eq] at h
  obtain ⟨h1, h2⟩ := h
  by_cases hv : vldG g = 0
  · rw [sumE, if_pos hv] at h1
    by_cases hab : (vOk g a && vOk g b) = true
    · obtain ⟨ha, hb⟩ := Bool.and_eq_true_iff.1 hab
      have := (vOk_ok ha).1
      have := (vOk_ok hb).1
      exact ⟨by rw [sumR, if_pos h0], by omega, fitG hv (vOk_ok ha).1 (vOk_ok ha).2, fitG hv (vOk_ok hb).1 (vOk_ok hb).2, fieldE_of hv ha, fieldE_of hv hb, fieldE_of hv h2⟩
    · rw [if_neg hab] at h1; omega
  · rw [sumE, if_neg hv] at h1
    exact absurd h1 hv
theorem sumR_len (g : List (List Int)) (a b : List Int) : (sumR g a b).length ≤ a.length := by
  unfold sumR
  split
  · simp [addS]; omega
  · simp

set_option maxRecDepth 100000 in
set_option maxHeartbeats 4000000 in
theorem lawSums (A : Option Addr) (k c : Nat) (g : List (List Int)) (A' : Option Addr) (k' c' : Nat) (a : List Int) (A'' : Option Addr) (k'' c'' : Nat) (b : List Int) (w : World) (hk : k ≤ c) (hc : c ≤ maxLen) (hr : TRd w w.heap.size A k g) (hb : ∀ l ∈ g, l.length ≤ maxLen) (hk' : k' ≤ c') (hc' : c' ≤ maxLen) (hr' : Rd w w.heap.size 1 A' k' (ints a)) (hb' : Big a) (hk'' : k'' ≤ c'') (hc'' : c'' ≤ maxLen) (hr'' : Rd w w.heap.size 1 A'' k'' (ints b)) (hb'' : Big b) :
    Calls Try.prog 12 #[.slice A k c, .slice A' k' c', .slice A'' k'' c''] w fun e w' => e = .returned (.bool true) ∧ Below w.heap.size w w' := by
  have hm : k ≤ maxLen := Nat.le_trans hk hc
  have hm' : k' ≤ maxLen := Nat.le_trans hk' hc'
  have hm'' : k'' ≤ maxLen := Nat.le_trans hk'' hc''
  obtain rfl := hr.len
  obtain rfl := hr'.int_len
  obtain rfl := hr''.int_len
  by_cases h : longT g = true
  · skip
    go_enter Try.func12, Try.ntmps12
    go_wp2_with fail
    refine (long_is true _ _ _ g h w hm _ hr hb).mono ?_
    rintro e w' ⟨rfl, rfl⟩
    go_wp2_with fail
    refine (known w).mono ?_
    rintro e w1 ⟨rfl, hb1⟩
    have s1 := hb1.size
    have HB1 := Lib.hid hb1
    clear hb1
    go_wp2
    go_ret
    exact ⟨rfl, HB1.out⟩
  · skip
    have h : longT g = false := by simpa using h
    by_cases h' : 40 < a.length
    · skip
      go_enter Try.func12, Try.ntmps12
      go_wp2_with fail
      refine (long_is false _ _ _ g h w hm _ hr hb).mono ?_
      rintro e w' ⟨rfl, rfl⟩
      go_wp2_with fail
      refine (many _ _ _ w hm').mono ?_
      rw [show decide (40 < a.length) = true from by simpa using h']
      rintro e w' ⟨rfl, rfl⟩
      go_wp2_with fail
      refine (known w).mono ?_
      rintro e w1 ⟨rfl, hb1⟩
      have s1 := hb1.size
      have HB1 := Lib.hid hb1
      clear hb1
      go_wp2
      go_ret
      exact ⟨rfl, HB1.out⟩
    · skip
      by_cases h'' : 40 < b.length
      · skip
        go_enter Try.func12, Try.ntmps12
        go_wp2_with fail
        refine (long_is false _ _ _ g h w hm _ hr hb).mono ?_
        rintro e w' ⟨rfl, rfl⟩
        go_wp2_with fail
        refine (many _ _ _ w hm').mono ?_
        rw [show decide (40 < a.length) = false from by simpa using h']
        rintro e w' ⟨rfl, rfl⟩
        go_wp2_with fail
        refine (many _ _ _ w hm'').mono ?_
        rw [show decide (40 < b.length) = true from by simpa using h'']
        rintro e w' ⟨rfl, rfl⟩
        go_wp2_with fail
        refine (known w).mono ?_
        rintro e w1 ⟨rfl, hb1⟩
        have s1 := hb1.size
        have HB1 := Lib.hid hb1
        clear hb1
        go_wp2
        go_ret
        exact ⟨rfl, HB1.out⟩
      · skip
        have hsl := sumR_len g a b
        have HS := Lib.hid (fun h => sums (g := g) (a := a) (b := b) h)
        go_enter Try.func12, Try.ntmps12
        go_wp2_with fail
        refine (long_is false _ _ _ g h w hm _ hr hb).mono ?_
        rintro e w' ⟨rfl, rfl⟩
        go_wp2_with fail
        refine (many _ _ _ w hm').mono ?_
        rw [show decide (40 < a.length) = false from by simpa using h']
        rintro e w' ⟨rfl, rfl⟩
        go_wp2_with fail
        refine (many _ _ _ w hm'').mono ?_
        rw [show decide (40 < b.length) = false from by simpa using h'']
        rintro e w' ⟨rfl, rfl⟩
        have hs := longT_sm h
        have hl' : a.length ≤ 1000 := by omega
        have hl'' : b.length ≤ 1000 := by omega
        clear h h' h''
        go_wp2_with fail
        refine (pSum _ _ _ _ c _ c' _ c'' g a b w hs hl' hl'' w.heap.size (Nat.le_refl _) hr hr' hr'').mono ?_
        rintro e w1 ⟨v1, rfl, hown1, hb1⟩
        have s1 := hb1.size
        have HB1 := Lib.hid hb1
        have hr := (hr.below hb1).more s1
        have hr' := (hr'.below hb1).more s1
        have hr'' := (hr''.below hb1).more s1
        obtain ⟨A1, c1, rfl, _, _⟩ := own_cap hown1
        have r1 := Rd.of_own hown1
        clear hb1 hown1
        go_wp2_with fail
        refine (rSum _ _ _ _ c _ c' _ c'' g a b w1 hs hl' hl'' w1.heap.size (Nat.le_refl _) hr hr' hr'').mono ?_
        rintro e w2 ⟨v2, rfl, hown2, hb2⟩
        have s2 := hb2.size
        have HB2 := Lib.hid (HB1.out.trans (hb2.mono (by have := HB1.out.size; omega)))
        have hr := (hr.below hb2).more s2
        have hr' := (hr'.below hb2).more s2
        have hr'' := (hr''.below hb2).more s2
        have r1 := (r1.below hb2).more s2
        obtain ⟨A2, c2, rfl, _, _⟩ := own_cap hown2
        have r2 := Rd.of_own hown2
        clear hb2 hown2
        obtain ⟨is, his⟩ : ∃ x, x = sumIs g a b := ⟨_, rfl⟩
        rw [← his] at HS ⊢
        obtain ⟨e0, he0⟩ : ∃ x, x = sumE g a b := ⟨_, rfl⟩
        rw [← he0]
        clear his he0
        go_wp2_with fail
        refine (rSameInts_is true _ _ _ _ _ _ (sumR g a b) (sumR g a b) (by simp) w2 (by omega) (by omega) w2.heap.size (Nat.le_refl _) r1 r2).mono ?_
        rintro e w3 ⟨rfl, hb3⟩
        have s3 := hb3.size
        have HB3 := Lib.hid (HB2.out.trans (hb3.mono (by have := HB2.out.size; omega)))
        have hr := (hr.below hb3).more s3
        have hr' := (hr'.below hb3).more s3
        have hr'' := (hr''.below hb3).more s3
        have r1 := (r1.below hb3).more s3
        have r2 := (r2.below hb3).more s3
        clear hb3
        clear r2
        cases is with
        | true =>
          obtain ⟨u1, u2, u3, u4, u5, u6, u7⟩ := HS.out rfl
          rw [u1] at r1 hsl
          rw [u1]
          have HL := Lib.hid u2
          have HFA := Lib.hid u3
          have HFB := Lib.hid u4
          have HEA := Lib.hid u5
          have HEB := Lib.hid u6
          have HES := Lib.hid u7
          clear u1 u2 u3 u4 u5 u6 u7 HS
          have hls : (addS a b).length ≤ 1000 := by omega
          have fr : ∀ v, fieldE g v = 0 → fieldR g v = fieldL g v := fun v h => by rw [fieldR, if_pos h]
          have HRA := Lib.hid (fr a HEA.out)
          have HRB := Lib.hid (fr b HEB.out)
          have HRS := Lib.hid (fr (addS a b) HES.out)
          clear fr
          go_wp2_with fail
          refine (pField _ _ _ c _ c' g a w3 hs hl' w3.heap.size (Nat.le_refl _) hr hr').mono ?_
          rw [HEA.out, HRA.out, fieldL_len]
          rintro e w4 ⟨v4, rfl, hown4, hb4⟩
          have s4 := hb4.size
          have HB4 := Lib.hid (HB3.out.trans (hb4.mono (by have := HB3.out.size; omega)))
          have hr := (hr.below hb4).more s4
          have hr' := (hr'.below hb4).more s4
          have hr'' := (hr''.below hb4).more s4
          have r1 := (r1.below hb4).more s4
          obtain ⟨A4, c4, rfl, _, _⟩ := own_cap hown4
          have r4 := Rd.of_own hown4
          clear hb4 hown4
          go_wp2_with fail
          refine (pField _ _ _ c _ c'' g b w4 hs hl'' w4.heap.size (Nat.le_refl _) hr hr'').mono ?_
          rw [HEB.out, HRB.out, fieldL_len]
          rintro e w5 ⟨v5, rfl, hown5, hb5⟩
          have s5 := hb5.size
          have HB5 := Lib.hid (HB4.out.trans (hb5.mono (by have := HB4.out.size; omega)))
          have hr := (hr.below hb5).more s5
          have hr' := (hr'.below hb5).more s5
          have hr'' := (hr''.below hb5).more s5
          have r1 := (r1.below hb5).more s5
          have r4 := (r4.below hb5).more s5
          obtain ⟨A5, c5, rfl, _, _⟩ := own_cap hown5
          have r5 := Rd.of_own hown5
          clear hb5 hown5
          go_wp2_with fail
          refine (pField _ _ _ c _ c1 g (addS a b) w5 hs hls w5.heap.size (Nat.le_refl _) hr r1).mono ?_
          rw [HES.out, HRS.out, fieldL_len]
          rintro e w6 ⟨v6, rfl, hown6, hb6⟩
          have s6 := hb6.size
          have HB6 := Lib.hid (HB5.out.trans (hb6.mono (by have := HB5.out.size; omega)))
          have hr := (hr.below hb6).more s6
          have hr' := (hr'.below hb6).more s6
          have hr'' := (hr''.below hb6).more s6
          have r1 := (r1.below hb6).more s6
          have r4 := (r4.below hb6).more s6
          have r5 := (r5.below hb6).more s6
          obtain ⟨A6, c6, rfl, _, _⟩ := own_cap hown6
          have r6 := Rd.of_own hown6
          clear hb6 hown6
          have hg3 := HFA.out.1
          go_wp2
          go_loopw [19] (fun i wr => ∃ q : Nat, i = .int .i64 q ∧ q ≤ g.length ∧ Below w6.heap.size w6 wr) (fun i _ => g.length - (intOf i).toNat)
          case atStart => exact ⟨0, rfl, Nat.zero_le _, Below.refl _ _⟩
          case round =>
            obtain ⟨q, rfl, hq, hb⟩ := hrel
            have hsz := hb.size
            by_cases hlt : q < g.length
            · skip
              obtain ⟨b4, o4, rfl, lb4, g4⟩ := (r4.below' hb (Nat.le_refl _)).int (i := q) (by rw [fieldL_len]; exact hlt)
              rw [fieldL_get g a hlt] at g4
              obtain ⟨b5, o5, rfl, lb5, g5⟩ := (r5.below' hb (Nat.le_refl _)).int (i := q) (by rw [fieldL_len]; exact hlt)
              rw [fieldL_get g b hlt] at g5
              obtain ⟨b6, o6, rfl, lb6, g6⟩ := (r6.below' hb (Nat.le_refl _)).int (i := q) (by rw [fieldL_len]; exact hlt)
              rw [fieldL_get g (addS a b) hlt] at g6
              have hm := List.getElem_mem hlt
              have e1 := dot_bd3 (HFA.out.2.2.1 _ hm).2 HFA.out.2.2.2 (by have := (HFA.out.2.2.1 _ hm).1; have := HFA.out.2.1; omega)
              have e2 := dot_bd3 (HFB.out.2.2.1 _ hm).2 HFB.out.2.2.2 (by have := (HFB.out.2.2.1 _ hm).1; have := HFB.out.2.1; omega)
              rw [dot_add _ _ _ HL.out] at g6
              clear hm
              generalize dot g[q] a = xa at *
              generalize dot g[q] b = xb at *
              have z0 : (0 : Int) ≤ (q : Int) := by omega
              have z1 : (q : Int) < (g.length : Int) := by omega
              have HBD := Lib.hid hb
              clear hb
              go_wp2
              go_quiet (fail)
              go_wp2
              go_roundw
              case rel => exact ⟨q + 1, by go_num, by omega, below_drewN HBD.out _⟩
              case measure => simp [intOf]; omega
            · obtain rfl : q = g.length := by omega
              obtain ⟨w7, hw7⟩ : ∃ z, z = wr := ⟨_, rfl⟩
              rw [← hw7] at hb hsz ⊢
              clear hw7 hsz
              have s7 := hb.size
              have HB7 := Lib.hid (HB6.out.trans (hb.mono (by have := HB6.out.size; omega)))
              have hr := (hr.below hb).more s7
              have hr' := (hr'.below hb).more s7
              have hr'' := (hr''.below hb).more s7
              have r1 := (r1.below hb).more s7
              have r4 := (r4.below hb).more s7
              have r5 := (r5.below hb).more s7
              have r6 := (r6.below hb).more s7
              clear hb
              go_wp2_with fail
              refine (known w7).mono ?_
              rintro e w8 ⟨rfl, hb8⟩
              have s8 := hb8.size
              have HB8 := Lib.hid (HB7.out.trans (hb8.mono (by have := HB7.out.size; omega)))
              have hr := (hr.below hb8).more s8
              have hr' := (hr'.below hb8).more s8
              have hr'' := (hr''.below hb8).more s8
              have r1 := (r1.below hb8).more s8
              have r4 := (r4.below hb8).more s8
              have r5 := (r5.below hb8).more s8
              have r6 := (r6.below hb8).more s8
              clear hb8
              go_wp2
              go_ret
              exact ⟨rfl, HB8.out⟩
        | false =>
          clear HS
          go_wp2_with fail
          refine (known w3).mono ?_
          rintro e w4 ⟨rfl, hb4⟩
          have s4 := hb4.size
          have HB4 := Lib.hid (HB3.out.trans (hb4.mono (by have := HB3.out.size; omega)))
          have hr := (hr.below hb4).more s4
          have hr' := (hr'.below hb4).more s4
          have hr'' := (hr''.below hb4).more s4
          have r1 := (r1.below hb4).more s4
          clear hb4
          go_wp2
          go_ret
          exact ⟨rfl, HB4.out⟩
end Go.Proofs.Ytejjogpgolgdgaa
