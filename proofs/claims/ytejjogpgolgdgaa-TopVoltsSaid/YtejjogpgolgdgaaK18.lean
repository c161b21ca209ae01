/-
  MERGED: LCourses, W29.
-/
import Derived.Test.YtejjogpgolgdgaaK1
import Derived.Test.YtejjogpgolgdgaaK15
import Derived.Test.YtejjogpgolgdgaaK17
import Derived.Test.YtejjogpgolgdgaaK14
/-
  PLAIN LAW of courses that are right; THE WALK of the law VoltCourses. (Printed by gen_lcourses.py.)
-/
namespace Go.Proofs.Ytejjogpgolgdgaa
open Go.RowKit Pulse

theorem courseE_ok {g row crs : List (List Int)} (h : courseE g row crs = 0) : rowE g row = 0 ∧ crs.length = row.length ∧ (∀ v ∈ crs, vOk g v = true) ∧ crs.map (fieldL g) = row := by
  unfold courseE at h
  split at h
  · split at h
    · split at h
      · rename_i h1 h2 h3
        exact ⟨h1, h2.1, fun v hv => List.all_eq_true.1 h2.2 v hv, h3⟩
      · omega
    · omega
  · exact absurd h ‹_›
theorem courseE_isC {g row crs : List (List Int)} (h : courseE g row crs = 0) : IsC g row crs := by
  obtain ⟨h1, h2, h3, h4⟩ := courseE_ok h
  rw [isC_get h2]
  intro i hi hi'
  refine mem_makeL.2 ⟨vOk_ok (h3 _ (List.getElem_mem hi')), ?_⟩
  subst h4
  simp
theorem courseE_of {g row crs : List (List Int)} (h : rowE g row = 0) (hc : IsC g row crs) : courseE g row crs = 0 := by
  have hl := hc.len
  have hg := (isC_get hl).1 hc
  rw [courseE, if_pos h, if_pos, if_pos]
  · refine List.ext_getElem (by simpa using hl) fun i h1 h2 => ?_
    rw [List.getElem_map]
    exact (mem_makeL.1 (hg i h2 (by simpa using h1))).2
  · refine ⟨hl, List.all_eq_true.2 fun v hv => ?_⟩
    obtain ⟨i, hi, rfl⟩ := List.getElem_of_mem hv
    have := (mem_makeL.1 (hg i (by omega) hi)).1
    exact vOk_of this.1 this.2
theorem courses {g row crs : List (List Int)} (h : courseE g row crs = 0) : rowE g row = 0 ∧ smoothIs g row = true ∧ smoothN g row ≤ courseN g row crs := by
  have hc := courseE_isC h
  have hr := (courseE_ok h).1
  obtain ⟨a1, a2⟩ := smooth_law hr
  have hs := a1.2 ⟨crs, hc⟩
  exact ⟨hr, hs, by rw [courseN, if_pos h]; exact (a2 hs).2 crs hc⟩
theorem courseN_bd (g row crs : List (List Int)) : 0 ≤ courseN g row crs ∧ courseN g row crs ≤ 6 := by
  unfold courseN
  split
  · rename_i h
    exact ⟨jumpC_nn _, jumpC_le (fun v hv => (vOk_ok ((courseE_ok h).2.2.1 v hv)).2)⟩
  · omega

set_option maxRecDepth 100000 in
set_option maxHeartbeats 4000000 in
theorem lawCourses (A : Option Addr) (k c : Nat) (g : List (List Int)) (A' : Option Addr) (k' c' : Nat) (row : List (List Int)) (A'' : Option Addr) (k'' c'' : Nat) (crs : List (List Int)) (w : World) (hk : k ≤ c) (hc : c ≤ maxLen) (hr : TRd w w.heap.size A k g) (hb : ∀ l ∈ g, l.length ≤ maxLen) (hk' : k' ≤ c') (hc' : c' ≤ maxLen) (hr' : TRd w w.heap.size A' k' row) (hb' : ∀ l ∈ row, l.length ≤ maxLen) (hk'' : k'' ≤ c'') (hc'' : c'' ≤ maxLen) (hr'' : TRd w w.heap.size A'' k'' crs) (hb'' : ∀ l ∈ crs, l.length ≤ maxLen) :
    Calls Try.prog 9 #[.slice A k c, .slice A' k' c', .slice A'' k'' c''] w fun e w' => e = .returned (.bool true) ∧ Below w.heap.size w w' := by
  have hm : k ≤ maxLen := Nat.le_trans hk hc
  have hm' : k' ≤ maxLen := Nat.le_trans hk' hc'
  have hm'' : k'' ≤ maxLen := Nat.le_trans hk'' hc''
  obtain rfl := hr.len
  obtain rfl := hr'.len
  obtain rfl := hr''.len
  by_cases h : longT g = true
  · skip
    go_enter Try.func9, Try.ntmps9
    go_wp2_with fail
    refine (long_is true _ _ _ g h w hm _ hr hb).mono ?_
    rintro e w' ⟨rfl, rfl⟩
    go_wp2_with fail
    refine (known w).mono ?_
    rintro e w1 ⟨rfl, hb1⟩
    have s1 := hb1.size
    have HB1 := Lib.hid hb1
    clear hb1
    go_wp2
    go_ret
    exact ⟨rfl, HB1.out⟩
  · skip
    have h : longT g = false := by simpa using h
    by_cases h' : longT row = true
    · skip
      go_enter Try.func9, Try.ntmps9
      go_wp2_with fail
      refine (long_is false _ _ _ g h w hm _ hr hb).mono ?_
      rintro e w' ⟨rfl, rfl⟩
      go_wp2_with fail
      refine (long_is true _ _ _ row h' w hm' _ hr' hb').mono ?_
      rintro e w' ⟨rfl, rfl⟩
      go_wp2_with fail
      refine (known w).mono ?_
      rintro e w1 ⟨rfl, hb1⟩
      have s1 := hb1.size
      have HB1 := Lib.hid hb1
      clear hb1
      go_wp2
      go_ret
      exact ⟨rfl, HB1.out⟩
    · skip
      have h' : longT row = false := by simpa using h'
      by_cases h'' : longT crs = true
      · skip
        go_enter Try.func9, Try.ntmps9
        go_wp2_with fail
        refine (long_is false _ _ _ g h w hm _ hr hb).mono ?_
        rintro e w' ⟨rfl, rfl⟩
        go_wp2_with fail
        refine (long_is false _ _ _ row h' w hm' _ hr' hb').mono ?_
        rintro e w' ⟨rfl, rfl⟩
        go_wp2_with fail
        refine (long_is true _ _ _ crs h'' w hm'' _ hr'' hb'').mono ?_
        rintro e w' ⟨rfl, rfl⟩
        go_wp2_with fail
        refine (known w).mono ?_
        rintro e w1 ⟨rfl, hb1⟩
        have s1 := hb1.size
        have HB1 := Lib.hid hb1
        clear hb1
        go_wp2
        go_ret
        exact ⟨rfl, HB1.out⟩
      · skip
        have h'' : longT crs = false := by simpa using h''
        go_enter Try.func9, Try.ntmps9
        go_wp2_with fail
        refine (long_is false _ _ _ g h w hm _ hr hb).mono ?_
        rintro e w' ⟨rfl, rfl⟩
        go_wp2_with fail
        refine (long_is false _ _ _ row h' w hm' _ hr' hb').mono ?_
        rintro e w' ⟨rfl, rfl⟩
        go_wp2_with fail
        refine (long_is false _ _ _ crs h'' w hm'' _ hr'' hb'').mono ?_
        rintro e w' ⟨rfl, rfl⟩
        have hs := longT_sm h
        have hs' := longT_sm h'
        have hs'' := longT_sm h''
        clear h h' h''
        have hnb := courseN_bd g row crs
        have HC := Lib.hid (fun h => courses (g := g) (row := row) (crs := crs) h)
        go_wp2_with fail
        refine (pCheckCourse _ _ _ _ c _ c' _ c'' g row crs w hs hs' hs'' w.heap.size (Nat.le_refl _) hr hr' hr'').mono ?_
        rintro e w1 ⟨rfl, hb1⟩
        have s1 := hb1.size
        have HB1 := Lib.hid hb1
        have hr := (hr.below hb1).more s1
        have hr' := (hr'.below hb1).more s1
        have hr'' := (hr''.below hb1).more s1
        clear hb1
        go_wp2_with fail
        refine (rCheckCourse _ _ _ _ c _ c' _ c'' g row crs w1 hs hs' hs'' w1.heap.size (Nat.le_refl _) hr hr' hr'').mono ?_
        rintro e w2 ⟨rfl, hb2⟩
        have s2 := hb2.size
        have HB2 := Lib.hid (HB1.out.trans (hb2.mono (by have := HB1.out.size; omega)))
        have hr := (hr.below hb2).more s2
        have hr' := (hr'.below hb2).more s2
        have hr'' := (hr''.below hb2).more s2
        clear hb2
        by_cases hz : courseE g row crs = 0
        · obtain ⟨h1, h2, h3⟩ := HC.out hz
          rw [hz]
          have HR := Lib.hid h1
          have HS := Lib.hid h2
          clear hz h1 h2 HC
          generalize courseN g row crs = m at *
          go_wp2_with fail
          refine (pSmooth _ _ _ c _ c' g row w2 hs hs' w2.heap.size (Nat.le_refl _) hr hr').mono ?_
          rw [HS.out, HR.out]
          rintro e w3 ⟨rfl, hb3⟩
          have s3 := hb3.size
          have HB3 := Lib.hid (HB2.out.trans (hb3.mono (by have := HB2.out.size; omega)))
          have hr := (hr.below hb3).more s3
          have hr' := (hr'.below hb3).more s3
          have hr'' := (hr''.below hb3).more s3
          clear hb3
          generalize smoothN g row = n at *
          go_wp2_with fail
          refine (known w3).mono ?_
          rintro e w4 ⟨rfl, hb4⟩
          have s4 := hb4.size
          have HB4 := Lib.hid (HB3.out.trans (hb4.mono (by have := HB3.out.size; omega)))
          have hr := (hr.below hb4).more s4
          have hr' := (hr'.below hb4).more s4
          have hr'' := (hr''.below hb4).more s4
          clear hb4
          go_wp2
          go_ret
          exact ⟨rfl, HB4.out⟩
        · have hd : (courseE g row crs != 0) = true := by simpa using hz
          clear hz HC
          generalize courseE g row crs = e0 at *
          generalize courseN g row crs = m at *
          go_wp2_with fail
          refine (known w2).mono ?_
          rintro e w3 ⟨rfl, hb3⟩
          have s3 := hb3.size
          have HB3 := Lib.hid (HB2.out.trans (hb3.mono (by have := HB2.out.size; omega)))
          have hr := (hr.below hb3).more s3
          have hr' := (hr'.below hb3).more s3
          have hr'' := (hr''.below hb3).more s3
          clear hb3
          go_wp2
          go_ret
          exact ⟨rfl, HB3.out⟩
end Go.Proofs.Ytejjogpgolgdgaa

/-
  WALKS: Sum of both. (Printed by gen_w29.py.)
-/
namespace Go.Proofs.Ytejjogpgolgdgaa
open Go.RowKit Pulse

theorem own_frozen {w : World} {base g n c sz : Nat} {e : TypeId} {xs : List Value} (h : w.ownsRow base e sz (.slice (some ⟨g, 0, none⟩) n c) n xs) (i : Nat) : w.frozen? ⟨g, i, none⟩ = false := by
  obtain ⟨h1, h2⟩ := h
  rcases h2 with ⟨h2, _⟩ | ⟨g', cap, cur, hv, hg, hh, _⟩
  · cases h2
  · injection hv with a b d
    injection a with a
    injection a with a
    subst a
    exact blk_frozen hh i
theorem own_int {w : World} {base g n c : Nat} {l : List Int} (h : w.ownsRow base 3 1 (.slice (some ⟨g, 0, none⟩) n c) n (ints l)) {i : Nat} (hi : i < l.length) : w.cell? ⟨g, i, none⟩ = some (.int .i64 l[i]) := by
  have h1 := h.1
  simp at h1
  exact (h.cellAt i (by simp; omega)).trans (by simp [hi])
theorem own_seti {w : World} {base g n c i : Nat} {l : List Int} (h : w.ownsRow base 3 1 (.slice (some ⟨g, 0, none⟩) n c) n (ints l)) (x : Int) : (w.setCell ⟨g, i, none⟩ (.int .i64 x)).ownsRow base 3 1 (.slice (some ⟨g, 0, none⟩) n c) n (ints (l.set i x)) := by
  have := own_set (j := i) h (.int .i64 x)
  rwa [show (ints l).set i (.int .i64 x) = ints (l.set i x) by simp [ints, List.map_set]] at this
def addS (p q : List Int) : List Int := List.zipWith (· + ·) p q
/-- The first j places added. -/
def adT (p q : List Int) (j : Nat) : List Int := List.zipWith (· + ·) (p.take j) (q.take j) ++ p.drop j
theorem adT_zero (p q : List Int) : adT p q 0 = p := by simp [adT]
theorem adT_all {p q : List Int} (h : p.length = q.length) : adT p q q.length = addS p q := by
  rw [adT, ← h, List.take_length, List.drop_length, List.append_nil, h, List.take_length]; rfl
theorem adT_len {p q : List Int} (h : p.length = q.length) (j : Nat) (hj : j ≤ p.length) : (adT p q j).length = p.length := by
  simp [adT]; omega
theorem zt_len {p q : List Int} {j : Nat} (h : j < p.length) (h' : j < q.length) : (List.zipWith (· + ·) (p.take j) (q.take j)).length = j := by simp; omega
theorem adT_get {p q : List Int} {j : Nat} (h : j < p.length) (h' : j < q.length) : (adT p q j)[j]? = some p[j] := by
  rw [adT, List.getElem?_append_right (by rw [zt_len h h']; exact Nat.le_refl _), zt_len h h']
  simp [h]
theorem adT_succ {p q : List Int} {j : Nat} (h : j < p.length) (h' : j < q.length) : (adT p q j).set j (p[j] + q[j]) = adT p q (j + 1) := by
  rw [adT, adT, List.set_append_right _ _ (by rw [zt_len h h']; exact Nat.le_refl _), zt_len h h', Nat.sub_self, take_snoc' p j h, take_snoc' q j h', List.zipWith_append (by simp; omega), List.drop_eq_getElem_cons h, List.set_cons_zero, List.append_assoc]
  rfl
theorem addS_len {p r : List Int} (h : p.length = r.length) : (addS p r).length = p.length := by simp [addS]; omega
theorem addS_take {p r : List Int} {j : Nat} (h : j < p.length) (h' : j < r.length) : addS (p.take (j + 1)) (r.take (j + 1)) = addS (p.take j) (r.take j) ++ [p[j] + r[j]] := by
  rw [addS, take_snoc' p j h, take_snoc' r j h', List.zipWith_append (by simp; omega)]; rfl
def sumE (g : List (List Int)) (a b : List Int) : Int := if vldG g = 0 then (if vOk g a && vOk g b then 0 else 1) else vldG g
def sumIs (g : List (List Int)) (a b : List Int) : Bool := decide (sumE g a b = 0) && vOk g (addS a b)
def sumR (g : List (List Int)) (a b : List Int) : List Int := if sumIs g a b then addS a b else []

set_option maxRecDepth 100000 in
set_option maxHeartbeats 4000000 in
theorem pSum (A A' A'' : Option Addr) (k c k' c' k'' c'' : Nat) (g : List (List Int)) (a b : List Int) (w : World) (hs : Sm g) (hl : a.length ≤ 1000) (hl' : b.length ≤ 1000) (B : Nat) (hB : B ≤ w.heap.size) (hr : TRd w B A k g) (hr' : Rd w B 1 A' k' (ints a)) (hr'' : Rd w B 1 A'' k'' (ints b)) :
    Calls Try.prog 42 #[.slice A k c, .slice A' k' c', .slice A'' k'' c''] w fun e w' => ∃ v, e = .returned (.tuple #[v, .bool (sumIs g a b), .int .i64 (sumE g a b)]) ∧ w'.ownsRow w.heap.size 3 1 v (sumR g a b).length (ints (sumR g a b)) ∧ Below w.heap.size w w' := by
  have hr := hr.more hB
  have hr' := hr'.more hB
  have hr'' := hr''.more hB
  obtain rfl := hr'.int_len
  obtain rfl := hr''.int_len
  by_cases h : vldG g = 0
  · have hpos : 0 < g.length := (vldG_ok h).1
    have HV := Lib.hid h
    have hm3 := (vldG_ok h).2.2.2.1
    clear h
    cases ha : vOk g a with
    | true =>
      cases hb : vOk g b with
      | true =>
        have HE := Lib.hid (show sumE g a b = 0 by rw [sumE, if_pos HV.out, ha, hb]; rfl)
        have HI0 := Lib.hid (show sumIs g a b = vOk g (addS a b) by rw [sumIs, HE.out]; rfl)
        have HA := Lib.hid ha
        have HBB := Lib.hid hb
        have HF := Lib.hid (vOk_ok ha).2
        have HF' := Lib.hid (vOk_ok hb).2
        have hla := (vOk_ok ha).1
        have hlb := (vOk_ok hb).1
        clear ha hb
        have HLN := Lib.hid (show a.length = b.length by rw [hla, hlb])
        have d2 : a.length ≤ b.length := by omega
        have d3 : b.length ≤ a.length := by omega
        have d4 : a.length ≤ 3 := by omega
        clear hla hlb
        go_enter Try.func42, Try.ntmps42
        go_wp2_with fail
        refine (pValidate _ _ _ g w hs w.heap.size (Nat.le_refl _) hr).mono ?_
        rw [HV.out]
        rintro e w1 ⟨rfl, hb1⟩
        have s1 := hb1.size
        have HB1 := Lib.hid hb1
        have hr := (hr.below hb1).more s1
        have hr' := (hr'.below hb1).more s1
        have hr'' := (hr''.below hb1).more s1
        clear hb1
        go_wp2_with fail
        refine (pisVolts true _ _ _ _ _ _ g a HA.out w1 hpos hl w1.heap.size (Nat.le_refl _) hr hr').mono ?_
        rintro e w2 ⟨rfl, hb2⟩
        have s2 := hb2.size
        have HB2 := Lib.hid (HB1.out.trans (hb2.mono (by have := HB1.out.size; omega)))
        have hr := (hr.below hb2).more s2
        have hr' := (hr'.below hb2).more s2
        have hr'' := (hr''.below hb2).more s2
        clear hb2
        go_wp2_with fail
        refine (pisVolts true _ _ _ _ _ _ g b HBB.out w2 hpos hl' w2.heap.size (Nat.le_refl _) hr hr'').mono ?_
        rintro e w3 ⟨rfl, hb3⟩
        have s3 := hb3.size
        have HB3 := Lib.hid (HB2.out.trans (hb3.mono (by have := HB2.out.size; omega)))
        have hr := (hr.below hb3).more s3
        have hr' := (hr'.below hb3).more s3
        have hr'' := (hr''.below hb3).more s3
        clear hb3
        go_wp2_with fail
        have hrg := hr
        have hrb := hr''
        refine (pClone A' a.length c' a w3 hl w3.heap.size (Nat.le_refl _) hr').mono ?_
        rintro e w4 ⟨v4, rfl, hown4, hb4⟩
        have s4 := hb4.size
        have HB4 := Lib.hid (HB3.out.trans (hb4.mono (by have := HB3.out.size; omega)))
        have hr := (hr.below hb4).more s4
        have hr' := (hr'.below hb4).more s4
        have hr'' := (hr''.below hb4).more s4
        have hbk4 := hb4; clear hb4
        obtain ⟨A4, c4, rfl, _, _⟩ := own_cap hown4
        have sz0 := HB3.out.size
        go_wp2
        go_loopw [11, 12, 32] (fun _ _ i wr => ∃ q : Nat, i = .int .i64 q ∧ q ≤ b.length ∧ wr.ownsRow w3.heap.size 3 1 (.slice A4 a.length c4) a.length (ints (adT a b q)) ∧ Below w3.heap.size w3 wr) (fun _ _ i _ => b.length - (intOf i).toNat)
        case atStart => exact ⟨0, rfl, Nat.zero_le _, by rw [adT_zero]; exact hown4, hbk4⟩
        case round =>
          clear hown4 hbk4
          obtain ⟨q, rfl, hq, hown, hb⟩ := hrel
          have hsz := hb.size
          by_cases hlt : q < b.length
          · have hqp : q < a.length := by omega
            obtain ⟨b1, off, rfl, hbb, h0⟩ := (hrb.below' hb (Nat.le_refl _)).int hlt
            obtain ⟨g1, cap, hv, hg1, hg2⟩ := hown.form (by omega)
            simp only [Value.slice.injEq, true_and] at hv
            obtain ⟨rfl, rfl⟩ := hv
            have hfb := HF.out a[q] (List.getElem_mem hqp)
            have hfb' := HF'.out b[q] (List.getElem_mem hlt)
            have hal : (adT a b q).length = a.length := adT_len HLN.out q (by omega)
            have hge : (adT a b q)[q]'(by omega) = a[q] := by
              have := adT_get hqp hlt
              rw [List.getElem?_eq_getElem (by omega)] at this
              injection this
            have c1 := own_int hown (i := q) (by omega)
            rw [hge] at c1
            have f1 := own_frozen hown q
            have HS := Lib.hid (adT_succ hqp hlt)
            have HO := Lib.hid (own_seti (i := q) hown (a[q] + b[q]))
            rw [HS.out] at HO
            have HB := Lib.hid (hb.setCell (p := ⟨g1, q, none⟩) hg1 (.int .i64 (a[q] + b[q])))
            clear hown hge hal hb HS
            generalize a[q] = x at *
            generalize b[q] = y at *
            go_wp2
            go_roundw
            case rel => exact ⟨q + 1, by go_num, by omega, HO.out, HB.out⟩
            case measure => simp [intOf]; omega
          · obtain rfl : q = b.length := by omega
            rw [adT_all HLN.out] at hown
            obtain ⟨w5, hw5⟩ : ∃ z, z = wr := ⟨_, rfl⟩
            rw [← hw5] at hb hown hsz ⊢
            clear hw5
            have HBE := Lib.hid (HB3.out.trans (hb.mono (by have := HB3.out.size; omega)))
            have hgE := (hrg.below' hb (Nat.le_refl _)).more hsz
            have hoE := Rd.of_own hown
            have HOW := Lib.hid (own_base hown (show w.heap.size ≤ w3.heap.size by omega))
            have hal := addS_len HLN.out
            have HAL := Lib.hid hal
            rw [← hal] at hoE
            have hl3 : (addS a b).length ≤ 1000 := by omega
            rw [← hal]
            clear hown hb hal
            cases ho : vOk g (addS a b) with
            | true =>
              rw [ho] at HI0
              have HR := Lib.hid (show sumR g a b = addS a b by rw [sumR, HI0.out]; rfl)
              have HO := Lib.hid ho
              clear ho
              go_wp2_with fail
              refine (pisVolts true _ _ _ _ _ _ g (addS a b) HO.out w5 hpos hl3 w5.heap.size (Nat.le_refl _) hgE hoE).mono ?_
              rintro e w6 ⟨rfl, hb6⟩
              have s6 := hb6.size
              have HB6 := Lib.hid (HBE.out.trans (hb6.mono (by have := HBE.out.size; omega)))
              have hgE := (hgE.below hb6).more s6
              have hoE := (hoE.below hb6).more s6
              have HOW2 := own_below HOW.out hb6
              clear hb6
              go_wp2
              refine bodyPost_ret (results_tmp3 rfl _ _ _) rfl ?_
              exact ⟨_, ret_three rfl (by rw [HI0.out]; rfl) (by rw [HE.out]; rfl), by rw [HR.out, HAL.out]; simpa [HAL.out] using HOW2, HB6.out⟩
            | false =>
              rw [ho] at HI0
              have HR := Lib.hid (show sumR g a b = [] by rw [sumR, HI0.out]; rfl)
              have HO := Lib.hid ho
              clear ho
              go_wp2_with fail
              refine (pisVolts false _ _ _ _ _ _ g (addS a b) HO.out w5 hpos hl3 w5.heap.size (Nat.le_refl _) hgE hoE).mono ?_
              rintro e w6 ⟨rfl, hb6⟩
              have s6 := hb6.size
              have HB6 := Lib.hid (HBE.out.trans (hb6.mono (by have := HBE.out.size; omega)))
              have hgE := (hgE.below hb6).more s6
              have hoE := (hoE.below hb6).more s6
              have HOW2 := own_below HOW.out hb6
              clear hb6
              go_wp2
              refine bodyPost_ret (results_tmp3 rfl _ _ _) rfl ?_
              exact ⟨_, ret_three rfl (by rw [HI0.out]; rfl) (by rw [HE.out]; rfl), by rw [HR.out]; exact World.ownsRow_nil .., HB6.out⟩
      | false =>
        have HE := Lib.hid (show sumE g a b = 1 by rw [sumE, if_pos HV.out, ha, hb]; rfl)
        have HI := Lib.hid (show sumIs g a b = false by rw [sumIs, HE.out]; rfl)
        have HR := Lib.hid (show sumR g a b = [] by rw [sumR, HI.out]; rfl)
        have HA := Lib.hid ha
        have HBB := Lib.hid hb
        clear ha hb
        go_enter Try.func42, Try.ntmps42
        go_wp2_with fail
        refine (pValidate _ _ _ g w hs w.heap.size (Nat.le_refl _) hr).mono ?_
        rw [HV.out]
        rintro e w1 ⟨rfl, hb1⟩
        have s1 := hb1.size
        have HB1 := Lib.hid hb1
        have hr := (hr.below hb1).more s1
        have hr' := (hr'.below hb1).more s1
        have hr'' := (hr''.below hb1).more s1
        clear hb1
        go_wp2_with fail
        refine (pisVolts true _ _ _ _ _ _ g a HA.out w1 hpos hl w1.heap.size (Nat.le_refl _) hr hr').mono ?_
        rintro e w2 ⟨rfl, hb2⟩
        have s2 := hb2.size
        have HB2 := Lib.hid (HB1.out.trans (hb2.mono (by have := HB1.out.size; omega)))
        have hr := (hr.below hb2).more s2
        have hr' := (hr'.below hb2).more s2
        have hr'' := (hr''.below hb2).more s2
        clear hb2
        go_wp2_with fail
        refine (pisVolts false _ _ _ _ _ _ g b HBB.out w2 hpos hl' w2.heap.size (Nat.le_refl _) hr hr'').mono ?_
        rintro e w3 ⟨rfl, hb3⟩
        have s3 := hb3.size
        have HB3 := Lib.hid (HB2.out.trans (hb3.mono (by have := HB2.out.size; omega)))
        have hr := (hr.below hb3).more s3
        have hr' := (hr'.below hb3).more s3
        have hr'' := (hr''.below hb3).more s3
        clear hb3
        go_wp2
        refine bodyPost_ret (results_tmp3 rfl _ _ _) rfl ?_
        exact ⟨_, ret_three rfl (by rw [HI.out]; rfl) (by rw [HE.out]; rfl), by rw [HR.out]; exact World.ownsRow_nil .., HB3.out⟩
    | false =>
      have HE := Lib.hid (show sumE g a b = 1 by rw [sumE, if_pos HV.out, ha]; rfl)
      have HI := Lib.hid (show sumIs g a b = false by rw [sumIs, HE.out]; rfl)
      have HR := Lib.hid (show sumR g a b = [] by rw [sumR, HI.out]; rfl)
      have HA := Lib.hid ha
      clear ha
      go_enter Try.func42, Try.ntmps42
      go_wp2_with fail
      refine (pValidate _ _ _ g w hs w.heap.size (Nat.le_refl _) hr).mono ?_
      rw [HV.out]
      rintro e w1 ⟨rfl, hb1⟩
      have s1 := hb1.size
      have HB1 := Lib.hid hb1
      have hr := (hr.below hb1).more s1
      have hr' := (hr'.below hb1).more s1
      have hr'' := (hr''.below hb1).more s1
      clear hb1
      go_wp2_with fail
      refine (pisVolts false _ _ _ _ _ _ g a HA.out w1 hpos hl w1.heap.size (Nat.le_refl _) hr hr').mono ?_
      rintro e w2 ⟨rfl, hb2⟩
      have s2 := hb2.size
      have HB2 := Lib.hid (HB1.out.trans (hb2.mono (by have := HB1.out.size; omega)))
      have hr := (hr.below hb2).more s2
      have hr' := (hr'.below hb2).more s2
      have hr'' := (hr''.below hb2).more s2
      clear hb2
      go_wp2
      refine bodyPost_ret (results_tmp3 rfl _ _ _) rfl ?_
      exact ⟨_, ret_three rfl (by rw [HI.out]; rfl) (by rw [HE.out]; rfl), by rw [HR.out]; exact World.ownsRow_nil .., HB2.out⟩
  · have hd : (vldG g != 0) = true := by simpa using h
    have HE := Lib.hid (show sumE g a b = vldG g by rw [sumE, if_neg h])
    have HI := Lib.hid (show sumIs g a b = false by rw [sumIs, HE.out, decide_eq_false h]; rfl)
    have HR := Lib.hid (show sumR g a b = [] by rw [sumR, HI.out]; rfl)
    clear h
    have H := Lib.hid (pValidate _ _ c g w hs w.heap.size (Nat.le_refl _) hr)
    generalize vldG g = x at *
    go_enter Try.func42, Try.ntmps42
    go_wp2_with fail
    refine (H.out).mono ?_
    rintro e w1 ⟨rfl, hb1⟩
    have s1 := hb1.size
    have HB1 := Lib.hid hb1
    have hr := (hr.below hb1).more s1
    have hr' := (hr'.below hb1).more s1
    have hr'' := (hr''.below hb1).more s1
    clear hb1
    go_wp2
    refine bodyPost_ret (results_tmp3 rfl _ _ _) rfl ?_
    exact ⟨_, ret_three rfl (by rw [HI.out]; rfl) (by rw [HE.out]; rfl), by rw [HR.out]; exact World.ownsRow_nil .., HB1.out⟩

set_option maxRecDepth 100000 in
set_option maxHeartbeats 4000000 in
theorem rSum (A A' A'' : Option Addr) (k c k' c' k'' c'' : Nat) (g : List (List Int)) (a b : List Int) (w : World) (hs : Sm g) (hl : a.length ≤ 1000) (hl' : b.length ≤ 1000) (B : Nat) (hB : B ≤ w.heap.size) (hr : TRd w B A k g) (hr' : Rd w B 1 A' k' (ints a)) (hr'' : Rd w B 1 A'' k'' (ints b)) :
    Calls Try.prog 43 #[.slice A k c, .slice A' k' c', .slice A'' k'' c''] w fun e w' => ∃ v, e = .returned (.tuple #[v, .bool (sumIs g a b), .int .i64 (sumE g a b)]) ∧ w'.ownsRow w.heap.size 3 1 v (sumR g a b).length (ints (sumR g a b)) ∧ Below w.heap.size w w' := by
  have hr := hr.more hB
  have hr' := hr'.more hB
  have hr'' := hr''.more hB
  obtain rfl := hr'.int_len
  obtain rfl := hr''.int_len
  by_cases h : vldG g = 0
  · have hpos : 0 < g.length := (vldG_ok h).1
    have HV := Lib.hid h
    have hm3 := (vldG_ok h).2.2.2.1
    clear h
    cases ha : vOk g a with
    | true =>
      cases hb : vOk g b with
      | true =>
        have HE := Lib.hid (show sumE g a b = 0 by rw [sumE, if_pos HV.out, ha, hb]; rfl)
        have HI0 := Lib.hid (show sumIs g a b = vOk g (addS a b) by rw [sumIs, HE.out]; rfl)
        have HA := Lib.hid ha
        have HBB := Lib.hid hb
        have HF := Lib.hid (vOk_ok ha).2
        have HF' := Lib.hid (vOk_ok hb).2
        have hla := (vOk_ok ha).1
        have hlb := (vOk_ok hb).1
        clear ha hb
        have HLN := Lib.hid (show a.length = b.length by rw [hla, hlb])
        have d2 : a.length ≤ b.length := by omega
        have d3 : b.length ≤ a.length := by omega
        have d4 : a.length ≤ 3 := by omega
        clear hla hlb
        go_enter Try.func43, Try.ntmps43
        go_wp2_with fail
        refine (rValidate _ _ _ g w hs w.heap.size (Nat.le_refl _) hr).mono ?_
        rw [HV.out]
        rintro e w1 ⟨rfl, hb1⟩
        have s1 := hb1.size
        have HB1 := Lib.hid hb1
        have hr := (hr.below hb1).more s1
        have hr' := (hr'.below hb1).more s1
        have hr'' := (hr''.below hb1).more s1
        clear hb1
        go_wp2_with fail
        refine (risVolts true _ _ _ _ _ _ g a HA.out w1 hpos hl w1.heap.size (Nat.le_refl _) hr hr').mono ?_
        rintro e w2 ⟨rfl, hb2⟩
        have s2 := hb2.size
        have HB2 := Lib.hid (HB1.out.trans (hb2.mono (by have := HB1.out.size; omega)))
        have hr := (hr.below hb2).more s2
        have hr' := (hr'.below hb2).more s2
        have hr'' := (hr''.below hb2).more s2
        clear hb2
        go_wp2_with fail
        refine (risVolts true _ _ _ _ _ _ g b HBB.out w2 hpos hl' w2.heap.size (Nat.le_refl _) hr hr'').mono ?_
        rintro e w3 ⟨rfl, hb3⟩
        have s3 := hb3.size
        have HB3 := Lib.hid (HB2.out.trans (hb3.mono (by have := HB2.out.size; omega)))
        have hr := (hr.below hb3).more s3
        have hr' := (hr'.below hb3).more s3
        have hr'' := (hr''.below hb3).more s3
        clear hb3
        have sz0 := HB3.out.size
        go_wp2
        go_loopw [10, 11] (fun v i wr => ∃ q : Nat, i = .int .i64 q ∧ q ≤ a.length ∧ wr.ownsRow w3.heap.size 3 1 v q (ints (addS (a.take q) (b.take q))) ∧ Below w3.heap.size w3 wr) (fun _ i _ => a.length - (intOf i).toNat)
        case atStart => exact ⟨0, rfl, Nat.zero_le _, World.ownsRow_nil .., Below.refl _ _⟩
        case round =>
          obtain ⟨q, rfl, hq, hown, hb⟩ := hrel
          have hsz := hb.size
          by_cases hlt : q < a.length
          · have hqr : q < b.length := by omega
            obtain ⟨b1, off, rfl, hbb, h0⟩ := (hr'.below' hb (Nat.le_refl _)).int hlt
            obtain ⟨b2, off', rfl, hbb', h0'⟩ := (hr''.below' hb (Nat.le_refl _)).int hqr
            have hfb := HF.out a[q] (List.getElem_mem hlt)
            have hfb' := HF'.out b[q] (List.getElem_mem hqr)
            have HS := Lib.hid (addS_take hlt hqr)
            generalize a[q] = x at *
            generalize b[q] = y at *
            obtain ⟨Av, cv, rfl, _, _⟩ := own_cap hown
            have z0 : (0 : Int) ≤ (q : Int) := Int.natCast_nonneg _
            have z1 : (q : Int) < (a.length : Int) := by omega
            have z2 : (q : Int) < (b.length : Int) := by omega
            have HOA := Lib.hid (show ((wr.alloc (.cells #[.int .i64 (x + y)] 3)).drew).ownsRow w3.heap.size 3 1 (.slice Av q cv) q (ints (addS (a.take q) (b.take q))) from hown.alloc _)
            have HRD := Lib.hid (show Rd ((wr.alloc (.cells #[.int .i64 (x + y)] 3)).drew) (wr.heap.size + 1) 1 (some ⟨wr.heap.size, 0, none⟩) 1 [.int .i64 (x + y)] from Rd.one wr #[.int .i64 (x + y)] 3 1 rfl)
            have HB := Lib.hid ((hb.alloc hsz (.cells #[.int .i64 (x + y)] 3)).drew)
            clear hown hb
            go_wp2
            refine wp_region_ftail (fun w' => w' = wr.drew) 9 _ (.slice Av q cv) (by kernel_rfl) (by kernel_rfl) rfl rfl rfl (fun _ _ _ _ h => h) rfl ?_
            simp only [List.take_succ_cons, List.take_zero, List.drop_succ_cons, List.drop_zero, Act.put, List.setIfInBounds_toArray, List.set_cons_zero, List.set_cons_succ]
            repeat (go_big_quiet_step (fail))
            refine wpQuiet_nil ?_
            rintro w' rfl
            go_wp2_with (at_builtin; go_must (refine appN rfl (.tmp 33) (.tmp 43) 23 rfl 3 _ 1 8 E23 w3.heap.size _ _ _ rfl HOA.out (wr.heap.size + 1) (some ⟨wr.heap.size, 0, none⟩) 1 1 [.int .i64 (x + y)] rfl HRD.out rfl ?_ ?_ ?_); omega; simp; omega; intro v5 w6 hown6 hg6)
            have HB6 := Lib.hid (below_own HB.out (by simp; omega) HOA.out (Nat.le_refl _) hg6)
            go_roundw
            case rel => exact ⟨q + 1, by go_num, by omega, by rw [HS.out]; simpa using hown6, HB6.out⟩
            case measure => simp [intOf]; omega
          · obtain rfl : q = a.length := by omega
            rw [List.take_length, show b.take a.length = b by rw [HLN.out, List.take_length]] at hown
            obtain ⟨A3, c3, rfl, _, _⟩ := own_cap hown
            obtain ⟨w4, hw4⟩ : ∃ z, z = wr := ⟨_, rfl⟩
            rw [← hw4] at hb hown hsz ⊢
            clear hw4
            have HBE := Lib.hid (HB3.out.trans (hb.mono (by have := HB3.out.size; omega)))
            have hgE := (hr.below' hb (Nat.le_refl _)).more hsz
            have hoE := Rd.of_own hown
            have HOW := Lib.hid (own_base hown (show w.heap.size ≤ w3.heap.size by omega))
            have hal := addS_len HLN.out
            have HAL := Lib.hid hal
            rw [← hal] at hoE
            have hl3 : (addS a b).length ≤ 1000 := by omega
            rw [← hal]
            clear hown hb hal
            cases ho : vOk g (addS a b) with
            | true =>
              rw [ho] at HI0
              have HR := Lib.hid (show sumR g a b = addS a b by rw [sumR, HI0.out]; rfl)
              have HO := Lib.hid ho
              clear ho
              go_wp2_with fail
              refine (risVolts true _ _ _ _ _ _ g (addS a b) HO.out w4 hpos hl3 w4.heap.size (Nat.le_refl _) hgE hoE).mono ?_
              rintro e w5 ⟨rfl, hb5⟩
              have s5 := hb5.size
              have HB5 := Lib.hid (HBE.out.trans (hb5.mono (by have := HBE.out.size; omega)))
              have hgE := (hgE.below hb5).more s5
              have hoE := (hoE.below hb5).more s5
              have HOW2 := own_below HOW.out hb5
              clear hb5
              go_wp2
              refine bodyPost_ret (results_tmp3 rfl _ _ _) rfl ?_
              exact ⟨_, ret_three rfl (by rw [HI0.out]; rfl) (by rw [HE.out]; rfl), by rw [HR.out, HAL.out]; simpa [HAL.out] using HOW2, HB5.out⟩
            | false =>
              rw [ho] at HI0
              have HR := Lib.hid (show sumR g a b = [] by rw [sumR, HI0.out]; rfl)
              have HO := Lib.hid ho
              clear ho
              go_wp2_with fail
              refine (risVolts false _ _ _ _ _ _ g (addS a b) HO.out w4 hpos hl3 w4.heap.size (Nat.le_refl _) hgE hoE).mono ?_
              rintro e w5 ⟨rfl, hb5⟩
              have s5 := hb5.size
              have HB5 := Lib.hid (HBE.out.trans (hb5.mono (by have := HBE.out.size; omega)))
              have hgE := (hgE.below hb5).more s5
              have hoE := (hoE.below hb5).more s5
              have HOW2 := own_below HOW.out hb5
              clear hb5
              go_wp2
              refine bodyPost_ret (results_tmp3 rfl _ _ _) rfl ?_
              exact ⟨_, ret_three rfl (by rw [HI0.out]; rfl) (by rw [HE.out]; rfl), by rw [HR.out]; exact World.ownsRow_nil .., HB5.out⟩
      | false =>
        have HE := Lib.hid (show sumE g a b = 1 by rw [sumE, if_pos HV.out, ha, hb]; rfl)
        have HI := Lib.hid (show sumIs g a b = false by rw [sumIs, HE.out]; rfl)
        have HR := Lib.hid (show sumR g a b = [] by rw [sumR, HI.out]; rfl)
        have HA := Lib.hid ha
        have HBB := Lib.hid hb
        clear ha hb
        go_enter Try.func43, Try.ntmps43
        go_wp2_with fail
        refine (rValidate _ _ _ g w hs w.heap.size (Nat.le_refl _) hr).mono ?_
        rw [HV.out]
        rintro e w1 ⟨rfl, hb1⟩
        have s1 := hb1.size
        have HB1 := Lib.hid hb1
        have hr := (hr.below hb1).more s1
        have hr' := (hr'.below hb1).more s1
        have hr'' := (hr''.below hb1).more s1
        clear hb1
        go_wp2_with fail
        refine (risVolts true _ _ _ _ _ _ g a HA.out w1 hpos hl w1.heap.size (Nat.le_refl _) hr hr').mono ?_
        rintro e w2 ⟨rfl, hb2⟩
        have s2 := hb2.size
        have HB2 := Lib.hid (HB1.out.trans (hb2.mono (by have := HB1.out.size; omega)))
        have hr := (hr.below hb2).more s2
        have hr' := (hr'.below hb2).more s2
        have hr'' := (hr''.below hb2).more s2
        clear hb2
        go_wp2_with fail
        refine (risVolts false _ _ _ _ _ _ g b HBB.out w2 hpos hl' w2.heap.size (Nat.le_refl _) hr hr'').mono ?_
        rintro e w3 ⟨rfl, hb3⟩
        have s3 := hb3.size
        have HB3 := Lib.hid (HB2.out.trans (hb3.mono (by have := HB2.out.size; omega)))
        have hr := (hr.below hb3).more s3
        have hr' := (hr'.below hb3).more s3
        have hr'' := (hr''.below hb3).more s3
        clear hb3
        go_wp2
        refine bodyPost_ret (results_tmp3 rfl _ _ _) rfl ?_
        exact ⟨_, ret_three rfl (by rw [HI.out]; rfl) (by rw [HE.out]; rfl), by rw [HR.out]; exact World.ownsRow_nil .., HB3.out⟩
    | false =>
      have HE := Lib.hid (show sumE g a b = 1 by rw [sumE, if_pos HV.out, ha]; rfl)
      have HI := Lib.hid (show sumIs g a b = false by rw [sumIs, HE.out]; rfl)
      have HR := Lib.hid (show sumR g a b = [] by rw [sumR, HI.out]; rfl)
      have HA := Lib.hid ha
      clear ha
      go_enter Try.func43, Try.ntmps43
      go_wp2_with fail
      refine (rValidate _ _ _ g w hs w.heap.size (Nat.le_refl _) hr).mono ?_
      rw [HV.out]
      rintro e w1 ⟨rfl, hb1⟩
      have s1 := hb1.size
      have HB1 := Lib.hid hb1
      have hr := (hr.below hb1).more s1
      have hr' := (hr'.below hb1).more s1
      have hr'' := (hr''.below hb1).more s1
      clear hb1
      go_wp2_with fail
      refine (risVolts false _ _ _ _ _ _ g a HA.out w1 hpos hl w1.heap.size (Nat.le_refl _) hr hr').mono ?_
      rintro e w2 ⟨rfl, hb2⟩
      have s2 := hb2.size
      have HB2 := Lib.hid (HB1.out.trans (hb2.mono (by have := HB1.out.size; omega)))
      have hr := (hr.below hb2).more s2
      have hr' := (hr'.below hb2).more s2
      have hr'' := (hr''.below hb2).more s2
      clear hb2
      go_wp2
      refine bodyPost_ret (results_tmp3 rfl _ _ _) rfl ?_
      exact ⟨_, ret_three rfl (by rw [HI.out]; rfl) (by rw [HE.out]; rfl), by rw [HR.out]; exact World.ownsRow_nil .., HB2.out⟩
  · have hd : (vldG g != 0) = true := by simpa using h
    have HE := Lib.hid (show sumE g a b = vldG g by rw [sumE, if_neg h])
    have HI := Lib.hid (show sumIs g a b = false by rw [sumIs, HE.out, decide_eq_false h]; rfl)
    have HR := Lib.hid (show sumR g a b = [] by rw [sumR, HI.out]; rfl)
    clear h
    have H := Lib.hid (rValidate _ _ c g w hs w.heap.size (Nat.le_refl _) hr)
    generalize vldG g = x at *
    go_enter Try.func43, Try.ntmps43
    go_wp2_with fail
    refine (H.out).mono ?_
    rintro e w1 ⟨rfl, hb1⟩
    have s1 := hb1.size
    have HB1 := Lib.hid hb1
    have hr := (hr.below hb1).more s1
    have hr' := (hr'.below hb1).more s1
    have hr'' := (hr''.below hb1).more s1
    clear hb1
    go_wp2
    refine bodyPost_ret (results_tmp3 rfl _ _ _) rfl ?_
    exact ⟨_, ret_three rfl (by rw [HI.out]; rfl) (by rw [HE.out]; rfl), by rw [HR.out]; exact World.ownsRow_nil .., HB1.out⟩
end Go.Proofs.Ytejjogpgolgdgaa
