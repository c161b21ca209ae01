/-
  WALKS: CheckInsert of the program.
-/
import Derived.Test.YtkeolmipdoeljaaW25
import Derived.Test.YtkeolmipdoeljaaW24
import Derived.Test.YtkeolmipdoeljaaW11
namespace Go.Proofs.Ytkeolmipdoeljaa
open Go.RowKit Heat

set_option maxRecDepth 100000 in
set_option maxHeartbeats 4000000 in
theorem pCheckInsert (n : Int) (A A' : Option Addr) (k c k' c' : Nat) (limit : Int) (l m : List HAct) (w : World) (hl : l.length ≤ 1000) (hm : m.length ≤ 1000) (B : Nat) (hB : B ≤ w.heap.size) (hr : Rd w B 3 A k (actCells l)) (hr' : Rd w B 3 A' k' (actCells m)) :
    Calls Try.prog 51 #[.int .i64 n, .slice A k c, .slice A' k' c', .int .i64 limit] w fun e w' => e = .returned (.tuple #[.int .i64 (checkN n l m limit), .int .i64 (checkErr n l m limit)]) ∧ Below w.heap.size w w' := by
  obtain rfl := hr.act_len
  obtain rfl := hr'.act_len
  have H := Lib.hid (plimited n A l.length c l limit w hl B hB hr)
  by_cases h : limited n l limit = 0
  · obtain ⟨⟨h1, h2, h3, h4⟩, h5, h6⟩ := limited_ok h
    have HL := Lib.hid h
    by_cases hw : 40 < m.length
    · have HE := Lib.hid (show checkErr n l m limit = 3 by rw [checkErr, if_neg (by simpa using h), if_pos hw])
      clear h h4
      go_enter Try.func51, Try.ntmps51
      go_wp2_with fail
      refine H.out.mono ?_
      rw [HL.out]
      rintro e w1 ⟨rfl, hb⟩
      go_wp2
      go_ret2
      exact ⟨ret_ii (by rw [checkN, HE.out]; rfl) HE.out.symm, hb⟩
    · by_cases ha : areActs n m = true
      · have HA := Lib.hid ha
        have HAE := Lib.hid (show actsErr n m = 0 by rw [actsErr, ha]; rfl)
        have HC := Lib.hid (show checkErr n l m limit = if greedy l m = false then 5 else if hot limit m ≠ [] then 8 else 0 by rw [checkErr, if_neg (by simpa using h), if_neg hw, if_neg (by rw [ha]; decide)])
        obtain ⟨z, rfl⟩ := Int.eq_ofNat_of_zero_le (show 0 ≤ n by omega)
        clear h h4 ha
        cases hg : greedy l m with
        | false =>
          have HE := Lib.hid (show checkErr z l m limit = 5 by rw [HC.out, if_pos hg])
          have HG := Lib.hid hg
          clear hg
          go_enter Try.func51, Try.ntmps51
          go_wp2_with fail
          refine H.out.mono ?_
          rw [HL.out]
          rintro e w1 ⟨rfl, hb1⟩
          have s1 := hb1.size
          go_wp2_with fail
          refine (pacts z A' m.length c' m w1 (by omega) (by omega) (by omega) B (by omega) (hr'.below' hb1 hB)).mono ?_
          rw [HAE.out]
          rintro e w2 ⟨rfl, hb2⟩
          have hb := hb1.trans (hb2.mono s1)
          have s2 := hb.size
          go_wp2_with fail
          refine (pisLeft A A' l.length c m.length c' l m w2 hl hm B (by omega) (hr.below' hb hB) (hr'.below' hb hB)).mono ?_
          rw [HG.out]
          rintro e w3 ⟨rfl, hb3⟩
          go_wp2
          go_ret2
          exact ⟨ret_ii (by rw [checkN, HE.out]; rfl) HE.out.symm, hb.trans (hb3.mono s2)⟩
        | true =>
          have HC2 := Lib.hid (show checkErr z l m limit = if hot limit m ≠ [] then 8 else 0 by rw [HC.out, if_neg (by rw [hg]; decide)])
          have HG := Lib.hid hg
          have hle := hot_len limit m
          by_cases hh : hot limit m = []
          · have HE := Lib.hid (show checkErr z l m limit = 0 by rw [HC2.out, if_neg (by simpa using hh)])
            have HN := Lib.hid (show checkN z l m limit = (m.length : Int) - l.length by rw [checkN, if_pos HE.out])
            have HZ := Lib.hid (show (hot limit m).length = 0 by rw [hh]; rfl)
            clear hg hh
            go_enter Try.func51, Try.ntmps51
            go_wp2_with fail
            refine H.out.mono ?_
            rw [HL.out]
            rintro e w1 ⟨rfl, hb1⟩
            have s1 := hb1.size
            go_wp2_with fail
            refine (pacts z A' m.length c' m w1 (by omega) (by omega) (by omega) B (by omega) (hr'.below' hb1 hB)).mono ?_
            rw [HAE.out]
            rintro e w2 ⟨rfl, hb2⟩
            have hb := hb1.trans (hb2.mono s1)
            have s2 := hb.size
            go_wp2_with fail
            refine (pisLeft A A' l.length c m.length c' l m w2 hl hm B (by omega) (hr.below' hb hB) (hr'.below' hb hB)).mono ?_
            rw [HG.out]
            rintro e w3 ⟨rfl, hb3⟩
            have hbb := hb.trans (hb3.mono s2)
            have s3 := hbb.size
            go_wp2_with fail
            refine (phot z A' m.length c' limit m w3 (by omega) (by omega) hm HA.out B (by omega) (hr'.below' hbb hB)).mono ?_
            rw [HZ.out]
            rintro e w4 ⟨v, rfl, hown, hb4⟩
            obtain ⟨A2, c2, rfl, _, _⟩ := own_cap hown
            clear hown
            go_wp2
            go_ret2
            exact ⟨ret_ii HN.out.symm HE.out.symm, hbb.trans (hb4.mono s3)⟩
          · have HE := Lib.hid (show checkErr z l m limit = 8 by rw [HC2.out, if_pos hh])
            have hpos := List.length_pos_iff.2 hh
            clear hg hh
            generalize hgl : (hot limit m).length = y at *
            have HY := Lib.hid hgl
            clear hgl
            have d1 : decide (0 < (y : Int)) = true := by simp; omega
            have d2 : decide (0 < y) = true := by simpa using hpos
            go_enter Try.func51, Try.ntmps51
            go_wp2_with fail
            refine H.out.mono ?_
            rw [HL.out]
            rintro e w1 ⟨rfl, hb1⟩
            have s1 := hb1.size
            go_wp2_with fail
            refine (pacts z A' m.length c' m w1 (by omega) (by omega) (by omega) B (by omega) (hr'.below' hb1 hB)).mono ?_
            rw [HAE.out]
            rintro e w2 ⟨rfl, hb2⟩
            have hb := hb1.trans (hb2.mono s1)
            have s2 := hb.size
            go_wp2_with fail
            refine (pisLeft A A' l.length c m.length c' l m w2 hl hm B (by omega) (hr.below' hb hB) (hr'.below' hb hB)).mono ?_
            rw [HG.out]
            rintro e w3 ⟨rfl, hb3⟩
            have hbb := hb.trans (hb3.mono s2)
            have s3 := hbb.size
            go_wp2_with fail
            refine (phot z A' m.length c' limit m w3 (by omega) (by omega) hm HA.out B (by omega) (hr'.below' hbb hB)).mono ?_
            rw [HY.out]
            rintro e w4 ⟨v, rfl, hown, hb4⟩
            obtain ⟨A2, c2, rfl, _, _⟩ := own_cap hown
            clear hown
            go_wp2
            go_ret2
            exact ⟨ret_ii (by rw [checkN, HE.out]; rfl) HE.out.symm, hbb.trans (hb4.mono s3)⟩
      · have HE := Lib.hid (show checkErr n l m limit = 1 by rw [checkErr, if_neg (by simpa using h), if_neg hw, if_pos (by simpa using ha)])
        have HAE := Lib.hid (show actsErr n m = 1 by rw [actsErr, if_neg ha])
        clear h h4 ha
        go_enter Try.func51, Try.ntmps51
        go_wp2_with fail
        refine H.out.mono ?_
        rw [HL.out]
        rintro e w1 ⟨rfl, hb1⟩
        have s1 := hb1.size
        go_wp2_with fail
        refine (pacts n A' m.length c' m w1 (by omega) (by omega) (by omega) B (by omega) (hr'.below' hb1 hB)).mono ?_
        rw [HAE.out]
        rintro e w2 ⟨rfl, hb2⟩
        go_wp2
        go_ret2
        exact ⟨ret_ii (by rw [checkN, HE.out]; rfl) HE.out.symm, hb1.trans (hb2.mono s1)⟩
  · have hd : (limited n l limit == 0) = false := by simpa using h
    have hd' : (limited n l limit != 0) = true := by simpa using h
    have HE := Lib.hid (show checkErr n l m limit = limited n l limit by rw [checkErr, if_pos h])
    have HN := Lib.hid (show checkN n l m limit = 0 by rw [checkN, HE.out, if_neg h])
    clear h
    go_enter Try.func51, Try.ntmps51
    go_wp2_with fail
    refine H.out.mono ?_
    rintro e w1 ⟨rfl, hb⟩
    go_wp2
    go_ret2
    exact ⟨ret_ii HN.out.symm HE.out.symm, hb⟩
/-- Never fewer than the fewest. -/
theorem check_le {n : Int} {l m : List HAct} {limit : Int} (h : checkErr n l m limit = 0) : limited n l limit = 0 ∧ (cnt limit cold l : Int) ≤ checkN n l m limit := by
  by_cases h0 : limited n l limit = 0
  · refine ⟨h0, ?_⟩
    obtain ⟨⟨h1, h2, h3, h4⟩, h5, h6⟩ := limited_ok h0
    rw [checkN, if_pos h]
    rw [checkErr, if_neg (by simpa using h0)] at h
    by_cases c1 : 40 < m.length
    · rw [if_pos c1] at h; omega
    · rw [if_neg c1] at h
      by_cases c2 : areActs n m = false
      · rw [if_pos c2] at h; omega
      · rw [if_neg c2] at h
        by_cases c3 : greedy l m = false
        · rw [if_pos c3] at h; omega
        · rw [if_neg c3] at h
          by_cases c4 : hot limit m ≠ []
          · rw [if_pos c4] at h; omega
          · have hm : areActs n m = true := by simpa using c2
            obtain ⟨k, hk⟩ := left_of_greedy _ _ (by simpa using c3)
            have hz : cnt limit cold m = 0 := cnt_of_not_hot m cold 0 (by simpa [hot] using c4)
            have := (cnt_left limit hk (mild_of hm).warm 4 ((actBounds hm).2 4 (by omega))).1
            have := hk.length
            omega
  · rw [checkErr, if_pos h0] at h; exact absurd h h0
end Go.Proofs.Ytkeolmipdoeljaa
