/-
  WALKS: Hot and Fits, of the program and of the reference.
-/
import Derived.Test.YtkeolmipdoeljaaW22
import Derived.Test.YtkeolmipdoeljaaW14
namespace Go.Proofs.Ytkeolmipdoeljaa
open Go.RowKit Heat

def hotL (n : Int) (l : List HAct) (limit : Int) : List Int := if limited n l limit = 0 then hot limit l else []
def fitsB (n : Int) (l : List HAct) (limit : Int) : Bool := decide (limited n l limit = 0) && decide ((hot limit l).length = 0)
theorem ret_bi {k : IntKind} {a b : Bool} {x y : Int} (h : a = b) (h' : x = y) : Ending.returned (.tuple #[.bool a, .int k x]) = .returned (.tuple #[.bool b, .int k y]) := by rw [h, h']

set_option maxRecDepth 100000 in
theorem pHot (n : Int) (A : Option Addr) (k c : Nat) (limit : Int) (l : List HAct) (w : World) (hl : l.length ≤ 1000) (B : Nat) (hB : B ≤ w.heap.size) (hr : Rd w B 3 A k (actCells l)) :
    Calls Try.prog 45 #[.int .i64 n, .slice A k c, .int .i64 limit] w fun e w' => ∃ v, e = .returned (.tuple #[v, .int .i64 (limited n l limit)]) ∧ w'.ownsRow w.heap.size 3 1 v (hotL n l limit).length (ints (hotL n l limit)) ∧ Below w.heap.size w w' := by
  have H := Lib.hid (plimited n A k c l limit w hl B hB hr)
  by_cases h : limited n l limit = 0
  · obtain ⟨⟨h1, h2, h3, h4⟩, h5, h6⟩ := limited_ok h
    obtain ⟨m, rfl⟩ := Int.eq_ofNat_of_zero_le (show 0 ≤ n by omega)
    have HL := Lib.hid h
    have HA := Lib.hid h4
    have HI := Lib.hid (show hotL m l limit = hot limit l by rw [hotL, if_pos h])
    clear h h4
    go_enter Try.func45, Try.ntmps45
    go_wp2_with fail
    refine H.out.mono ?_
    rw [HL.out]
    rintro e w1 ⟨rfl, hb⟩
    go_wp2_with fail
    refine (phot m A k c limit l w1 (by omega) (by omega) hl HA.out B (by have := hb.size; omega) (hr.below' hb hB)).mono ?_
    rintro e w2 ⟨v, rfl, hown, hb2⟩
    have hown' := own_base hown hb.size
    go_wp2
    go_ret2
    exact ⟨_, ret_vi HL.out.symm, by rw [HI.out]; exact hown', hb.trans (hb2.mono hb.size)⟩
  · have hd : (limited n l limit == 0) = false := by simpa using h
    have hd' : (limited n l limit != 0) = true := by simpa using h
    have HI := Lib.hid (show hotL n l limit = [] by rw [hotL, if_neg h])
    clear h
    go_enter Try.func45, Try.ntmps45
    go_wp2_with fail
    refine H.out.mono ?_
    rintro e w1 ⟨rfl, hb⟩
    go_wp2
    go_ret2
    exact ⟨_, rfl, by rw [HI.out]; exact World.ownsRow_nil _ _ _ _, hb⟩

set_option maxRecDepth 100000 in
theorem rHot (n : Int) (A : Option Addr) (k c : Nat) (limit : Int) (l : List HAct) (w : World) (hl : l.length ≤ 1000) (B : Nat) (hB : B ≤ w.heap.size) (hr : Rd w B 3 A k (actCells l)) :
    Calls Try.prog 46 #[.int .i64 n, .slice A k c, .int .i64 limit] w fun e w' => ∃ v, e = .returned (.tuple #[v, .int .i64 (limited n l limit)]) ∧ w'.ownsRow w.heap.size 3 1 v (hotL n l limit).length (ints (hotL n l limit)) ∧ Below w.heap.size w w' := by
  have H := Lib.hid (rlimited n A k c l limit w hl B hB hr)
  by_cases h : limited n l limit = 0
  · obtain ⟨⟨h1, h2, h3, h4⟩, h5, h6⟩ := limited_ok h
    have HL := Lib.hid h
    have HM := Lib.hid (mild_of h4)
    have HI := Lib.hid (show hotL n l limit = hot limit l by rw [hotL, if_pos h])
    clear h h4
    go_enter Try.func46, Try.ntmps46
    go_wp2_with fail
    refine H.out.mono ?_
    rw [HL.out]
    rintro e w1 ⟨rfl, hb⟩
    have hH := rhot A k c limit l w1 (by omega) HM.out B (by have := hb.size; omega) (hr.below' hb hB)
    rw [hotTo_all] at hH
    have HH := Lib.hid hH
    clear hH
    go_wp2_with fail
    refine HH.out.mono ?_
    rintro e w2 ⟨v, rfl, hown, hb2⟩
    have hown' := own_base hown hb.size
    go_wp2
    go_ret2
    exact ⟨_, ret_vi HL.out.symm, by rw [HI.out]; exact hown', hb.trans (hb2.mono hb.size)⟩
  · have hd : (limited n l limit == 0) = false := by simpa using h
    have hd' : (limited n l limit != 0) = true := by simpa using h
    have HI := Lib.hid (show hotL n l limit = [] by rw [hotL, if_neg h])
    clear h
    go_enter Try.func46, Try.ntmps46
    go_wp2_with fail
    refine H.out.mono ?_
    rintro e w1 ⟨rfl, hb⟩
    go_wp2
    go_ret2
    exact ⟨_, rfl, by rw [HI.out]; exact World.ownsRow_nil _ _ _ _, hb⟩

theorem fits_eq {n : Int} {l : List HAct} {limit : Int} (h : limited n l limit = 0) : fitsB n l limit = (((hot limit l).length : Int) == 0) := by
  rw [fitsB, decide_eq_true h, Bool.true_and]
  by_cases e : (hot limit l).length = 0
  · rw [decide_eq_true e, e]; rfl
  · rw [decide_eq_false e]
    symm
    simp only [beq_eq_false_iff_ne]
    omega

set_option maxRecDepth 100000 in
theorem pFits (n : Int) (A : Option Addr) (k c : Nat) (limit : Int) (l : List HAct) (w : World) (hl : l.length ≤ 1000) (B : Nat) (hB : B ≤ w.heap.size) (hr : Rd w B 3 A k (actCells l)) :
    Calls Try.prog 47 #[.int .i64 n, .slice A k c, .int .i64 limit] w fun e w' => e = .returned (.tuple #[.bool (fitsB n l limit), .int .i64 (limited n l limit)]) ∧ Below w.heap.size w w' := by
  have H := Lib.hid (plimited n A k c l limit w hl B hB hr)
  by_cases h : limited n l limit = 0
  · obtain ⟨⟨h1, h2, h3, h4⟩, h5, h6⟩ := limited_ok h
    obtain ⟨m, rfl⟩ := Int.eq_ofNat_of_zero_le (show 0 ≤ n by omega)
    have HL := Lib.hid h
    have HA := Lib.hid h4
    have HF := Lib.hid (fits_eq h)
    have hle := hot_len limit l
    clear h h4
    go_enter Try.func47, Try.ntmps47
    go_wp2_with fail
    refine H.out.mono ?_
    rw [HL.out]
    rintro e w1 ⟨rfl, hb⟩
    go_wp2_with fail
    refine (phot m A k c limit l w1 (by omega) (by omega) hl HA.out B (by have := hb.size; omega) (hr.below' hb hB)).mono ?_
    rintro e w2 ⟨v, rfl, hown, hb2⟩
    obtain ⟨A2, c2, rfl, _, _⟩ := own_cap hown
    clear hown
    generalize (hot limit l).length = z at *
    by_cases hz : z = 0
    · subst hz
      go_wp2
      go_ret2
      exact ⟨ret_bi HF.out.symm HL.out.symm, hb.trans (hb2.mono hb.size)⟩
    · have d1 : ((z : Int) == 0) = false := by simp; omega
      have d2 : (z == 0) = false := by simpa using hz
      clear hz
      go_wp2
      go_ret2
      exact ⟨ret_bi (by rw [HF.out, d1]) HL.out.symm, hb.trans (hb2.mono hb.size)⟩
  · have hd : (limited n l limit == 0) = false := by simpa using h
    have hd' : (limited n l limit != 0) = true := by simpa using h
    have HI := Lib.hid (show fitsB n l limit = false by rw [fitsB, decide_eq_false h]; rfl)
    clear h
    go_enter Try.func47, Try.ntmps47
    go_wp2_with fail
    refine H.out.mono ?_
    rintro e w1 ⟨rfl, hb⟩
    go_wp2
    go_ret2
    exact ⟨ret_bi HI.out.symm rfl, hb⟩

set_option maxRecDepth 100000 in
theorem rFits (n : Int) (A : Option Addr) (k c : Nat) (limit : Int) (l : List HAct) (w : World) (hl : l.length ≤ 1000) (B : Nat) (hB : B ≤ w.heap.size) (hr : Rd w B 3 A k (actCells l)) :
    Calls Try.prog 48 #[.int .i64 n, .slice A k c, .int .i64 limit] w fun e w' => e = .returned (.tuple #[.bool (fitsB n l limit), .int .i64 (limited n l limit)]) ∧ Below w.heap.size w w' := by
  have H := Lib.hid (rHot n A k c limit l w hl B hB hr)
  by_cases h : limited n l limit = 0
  · have HL := Lib.hid h
    have HF := Lib.hid (fits_eq h)
    have HI := Lib.hid (show hotL n l limit = hot limit l by rw [hotL, if_pos h])
    have hle := hot_len limit l
    clear h
    go_enter Try.func48, Try.ntmps48
    go_wp2_with fail
    refine H.out.mono ?_
    rw [HL.out, HI.out]
    rintro e w1 ⟨v, rfl, hown, hb⟩
    obtain ⟨A2, c2, rfl, _, _⟩ := own_cap hown
    clear hown
    generalize (hot limit l).length = z at *
    by_cases hz : z = 0
    · subst hz
      go_wp2
      go_ret2
      exact ⟨ret_bi HF.out.symm HL.out.symm, hb⟩
    · have d1 : ((z : Int) == 0) = false := by simp; omega
      have d2 : (z == 0) = false := by simpa using hz
      clear hz
      go_wp2
      go_ret2
      exact ⟨ret_bi (by rw [HF.out, d1]) HL.out.symm, hb⟩
  · have hd : (limited n l limit == 0) = false := by simpa using h
    have hd' : (limited n l limit != 0) = true := by simpa using h
    have HI := Lib.hid (show fitsB n l limit = false by rw [fitsB, decide_eq_false h]; rfl)
    have HI2 := Lib.hid (show hotL n l limit = [] by rw [hotL, if_neg h])
    clear h
    go_enter Try.func48, Try.ntmps48
    go_wp2_with fail
    refine H.out.mono ?_
    rw [HI2.out]
    rintro e w1 ⟨v, rfl, hown, hb⟩
    go_wp2
    go_ret2
    exact ⟨ret_bi HI.out.symm rfl, hb⟩

theorem hot_mono {L L' : Int} (hL : L ≤ L') (l : List HAct) : ∀ (h : Int → Int) (i : Nat), hotFrom L h i l = [] → hotFrom L' h i l = [] := by
  induction l with
  | nil => intro h i _; rfl
  | cons a l ih =>
    intro h i e
    rw [hotFrom] at e ⊢
    split at e
    · cases e
    · rename_i c
      rw [if_neg (fun x => c ⟨x.1, by omega⟩)]
      exact ih _ _ e
theorem fits_mono {n : Int} {l : List HAct} {limit : Int} (h : fitsB n l limit = true) (hl : limit < 100) : limited n l (limit + 1) = 0 ∧ fitsB n l (limit + 1) = true := by
  rw [fitsB, Bool.and_eq_true, decide_eq_true_eq, decide_eq_true_eq] at h
  obtain ⟨_, h5, h6⟩ := limited_ok h.1
  have h0 := h.1
  have hv : validate n l = 0 := by unfold limited at h0; split at h0; assumption; omega
  have e : limited n l (limit + 1) = 0 := by rw [limited, if_pos hv, if_pos ⟨by omega, by omega⟩]
  refine ⟨e, ?_⟩
  rw [fitsB, decide_eq_true e, Bool.true_and, decide_eq_true_eq]
  have h7 : hot limit l = [] := List.eq_nil_of_length_eq_zero h.2
  have h8 : hot (limit + 1) l = [] := hot_mono (L := limit) (L' := limit + 1) (by omega) l cold 0 h7
  rw [h8]; rfl
theorem fits_low {n : Int} {l : List HAct} {limit : Int} (h : fitsB n l limit = true) : 0 ≤ limit := by
  rw [fitsB, Bool.and_eq_true, decide_eq_true_eq] at h
  exact (limited_ok h.1).2.1
end Go.Proofs.Ytkeolmipdoeljaa
