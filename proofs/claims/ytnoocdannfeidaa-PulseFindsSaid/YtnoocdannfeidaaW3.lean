/-
  WALKS: which lists are sets of modes.
-/
import Derived.Test.YtnoocdannfeidaaW2
namespace Go.Proofs.Ytnoocdannfeidaa
open Go.RowKit Pulse

theorem below_drewN {B : Nat} {w w' : World} (h : Below B w w') (n : Nat) : Below B w (w'.drewN n) := by
  induction n with
  | zero => exact h
  | succ n ih => rw [← World.drew_drewN]; exact ih.drew
/-- Is place q right: a mode, greater than the one before it? -/
def prevLt (l : List Int) : Nat → Bool
  | 0 => true
  | p + 1 => decide (l.getD p 0 < l.getD (p + 1) 0)
def okAt (l : List Int) (q : Nat) : Bool := isMode (l.getD q 0) && prevLt l q
def setTo (l : List Int) : Nat → Bool
  | 0 => true
  | q + 1 => setTo l q && okAt l q
def areModes (l : List Int) : Bool := decide (0 < l.length) && setTo l l.length
theorem setTo_false (l : List Int) (q : Nat) (h : setTo l q = false) : ∀ r, q ≤ r → setTo l r = false := by
  intro r hr
  induction r with
  | zero =>
    obtain rfl : q = 0 := by omega
    exact h
  | succ r ih =>
    by_cases e : q = r + 1
    · rw [← e]; exact h
    · rw [setTo, ih (by omega)]; rfl
theorem getD_eq {l : List Int} {q : Nat} (h : q < l.length) : l.getD q 0 = l[q] := by simp [h]
theorem setTo_modes (l : List Int) : ∀ q, q ≤ l.length → setTo l q = true → ∀ i (hi : i < l.length), i < q → 0 ≤ l[i] ∧ l[i] ≤ 3 := by
  intro q
  induction q with
  | zero => intro _ _ i _ h; omega
  | succ q ih =>
    intro hq h i hi hlt
    rw [setTo, Bool.and_eq_true] at h
    by_cases e : i = q
    · subst e
      have := h.2
      rw [okAt, Bool.and_eq_true] at this
      have := this.1
      rw [getD_eq hi] at this
      simpa [isMode] using this
    · exact ih (by omega) h.1 i hi (by omega)
theorem areModes_ok {l : List Int} (h : areModes l = true) : 0 < l.length ∧ ∀ m ∈ l, 0 ≤ m ∧ m ≤ 3 := by
  rw [areModes, Bool.and_eq_true, decide_eq_true_eq] at h
  refine ⟨h.1, fun m hm => ?_⟩
  obtain ⟨i, hi, rfl⟩ := List.mem_iff_getElem.1 hm
  exact setTo_modes l _ (Nat.le_refl _) h.2 i hi hi

theorem pmoded (A : Option Addr) (k c : Nat) (l : List Int) (m : Int) (w : World) (hl : l.length ≤ 1000) (B : Nat) (hB : B ≤ w.heap.size) (hr : Rd w B 1 A k (ints l)) :
    Calls Try.prog 56 #[.slice A k c, .int .i64 m] w fun e w' => e = .returned (.int .i64 (moded l m)) ∧ Below w.heap.size w w' := by
  have H := Lib.hid (pValidate A k c l w hl B hB hr)
  by_cases h : vald l = 0
  · have HV := Lib.hid h
    have HM := Lib.hid (show moded l m = if isMode m then 0 else 1 by rw [moded, if_pos h])
    clear h
    cases hm : isMode m with
    | true =>
      have HX := Lib.hid (show moded l m = 0 by rw [HM.out, hm]; rfl)
      have HI := Lib.hid hm
      clear hm
      go_enter Try.func56, Try.ntmps56
      go_wp2_with fail
      refine H.out.mono ?_
      rw [HV.out]
      rintro e w1 ⟨rfl, hb⟩
      go_wp2_with fail
      refine (pisMode _ _).mono ?_
      rw [HI.out]
      rintro e w2 ⟨rfl, rfl⟩
      go_wp2
      go_ret
      exact ⟨ret_int HX.out.symm, hb⟩
    | false =>
      have HX := Lib.hid (show moded l m = 1 by rw [HM.out, hm]; rfl)
      have HI := Lib.hid hm
      clear hm
      go_enter Try.func56, Try.ntmps56
      go_wp2_with fail
      refine H.out.mono ?_
      rw [HV.out]
      rintro e w1 ⟨rfl, hb⟩
      go_wp2_with fail
      refine (pisMode _ _).mono ?_
      rw [HI.out]
      rintro e w2 ⟨rfl, rfl⟩
      go_wp2
      go_ret
      exact ⟨ret_int HX.out.symm, hb⟩
  · have d1 : (vald l == 0) = false := by simpa using h
    have d2 : (vald l != 0) = true := by simpa using h
    have HX := Lib.hid (show moded l m = vald l by rw [moded, if_neg h])
    clear h
    go_enter Try.func56, Try.ntmps56
    go_wp2_with fail
    refine H.out.mono ?_
    rintro e w1 ⟨rfl, hb⟩
    go_wp2
    go_ret
    exact ⟨ret_int HX.out.symm, hb⟩

theorem rmoded (A : Option Addr) (k c : Nat) (l : List Int) (m : Int) (w : World) (hl : l.length ≤ 1000) (B : Nat) (hB : B ≤ w.heap.size) (hr : Rd w B 1 A k (ints l)) :
    Calls Try.prog 58 #[.slice A k c, .int .i64 m] w fun e w' => e = .returned (.int .i64 (moded l m)) ∧ Below w.heap.size w w' := by
  have H := Lib.hid (rValidate A k c l w hl B hB hr)
  by_cases h : vald l = 0
  · have HV := Lib.hid h
    have HM := Lib.hid (show moded l m = if isMode m then 0 else 1 by rw [moded, if_pos h])
    clear h
    cases hm : isMode m with
    | true =>
      have HX := Lib.hid (show moded l m = 0 by rw [HM.out, hm]; rfl)
      have HI := Lib.hid hm
      clear hm
      go_enter Try.func58, Try.ntmps58
      go_wp2_with fail
      refine H.out.mono ?_
      rw [HV.out]
      rintro e w1 ⟨rfl, hb⟩
      go_wp2_with fail
      refine (rwithin _ _ _ _).mono ?_
      rw [show (decide (0 ≤ m) && decide (m ≤ 3)) = true from HI.out]
      rintro e w2 ⟨rfl, rfl⟩
      go_wp2
      go_ret
      exact ⟨ret_int HX.out.symm, hb⟩
    | false =>
      have HX := Lib.hid (show moded l m = 1 by rw [HM.out, hm]; rfl)
      have HI := Lib.hid hm
      clear hm
      go_enter Try.func58, Try.ntmps58
      go_wp2_with fail
      refine H.out.mono ?_
      rw [HV.out]
      rintro e w1 ⟨rfl, hb⟩
      go_wp2_with fail
      refine (rwithin _ _ _ _).mono ?_
      rw [show (decide (0 ≤ m) && decide (m ≤ 3)) = false from HI.out]
      rintro e w2 ⟨rfl, rfl⟩
      go_wp2
      go_ret
      exact ⟨ret_int HX.out.symm, hb⟩
  · have d1 : (vald l == 0) = false := by simpa using h
    have d2 : (vald l != 0) = true := by simpa using h
    have HX := Lib.hid (show moded l m = vald l by rw [moded, if_neg h])
    clear h
    go_enter Try.func58, Try.ntmps58
    go_wp2_with fail
    refine H.out.mono ?_
    rintro e w1 ⟨rfl, hb⟩
    go_wp2
    go_ret
    exact ⟨ret_int HX.out.symm, hb⟩

set_option maxHeartbeats 1000000 in
theorem pisModes (A : Option Addr) (k c : Nat) (l : List Int) (w : World) (hl : l.length ≤ 1000) (B : Nat) (hB : B ≤ w.heap.size) (hr : Rd w B 1 A k (ints l)) :
    Calls Try.prog 71 #[.slice A k c] w fun e w' => e = .returned (.bool (areModes l)) ∧ Below w.heap.size w w' := by
  obtain rfl := hr.int_len
  have HAM := Lib.hid (show areModes l = (decide (0 < l.length) && setTo l l.length) from rfl)
  have HF := Lib.hid (fun q (h : setTo l q = false) (hq : q ≤ l.length) => show areModes l = false by rw [areModes, setTo_false l q h _ hq]; simp)
  go_enter Try.func71, Try.ntmps71
  go_wp2
  go_loopw [7] (fun i wr => ∃ q : Nat, q ≤ l.length ∧ i = .int .i64 q ∧ Below w.heap.size w wr ∧ Hid (setTo l q = true)) (fun i _ => l.length - (intOf i).toNat)
  case atStart => exact ⟨0, Nat.zero_le _, rfl, Below.refl _ _, rfl⟩
  case round =>
    obtain ⟨q, hq, rfl, hb, hall⟩ := hrel
    by_cases hlt : q < l.length
    · obtain ⟨b, off, rfl, hbb, h0⟩ := (hr.below' hb hB).int hlt
      have HS := Lib.hid (show setTo l (q + 1) = okAt l q by rw [setTo, hall.out, Bool.true_and])
      cases hm : isMode l[q] with
      | false =>
        have HM := Lib.hid hm
        have HN := Lib.hid (HF.out (q + 1) (by rw [HS.out, okAt, getD_eq hlt, hm]; rfl) (by omega))
        clear hm
        go_wp2_with fail
        refine (pisMode _ _).mono ?_
        rw [HM.out]
        rintro e w2 ⟨rfl, rfl⟩
        go_wp2
        go_ret
        exact ⟨ret_bool HN.out.symm, hb⟩
      | true =>
        have HM := Lib.hid hm
        cases q with
        | zero =>
          rw [Nat.add_zero] at h0
          have HN := Lib.hid (show setTo l (0 + 1) = true by rw [HS.out, okAt, getD_eq hlt, hm]; rfl)
          clear hm
          go_wp2_with fail
          refine (pisMode _ _).mono ?_
          rw [HM.out]
          rintro e w2 ⟨rfl, rfl⟩
          go_wp2
          go_roundw
          case rel => exact ⟨0 + 1, by omega, by go_num, hb, HN⟩
          case measure => simp [intOf]; omega
        | succ p =>
          obtain ⟨b2, off2, e2, _, h1⟩ := (hr.below' hb hB).int (show p < l.length by omega)
          obtain ⟨rfl, rfl⟩ : b2 = b ∧ off2 = off := by simp at e2; exact ⟨e2.1.symm, e2.2.symm⟩
          have HO := Lib.hid (show okAt l (p + 1) = decide (l[p] < l[p + 1]) by rw [okAt, prevLt, getD_eq hlt, getD_eq (show p < l.length by omega), hm, Bool.true_and])
          clear hm e2
          by_cases hh : l[p + 1] ≤ l[p]
          · have HN := Lib.hid (HF.out (p + 1 + 1) (by rw [HS.out, HO.out, decide_eq_false (by omega)]) (by omega))
            go_wp2_with fail
            refine (pisMode _ _).mono ?_
            rw [HM.out]
            rintro e w2 ⟨rfl, rfl⟩
            go_wp2
            go_ret
            exact ⟨ret_bool HN.out.symm, hb⟩
          · have HN := Lib.hid (show setTo l (p + 1 + 1) = true by rw [HS.out, HO.out, decide_eq_true (by omega)])
            go_wp2_with fail
            refine (pisMode _ _).mono ?_
            rw [HM.out]
            rintro e w2 ⟨rfl, rfl⟩
            go_wp2
            go_roundw
            case rel => exact ⟨p + 1 + 1, by omega, by go_num, hb, HN⟩
            case measure => simp [intOf]; omega
    · obtain rfl : q = l.length := by omega
      have HN := Lib.hid (show areModes l = decide (0 < l.length) by rw [HAM.out, hall.out, Bool.and_true])
      go_wp2
      go_ret
      exact ⟨ret_bool (by rw [HN.out]), hb⟩

set_option maxHeartbeats 2000000 in
theorem rIsSet (A : Option Addr) (k c : Nat) (l : List Int) (w : World) (hl : l.length ≤ 1000) (B : Nat) (hB : B ≤ w.heap.size) (hr : Rd w B 1 A k (ints l)) :
    Calls Try.prog 99 #[.slice A k c, .int .i64 4] w fun e w' => e = .returned (.bool (setTo l l.length)) ∧ Below w.heap.size w w' := by
  obtain rfl := hr.int_len
  have HF := Lib.hid (fun q (h : setTo l q = false) (hq : q ≤ l.length) => setTo_false l q h _ hq)
  go_enter Try.func99, Try.ntmps99
  go_wp2
  go_loopw [5] (fun i wr => ∃ q : Nat, q ≤ l.length ∧ i = .int .i64 q ∧ Below w.heap.size w wr ∧ Hid (setTo l q = true)) (fun i _ => l.length - (intOf i).toNat)
  case atStart => exact ⟨0, Nat.zero_le _, rfl, Below.refl _ _, rfl⟩
  case round =>
    obtain ⟨q, hq, rfl, hb, hall⟩ := hrel
    by_cases hlt : q < l.length
    · obtain ⟨b, off, rfl, hbb, h0⟩ := (hr.below' hb hB).int hlt
      have HS := Lib.hid (show setTo l (q + 1) = okAt l q by rw [setTo, hall.out, Bool.true_and])
      have hq0 : (0 : Int) ≤ (q : Int) := by omega
      have hq1 : (q : Int) < (l.length : Int) := by omega
      by_cases m0 : l[q] < 0
      · have HN := Lib.hid (HF.out (q + 1) (by rw [HS.out, okAt, getD_eq hlt, isMode, decide_eq_false (by omega)]; rfl) (by omega))
        go_wp2
        go_quiet (fail)
        go_wp2
        go_ret
        exact ⟨ret_bool HN.out.symm, below_drewN hb _⟩
      · have d0 : decide (l[q] < 0) = false := by simpa using m0
        by_cases m1 : 4 ≤ l[q]
        · have HN := Lib.hid (HF.out (q + 1) (by rw [HS.out, okAt, getD_eq hlt, isMode, decide_eq_false (show ¬ l[q] ≤ 3 by omega)]; simp) (by omega))
          go_wp2
          go_quiet (fail)
          go_wp2
          go_ret
          exact ⟨ret_bool HN.out.symm, below_drewN hb _⟩
        · have d1 : decide (4 ≤ l[q]) = false := by simpa using m1
          have hm : isMode l[q] = true := by rw [isMode, decide_eq_true (by omega), decide_eq_true (by omega)]; rfl
          cases q with
          | zero =>
            rw [Nat.add_zero] at h0
            have HN := Lib.hid (show setTo l (0 + 1) = true by rw [HS.out, okAt, getD_eq hlt, hm]; rfl)
            clear hm
            go_wp2
            go_quiet (fail)
            go_wp2
            go_roundw
            case rel => exact ⟨0 + 1, by omega, by go_num, below_drewN hb _, HN⟩
            case measure => simp [intOf]; omega
          | succ p =>
            obtain ⟨b2, off2, e2, _, h1⟩ := (hr.below' hb hB).int (show p < l.length by omega)
            obtain ⟨rfl, rfl⟩ : b2 = b ∧ off2 = off := by simp at e2; exact ⟨e2.1.symm, e2.2.symm⟩
            have HO := Lib.hid (show okAt l (p + 1) = decide (l[p] < l[p + 1]) by rw [okAt, prevLt, getD_eq hlt, getD_eq (show p < l.length by omega), hm, Bool.true_and])
            clear hm e2
            have v1 : (0 : Int) ≤ ((p + 1 : Nat) : Int) - 1 := by omega
            have v2 : ((p + 1 : Nat) : Int) - 1 < (l.length : Int) := by omega
            by_cases hh : l[p + 1] ≤ l[p]
            · have HN := Lib.hid (HF.out (p + 1 + 1) (by rw [HS.out, HO.out, decide_eq_false (by omega)]) (by omega))
              go_wp2
              go_quiet (fail)
              go_wp2
              go_ret
              exact ⟨ret_bool HN.out.symm, below_drewN hb _⟩
            · have HN := Lib.hid (show setTo l (p + 1 + 1) = true by rw [HS.out, HO.out, decide_eq_true (by omega)])
              have d2 : decide (l[p + 1] ≤ l[p]) = false := by simpa using hh
              go_wp2
              go_quiet (fail)
              go_wp2
              go_roundw
              case rel => exact ⟨p + 1 + 1, by omega, by go_num, below_drewN hb _, HN⟩
              case measure => simp [intOf]; omega
    · obtain rfl : q = l.length := by omega
      go_wp2
      go_ret
      exact ⟨ret_bool hall.out.symm, hb⟩

theorem rareModes (A : Option Addr) (k c : Nat) (l : List Int) (w : World) (hl : l.length ≤ 1000) (B : Nat) (hB : B ≤ w.heap.size) (hr : Rd w B 1 A k (ints l)) :
    Calls Try.prog 73 #[.slice A k c] w fun e w' => e = .returned (.bool (areModes l)) ∧ Below w.heap.size w w' := by
  obtain rfl := hr.int_len
  have HAM := Lib.hid (show areModes l = (decide (0 < l.length) && setTo l l.length) from rfl)
  have H := Lib.hid (rIsSet A l.length c l w hl B hB hr)
  by_cases h : 0 < l.length
  · have d : decide (0 < l.length) = true := by simpa using h
    go_enter Try.func73, Try.ntmps73
    go_wp2_with fail
    refine H.out.mono ?_
    rintro e w1 ⟨rfl, hb⟩
    go_wp2
    go_ret
    exact ⟨ret_bool (by rw [HAM.out, d, Bool.true_and]), hb⟩
  · have d : decide (0 < l.length) = false := by simpa using h
    go_enter Try.func73, Try.ntmps73
    go_wp2
    go_ret
    exact ⟨ret_bool (by rw [HAM.out, d, Bool.false_and]), Below.refl _ _⟩
end Go.Proofs.Ytnoocdannfeidaa
