/-
  WALKS: which gains, voltages and wishes are right.
-/
import Derived.Test.YtejjogpgolgdgaaW1
import Derived.Deep.QuietTactic
import Derived.BigQuiet
namespace Go.Proofs.Ytejjogpgolgdgaa
open Go.RowKit Pulse

/-- A table that is not long. -/
def Sm (g : List (List Int)) : Prop := g.length ≤ 1000 ∧ ∀ l ∈ g, l.length ≤ 1000
/-- The number of electrodes. -/
def wid (g : List (List Int)) : Nat := (g.headD []).length
def okG (g : List (List Int)) : Bool := decide (1 ≤ g.length) && decide (g.length ≤ 3) && decide (1 ≤ wid g) && decide (wid g ≤ 3) && g.all fun l => withinB l (wid g) 9
/-- The error of gains. -/
def vldG (g : List (List Int)) : Int := if okG g then 0 else 1
theorem wid_zero {g : List (List Int)} (h : 0 < g.length) : wid g = g[0].length := by
  cases g with
  | nil => simp at h
  | cons l g => rfl
theorem okG_ok {g : List (List Int)} (h : okG g = true) : 1 ≤ g.length ∧ g.length ≤ 3 ∧ 1 ≤ wid g ∧ wid g ≤ 3 ∧ ∀ l ∈ g, l.length = wid g ∧ ∀ a ∈ l, -9 ≤ a ∧ a ≤ 9 := by
  simp only [okG, Bool.and_eq_true, decide_eq_true_eq] at h
  obtain ⟨⟨⟨⟨h1, h2⟩, h3⟩, h4⟩, h5⟩ := h
  refine ⟨h1, h2, h3, h4, fun l hl => ?_⟩
  have := List.all_eq_true.1 h5 l hl
  simp only [withinB, Bool.and_eq_true, decide_eq_true_eq, List.all_eq_true, isIn] at this
  exact ⟨by omega, fun a ha => this.2 a ha⟩
theorem vldG_ok {g : List (List Int)} (h : vldG g = 0) : 1 ≤ g.length ∧ g.length ≤ 3 ∧ 1 ≤ wid g ∧ wid g ≤ 3 ∧ ∀ l ∈ g, l.length = wid g ∧ ∀ a ∈ l, -9 ≤ a ∧ a ≤ 9 := by
  unfold vldG at h
  split at h
  · exact okG_ok ‹_›
  · omega

set_option maxRecDepth 100000 in
set_option maxHeartbeats 1000000 in
theorem pValidate (A : Option Addr) (k c : Nat) (g : List (List Int)) (w : World) (hs : Sm g) (B : Nat) (hB : B ≤ w.heap.size) (hr : TRd w B A k g) :
    Calls Try.prog 24 #[.slice A k c] w fun e w' => e = .returned (.int .i64 (vldG g)) ∧ Below w.heap.size w w' := by
  obtain rfl := hr.len
  have hg1 := hs.1
  have HSM := Lib.hid hs.2
  clear hs
  by_cases h1 : g.length < 1
  · have HV := Lib.hid (show vldG g = 1 by rw [vldG, okG, decide_eq_false (show ¬ 1 ≤ g.length by omega)]; rfl)
    have hd : decide (g.length < 1) = true := by simpa using h1
    go_enter Try.func24, Try.ntmps24
    skip
    go_wp2
    go_ret
    exact ⟨ret_int HV.out.symm, Below.refl _ _⟩
  by_cases h3 : 3 < g.length
  · have HV := Lib.hid (show vldG g = 1 by rw [vldG, okG, decide_eq_false (show ¬ g.length ≤ 3 by omega)]; simp)
    have hd : decide (3 < g.length) = true := by simpa using h3
    go_enter Try.func24, Try.ntmps24
    skip
    go_wp2
    go_ret
    exact ⟨ret_int HV.out.symm, Below.refl _ _⟩
  have hpos : 0 < g.length := by omega
  obtain ⟨b, off, A0, c0, rfl, hb0, hc0, _, _, _⟩ := hr.row hpos
  have HW := Lib.hid (wid_zero hpos)
  rw [Nat.add_zero, ← HW.out] at hc0
  obtain ⟨n, hn⟩ : ∃ n, n = wid g := ⟨_, rfl⟩
  have HN := Lib.hid hn
  rw [← hn] at hc0
  clear hn HW
  by_cases h4 : n < 1
  · have HV := Lib.hid (show vldG g = 1 by rw [vldG, okG, decide_eq_false (show ¬ 1 ≤ wid g by have := HN.out; omega)]; simp)
    have hd : decide (n < 1) = true := by simpa using h4
    go_enter Try.func24, Try.ntmps24
    skip
    skip
    go_wp2
    go_ret
    exact ⟨ret_int HV.out.symm, Below.refl _ _⟩
  by_cases h5 : 3 < n
  · have HV := Lib.hid (show vldG g = 1 by rw [vldG, okG, decide_eq_false (show ¬ wid g ≤ 3 by have := HN.out; omega)]; simp)
    have hd : decide (3 < n) = true := by simpa using h5
    go_enter Try.func24, Try.ntmps24
    skip
    skip
    go_wp2
    go_ret
    exact ⟨ret_int HV.out.symm, Below.refl _ _⟩
  have HV0 := Lib.hid (show (g.all fun l => withinB l n 9) = true → vldG g = 0 from fun h => by
    have e := HN.out
    rw [vldG, okG, decide_eq_true (show 1 ≤ g.length by omega), decide_eq_true (show g.length ≤ 3 by omega), decide_eq_true (show 1 ≤ wid g by omega), decide_eq_true (show wid g ≤ 3 by omega), ← e, h]; rfl)
  have HV1 := Lib.hid (show (g.all fun l => withinB l n 9) = false → vldG g = 1 from fun h => by
    have e := HN.out
    rw [vldG, okG, ← e, h]; simp)
  have hd1 : decide (g.length < 1) = false := decide_eq_false h1
  have hd2 : decide (3 < g.length) = false := decide_eq_false h3
  have hd3 : decide (n < 1) = false := decide_eq_false h4
  have hd4 : decide (3 < n) = false := decide_eq_false h5
  go_enter Try.func24, Try.ntmps24
  skip
  skip
  go_wp2
  clear hd1 hd2 hd3 hd4
  go_loopw [29] (fun i wr => ∃ q : Nat, q ≤ g.length ∧ i = .int .i64 q ∧ Below w.heap.size w wr ∧ Hid (((g.take q).all fun l => withinB l n 9) = true)) (fun i _ => g.length - (intOf i).toNat)
  case atStart => exact ⟨0, Nat.zero_le _, rfl, Below.refl _ _, rfl⟩
  case round =>
    obtain ⟨q, hq, rfl, hb, hall⟩ := hrel
    by_cases hlt : q < g.length
    · obtain ⟨A1, c1, _, _, hc1, _, _, hr1⟩ := (hr.below' hb hB).rowAt hlt
      have hc0' := (hb.cell (p := ⟨b, off, none⟩) (show b < w.heap.size by omega)).trans hc0
      have hl1 := HSM.out _ (List.getElem_mem hlt)
      have ht := all_take (fun l => withinB l n 9) g q hlt
      rw [hall.out, Bool.true_and] at ht
      have HF := Lib.hid (show withinB g[q] n 9 = false → (g.all fun l => withinB l n 9) = false from fun ha => by
        rw [Bool.eq_false_iff]
        intro hx
        have := List.all_eq_true.1 hx _ (List.getElem_mem hlt)
        rw [ha] at this
        cases this)
      have HT := Lib.hid ht
      clear ht
      obtain ⟨l, hl⟩ : ∃ l, l = g[q] := ⟨_, rfl⟩
      rw [← hl] at hc1 hr1 hl1 HF HT
      clear hl
      have z0 : (0 : Int) ≤ (q : Int) := by omega
      have z1 : (q : Int) < (g.length : Int) := by omega
      have z2 : (0 : Int) < (g.length : Int) := by omega
      have hsz := hb.size
      obtain ⟨r, hrr⟩ : ∃ r, r = withinB l n 9 := ⟨_, rfl⟩
      have HR := Lib.hid hrr
      rw [← hrr] at HT HF
      clear hrr
      cases r with
      | true =>
        go_wp2_with fail
        refine (pwithin A1 l.length c1 l n 9 wr (by omega) (by omega) hl1 B (by omega) hr1).mono ?_
        rw [← HR.out]
        rintro e w2 ⟨rfl, hb2⟩
        go_wp2
        go_roundw
        case rel => exact ⟨q + 1, by omega, by go_num, hb.trans (hb2.mono hsz), HT⟩
        case measure => simp [intOf]; omega
      | false =>
        go_wp2_with fail
        refine (pwithin A1 l.length c1 l n 9 wr (by omega) (by omega) hl1 B (by omega) hr1).mono ?_
        rw [← HR.out]
        rintro e w2 ⟨rfl, hb2⟩
        go_wp2
        go_ret
        exact ⟨ret_int (HV1.out (HF.out (by first | rfl | trivial))).symm, hb.trans (hb2.mono hsz)⟩
    · obtain rfl : q = g.length := by omega
      have HX := Lib.hid (HV0.out (by have := hall.out; rwa [List.take_length] at this))
      go_wp2
      go_ret
      exact ⟨ret_int HX.out.symm, hb⟩

set_option maxRecDepth 100000 in
set_option maxHeartbeats 1000000 in
theorem rValidate (A : Option Addr) (k c : Nat) (g : List (List Int)) (w : World) (hs : Sm g) (B : Nat) (hB : B ≤ w.heap.size) (hr : TRd w B A k g) :
    Calls Try.prog 25 #[.slice A k c] w fun e w' => e = .returned (.int .i64 (vldG g)) ∧ Below w.heap.size w w' := by
  obtain rfl := hr.len
  have hg1 := hs.1
  have HSM := Lib.hid hs.2
  clear hs
  by_cases h1 : g.length < 1
  · have HV := Lib.hid (show vldG g = 1 by rw [vldG, okG, decide_eq_false (show ¬ 1 ≤ g.length by omega)]; rfl)
    have hd : decide (g.length < 1) = true := by simpa using h1
    go_enter Try.func25, Try.ntmps25
    go_wp2_with fail
    refine (rwithin_is _ _ _ false (by simp; omega) _).mono ?_
    rintro e w1 ⟨rfl, rfl⟩
    go_wp2
    go_ret
    exact ⟨ret_int HV.out.symm, Below.refl _ _⟩
  by_cases h3 : 3 < g.length
  · have HV := Lib.hid (show vldG g = 1 by rw [vldG, okG, decide_eq_false (show ¬ g.length ≤ 3 by omega)]; simp)
    have hd : decide (3 < g.length) = true := by simpa using h3
    go_enter Try.func25, Try.ntmps25
    go_wp2_with fail
    refine (rwithin_is _ _ _ false (by simp; omega) _).mono ?_
    rintro e w1 ⟨rfl, rfl⟩
    go_wp2
    go_ret
    exact ⟨ret_int HV.out.symm, Below.refl _ _⟩
  have hpos : 0 < g.length := by omega
  obtain ⟨b, off, A0, c0, rfl, hb0, hc0, _, _, _⟩ := hr.row hpos
  have HW := Lib.hid (wid_zero hpos)
  rw [Nat.add_zero, ← HW.out] at hc0
  obtain ⟨n, hn⟩ : ∃ n, n = wid g := ⟨_, rfl⟩
  have HN := Lib.hid hn
  rw [← hn] at hc0
  clear hn HW
  by_cases h4 : n < 1
  · have HV := Lib.hid (show vldG g = 1 by rw [vldG, okG, decide_eq_false (show ¬ 1 ≤ wid g by have := HN.out; omega)]; simp)
    have hd : decide (n < 1) = true := by simpa using h4
    go_enter Try.func25, Try.ntmps25
    go_wp2_with fail
    refine (rwithin_is _ _ _ true (by simp; omega) _).mono ?_
    rintro e w1 ⟨rfl, rfl⟩
    go_wp2_with fail
    refine (rwithin_is _ _ _ false (by simp; omega) _).mono ?_
    rintro e w1 ⟨rfl, rfl⟩
    go_wp2
    go_ret
    exact ⟨ret_int HV.out.symm, Below.refl _ _⟩
  by_cases h5 : 3 < n
  · have HV := Lib.hid (show vldG g = 1 by rw [vldG, okG, decide_eq_false (show ¬ wid g ≤ 3 by have := HN.out; omega)]; simp)
    have hd : decide (3 < n) = true := by simpa using h5
    go_enter Try.func25, Try.ntmps25
    go_wp2_with fail
    refine (rwithin_is _ _ _ true (by simp; omega) _).mono ?_
    rintro e w1 ⟨rfl, rfl⟩
    go_wp2_with fail
    refine (rwithin_is _ _ _ false (by simp; omega) _).mono ?_
    rintro e w1 ⟨rfl, rfl⟩
    go_wp2
    go_ret
    exact ⟨ret_int HV.out.symm, Below.refl _ _⟩
  have HV0 := Lib.hid (show (g.all fun l => withinB l n 9) = true → vldG g = 0 from fun h => by
    have e := HN.out
    rw [vldG, okG, decide_eq_true (show 1 ≤ g.length by omega), decide_eq_true (show g.length ≤ 3 by omega), decide_eq_true (show 1 ≤ wid g by omega), decide_eq_true (show wid g ≤ 3 by omega), ← e, h]; rfl)
  have HV1 := Lib.hid (show (g.all fun l => withinB l n 9) = false → vldG g = 1 from fun h => by
    have e := HN.out
    rw [vldG, okG, ← e, h]; simp)
  have hd1 : decide (g.length < 1) = false := decide_eq_false h1
  have hd2 : decide (3 < g.length) = false := decide_eq_false h3
  have hd3 : decide (n < 1) = false := decide_eq_false h4
  have hd4 : decide (3 < n) = false := decide_eq_false h5
  go_enter Try.func25, Try.ntmps25
  go_wp2_with fail
  refine (rwithin_is _ _ _ true (by simp; omega) _).mono ?_
  rintro e w1 ⟨rfl, rfl⟩
  go_wp2_with fail
  refine (rwithin_is _ _ _ true (by simp; omega) _).mono ?_
  rintro e w1 ⟨rfl, rfl⟩
  go_wp2
  clear hd1 hd2 hd3 hd4
  go_loopw [3] (fun i wr => ∃ q : Nat, q ≤ g.length ∧ i = .int .i64 q ∧ Below w.heap.size w wr ∧ Hid (((g.take q).all fun l => withinB l n 9) = true)) (fun i _ => g.length - (intOf i).toNat)
  case atStart => exact ⟨0, Nat.zero_le _, rfl, Below.refl _ _, rfl⟩
  case round =>
    obtain ⟨q, hq, rfl, hb, hall⟩ := hrel
    by_cases hlt : q < g.length
    · obtain ⟨A1, c1, _, _, hc1, _, _, hr1⟩ := (hr.below' hb hB).rowAt hlt
      have hc0' := (hb.cell (p := ⟨b, off, none⟩) (show b < w.heap.size by omega)).trans hc0
      have hl1 := HSM.out _ (List.getElem_mem hlt)
      have ht := all_take (fun l => withinB l n 9) g q hlt
      rw [hall.out, Bool.true_and] at ht
      have HF := Lib.hid (show withinB g[q] n 9 = false → (g.all fun l => withinB l n 9) = false from fun ha => by
        rw [Bool.eq_false_iff]
        intro hx
        have := List.all_eq_true.1 hx _ (List.getElem_mem hlt)
        rw [ha] at this
        cases this)
      have HT := Lib.hid ht
      clear ht
      obtain ⟨l, hl⟩ : ∃ l, l = g[q] := ⟨_, rfl⟩
      rw [← hl] at hc1 hr1 hl1 HF HT
      clear hl
      have z0 : (0 : Int) ≤ (q : Int) := by omega
      have z1 : (q : Int) < (g.length : Int) := by omega
      have z2 : (0 : Int) < (g.length : Int) := by omega
      have hsz := hb.size
      obtain ⟨r, hrr⟩ : ∃ r, r = withinB l n 9 := ⟨_, rfl⟩
      have HR := Lib.hid hrr
      rw [← hrr] at HT HF
      clear hrr
      cases r with
      | true =>
        go_wp2
        go_quiet ((go_at_call 68; exact Calls.quiet_of_same (rall_is _ A1 l.length c1 l n 9 HR.out.symm _ (by omega) (by omega) hl1 B (hr1.drewN _))))
        go_wp2
        go_roundw
        case rel => exact ⟨q + 1, by omega, by go_num, below_drewN hb nq, HT⟩
        case measure => simp [intOf]; omega
      | false =>
        go_wp2
        go_quiet ((go_at_call 68; exact Calls.quiet_of_same (rall_is _ A1 l.length c1 l n 9 HR.out.symm _ (by omega) (by omega) hl1 B (hr1.drewN _))))
        go_wp2
        go_ret
        exact ⟨ret_int (HV1.out (HF.out (by first | rfl | trivial))).symm, below_drewN hb nq⟩
    · obtain rfl : q = g.length := by omega
      have HX := Lib.hid (HV0.out (by have := hall.out; rwa [List.take_length] at this))
      go_wp2
      go_ret
      exact ⟨ret_int HX.out.symm, hb⟩
end Go.Proofs.Ytejjogpgolgdgaa
