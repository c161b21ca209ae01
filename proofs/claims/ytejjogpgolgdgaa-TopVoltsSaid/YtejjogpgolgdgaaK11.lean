/-
  MERGED: W22, W23.
-/
import Derived.Test.YtejjogpgolgdgaaK10
/-
  WALKS: two voltages: their error, Jump; the error of a ramp; Steps. (Printed by gen_w22.py.)
-/
namespace Go.Proofs.Ytejjogpgolgdgaa
open Go.RowKit Pulse

def pairE (a b : List Int) : Int := if (decide (1 ≤ a.length) && decide (a.length ≤ 3) && withinB a a.length 3 && withinB b a.length 3) = true then 0 else 1
def jumpN (a b : List Int) : Int := if pairE a b = 0 then jumpL a b else 0
def slewE (a b : List Int) (s : Int) : Int := if pairE a b = 0 then (if 1 ≤ s ∧ s ≤ 6 then 0 else 1) else pairE a b
theorem pairE_ok {a b : List Int} (h : pairE a b = 0) : 1 ≤ a.length ∧ a.length ≤ 3 ∧ Forces 3 a ∧ b.length = a.length ∧ Forces 3 b := by
  unfold pairE at h
  split at h
  · rename_i hc
    simp only [withinB, Bool.and_eq_true, decide_eq_true_eq, List.all_eq_true, isIn] at hc
    obtain ⟨⟨⟨h1, h2⟩, hx, h3⟩, h4, h5⟩ := hc
    exact ⟨h1, h2, fun f hf => h3 f hf, by omega, fun f hf => h5 f hf⟩
  · omega
theorem slewE_ok {a b : List Int} {s : Int} (h : slewE a b s = 0) : pairE a b = 0 ∧ 1 ≤ s ∧ s ≤ 6 := by
  unfold slewE at h
  split at h
  · rename_i h0
    split at h
    · rename_i h1; exact ⟨h0, h1⟩
    · omega
  · exact absurd h ‹_›
theorem pwithin_is (r : Bool) (A : Option Addr) (k c : Nat) (l : List Int) (size b : Int) (h : withinB l size b = r) (w : World) (h0 : 0 ≤ b) (h1 : b ≤ 1000) (hl : l.length ≤ 1000) (B : Nat) (hB : B ≤ w.heap.size) (hr : Rd w B 1 A k (ints l)) :
    Calls Try.prog 66 #[.slice A k c, .int .i64 size, .int .i64 b] w fun e w' => e = .returned (.bool r) ∧ Below w.heap.size w w' := by
  subst h; exact pwithin A k c l size b w h0 h1 hl B hB hr
theorem rallB (r : Bool) (A : Option Addr) (k c : Nat) (l : List Int) (size b : Int) (h : withinB l size b = r) (w : World) (h0 : 0 ≤ b) (h1 : b ≤ 1000) (hl : l.length ≤ 1000) (B : Nat) (hB : B ≤ w.heap.size) (hr : Rd w B 1 A k (ints l)) :
    Calls Try.prog 68 #[.slice A k c, .int .i64 size, .int .i64 b] w fun e w' => e = .returned (.bool r) ∧ Below w.heap.size w w' :=
  (rall_is r A k c l size b h w h0 h1 hl B hr).mono fun e w' ⟨h, hw⟩ => ⟨h, by subst hw; exact Below.refl _ _⟩

set_option maxRecDepth 100000 in
set_option maxHeartbeats 1000000 in
theorem ptwo (A A' : Option Addr) (k c k' c' : Nat) (a b : List Int) (w : World) (hl : a.length ≤ 1000) (hl' : b.length ≤ 1000) (B : Nat) (hB : B ≤ w.heap.size) (hr : Rd w B 1 A k (ints a)) (hr' : Rd w B 1 A' k' (ints b)) :
    Calls Try.prog 83 #[.slice A k c, .slice A' k' c'] w fun e w' => e = .returned (.int .i64 (pairE a b)) ∧ Below w.heap.size w w' := by
  have hr := hr.more hB
  have hr' := hr'.more hB
  obtain rfl := hr.int_len
  obtain rfl := hr'.int_len
  by_cases h1 : a.length < 1
  · have HV := Lib.hid (show pairE a b = 1 by rw [pairE, decide_eq_false (show ¬ 1 ≤ a.length by omega)]; rfl)
    have hd : decide (a.length < 1) = true := by simpa using h1
    go_enter Try.func83, Try.ntmps83
    go_wp2
    go_ret
    exact ⟨ret_int HV.out.symm, Below.refl _ _⟩
  by_cases h3 : 3 < a.length
  · have HV := Lib.hid (show pairE a b = 1 by rw [pairE, decide_eq_false (show ¬ a.length ≤ 3 by omega)]; simp)
    have hd : decide (3 < a.length) = true := by simpa using h3
    go_enter Try.func83, Try.ntmps83
    go_wp2
    go_ret
    exact ⟨ret_int HV.out.symm, Below.refl _ _⟩
  have HV := Lib.hid (show pairE a b = if (withinB a a.length 3 && withinB b a.length 3) = true then 0 else 1 by rw [pairE, decide_eq_true (show 1 ≤ a.length by omega), decide_eq_true (show a.length ≤ 3 by omega)]; simp only [Bool.true_and])
  have hd1 : decide (a.length < 1) = false := decide_eq_false h1
  have hd2 : decide (3 < a.length) = false := decide_eq_false h3
  cases ha : withinB a a.length 3 with
  | false =>
    rw [ha] at HV
    have HA := Lib.hid ha
    clear ha
    go_enter Try.func83, Try.ntmps83
    go_wp2_with fail
    refine (pwithin_is false _ _ _ a (a.length) 3 HA.out w (by omega) (by omega) hl w.heap.size (Nat.le_refl _) hr).mono ?_
    rintro e w1 ⟨rfl, hb1⟩
    have s1 := hb1.size
    have HB1 := Lib.hid hb1
    have hr := (hr.below hb1).more s1
    have hr' := (hr'.below hb1).more s1
    clear hb1
    go_wp2
    go_ret
    exact ⟨ret_int HV.out.symm, HB1.out⟩
  | true =>
    rw [ha] at HV
    have HA := Lib.hid ha
    clear ha
    cases hb : withinB b a.length 3 with
    | false =>
      rw [hb] at HV
      have HB := Lib.hid hb
      clear hb
      go_enter Try.func83, Try.ntmps83
      go_wp2_with fail
      refine (pwithin_is true _ _ _ a (a.length) 3 HA.out w (by omega) (by omega) hl w.heap.size (Nat.le_refl _) hr).mono ?_
      rintro e w1 ⟨rfl, hb1⟩
      have s1 := hb1.size
      have HB1 := Lib.hid hb1
      have hr := (hr.below hb1).more s1
      have hr' := (hr'.below hb1).more s1
      clear hb1
      go_wp2_with fail
      refine (pwithin_is false _ _ _ b (a.length) 3 HB.out w1 (by omega) (by omega) hl' w1.heap.size (Nat.le_refl _) hr').mono ?_
      rintro e w2 ⟨rfl, hb2⟩
      have s2 := hb2.size
      have HB2 := Lib.hid (HB1.out.trans (hb2.mono (by have := HB1.out.size; omega)))
      have hr := (hr.below hb2).more s2
      have hr' := (hr'.below hb2).more s2
      clear hb2
      go_wp2
      go_ret
      exact ⟨ret_int HV.out.symm, HB2.out⟩
    | true =>
      rw [hb] at HV
      have HB := Lib.hid hb
      clear hb
      go_enter Try.func83, Try.ntmps83
      go_wp2_with fail
      refine (pwithin_is true _ _ _ a (a.length) 3 HA.out w (by omega) (by omega) hl w.heap.size (Nat.le_refl _) hr).mono ?_
      rintro e w1 ⟨rfl, hb1⟩
      have s1 := hb1.size
      have HB1 := Lib.hid hb1
      have hr := (hr.below hb1).more s1
      have hr' := (hr'.below hb1).more s1
      clear hb1
      go_wp2_with fail
      refine (pwithin_is true _ _ _ b (a.length) 3 HB.out w1 (by omega) (by omega) hl' w1.heap.size (Nat.le_refl _) hr').mono ?_
      rintro e w2 ⟨rfl, hb2⟩
      have s2 := hb2.size
      have HB2 := Lib.hid (HB1.out.trans (hb2.mono (by have := HB1.out.size; omega)))
      have hr := (hr.below hb2).more s2
      have hr' := (hr'.below hb2).more s2
      clear hb2
      go_wp2
      go_ret
      exact ⟨ret_int HV.out.symm, HB2.out⟩

set_option maxRecDepth 100000 in
set_option maxHeartbeats 1000000 in
theorem rpair (A A' : Option Addr) (k c k' c' : Nat) (a b : List Int) (w : World) (hl : a.length ≤ 1000) (hl' : b.length ≤ 1000) (B : Nat) (hB : B ≤ w.heap.size) (hr : Rd w B 1 A k (ints a)) (hr' : Rd w B 1 A' k' (ints b)) :
    Calls Try.prog 84 #[.slice A k c, .slice A' k' c'] w fun e w' => e = .returned (.int .i64 (pairE a b)) ∧ Below w.heap.size w w' := by
  have hr := hr.more hB
  have hr' := hr'.more hB
  obtain rfl := hr.int_len
  obtain rfl := hr'.int_len
  by_cases h1 : a.length < 1
  · have HV := Lib.hid (show pairE a b = 1 by rw [pairE, decide_eq_false (show ¬ 1 ≤ a.length by omega)]; rfl)
    have hd : decide (a.length < 1) = true := by simpa using h1
    go_enter Try.func84, Try.ntmps84
    go_wp2_with fail
    refine (rwithin_is _ _ _ false (by simp; omega) _).mono ?_
    rintro e w' ⟨rfl, rfl⟩
    go_wp2
    go_ret
    exact ⟨ret_int HV.out.symm, Below.refl _ _⟩
  by_cases h3 : 3 < a.length
  · have HV := Lib.hid (show pairE a b = 1 by rw [pairE, decide_eq_false (show ¬ a.length ≤ 3 by omega)]; simp)
    have hd : decide (3 < a.length) = true := by simpa using h3
    go_enter Try.func84, Try.ntmps84
    go_wp2_with fail
    refine (rwithin_is _ _ _ false (by simp; omega) _).mono ?_
    rintro e w' ⟨rfl, rfl⟩
    go_wp2
    go_ret
    exact ⟨ret_int HV.out.symm, Below.refl _ _⟩
  have HV := Lib.hid (show pairE a b = if (withinB a a.length 3 && withinB b a.length 3) = true then 0 else 1 by rw [pairE, decide_eq_true (show 1 ≤ a.length by omega), decide_eq_true (show a.length ≤ 3 by omega)]; simp only [Bool.true_and])
  have hd1 : decide (a.length < 1) = false := decide_eq_false h1
  have hd2 : decide (3 < a.length) = false := decide_eq_false h3
  cases ha : withinB a a.length 3 with
  | false =>
    rw [ha] at HV
    have HA := Lib.hid ha
    clear ha
    go_enter Try.func84, Try.ntmps84
    go_wp2_with fail
    refine (rwithin_is _ _ _ true (by simp; omega) _).mono ?_
    rintro e w' ⟨rfl, rfl⟩
    go_wp2_with fail
    refine (rallB false _ _ _ a (a.length) 3 HA.out w (by omega) (by omega) hl w.heap.size (Nat.le_refl _) hr).mono ?_
    rintro e w1 ⟨rfl, hb1⟩
    have s1 := hb1.size
    have HB1 := Lib.hid hb1
    have hr := (hr.below hb1).more s1
    have hr' := (hr'.below hb1).more s1
    clear hb1
    go_wp2
    go_ret
    exact ⟨ret_int HV.out.symm, HB1.out⟩
  | true =>
    rw [ha] at HV
    have HA := Lib.hid ha
    clear ha
    cases hb : withinB b a.length 3 with
    | false =>
      rw [hb] at HV
      have HB := Lib.hid hb
      clear hb
      go_enter Try.func84, Try.ntmps84
      go_wp2_with fail
      refine (rwithin_is _ _ _ true (by simp; omega) _).mono ?_
      rintro e w' ⟨rfl, rfl⟩
      go_wp2_with fail
      refine (rallB true _ _ _ a (a.length) 3 HA.out w (by omega) (by omega) hl w.heap.size (Nat.le_refl _) hr).mono ?_
      rintro e w1 ⟨rfl, hb1⟩
      have s1 := hb1.size
      have HB1 := Lib.hid hb1
      have hr := (hr.below hb1).more s1
      have hr' := (hr'.below hb1).more s1
      clear hb1
      go_wp2_with fail
      refine (rallB false _ _ _ b (a.length) 3 HB.out w1 (by omega) (by omega) hl' w1.heap.size (Nat.le_refl _) hr').mono ?_
      rintro e w2 ⟨rfl, hb2⟩
      have s2 := hb2.size
      have HB2 := Lib.hid (HB1.out.trans (hb2.mono (by have := HB1.out.size; omega)))
      have hr := (hr.below hb2).more s2
      have hr' := (hr'.below hb2).more s2
      clear hb2
      go_wp2
      go_ret
      exact ⟨ret_int HV.out.symm, HB2.out⟩
    | true =>
      rw [hb] at HV
      have HB := Lib.hid hb
      clear hb
      go_enter Try.func84, Try.ntmps84
      go_wp2_with fail
      refine (rwithin_is _ _ _ true (by simp; omega) _).mono ?_
      rintro e w' ⟨rfl, rfl⟩
      go_wp2_with fail
      refine (rallB true _ _ _ a (a.length) 3 HA.out w (by omega) (by omega) hl w.heap.size (Nat.le_refl _) hr).mono ?_
      rintro e w1 ⟨rfl, hb1⟩
      have s1 := hb1.size
      have HB1 := Lib.hid hb1
      have hr := (hr.below hb1).more s1
      have hr' := (hr'.below hb1).more s1
      clear hb1
      go_wp2_with fail
      refine (rallB true _ _ _ b (a.length) 3 HB.out w1 (by omega) (by omega) hl' w1.heap.size (Nat.le_refl _) hr').mono ?_
      rintro e w2 ⟨rfl, hb2⟩
      have s2 := hb2.size
      have HB2 := Lib.hid (HB1.out.trans (hb2.mono (by have := HB1.out.size; omega)))
      have hr := (hr.below hb2).more s2
      have hr' := (hr'.below hb2).more s2
      clear hb2
      go_wp2
      go_ret
      exact ⟨ret_int HV.out.symm, HB2.out⟩

set_option maxRecDepth 100000 in
set_option maxHeartbeats 1000000 in
theorem pJump (A A' : Option Addr) (k c k' c' : Nat) (a b : List Int) (w : World) (hl : a.length ≤ 1000) (hl' : b.length ≤ 1000) (B : Nat) (hB : B ≤ w.heap.size) (hr : Rd w B 1 A k (ints a)) (hr' : Rd w B 1 A' k' (ints b)) :
    Calls Try.prog 44 #[.slice A k c, .slice A' k' c'] w fun e w' => e = .returned (.tuple #[.int .i64 (jumpN a b), .int .i64 (pairE a b)]) ∧ Below w.heap.size w w' := by
  have hr := hr.more hB
  have hr' := hr'.more hB
  have HP := Lib.hid (ptwo A A' k c k' c' a b w hl hl' w.heap.size (Nat.le_refl _) hr hr')
  by_cases h : pairE a b = 0
  · have HV := Lib.hid h
    obtain ⟨_, _, f1, f2, f3⟩ := pairE_ok h
    have HF := Lib.hid (And.intro f1 (And.intro f2 f3))
    have HE := Lib.hid (show jumpN a b = jumpL a b by rw [jumpN, if_pos h])
    rw [h] at HP
    clear h f1 f2 f3
    go_enter Try.func44, Try.ntmps44
    go_wp2_with fail
    refine (HP.out).mono ?_
    rintro e w1 ⟨rfl, hb1⟩
    have s1 := hb1.size
    have HB1 := Lib.hid hb1
    have hr := (hr.below hb1).more s1
    have hr' := (hr'.below hb1).more s1
    clear hb1
    go_wp2_with fail
    refine (papart A A' k c k' c' a b w1 hl HF.out.2.1 (fun f hf => by have := HF.out.1 f hf; omega) (fun f hf => by have := HF.out.2.2 f hf; omega) w1.heap.size (Nat.le_refl _) hr hr').mono ?_
    rintro e w2 ⟨rfl, hb2⟩
    have s2 := hb2.size
    have HB2 := Lib.hid (HB1.out.trans (hb2.mono (by have := HB1.out.size; omega)))
    have hr := (hr.below hb2).more s2
    have hr' := (hr'.below hb2).more s2
    clear hb2
    go_wp2
    go_ret2
    exact ⟨ret_pair (by rw [HE.out]; rfl) (by rw [HV.out]; rfl), HB2.out⟩
  · have hd : (pairE a b != 0) = true := by simpa using h
    have HE := Lib.hid (show jumpN a b = 0 by rw [jumpN, if_neg h])
    clear h
    generalize pairE a b = x at *
    go_enter Try.func44, Try.ntmps44
    go_wp2_with fail
    refine (HP.out).mono ?_
    rintro e w1 ⟨rfl, hb1⟩
    have s1 := hb1.size
    have HB1 := Lib.hid hb1
    have hr := (hr.below hb1).more s1
    have hr' := (hr'.below hb1).more s1
    clear hb1
    go_wp2
    go_ret2
    exact ⟨ret_pair (by rw [HE.out]; rfl) rfl, HB1.out⟩

set_option maxRecDepth 100000 in
set_option maxHeartbeats 1000000 in
theorem rJump (A A' : Option Addr) (k c k' c' : Nat) (a b : List Int) (w : World) (hl : a.length ≤ 1000) (hl' : b.length ≤ 1000) (B : Nat) (hB : B ≤ w.heap.size) (hr : Rd w B 1 A k (ints a)) (hr' : Rd w B 1 A' k' (ints b)) :
    Calls Try.prog 45 #[.slice A k c, .slice A' k' c'] w fun e w' => e = .returned (.tuple #[.int .i64 (jumpN a b), .int .i64 (pairE a b)]) ∧ Below w.heap.size w w' := by
  have hr := hr.more hB
  have hr' := hr'.more hB
  have HP := Lib.hid (rpair A A' k c k' c' a b w hl hl' w.heap.size (Nat.le_refl _) hr hr')
  by_cases h : pairE a b = 0
  · have HV := Lib.hid h
    obtain ⟨_, _, f1, f2, f3⟩ := pairE_ok h
    have HF := Lib.hid (And.intro f1 (And.intro f2 f3))
    have HE := Lib.hid (show jumpN a b = jumpL a b by rw [jumpN, if_pos h])
    rw [h] at HP
    clear h f1 f2 f3
    go_enter Try.func45, Try.ntmps45
    go_wp2_with fail
    refine (HP.out).mono ?_
    rintro e w1 ⟨rfl, hb1⟩
    have s1 := hb1.size
    have HB1 := Lib.hid hb1
    have hr := (hr.below hb1).more s1
    have hr' := (hr'.below hb1).more s1
    clear hb1
    go_wp2_with fail
    refine (rjump A A' k c k' c' a b w1 hl HF.out.2.1 (fun f hf => by have := HF.out.1 f hf; omega) (fun f hf => by have := HF.out.2.2 f hf; omega) w1.heap.size (Nat.le_refl _) hr hr').mono ?_
    rintro e w2 ⟨rfl, hb2⟩
    have s2 := hb2.size
    have HB2 := Lib.hid (HB1.out.trans (hb2.mono (by have := HB1.out.size; omega)))
    have hr := (hr.below hb2).more s2
    have hr' := (hr'.below hb2).more s2
    clear hb2
    go_wp2
    go_ret2
    exact ⟨ret_pair (by rw [HE.out]; rfl) (by rw [HV.out]; rfl), HB2.out⟩
  · have hd : (pairE a b != 0) = true := by simpa using h
    have HE := Lib.hid (show jumpN a b = 0 by rw [jumpN, if_neg h])
    clear h
    generalize pairE a b = x at *
    go_enter Try.func45, Try.ntmps45
    go_wp2_with fail
    refine (HP.out).mono ?_
    rintro e w1 ⟨rfl, hb1⟩
    have s1 := hb1.size
    have HB1 := Lib.hid hb1
    have hr := (hr.below hb1).more s1
    have hr' := (hr'.below hb1).more s1
    clear hb1
    go_wp2
    go_ret2
    exact ⟨ret_pair (by rw [HE.out]; rfl) rfl, HB1.out⟩

set_option maxRecDepth 100000 in
set_option maxHeartbeats 1000000 in
theorem pramped (A A' : Option Addr) (k c k' c' : Nat) (a b : List Int) (s : Int) (w : World) (hl : a.length ≤ 1000) (hl' : b.length ≤ 1000) (B : Nat) (hB : B ≤ w.heap.size) (hr : Rd w B 1 A k (ints a)) (hr' : Rd w B 1 A' k' (ints b)) :
    Calls Try.prog 85 #[.slice A k c, .slice A' k' c', .int .i64 s] w fun e w' => e = .returned (.int .i64 (slewE a b s)) ∧ Below w.heap.size w w' := by
  have hr := hr.more hB
  have hr' := hr'.more hB
  have HP := Lib.hid (ptwo A A' k c k' c' a b w hl hl' w.heap.size (Nat.le_refl _) hr hr')
  by_cases h : pairE a b = 0
  · have HE := Lib.hid (show slewE a b s = if 1 ≤ s ∧ s ≤ 6 then 0 else 1 by rw [slewE, if_pos h])
    rw [h] at HP
    clear h
    by_cases h1 : s < 1
    · rw [if_neg (by omega)] at HE
      go_enter Try.func85, Try.ntmps85
      go_wp2_with fail
      refine (HP.out).mono ?_
      rintro e w1 ⟨rfl, hb1⟩
      have s1 := hb1.size
      have HB1 := Lib.hid hb1
      have hr := (hr.below hb1).more s1
      have hr' := (hr'.below hb1).more s1
      clear hb1
      go_wp2
      go_ret
      exact ⟨ret_int HE.out.symm, HB1.out⟩
    by_cases h2 : 6 < s
    · rw [if_neg (by omega)] at HE
      go_enter Try.func85, Try.ntmps85
      go_wp2_with fail
      refine (HP.out).mono ?_
      rintro e w1 ⟨rfl, hb1⟩
      have s1 := hb1.size
      have HB1 := Lib.hid hb1
      have hr := (hr.below hb1).more s1
      have hr' := (hr'.below hb1).more s1
      clear hb1
      go_wp2
      go_ret
      exact ⟨ret_int HE.out.symm, HB1.out⟩
    rw [if_pos (by omega)] at HE
    go_enter Try.func85, Try.ntmps85
    go_wp2_with fail
    refine (HP.out).mono ?_
    rintro e w1 ⟨rfl, hb1⟩
    have s1 := hb1.size
    have HB1 := Lib.hid hb1
    have hr := (hr.below hb1).more s1
    have hr' := (hr'.below hb1).more s1
    clear hb1
    go_wp2
    go_ret
    exact ⟨ret_int HE.out.symm, HB1.out⟩
  · have hd : (pairE a b != 0) = true := by simpa using h
    have HE := Lib.hid (show slewE a b s = pairE a b by rw [slewE, if_neg h])
    clear h
    generalize pairE a b = x at *
    go_enter Try.func85, Try.ntmps85
    go_wp2_with fail
    refine (HP.out).mono ?_
    rintro e w1 ⟨rfl, hb1⟩
    have s1 := hb1.size
    have HB1 := Lib.hid hb1
    have hr := (hr.below hb1).more s1
    have hr' := (hr'.below hb1).more s1
    clear hb1
    go_wp2
    go_ret
    exact ⟨ret_int HE.out.symm, HB1.out⟩

set_option maxRecDepth 100000 in
set_option maxHeartbeats 1000000 in
theorem rslewed (A A' : Option Addr) (k c k' c' : Nat) (a b : List Int) (s : Int) (w : World) (hl : a.length ≤ 1000) (hl' : b.length ≤ 1000) (B : Nat) (hB : B ≤ w.heap.size) (hr : Rd w B 1 A k (ints a)) (hr' : Rd w B 1 A' k' (ints b)) :
    Calls Try.prog 86 #[.slice A k c, .slice A' k' c', .int .i64 s] w fun e w' => e = .returned (.int .i64 (slewE a b s)) ∧ Below w.heap.size w w' := by
  have hr := hr.more hB
  have hr' := hr'.more hB
  have HP := Lib.hid (rpair A A' k c k' c' a b w hl hl' w.heap.size (Nat.le_refl _) hr hr')
  by_cases h : pairE a b = 0
  · have HE := Lib.hid (show slewE a b s = if 1 ≤ s ∧ s ≤ 6 then 0 else 1 by rw [slewE, if_pos h])
    rw [h] at HP
    clear h
    by_cases h1 : s < 1
    · rw [if_neg (by omega)] at HE
      go_enter Try.func86, Try.ntmps86
      go_wp2_with fail
      refine (HP.out).mono ?_
      rintro e w1 ⟨rfl, hb1⟩
      have s1 := hb1.size
      have HB1 := Lib.hid hb1
      have hr := (hr.below hb1).more s1
      have hr' := (hr'.below hb1).more s1
      clear hb1
      go_wp2_with fail
      refine (rwithin_is _ _ _ false (by simp; omega) _).mono ?_
      rintro e w' ⟨rfl, rfl⟩
      go_wp2
      go_ret
      exact ⟨ret_int HE.out.symm, HB1.out⟩
    by_cases h2 : 6 < s
    · rw [if_neg (by omega)] at HE
      go_enter Try.func86, Try.ntmps86
      go_wp2_with fail
      refine (HP.out).mono ?_
      rintro e w1 ⟨rfl, hb1⟩
      have s1 := hb1.size
      have HB1 := Lib.hid hb1
      have hr := (hr.below hb1).more s1
      have hr' := (hr'.below hb1).more s1
      clear hb1
      go_wp2_with fail
      refine (rwithin_is _ _ _ false (by simp; omega) _).mono ?_
      rintro e w' ⟨rfl, rfl⟩
      go_wp2
      go_ret
      exact ⟨ret_int HE.out.symm, HB1.out⟩
    rw [if_pos (by omega)] at HE
    go_enter Try.func86, Try.ntmps86
    go_wp2_with fail
    refine (HP.out).mono ?_
    rintro e w1 ⟨rfl, hb1⟩
    have s1 := hb1.size
    have HB1 := Lib.hid hb1
    have hr := (hr.below hb1).more s1
    have hr' := (hr'.below hb1).more s1
    clear hb1
    go_wp2_with fail
    refine (rwithin_is _ _ _ true (by simp; omega) _).mono ?_
    rintro e w' ⟨rfl, rfl⟩
    go_wp2
    go_ret
    exact ⟨ret_int HE.out.symm, HB1.out⟩
  · have hd : (pairE a b != 0) = true := by simpa using h
    have HE := Lib.hid (show slewE a b s = pairE a b by rw [slewE, if_neg h])
    clear h
    generalize pairE a b = x at *
    go_enter Try.func86, Try.ntmps86
    go_wp2_with fail
    refine (HP.out).mono ?_
    rintro e w1 ⟨rfl, hb1⟩
    have s1 := hb1.size
    have HB1 := Lib.hid hb1
    have hr := (hr.below hb1).more s1
    have hr' := (hr'.below hb1).more s1
    clear hb1
    go_wp2
    go_ret
    exact ⟨ret_int HE.out.symm, HB1.out⟩

/-- The jumps of a ramp. -/
def stepsN (a b : List Int) (s : Int) : Int := if slewE a b s = 0 then (jumpL a b + s - 1) / s else 0

set_option maxRecDepth 100000 in
set_option maxHeartbeats 1000000 in
theorem pSteps (A A' : Option Addr) (k c k' c' : Nat) (a b : List Int) (s : Int) (w : World) (hl : a.length ≤ 1000) (hl' : b.length ≤ 1000) (B : Nat) (hB : B ≤ w.heap.size) (hr : Rd w B 1 A k (ints a)) (hr' : Rd w B 1 A' k' (ints b)) :
    Calls Try.prog 46 #[.slice A k c, .slice A' k' c', .int .i64 s] w fun e w' => e = .returned (.tuple #[.int .i64 (stepsN a b s), .int .i64 (slewE a b s)]) ∧ Below w.heap.size w w' := by
  have hr := hr.more hB
  have hr' := hr'.more hB
  have HP := Lib.hid (pramped A A' k c k' c' a b s w hl hl' w.heap.size (Nat.le_refl _) hr hr')
  by_cases h : slewE a b s = 0
  · have HV := Lib.hid h
    obtain ⟨hp, hs1, hs2⟩ := slewE_ok h
    obtain ⟨_, _, f1, f2, f3⟩ := pairE_ok hp
    have hj0 := jumpL_nn a b
    have hj1 := jumpL_le (x := 3) (y := 3) (by decide) (by decide) f1 f3
    have HF := Lib.hid (And.intro f1 (And.intro f2 f3))
    have HE := Lib.hid (show stepsN a b s = (jumpL a b + s - 1) / s by rw [stepsN, if_pos h])
    rw [h] at HP
    clear h f1 f2 f3 hp
    have HJ := Lib.hid (fun w1 h1 h2 => papart A A' k c k' c' a b w1 hl HF.out.2.1 (fun f hf => by have := HF.out.1 f hf; omega) (fun f hf => by have := HF.out.2.2 f hf; omega) w1.heap.size (Nat.le_refl _) h1 h2)
    obtain ⟨j, hj⟩ : ∃ j, j = jumpL a b := ⟨_, rfl⟩
    rw [← hj] at HJ HE hj0 hj1
    clear hj
    go_enter Try.func46, Try.ntmps46
    go_wp2_with fail
    refine (HP.out).mono ?_
    rintro e w1 ⟨rfl, hb1⟩
    have s1 := hb1.size
    have HB1 := Lib.hid hb1
    have hr := (hr.below hb1).more s1
    have hr' := (hr'.below hb1).more s1
    clear hb1
    go_wp2_with fail
    refine (HJ.out w1 hr hr').mono ?_
    rintro e w2 ⟨rfl, hb2⟩
    have s2 := hb2.size
    have HB2 := Lib.hid (HB1.out.trans (hb2.mono (by have := HB1.out.size; omega)))
    have hr := (hr.below hb2).more s2
    have hr' := (hr'.below hb2).more s2
    clear hb2
    go_wp2
    go_ret2
    exact ⟨ret_pair (by rw [HE.out]; first | rfl | (show _ = Value.int .i64 _; rw [Int.tdiv_eq_ediv_of_nonneg (by omega)])) (by rw [HV.out]; rfl), HB2.out⟩
  · have hd : (slewE a b s != 0) = true := by simpa using h
    have HE := Lib.hid (show stepsN a b s = 0 by rw [stepsN, if_neg h])
    clear h
    generalize slewE a b s = x at *
    go_enter Try.func46, Try.ntmps46
    go_wp2_with fail
    refine (HP.out).mono ?_
    rintro e w1 ⟨rfl, hb1⟩
    have s1 := hb1.size
    have HB1 := Lib.hid hb1
    have hr := (hr.below hb1).more s1
    have hr' := (hr'.below hb1).more s1
    clear hb1
    go_wp2
    go_ret2
    exact ⟨ret_pair (by rw [HE.out]; rfl) rfl, HB1.out⟩
end Go.Proofs.Ytejjogpgolgdgaa

/-
  WALKS: rows of wishes: their error. (Partly printed.)
-/
namespace Go.Proofs.Ytejjogpgolgdgaa
open Go.RowKit Pulse

set_option maxHeartbeats 400000 in
/-- slices.IndexFunc at rows. -/
theorem tabIndexFunc (f : FuncId) (hcf : ∀ (args : Array Value) (W : World), (callFunc f args).run Try.prog W = .ok (.enter f args) W) (cs : Array Value) (p : List Int → Bool) (A : Option Addr) (k c : Nat) (l : List (List Int)) (w : World) (hl : l.length ≤ 1000) (B : Nat) (hB : B ≤ w.heap.size) (hr : TRd w B A k l)
    (hf : ∀ a ∈ l, ∀ W, Below w.heap.size w W → ∀ A' c', Rd W w.heap.size 1 A' a.length (ints a) → Calls Try.prog f (#[.slice A' a.length c'] ++ cs) W fun e W' => e = .returned (.bool (p a)) ∧ Below W.heap.size W W') :
    Calls Try.prog 95 #[.slice A k c, .func (.func f) #[] cs] w fun e w' => e = .returned (.int .i64 (placeOf p l)) ∧ Below w.heap.size w w' := by
  obtain rfl := hr.len
  have HF := Lib.hid hf
  clear hf
  go_enter Try.func95, Try.ntmps95
  go_wp2
  go_loopw [8] (fun i wr => ∃ q : Nat, q ≤ l.length ∧ i = .int .i64 q ∧ Below w.heap.size w wr ∧ (l.take q).any p = false) (fun i _ => l.length - (intOf i).toNat)
  case atStart => exact ⟨0, Nat.zero_le _, rfl, Below.refl _ _, rfl⟩
  case round =>
    obtain ⟨q, hq, rfl, hb, hall⟩ := hrel
    by_cases hlt : q < l.length
    · obtain ⟨b, off, A1, c1, rfl, hbb, h0, _, _, g1⟩ := (hr.below' hb hB).row hlt
      have g1 := g1.more hB
      have hin : l[q] ∈ l := List.getElem_mem hlt
      have z0 : (0 : Int) ≤ (q : Int) := by omega
      have z1 : (q : Int) < (l.length : Int) := by omega
      have ht := any_take p l q hlt
      rw [hall, Bool.false_or] at ht
      by_cases ha : p l[q] = true
      · have hx : placeOf p l = q := by
          rw [placeOf, if_pos (List.any_eq_true.2 ⟨_, hin, ha⟩)]
          congr 1
          rw [List.findIdx_eq hlt]
          refine ⟨ha, fun j hj => ?_⟩
          have hz : l[j] ∈ l.take q := List.mem_take_iff_getElem.2 ⟨j, by omega, rfl⟩
          have := List.any_eq_false.1 hall _ hz
          simpa using this
        have HX := Lib.hid hx
        have HA := Lib.hid ha
        clear hx ha ht hall
        go_wp2_with fail
        refine (HF.out _ hin _ hb A1 c1 g1).mono ?_
        rw [HA.out]
        rintro e w' ⟨rfl, hb'⟩
        go_wp2
        go_ret
        exact ⟨ret_int HX.out.symm, hb.trans (hb'.mono hb.size)⟩
      · rw [Bool.not_eq_true] at ha
        have HT := Lib.hid (ht.trans ha)
        have HA := Lib.hid ha
        clear ha ht hall
        go_wp2_with fail
        refine (HF.out _ hin _ hb A1 c1 g1).mono ?_
        rw [HA.out]
        rintro e w' ⟨rfl, hb'⟩
        go_wp2
        go_roundw
        case rel => exact ⟨q + 1, by omega, by go_num, hb.trans (hb'.mono hb.size), HT.out⟩
        case measure => simp [intOf]; omega
    · obtain rfl : q = l.length := by omega
      rw [List.take_length] at hall
      have HA := Lib.hid hall
      clear hall
      go_wp2
      go_ret
      exact ⟨ret_int (by rw [placeOf, HA.out]; rfl), hb⟩

set_option maxHeartbeats 400000 in
/-- slices.ContainsFunc at rows. -/
theorem tabContainsFunc (f : FuncId) (hcf : ∀ (args : Array Value) (W : World), (callFunc f args).run Try.prog W = .ok (.enter f args) W) (cs : Array Value) (p : List Int → Bool) (A : Option Addr) (k c : Nat) (l : List (List Int)) (w : World) (hl : l.length ≤ 1000) (B : Nat) (hB : B ≤ w.heap.size) (hr : TRd w B A k l)
    (hf : ∀ a ∈ l, ∀ W, Below w.heap.size w W → ∀ A' c', Rd W w.heap.size 1 A' a.length (ints a) → Calls Try.prog f (#[.slice A' a.length c'] ++ cs) W fun e W' => e = .returned (.bool (p a)) ∧ Below W.heap.size W W') :
    Calls Try.prog 79 #[.slice A k c, .func (.func f) #[] cs] w fun e w' => e = .returned (.bool (l.any p)) ∧ Below w.heap.size w w' := by
  have H := Lib.hid (tabIndexFunc f hcf cs p A k c l w hl B hB hr hf)
  clear hf hcf
  by_cases ha : l.any p = true
  · have HA := Lib.hid ha
    clear ha
    go_enter Try.func79, Try.ntmps79
    go_wp2_with fail
    refine H.out.mono ?_
    rw [placeOf, if_pos HA.out]
    rintro e w' ⟨rfl, hb⟩
    go_wp2
    go_ret
    exact ⟨ret_bool HA.out.symm, hb⟩
  · rw [Bool.not_eq_true] at ha
    have HA := Lib.hid ha
    clear ha
    go_enter Try.func79, Try.ntmps79
    go_wp2_with fail
    refine H.out.mono ?_
    rw [placeOf, HA.out, if_neg (by simp)]
    rintro e w' ⟨rfl, hb⟩
    go_wp2
    go_ret
    exact ⟨ret_bool HA.out.symm, hb⟩



def rowE (g row : List (List Int)) : Int := if vldG g = 0 then (if (decide (1 ≤ row.length) && decide (row.length ≤ 5) && row.all (wOk g)) = true then 0 else 1) else vldG g
theorem rowE_ok {g row : List (List Int)} (h : rowE g row = 0) : vldG g = 0 ∧ 1 ≤ row.length ∧ row.length ≤ 5 ∧ ∀ l ∈ row, wOk g l = true := by
  unfold rowE at h
  split at h
  · rename_i h0
    split at h
    · rename_i hc
      simp only [Bool.and_eq_true, decide_eq_true_eq, List.all_eq_true] at hc
      exact ⟨h0, hc.1.1, hc.1.2, hc.2⟩
    · omega
  · exact absurd h ‹_›

theorem prowFn (l : List Int) (A' : Option Addr) (c' x : Nat) (g : List (List Int)) (A : Option Addr) (k c : Nat) (W : World) (B : Nat) (hB : B ≤ W.heap.size) (hpos : 0 < g.length) (hl : l.length ≤ 1000) (hg : W.heap[x]? = some (.cells #[.slice A k c] 22 (0, 0))) (hr : TRd W B A k g) (hr' : Rd W B 1 A' l.length (ints l)) :
    Calls Try.prog 90 #[.slice A' l.length c', .pointer (some ⟨x, 0, none⟩)] W fun e W' => e = .returned (.bool (!wOk g l)) ∧ Below W.heap.size W W' := by
  have c0 : W.cell? ⟨x, 0, none⟩ = some (.slice A k c) := blk_cell hg 0
  obtain ⟨r, hrr⟩ : ∃ r, r = wOk g l := ⟨_, rfl⟩
  have HR := Lib.hid hrr.symm
  rw [← hrr]
  clear hrr hg
  go_enter Try.func90, Try.ntmps90
  go_wp2_with fail
  refine (pisWish r A A' k c l.length c' g l HR.out W hpos hl B hB hr hr').mono ?_
  rintro e w' ⟨rfl, hb⟩
  go_wp2
  go_ret
  exact ⟨rfl, hb⟩

theorem pcourseFn (l : List Int) (A' : Option Addr) (c' x : Nat) (g : List (List Int)) (A : Option Addr) (k c : Nat) (W : World) (B : Nat) (hB : B ≤ W.heap.size) (hpos : 0 < g.length) (hl : l.length ≤ 1000) (hg : W.heap[x]? = some (.cells #[.slice A k c] 22 (0, 0))) (hr : TRd W B A k g) (hr' : Rd W B 1 A' l.length (ints l)) :
    Calls Try.prog 80 #[.slice A' l.length c', .pointer (some ⟨x, 0, none⟩)] W fun e W' => e = .returned (.bool (!vOk g l)) ∧ Below W.heap.size W W' := by
  have c0 : W.cell? ⟨x, 0, none⟩ = some (.slice A k c) := blk_cell hg 0
  obtain ⟨r, hrr⟩ : ∃ r, r = vOk g l := ⟨_, rfl⟩
  have HR := Lib.hid hrr.symm
  rw [← hrr]
  clear hrr hg
  go_enter Try.func80, Try.ntmps80
  go_wp2_with fail
  refine (pisVolts r A A' k c l.length c' g l HR.out W hpos hl B hB hr hr').mono ?_
  rintro e w' ⟨rfl, hb⟩
  go_wp2
  go_ret
  exact ⟨rfl, hb⟩

set_option maxRecDepth 100000 in
set_option maxHeartbeats 1000000 in
theorem prowed (A A' : Option Addr) (k c k' c' : Nat) (g row : List (List Int)) (w : World) (hs : Sm g) (hs' : Sm row) (B : Nat) (hB : B ≤ w.heap.size) (hr : TRd w B A k g) (hr' : TRd w B A' k' row) :
    Calls Try.prog 59 #[.slice A k c, .slice A' k' c'] w fun e w' => e = .returned (.int .i64 (rowE g row)) ∧ Below w.heap.size w w' := by
  have hr := hr.more hB
  have hr' := hr'.more hB
  obtain rfl := hr.len
  obtain rfl := hr'.len
  have hrl := hs'.1
  have HRS := Lib.hid hs'.2
  have s1 : (w.alloc (.cells #[.slice A g.length c] 22)).heap.size = w.heap.size + 1 := by simp
  have hr := (hr.alloc (Nat.le_refl _) (.cells #[.slice A g.length c] 22)).more (B' := (w.alloc (.cells #[.slice A g.length c] 22)).heap.size) (by omega)
  have hr' := (hr'.alloc (Nat.le_refl _) (.cells #[.slice A g.length c] 22)).more (B' := (w.alloc (.cells #[.slice A g.length c] 22)).heap.size) (by omega)
  have HX := Lib.hid (blk_new w 22 #[.slice A g.length c])
  have HB1 := Lib.hid ((Below.refl w.heap.size w).alloc (Nat.le_refl _) (.cells #[.slice A g.length c] 22))
  have HP := Lib.hid (pValidate A g.length c g (w.alloc (.cells #[.slice A g.length c] 22)) hs (w.alloc (.cells #[.slice A g.length c] 22)).heap.size (Nat.le_refl _) hr)
  by_cases h : vldG g = 0
  · have hpos : 0 < g.length := (vldG_ok h).1
    have HE := Lib.hid (show rowE g row = if (decide (1 ≤ row.length) && decide (row.length ≤ 5) && row.all (wOk g)) = true then 0 else 1 by rw [rowE, if_pos h])
    rw [h] at HP
    clear h
    by_cases h1 : row.length < 1
    · rw [decide_eq_false (show ¬ 1 ≤ row.length by omega)] at HE
      have hd : decide (row.length < 1) = true := by simpa using h1
      go_enter Try.func59, Try.ntmps59
      go_wp2_with fail
      refine (HP.out).mono ?_
      rintro e w2 ⟨rfl, hb2⟩
      have s2 := hb2.size
      have HB2 := Lib.hid (HB1.out.trans (hb2.mono (by have := HB1.out.size; omega)))
      have hr := (hr.below hb2).more s2
      have hr' := (hr'.below hb2).more s2
      have HX := Lib.hid (blk_below HX.out hb2 (blk_lt HX.out))
      clear hb2
      go_wp2
      go_ret
      exact ⟨ret_int HE.out.symm, HB2.out⟩
    by_cases h2 : 5 < row.length
    · rw [decide_eq_false (show ¬ row.length ≤ 5 by omega), Bool.and_false] at HE
      have hd : decide (5 < row.length) = true := by simpa using h2
      go_enter Try.func59, Try.ntmps59
      go_wp2_with fail
      refine (HP.out).mono ?_
      rintro e w2 ⟨rfl, hb2⟩
      have s2 := hb2.size
      have HB2 := Lib.hid (HB1.out.trans (hb2.mono (by have := HB1.out.size; omega)))
      have hr := (hr.below hb2).more s2
      have hr' := (hr'.below hb2).more s2
      have HX := Lib.hid (blk_below HX.out hb2 (blk_lt HX.out))
      clear hb2
      go_wp2
      go_ret
      exact ⟨ret_int HE.out.symm, HB2.out⟩
    rw [decide_eq_true (show 1 ≤ row.length by omega), decide_eq_true (show row.length ≤ 5 by omega), Bool.true_and, Bool.true_and] at HE
    have hd1 : decide (row.length < 1) = false := decide_eq_false h1
    have hd2 : decide (5 < row.length) = false := decide_eq_false h2
    have hany : (row.any fun l => !wOk g l) = !row.all (wOk g) := by simp [List.any_eq_not_all_not]
    cases ha : row.all (wOk g) with
    | true =>
      rw [ha] at HE hany
      have HAN := Lib.hid hany
      clear ha hany
      go_enter Try.func59, Try.ntmps59
      go_wp2_with fail
      refine (HP.out).mono ?_
      rintro e w2 ⟨rfl, hb2⟩
      have s2 := hb2.size
      have HB2 := Lib.hid (HB1.out.trans (hb2.mono (by have := HB1.out.size; omega)))
      have hr := (hr.below hb2).more s2
      have hr' := (hr'.below hb2).more s2
      have HX := Lib.hid (blk_below HX.out hb2 (blk_lt HX.out))
      clear hb2
      go_wp2_with fail
      refine (tabContainsFunc 90 Try.call90 #[.pointer (some ⟨w.heap.size, 0, none⟩)] (fun l => !wOk g l) A' row.length c' row w2 (by omega) w2.heap.size (Nat.le_refl _) hr' (fun l hl W hb A1 c1 h1 => prowFn l A1 c1 w.heap.size g A g.length c W w2.heap.size hb.size hpos (HRS.out l hl) (blk_below HX.out hb (blk_lt HX.out)) (hr.below hb) h1)).mono ?_
      rw [HAN.out]
      rintro e w3 ⟨rfl, hb3⟩
      have s3 := hb3.size
      have HB3 := Lib.hid (HB2.out.trans (hb3.mono (by have := HB2.out.size; omega)))
      have hr := (hr.below hb3).more s3
      have hr' := (hr'.below hb3).more s3
      have HX := Lib.hid (blk_below HX.out hb3 (blk_lt HX.out))
      clear hb3
      go_wp2
      go_ret
      exact ⟨ret_int HE.out.symm, HB3.out⟩
    | false =>
      rw [ha] at HE hany
      have HAN := Lib.hid hany
      clear ha hany
      go_enter Try.func59, Try.ntmps59
      go_wp2_with fail
      refine (HP.out).mono ?_
      rintro e w2 ⟨rfl, hb2⟩
      have s2 := hb2.size
      have HB2 := Lib.hid (HB1.out.trans (hb2.mono (by have := HB1.out.size; omega)))
      have hr := (hr.below hb2).more s2
      have hr' := (hr'.below hb2).more s2
      have HX := Lib.hid (blk_below HX.out hb2 (blk_lt HX.out))
      clear hb2
      go_wp2_with fail
      refine (tabContainsFunc 90 Try.call90 #[.pointer (some ⟨w.heap.size, 0, none⟩)] (fun l => !wOk g l) A' row.length c' row w2 (by omega) w2.heap.size (Nat.le_refl _) hr' (fun l hl W hb A1 c1 h1 => prowFn l A1 c1 w.heap.size g A g.length c W w2.heap.size hb.size hpos (HRS.out l hl) (blk_below HX.out hb (blk_lt HX.out)) (hr.below hb) h1)).mono ?_
      rw [HAN.out]
      rintro e w3 ⟨rfl, hb3⟩
      have s3 := hb3.size
      have HB3 := Lib.hid (HB2.out.trans (hb3.mono (by have := HB2.out.size; omega)))
      have hr := (hr.below hb3).more s3
      have hr' := (hr'.below hb3).more s3
      have HX := Lib.hid (blk_below HX.out hb3 (blk_lt HX.out))
      clear hb3
      go_wp2
      go_ret
      exact ⟨ret_int HE.out.symm, HB3.out⟩
  · have hd : (vldG g != 0) = true := by simpa using h
    have HE := Lib.hid (show rowE g row = vldG g by rw [rowE, if_neg h])
    clear h
    generalize vldG g = x at *
    go_enter Try.func59, Try.ntmps59
    go_wp2_with fail
    refine (HP.out).mono ?_
    rintro e w2 ⟨rfl, hb2⟩
    have s2 := hb2.size
    have HB2 := Lib.hid (HB1.out.trans (hb2.mono (by have := HB1.out.size; omega)))
    have hr := (hr.below hb2).more s2
    have hr' := (hr'.below hb2).more s2
    have HX := Lib.hid (blk_below HX.out hb2 (blk_lt HX.out))
    clear hb2
    go_wp2
    go_ret
    exact ⟨ret_int HE.out.symm, HB2.out⟩

set_option maxRecDepth 100000 in
set_option maxHeartbeats 1000000 in
theorem rRowed (A A' : Option Addr) (k c k' c' : Nat) (g row : List (List Int)) (w : World) (hs : Sm g) (hs' : Sm row) (B : Nat) (hB : B ≤ w.heap.size) (hr : TRd w B A k g) (hr' : TRd w B A' k' row) :
    Calls Try.prog 78 #[.slice A k c, .slice A' k' c'] w fun e w' => e = .returned (.int .i64 (rowE g row)) ∧ Below w.heap.size w w' := by
  have hr := hr.more hB
  have hr' := hr'.more hB
  obtain rfl := hr.len
  obtain rfl := hr'.len
  have hrl := hs'.1
  have HRS := Lib.hid hs'.2
  have HP := Lib.hid (rValidate A g.length c g w hs w.heap.size (Nat.le_refl _) hr)
  by_cases h : vldG g = 0
  · have hpos : 0 < g.length := (vldG_ok h).1
    have HE := Lib.hid (show rowE g row = if (decide (1 ≤ row.length) && decide (row.length ≤ 5) && row.all (wOk g)) = true then 0 else 1 by rw [rowE, if_pos h])
    rw [h] at HP
    clear h
    by_cases h1 : 1 ≤ row.length ∧ row.length ≤ 5
    · rw [decide_eq_true h1.1, decide_eq_true h1.2, Bool.true_and, Bool.true_and] at HE
      have h11 := h1.1
      have h12 := h1.2
      clear h1
      go_enter Try.func78, Try.ntmps78
      go_wp2_with fail
      refine (HP.out).mono ?_
      rintro e w1 ⟨rfl, hb1⟩
      have s1 := hb1.size
      have HB1 := Lib.hid hb1
      have hr := (hr.below hb1).more s1
      have hr' := (hr'.below hb1).more s1
      clear hb1
      go_wp2_with fail
      refine (rwithin_is _ _ _ true (by simp; omega) _).mono ?_
      rintro e w' ⟨rfl, rfl⟩
      go_wp2
      go_loopw [6] (fun i wr => ∃ q : Nat, i = .int .i64 q ∧ q ≤ row.length ∧ Hid ((row.take q).all (wOk g) = true) ∧ Below w1.heap.size w1 wr) (fun i _ => row.length - (intOf i).toNat)
      case atStart => exact ⟨0, rfl, Nat.zero_le _, rfl, Below.refl _ _⟩
      case round =>
        obtain ⟨q, rfl, hq, hall, hb⟩ := hrel
        have sb := hb.size
        by_cases hlt : q < row.length
        · obtain ⟨b, off, A1, c1, rfl, hbb, g0, _, _, g1⟩ := ((hr'.below hb).more sb).row hlt
          have hl1 := HRS.out _ (List.getElem_mem hlt)
          have ht := all_take (wOk g) row q hlt
          rw [hall.out, Bool.true_and] at ht
          have HF := Lib.hid (show wOk g row[q] = false → row.all (wOk g) = false from fun ha => by
            rw [Bool.eq_false_iff]
            intro hx
            have := List.all_eq_true.1 hx _ (List.getElem_mem hlt)
            rw [ha] at this
            cases this)
          have HT := Lib.hid ht
          clear ht
          obtain ⟨l, hl⟩ : ∃ l, l = row[q] := ⟨_, rfl⟩
          rw [← hl] at g0 g1 hl1 HF HT
          clear hl
          have z0 : (0 : Int) ≤ (q : Int) := by omega
          have z1 : (q : Int) < (row.length : Int) := by omega
          obtain ⟨r, hrr⟩ : ∃ r, r = wOk g l := ⟨_, rfl⟩
          have HR := Lib.hid hrr.symm
          rw [← hrr] at HF HT
          clear hrr
          have hgr := (hr.below hb).more sb
          cases r with
          | true =>
            go_wp2_with fail
            refine (risWish true _ _ _ _ _ _ g l HR.out wr hpos hl1 wr.heap.size (Nat.le_refl _) hgr g1).mono ?_
            rintro e w9 ⟨rfl, hb9⟩
            have hbk := Lib.hid (hb.trans (hb9.mono sb))
            clear hb9
            go_wp2
            go_roundw
            case rel => exact ⟨q + 1, by go_num, by omega, HT, hbk.out⟩
            case measure => simp [intOf]; omega
          | false =>
            go_wp2_with fail
            refine (risWish false _ _ _ _ _ _ g l HR.out wr hpos hl1 wr.heap.size (Nat.le_refl _) hgr g1).mono ?_
            rintro e w9 ⟨rfl, hb9⟩
            have hbk := Lib.hid (hb.trans (hb9.mono sb))
            clear hb9
            go_wp2
            go_ret
            exact ⟨ret_int (by rw [HE.out, HF.out (by first | rfl | trivial)]; rfl), HB1.out.trans (hbk.out.mono (by have := HB1.out.size; omega))⟩
        · obtain rfl : q = row.length := by omega
          have HX := Lib.hid (show row.all (wOk g) = true by have := hall.out; rwa [List.take_length] at this)
          go_wp2
          go_ret
          exact ⟨ret_int (by rw [HE.out, HX.out]; rfl), HB1.out.trans (hb.mono (by have := HB1.out.size; omega))⟩
    · have HEE := Lib.hid (show rowE g row = 1 by rw [HE.out, if_neg]; intro hc; simp only [Bool.and_eq_true, decide_eq_true_eq] at hc; exact h1 hc.1)
      have hno : (decide (1 ≤ (row.length : Int)) && decide ((row.length : Int) ≤ 5)) = false := by simp; omega
      have HNO := Lib.hid hno
      clear hno h1
      go_enter Try.func78, Try.ntmps78
      go_wp2_with fail
      refine (HP.out).mono ?_
      rintro e w1 ⟨rfl, hb1⟩
      have s1 := hb1.size
      have HB1 := Lib.hid hb1
      have hr := (hr.below hb1).more s1
      have hr' := (hr'.below hb1).more s1
      clear hb1
      go_wp2_with fail
      refine (rwithin_is _ _ _ false HNO.out _).mono ?_
      rintro e w' ⟨rfl, rfl⟩
      go_wp2
      go_ret
      exact ⟨ret_int HEE.out.symm, HB1.out⟩
  · have hd : (vldG g != 0) = true := by simpa using h
    have HE := Lib.hid (show rowE g row = vldG g by rw [rowE, if_neg h])
    clear h
    generalize vldG g = x at *
    go_enter Try.func78, Try.ntmps78
    go_wp2_with fail
    refine (HP.out).mono ?_
    rintro e w1 ⟨rfl, hb1⟩
    have s1 := hb1.size
    have HB1 := Lib.hid hb1
    have hr := (hr.below hb1).more s1
    have hr' := (hr'.below hb1).more s1
    clear hb1
    go_wp2
    go_ret
    exact ⟨ret_int HE.out.symm, HB1.out⟩
end Go.Proofs.Ytejjogpgolgdgaa
