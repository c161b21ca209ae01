/-
  WALKS: two voltages: their error, Jump; the error of a ramp; Steps. (Printed by gen_w22.py.)
-/
import Derived.Test.YtejjogpgolgdgaaW21
namespace Go.Proofs.Ytejjogpgolgdgaa
open Go.RowKit Pulse

def pairE (a b : List Int) : Int := if (decide (1 ≤ a.length) && decide (a.length ≤ 3) && withinB a a.length 3 && withinB b a.length 3) = true then 0 else 1
def jumpN (a b : List Int) : Int := if pairE a b = 0 then jumpL a b else 0
def slewE (a b : List Int) (s : Int) : Int := if pairE a b = 0 then (if 1 ≤ s ∧ s ≤ 6 then 0 else 1) else pairE a b
theorem pairE_ok {a b : List Int} (h : pairE a b = 0) : 1 ≤ a.length ∧ a.length ≤ 3 ∧ Forces 3 a ∧ b.length = a.length ∧ Forces 3 b := by
  unfold pairE at h
  split at h
  · rename_i hc
    simp only [withinB, Bool.and_eq_true, decide_eq_true_eq, List.all_eq_true, isIn] at hc
    obtain ⟨⟨⟨h1, h2⟩, hx, h3⟩, h4, h5⟩ := hc
    exact ⟨h1, h2, fun f hf => h3 f hf, by omega, fun f hf => h5 f hf⟩
  · omega
theorem slewE_ok {a b : List Int} {s : Int} (h : slewE a b s = 0) : pairE a b = 0 ∧ 1 ≤ s ∧ s ≤ 6 := by
  unfold slewE at h
  split at h
  · rename_i h0
    split at h
    · rename_i h1; exact ⟨h0, h1⟩
    · omega
  · exact absurd h ‹_›
theorem pwithin_is (r : Bool) (A : Option Addr) (k c : Nat) (l : List Int) (size b : Int) (h : withinB l size b = r) (w : World) (h0 : 0 ≤ b) (h1 : b ≤ 1000) (hl : l.length ≤ 1000) (B : Nat) (hB : B ≤ w.heap.size) (hr : Rd w B 1 A k (ints l)) :
    Calls Try.prog 66 #[.slice A k c, .int .i64 size, .int .i64 b] w fun e w' => e = .returned (.bool r) ∧ Below w.heap.size w w' := by
  subst h; exact pwithin A k c l size b w h0 h1 hl B hB hr
theorem rallB (r : Bool) (A : Option Addr) (k c : Nat) (l : List Int) (size b : Int) (h : withinB l size b = r) (w : World) (h0 : 0 ≤ b) (h1 : b ≤ 1000) (hl : l.length ≤ 1000) (B : Nat) (hB : B ≤ w.heap.size) (hr : Rd w B 1 A k (ints l)) :
    Calls Try.prog 68 #[.slice A k c, .int .i64 size, .int .i64 b] w fun e w' => e = .returned (.bool r) ∧ Below w.heap.size w w' :=
  (rall_is r A k c l size b h w h0 h1 hl B hr).mono fun e w' ⟨h, hw⟩ => ⟨h, by subst hw; exact Below.refl _ _⟩

set_option maxRecDepth 100000 in
set_option maxHeartbeats 1000000 in
theorem ptwo (A A' : Option Addr) (k c k' c' : Nat) (a b : List Int) (w : World) (hl : a.length ≤ 1000) (hl' : b.length ≤ 1000) (B : Nat) (hB : B ≤ w.heap.size) (hr : Rd w B 1 A k (ints a)) (hr' : Rd w B 1 A' k' (ints b)) :
    Calls Try.prog 83 #[.slice A k c, .slice A' k' c'] w fun e w' => e = .returned (.int .i64 (pairE a b)) ∧ Below w.heap.size w w' := by
  have hr := hr.more hB
  have hr' := hr'.more hB
  obtain rfl := hr.int_len
  obtain rfl := hr'.int_len
  by_cases h1 : a.length < 1
  · have HV := Lib.hid (show pairE a b = 1 by rw [pairE, decide_eq_false (show ¬ 1 ≤ a.length by omega)]; rfl)
    have hd : decide (a.length < 1) = true := by simpa using h1
    go_enter Try.func83, Try.ntmps83
    go_wp2
    go_ret
    exact ⟨ret_int HV.out.symm, Below.refl _ _⟩
  by_cases h3 : 3 < a.length
  · have HV := Lib.hid (show pairE a b = 1 by rw [pairE, decide_eq_false (show ¬ a.length ≤ 3 by omega)]; simp)
    have hd : decide (3 < a.length) = true := by simpa using h3
    go_enter Try.func83, Try.ntmps83
    go_wp2
    go_ret
    exact ⟨ret_int HV.out.symm, Below.refl _ _⟩
  have HV := Lib.hid (show pairE a b = if (withinB a a.length 3 && withinB b a.length 3) = true then 0 else 1 by rw [pairE, decide_eq_true (show 1 ≤ a.length by omega), decide_eq_true (show a.length ≤ 3 by omega)]; simp only [Bool.true_and])
  have hd1 : decide (a.length < 1) = false := decide_eq_false h1
  have hd2 : decide (3 < a.length) = false := decide_eq_false h3
  cases ha : withinB a a.length 3 with
  | false =>
    rw [ha] at HV
    have HA := Lib.hid ha
    clear ha
    go_enter Try.func83, Try.ntmps83
    go_wp2_with fail
    refine (pwithin_is false _ _ _ a (a.length) 3 HA.out w (by omega) (by omega) hl w.heap.size (Nat.le_refl _) hr).mono ?_
    rintro e w1 ⟨rfl, hb1⟩
    have s1 := hb1.size
    have HB1 := Lib.hid hb1
    have hr := (hr.below hb1).more s1
    have hr' := (hr'.below hb1).more s1
    clear hb1
    go_wp2
    go_ret
    exact ⟨ret_int HV.out.symm, HB1.out⟩
  | true =>
    rw [ha] at HV
    have HA := Lib.hid ha
    clear ha
    cases hb : withinB b a.length 3 with
    | false =>
      rw [hb] at HV
      have HB := Lib.hid hb
      clear hb
      go_enter Try.func83, Try.ntmps83
      go_wp2_with fail
      refine (pwithin_is true _ _ _ a (a.length) 3 HA.out w (by omega) (by omega) hl w.heap.size (Nat.le_refl _) hr).mono ?_
      rintro e w1 ⟨rfl, hb1⟩
      have s1 := hb1.size
      have HB1 := Lib.hid hb1
      have hr := (hr.below hb1).more s1
      have hr' := (hr'.below hb1).more s1
      clear hb1
      go_wp2_with fail
      refine (pwithin_is false _ _ _ b (a.length) 3 HB.out w1 (by omega) (by omega) hl' w1.heap.size (Nat.le_refl _) hr').mono ?_
      rintro e w2 ⟨rfl, hb2⟩
      have s2 := hb2.size
      have HB2 := Lib.hid (HB1.out.trans (hb2.mono (by have := HB1.out.size; omega)))
      have hr := (hr.below hb2).more s2
      have hr' := (hr'.below hb2).more s2
      clear hb2
      go_wp2
      go_ret
      exact ⟨ret_int HV.out.symm, HB2.out⟩
    | true =>
      rw [hb] at HV
      have HB := Lib.hid hb
      clear hb
      go_enter Try.func83, Try.ntmps83
      go_wp2_with fail
      refine (pwithin_is true _ _ _ a (a.length) 3 HA.out w (by omega) (by omega) hl w.heap.size (Nat.le_refl _) hr).mono ?_
      rintro e w1 ⟨rfl, hb1⟩
      have s1 := hb1.size
      have HB1 := Lib.hid hb1
      have hr := (hr.below hb1).more s1
      have hr' := (hr'.below hb1).more s1
      clear hb1
      go_wp2_with fail
      refine (pwithin_is true _ _ _ b (a.length) 3 HB.out w1 (by omega) (by omega) hl' w1.heap.size (Nat.le_refl _) hr').mono ?_
      rintro e w2 ⟨rfl, hb2⟩
      have s2 := hb2.size
      have HB2 := Lib.hid (HB1.out.trans (hb2.mono (by have := HB1.out.size; omega)))
      have hr := (hr.below hb2).more s2
      have hr' := (hr'.below hb2).more s2
      clear hb2
      go_wp2
      go_ret
      exact ⟨ret_int HV.out.symm, HB2.out⟩

set_option maxRecDepth 100000 in
set_option maxHeartbeats 1000000 in
theorem rpair (A A' : Option Addr) (k c k' c' : Nat) (a b : List Int) (w : World) (hl : a.length ≤ 1000) (hl' : b.length ≤ 1000) (B : Nat) (hB : B ≤ w.heap.size) (hr : Rd w B 1 A k (ints a)) (hr' : Rd w B 1 A' k' (ints b)) :
    Calls Try.prog 84 #[.slice A k c, .slice A' k' c'] w fun e w' => e = .returned (.int .i64 (pairE a b)) ∧ Below w.heap.size w w' := by
  have hr := hr.more hB
  have hr' := hr'.more hB
  obtain rfl := hr.int_len
  obtain rfl := hr'.int_len
  by_cases h1 : a.length < 1
  · have HV := Lib.hid (show pairE a b = 1 by rw [pairE, decide_eq_false (show ¬ 1 ≤ a.length by omega)]; rfl)
    have hd : decide (a.length < 1) = true := by simpa using h1
    go_enter Try.func84, Try.ntmps84
    go_wp2_with fail
    refine (rwithin_is _ _ _ false (by simp; omega) _).mono ?_
    rintro e w' ⟨rfl, rfl⟩
    go_wp2
    go_ret
    exact ⟨ret_int HV.out.symm, Below.refl _ _⟩
  by_cases h3 : 3 < a.length
  · have HV := Lib.hid (show pairE a b = 1 by rw [pairE, decide_eq_false (show ¬ a.length ≤ 3 by omega)]; simp)
    have hd : decide (3 < a.length) = true := by simpa using h3
    go_enter Try.func84, Try.ntmps84
    go_wp2_with fail
    refine (rwithin_is _ _ _ false (by simp; omega) _).mono ?_
    rintro e w' ⟨rfl, rfl⟩
    go_wp2
    go_ret
    exact ⟨ret_int HV.out.symm, Below.refl _ _⟩
  have HV := Lib.hid (show pairE a b = if (withinB a a.length 3 && withinB b a.length 3) = true then 0 else 1 by rw [pairE, decide_eq_true (show 1 ≤ a.length by omega), decide_eq_true (show a.length ≤ 3 by omega)]; simp only [Bool.true_and])
  have hd1 : decide (a.length < 1) = false := decide_eq_false h1
  have hd2 : decide (3 < a.length) = false := decide_eq_false h3
  cases ha : withinB a a.length 3 with
  | false =>
    rw [ha] at HV
    have HA := Lib.hid ha
    clear ha
    go_enter Try.func84, Try.ntmps84
    go_wp2_with fail
    refine (rwithin_is _ _ _ true (by simp; omega) _).mono ?_
    rintro e w' ⟨rfl, rfl⟩
    go_wp2_with fail
    refine (rallB false _ _ _ a (a.length) 3 HA.out w (by omega) (by omega) hl w.heap.size (Nat.le_refl _) hr).mono ?_
    rintro e w1 ⟨rfl, hb1⟩
    have s1 := hb1.size
    have HB1 := Lib.hid hb1
    have hr := (hr.below hb1).more s1
    have hr' := (hr'.below hb1).more s1
    clear hb1
    go_wp2
    go_ret
    exact ⟨ret_int HV.out.symm, HB1.out⟩
  | true =>
    rw [ha] at HV
    have HA := Lib.hid ha
    clear ha
    cases hb : withinB b a.length 3 with
    | false =>
      rw [hb] at HV
      have HB := Lib.hid hb
      clear hb
      go_enter Try.func84, Try.ntmps84
      go_wp2_with fail
      refine (rwithin_is _ _ _ true (by simp; omega) _).mono ?_
      rintro e w' ⟨rfl, rfl⟩
      go_wp2_with fail
      refine (rallB true _ _ _ a (a.length) 3 HA.out w (by omega) (by omega) hl w.heap.size (Nat.le_refl _) hr).mono ?_
      rintro e w1 ⟨rfl, hb1⟩
      have s1 := hb1.size
      have HB1 := Lib.hid hb1
      have hr := (hr.below hb1).more s1
      have hr' := (hr'.below hb1).more s1
      clear hb1
      go_wp2_with fail
      refine (rallB false _ _ _ b (a.length) 3 HB.out w1 (by omega) (by omega) hl' w1.heap.size (Nat.le_refl _) hr').mono ?_
      rintro e w2 ⟨rfl, hb2⟩
      have s2 := hb2.size
      have HB2 := Lib.hid (HB1.out.trans (hb2.mono (by have := HB1.out.size; omega)))
      have hr := (hr.below hb2).more s2
      have hr' := (hr'.below hb2).more s2
      clear hb2
      go_wp2
      go_ret
      exact ⟨ret_int HV.out.symm, HB2.out⟩
    | true =>
      rw [hb] at HV
      have HB := Lib.hid hb
      clear hb
      go_enter Try.func84, Try.ntmps84
      go_wp2_with fail
      refine (rwithin_is _ _ _ true (by simp; omega) _).mono ?_
      rintro e w' ⟨rfl, rfl⟩
      go_wp2_with fail
      refine (rallB true _ _ _ a (a.length) 3 HA.out w (by omega) (by omega) hl w.heap.size (Nat.le_refl _) hr).mono ?_
      rintro e w1 ⟨rfl, hb1⟩
      have s1 := hb1.size
      have HB1 := Lib.hid hb1
      have hr := (hr.below hb1).more s1
      have hr' := (hr'.below hb1).more s1
      clear hb1
      go_wp2_with fail
      refine (rallB true _ _ _ b (a.length) 3 HB.out w1 (by omega) (by omega) hl' w1.heap.size (Nat.le_refl _) hr').mono ?_
      rintro e w2 ⟨rfl, hb2⟩
      have s2 := hb2.size
      have HB2 := Lib.hid (HB1.out.trans (hb2.mono (by have := HB1.out.size; omega)))
      have hr := (hr.below hb2).more s2
      have hr' := (hr'.below hb2).more s2
      clear hb2
      go_wp2
      go_ret
      exact ⟨ret_int HV.out.symm, HB2.out⟩

set_option maxRecDepth 100000 in
set_option maxHeartbeats 1000000 in
theorem pJump (A A' : Option Addr) (k c k' c' : Nat) (a b : List Int) (w : World) (hl : a.length ≤ 1000) (hl' : b.length ≤ 1000) (B : Nat) (hB : B ≤ w.heap.size) (hr : Rd w B 1 A k (ints a)) (hr' : Rd w B 1 A' k' (ints b)) :
    Calls Try.prog 44 #[.slice A k c, .slice A' k' c'] w fun e w' => e = .returned (.tuple #[.int .i64 (jumpN a b), .int .i64 (pairE a b)]) ∧ Below w.heap.size w w' := by
  have hr := hr.more hB
  have hr' := hr'.more hB
  have HP := Lib.hid (ptwo A A' k c k' c' a b w hl hl' w.heap.size (Nat.le_refl _) hr hr')
  by_cases h : pairE a b = 0
  · have HV := Lib.hid h
    obtain ⟨_, _, f1, f2, f3⟩ := pairE_ok h
    have HF := Lib.hid (And.intro f1 (And.intro f2 f3))
    have HE := Lib.hid (show jumpN a b = jumpL a b by rw [jumpN, if_pos h])
    rw [h] at HP
    clear h f1 f2 f3
    go_enter Try.func44, Try.ntmps44
    go_wp2_with fail
    refine (HP.out).mono ?_
    rintro e w1 ⟨rfl, hb1⟩
    have s1 := hb1.size
    have HB1 := Lib.hid hb1
    have hr := (hr.below hb1).more s1
    have hr' := (hr'.below hb1).more s1
    clear hb1
    go_wp2_with fail
    refine (papart A A' k c k' c' a b w1 hl HF.out.2.1 (fun f hf => by have := HF.out.1 f hf; omega) (fun f hf => by have := HF.out.2.2 f hf; omega) w1.heap.size (Nat.le_refl _) hr hr').mono ?_
    rintro e w2 ⟨rfl, hb2⟩
    have s2 := hb2.size
    have HB2 := Lib.hid (HB1.out.trans (hb2.mono (by have := HB1.out.size; omega)))
    have hr := (hr.below hb2).more s2
    have hr' := (hr'.below hb2).more s2
    clear hb2
    go_wp2
    go_ret2
    exact ⟨ret_pair (by rw [HE.out]; rfl) (by rw [HV.out]; rfl), HB2.out⟩
  · have hd : (pairE a b != 0) = true := by simpa using h
    have HE := Lib.hid (show jumpN a b = 0 by rw [jumpN, if_neg h])
    clear h
    generalize pairE a b = x at *
    go_enter Try.func44, Try.ntmps44
    go_wp2_with fail
    refine (HP.out).mono ?_
    rintro e w1 ⟨rfl, hb1⟩
    have s1 := hb1.size
    have HB1 := Lib.hid hb1
    have hr := (hr.below hb1).more s1
    have hr' := (hr'.below hb1).more s1
    clear hb1
    go_wp2
    go_ret2
    exact ⟨ret_pair (by rw [HE.out]; rfl) rfl, HB1.out⟩

set_option maxRecDepth 100000 in
set_option maxHeartbeats 1000000 in
theorem rJump (A A' : Option Addr) (k c k' c' : Nat) (a b : List Int) (w : World) (hl : a.length ≤ 1000) (hl' : b.length ≤ 1000) (B : Nat) (hB : B ≤ w.heap.size) (hr : Rd w B 1 A k (ints a)) (hr' : Rd w B 1 A' k' (ints b)) :
    Calls Try.prog 45 #[.slice A k c, .slice A' k' c'] w fun e w' => e = .returned (.tuple #[.int .i64 (jumpN a b), .int .i64 (pairE a b)]) ∧ Below w.heap.size w w' := by
  have hr := hr.more hB
  have hr' := hr'.more hB
  have HP := Lib.hid (rpair A A' k c k' c' a b w hl hl' w.heap.size (Nat.le_refl _) hr hr')
  by_cases h : pairE a b = 0
  · have HV := Lib.hid h
    obtain ⟨_, _, f1, f2, f3⟩ := pairE_ok h
    have HF := Lib.hid (And.intro f1 (And.intro f2 f3))
    have HE := Lib.hid (show jumpN a b = jumpL a b by rw [jumpN, if_pos h])
    rw [h] at HP
    clear h f1 f2 f3
    go_enter Try.func45, Try.ntmps45
    go_wp2_with fail
    refine (HP.out).mono ?_
    rintro e w1 ⟨rfl, hb1⟩
    have s1 := hb1.size
    have HB1 := Lib.hid hb1
    have hr := (hr.below hb1).more s1
    have hr' := (hr'.below hb1).more s1
    clear hb1
    go_wp2_with fail
    refine (rjump A A' k c k' c' a b w1 hl HF.out.2.1 (fun f hf => by have := HF.out.1 f hf; omega) (fun f hf => by have := HF.out.2.2 f hf; omega) w1.heap.size (Nat.le_refl _) hr hr').mono ?_
    rintro e w2 ⟨rfl, hb2⟩
    have s2 := hb2.size
    have HB2 := Lib.hid (HB1.out.trans (hb2.mono (by have := HB1.out.size; omega)))
    have hr := (hr.below hb2).more s2
    have hr' := (hr'.below hb2).more s2
    clear hb2
    go_wp2
    go_ret2
    exact ⟨ret_pair (by rw [HE.out]; rfl) (by rw [HV.out]; rfl), HB2.out⟩
  · have hd : (pairE a b != 0) = true := by simpa using h
    have HE := Lib.hid (show jumpN a b = 0 by rw [jumpN, if_neg h])
    clear h
    generalize pairE a b = x at *
    go_enter Try.func45, Try.ntmps45
    go_wp2_with fail
    refine (HP.out).mono ?_
    rintro e w1 ⟨rfl, hb1⟩
    have s1 := hb1.size
    have HB1 := Lib.hid hb1
    have hr := (hr.below hb1).more s1
    have hr' := (hr'.below hb1).more s1
    clear hb1
    go_wp2
    go_ret2
    exact ⟨ret_pair (by rw [HE.out]; rfl) rfl, HB1.out⟩

set_option maxRecDepth 100000 in
set_option maxHeartbeats 1000000 in
theorem pramped (A A' : Option Addr) (k c k' c' : Nat) (a b : List Int) (s : Int) (w : World) (hl : a.length ≤ 1000) (hl' : b.length ≤ 1000) (B : Nat) (hB : B ≤ w.heap.size) (hr : Rd w B 1 A k (ints a)) (hr' : Rd w B 1 A' k' (ints b)) :
    Calls Try.prog 85 #[.slice A k c, .slice A' k' c', .int .i64 s] w fun e w' => e = .returned (.int .i64 (slewE a b s)) ∧ Below w.heap.size w w' := by
  have hr := hr.more hB
  have hr' := hr'.more hB
  have HP := Lib.hid (ptwo A A' k c k' c' a b w hl hl' w.heap.size (Nat.le_refl _) hr hr')
  by_cases h : pairE a b = 0
  · have HE := Lib.hid (show slewE a b s = if 1 ≤ s ∧ s ≤ 6 then 0 else 1 by rw [slewE, if_pos h])
    rw [h] at HP
    clear h
    by_cases h1 : s < 1
    · rw [if_neg (by omega)] at HE
      go_enter Try.func85, Try.ntmps85
      go_wp2_with fail
      refine (HP.out).mono ?_
      rintro e w1 ⟨rfl, hb1⟩
      have s1 := hb1.size
      have HB1 := Lib.hid hb1
      have hr := (hr.below hb1).more s1
      have hr' := (hr'.below hb1).more s1
      clear hb1
      go_wp2
      go_ret
      exact ⟨ret_int HE.out.symm, HB1.out⟩
    by_cases h2 : 6 < s
    · rw [if_neg (by omega)] at HE
      go_enter Try.func85, Try.ntmps85
      go_wp2_with fail
      refine (HP.out).mono ?_
      rintro e w1 ⟨rfl, hb1⟩
      have s1 := hb1.size
      have HB1 := Lib.hid hb1
      have hr := (hr.below hb1).more s1
      have hr' := (hr'.below hb1).more s1
      clear hb1
      go_wp2
      go_ret
      exact ⟨ret_int HE.out.symm, HB1.out⟩
    rw [if_pos (by omega)] at HE
    go_enter Try.func85, Try.ntmps85
    go_wp2_with fail
    refine (HP.out).mono ?_
    rintro e w1 ⟨rfl, hb1⟩
    have s1 := hb1.size
    have HB1 := Lib.hid hb1
    have hr := (hr.below hb1).more s1
    have hr' := (hr'.below hb1).more s1
    clear hb1
    go_wp2
    go_ret
    exact ⟨ret_int HE.out.symm, HB1.out⟩
  · have hd : (pairE a b != 0) = true := by simpa using h
    have HE := Lib.hid (show slewE a b s = pairE a b by rw [slewE, if_neg h])
    clear h
    generalize pairE a b = x at *
    go_enter Try.func85, Try.ntmps85
    go_wp2_with fail
    refine (HP.out).mono ?_
    rintro e w1 ⟨rfl, hb1⟩
    have s1 := hb1.size
    have HB1 := Lib.hid hb1
    have hr := (hr.below hb1).more s1
    have hr' := (hr'.below hb1).more s1
    clear hb1
    go_wp2
    go_ret
    exact ⟨ret_int HE.out.symm, HB1.out⟩

set_option maxRecDepth 100000 in
set_option maxHeartbeats 1000000 in
theorem rslewed (A A' : Option Addr) (k c k' c' : Nat) (a b : List Int) (s : Int) (w : World) (hl : a.length ≤ 1000) (hl' : b.length ≤ 1000) (B : Nat) (hB : B ≤ w.heap.size) (hr : Rd w B 1 A k (ints a)) (hr' : Rd w B 1 A' k' (ints b)) :
    Calls Try.prog 86 #[.slice A k c, .slice A' k' c', .int .i64 s] w fun e w' => e = .returned (.int .i64 (slewE a b s)) ∧ Below w.heap.size w w' := by
  have hr := hr.more hB
  have hr' := hr'.more hB
  have HP := Lib.hid (rpair A A' k c k' c' a b w hl hl' w.heap.size (Nat.le_refl _) hr hr')
  by_cases h : pairE a b = 0
  · have HE := Lib.hid (show slewE a b s = if 1 ≤ s ∧ s ≤ 6 then 0 else 1 by rw [slewE, if_pos h])
    rw [h] at HP
    clear h
    by_cases h1 : s < 1
    · rw [if_neg (by omega)] at HE
      go_enter Try.func86, Try.ntmps86
      go_wp2_with fail
      refine (HP.out).mono ?_
      rintro e w1 ⟨rfl, hb1⟩
      have s1 := hb1.size
      have HB1 := Lib.hid hb1
      have hr := (hr.below hb1).more s1
      have hr' := (hr'.below hb1).more s1
      clear hb1
      go_wp2_with fail
      refine (rwithin_is _ _ _ false (by simp; omega) _).mono ?_
      rintro e w' ⟨rfl, rfl⟩
      go_wp2
      go_ret
      exact ⟨ret_int HE.out.symm, HB1.out⟩
    by_cases h2 : 6 < s
    · rw [if_neg (by omega)] at HE
      go_enter Try.func86, Try.ntmps86
      go_wp2_with fail
      refine (HP.out).mono ?_
      rintro e w1 ⟨rfl, hb1⟩
      have s1 := hb1.size
      have HB1 := Lib.hid hb1
      have hr := (hr.below hb1).more s1
      have hr' := (hr'.below hb1).more s1
      clear hb1
      go_wp2_with fail
      refine (rwithin_is _ _ _ false (by simp; omega) _).mono ?_
      rintro e w' ⟨rfl, rfl⟩
      go_wp2
      go_ret
      exact ⟨ret_int HE.out.symm, HB1.out⟩
    rw [if_pos (by omega)] at HE
    go_enter Try.func86, Try.ntmps86
    go_wp2_with fail
    refine (HP.out).mono ?_
    rintro e w1 ⟨rfl, hb1⟩
    have s1 := hb1.size
    have HB1 := Lib.hid hb1
    have hr := (hr.below hb1).more s1
    have hr' := (hr'.below hb1).more s1
    clear hb1
    go_wp2_with fail
    refine (rwithin_is _ _ _ true (by simp; omega) _).mono ?_
    rintro e w' ⟨rfl, rfl⟩
    go_wp2
    go_ret
    exact ⟨ret_int HE.out.symm, HB1.out⟩
  · have hd : (pairE a b != 0) = true := by simpa using h
    have HE := Lib.hid (show slewE a b s = pairE a b by rw [slewE, if_neg h])
    clear h
    generalize pairE a b = x at *
    go_enter Try.func86, Try.ntmps86
    go_wp2_with fail
    refine (HP.out).mono ?_
    rintro e w1 ⟨rfl, hb1⟩
    have s1 := hb1.size
    have HB1 := Lib.hid hb1
    have hr := (hr.below hb1).more s1
    have hr' := (hr'.below hb1).more s1
    clear hb1
    go_wp2
    go_ret
    exact ⟨ret_int HE.out.symm, HB1.out⟩

/-- The jumps of a ramp. -/
def stepsN (a b : List Int) (s : Int) : Int := if slewE a b s = 0 then (jumpL a b + s - 1) / s else 0

set_option maxRecDepth 100000 in
set_option maxHeartbeats 1000000 in
theorem pSteps (A A' : Option Addr) (k c k' c' : Nat) (a b : List Int) (s : Int) (w : World) (hl : a.length ≤ 1000) (hl' : b.length ≤ 1000) (B : Nat) (hB : B ≤ w.heap.size) (hr : Rd w B 1 A k (ints a)) (hr' : Rd w B 1 A' k' (ints b)) :
    Calls Try.prog 46 #[.slice A k c, .slice A' k' c', .int .i64 s] w fun e w' => e = .returned (.tuple #[.int .i64 (stepsN a b s), .int .i64 (slewE a b s)]) ∧ Below w.heap.size w w' := by
  have hr := hr.more hB
  have hr' := hr'.more hB
  have HP := Lib.hid (pramped A A' k c k' c' a b s w hl hl' w.heap.size (Nat.le_refl _) hr hr')
  by_cases h : slewE a b s = 0
  · have HV := Lib.hid h
    obtain ⟨hp, hs1, hs2⟩ := slewE_ok h
    obtain ⟨_, _, f1, f2, f3⟩ := pairE_ok hp
    have hj0 := jumpL_nn a b
    have hj1 := jumpL_le (x := 3) (y := 3) (by decide) (by decide) f1 f3
    have HF := Lib.hid (And.intro f1 (And.intro f2 f3))
    have HE := Lib.hid (show stepsN a b s = (jumpL a b + s - 1) / s by rw [stepsN, if_pos h])
    rw [h] at HP
    clear h f1 f2 f3 hp
    have HJ := Lib.hid (fun w1 h1 h2 => papart A A' k c k' c' a b w1 hl HF.out.2.1 (fun f hf => by have := HF.out.1 f hf; omega) (fun f hf => by have := HF.out.2.2 f hf; omega) w1.heap.size (Nat.le_refl _) h1 h2)
    obtain ⟨j, hj⟩ : ∃ j, j = jumpL a b := ⟨_, rfl⟩
    rw [← hj] at HJ HE hj0 hj1
    clear hj
    go_enter Try.func46, Try.ntmps46
    go_wp2_with fail
    refine (HP.out).mono ?_
    rintro e w1 ⟨rfl, hb1⟩
    have s1 := hb1.size
    have HB1 := Lib.hid hb1
    have hr := (hr.below hb1).more s1
    have hr' := (hr'.below hb1).more s1
    clear hb1
    go_wp2_with fail
    refine (HJ.out w1 hr hr').mono ?_
    rintro e w2 ⟨rfl, hb2⟩
    have s2 := hb2.size
    have HB2 := Lib.hid (HB1.out.trans (hb2.mono (by have := HB1.out.size; omega)))
    have hr := (hr.below hb2).more s2
    have hr' := (hr'.below hb2).more s2
    clear hb2
    go_wp2
    go_ret2
    exact ⟨ret_pair (by rw [HE.out]; first | rfl | (show _ = Value.int .i64 _; rw [Int.tdiv_eq_ediv_of_nonneg (by omega)])) (by rw [HV.out]; rfl), HB2.out⟩
  · have hd : (slewE a b s != 0) = true := by simpa using h
    have HE := Lib.hid (show stepsN a b s = 0 by rw [stepsN, if_neg h])
    clear h
    generalize slewE a b s = x at *
    go_enter Try.func46, Try.ntmps46
    go_wp2_with fail
    refine (HP.out).mono ?_
    rintro e w1 ⟨rfl, hb1⟩
    have s1 := hb1.size
    have HB1 := Lib.hid hb1
    have hr := (hr.below hb1).more s1
    have hr' := (hr'.below hb1).more s1
    clear hb1
    go_wp2
    go_ret2
    exact ⟨ret_pair (by rw [HE.out]; rfl) rfl, HB1.out⟩
end Go.Proofs.Ytejjogpgolgdgaa
