/-
  WALK: Clone of ints; the errors of two pulses; told.
-/
import Derived.Test.YtnoocdannfeidaaW23
namespace Go.Proofs.Ytnoocdannfeidaa
open Go.RowKit Pulse

theorem q22 (w : World) (a : Option Addr) (n c n' c' : Nat) : (binOp .eql 22 (.slice a n c) (.slice none n' c')).run Try.prog w = .ok (.bool a.isNone) w := Lib.run_eql_slice_nil w _ _ a n c n' c' Try.underlying22
set_option maxRecDepth 100000 in
/-- slices.Clone of ints. -/
theorem pClone (A : Option Addr) (k c : Nat) (l : List Int) (w : World) (hl : l.length ≤ 1000) (B : Nat) (hB : B ≤ w.heap.size) (hr : Rd w B 1 A k (ints l)) :
    Calls Try.prog 81 #[.slice A k c] w fun e w' => ∃ v, e = .returned v ∧ w'.ownsRow w.heap.size 3 1 v k (ints l) ∧ Below w.heap.size w w' := by
  obtain rfl := hr.int_len
  have qT := q22
  cases A with
  | none =>
    have hl0 : l.length = 0 := by
      rcases Nat.eq_zero_or_pos l.length with h | h
      · exact h
      · obtain ⟨_, _, h, _⟩ := hr.2 h; cases h
    have hl1 : l = [] := List.eq_nil_of_length_eq_zero hl0
    subst hl1
    go_enter Try.func81, Try.ntmps81
    go_wp2
    go_ret
    exact ⟨_, rfl, World.ownsRow_nil _ _ _ _, Below.refl _ _⟩
  | some a =>
    have HO := Lib.hid (show (w.alloc (.cells #[] 3)).ownsRow w.heap.size 3 1 (.slice (some ⟨w.heap.size, 0, none⟩) 0 0) 0 [] from own_empty (blk_new w 3 #[]) (Nat.le_refl _))
    have HB := Lib.hid ((Below.refl w.heap.size w).alloc (Nat.le_refl _) (.cells #[] 3))
    have HR := hr.alloc hB (.cells #[] 3)
    go_enter Try.func81, Try.ntmps81
    go_wp2_with (at_builtin; go_must (refine appN rfl (.tmp 5) (.tmp 6) 22 rfl 3 _ 1 8 E22 w.heap.size _ _ _ rfl HO.out B (some a) l.length c (ints l) rfl HR (ints_one _) (by omega) (by simp) ?_); intro v4 w4 hown4 hg4)
    go_ret
    exact ⟨_, rfl, by simpa using hown4, below_own HB.out (by simp) HO.out (Nat.le_refl _) hg4⟩

def bothE (p q : List Int) : Int := if vald p = 0 then vald q else vald p

set_option maxHeartbeats 400000 in
theorem pboth (A A' : Option Addr) (k c k' c' : Nat) (p q : List Int) (w : World) (hl : p.length ≤ 1000) (hl' : q.length ≤ 1000) (B : Nat) (hB : B ≤ w.heap.size) (hr : Rd w B 1 A k (ints p)) (hr' : Rd w B 1 A' k' (ints q)) :
    Calls Try.prog 85 #[.slice A k c, .slice A' k' c'] w fun e w' => e = .returned (.int .i64 (bothE p q)) ∧ Below w.heap.size w w' := by
  have H := Lib.hid (pValidate A k c p w hl B hB hr)
  have HC := Lib.hid (show bothE p q = if vald p = 0 then vald q else vald p from rfl)
  by_cases h : vald p = 0
  · have HV := Lib.hid h
    rw [h] at H
    rw [if_pos h] at HC
    clear h
    go_enter Try.func85, Try.ntmps85
    go_wp2_with fail
    refine H.out.mono ?_
    rintro e w1 ⟨rfl, hb1⟩
    have s1 := hb1.size
    have H2 := Lib.hid (pValidate A' k' c' q w1 hl' B (by omega) (hr'.below' hb1 hB))
    go_wp2_with fail
    refine H2.out.mono ?_
    rintro e w2 ⟨rfl, hb2⟩
    go_wp2
    go_ret
    exact ⟨ret_int HC.out.symm, hb1.trans (hb2.mono s1)⟩
  · have hd : (vald p != 0) = true := by simpa using h
    rw [if_neg h] at HC
    clear h
    go_enter Try.func85, Try.ntmps85
    go_wp2_with fail
    refine H.out.mono ?_
    rintro e w1 ⟨rfl, hb1⟩
    go_wp2
    go_ret
    exact ⟨ret_int HC.out.symm, hb1⟩

set_option maxHeartbeats 400000 in
theorem rboth (A A' : Option Addr) (k c k' c' : Nat) (p q : List Int) (w : World) (hl : p.length ≤ 1000) (hl' : q.length ≤ 1000) (B : Nat) (hB : B ≤ w.heap.size) (hr : Rd w B 1 A k (ints p)) (hr' : Rd w B 1 A' k' (ints q)) :
    Calls Try.prog 86 #[.slice A k c, .slice A' k' c'] w fun e w' => e = .returned (.int .i64 (bothE p q)) ∧ Below w.heap.size w w' := by
  have H := Lib.hid (rValidate A k c p w hl B hB hr)
  have HC := Lib.hid (show bothE p q = if vald p = 0 then vald q else vald p from rfl)
  by_cases h : vald p = 0
  · have HV := Lib.hid h
    rw [h] at H
    rw [if_pos h] at HC
    clear h
    go_enter Try.func86, Try.ntmps86
    go_wp2_with fail
    refine H.out.mono ?_
    rintro e w1 ⟨rfl, hb1⟩
    have s1 := hb1.size
    have H2 := Lib.hid (rValidate A' k' c' q w1 hl' B (by omega) (hr'.below' hb1 hB))
    go_wp2_with fail
    refine H2.out.mono ?_
    rintro e w2 ⟨rfl, hb2⟩
    go_wp2
    go_ret
    exact ⟨ret_int HC.out.symm, hb1.trans (hb2.mono s1)⟩
  · have hd : (vald p != 0) = true := by simpa using h
    rw [if_neg h] at HC
    clear h
    go_enter Try.func86, Try.ntmps86
    go_wp2_with fail
    refine H.out.mono ?_
    rintro e w1 ⟨rfl, hb1⟩
    go_wp2
    go_ret
    exact ⟨ret_int HC.out.symm, hb1⟩

set_option maxHeartbeats 400000 in
/-- told: the slice itself, or ErrArg. -/
theorem pTold (A : Option Addr) (k c : Nat) (p : List Int) (w : World) (hl : p.length ≤ 1000) (B : Nat) (hB : B ≤ w.heap.size) (hr : Rd w B 1 A k (ints p)) :
    Calls Try.prog 79 #[.slice A k c] w fun e w' => e = .returned (if vald p = 0 then .tuple #[.slice A k c, .int .i64 0] else .tuple #[.slice none 0 0, .int .i64 1]) ∧ Below w.heap.size w w' := by
  have H := Lib.hid (pValidate A k c p w hl B hB hr)
  by_cases h : vald p = 0
  · rw [h] at H
    rw [if_pos h]
    clear h
    go_enter Try.func79, Try.ntmps79
    go_wp2_with fail
    refine H.out.mono ?_
    rintro e w1 ⟨rfl, hb1⟩
    go_wp2
    go_ret2
    exact ⟨rfl, hb1⟩
  · have hd : (vald p != 0) = true := by simpa using h
    rw [if_neg h]
    clear h
    go_enter Try.func79, Try.ntmps79
    go_wp2_with fail
    refine H.out.mono ?_
    rintro e w1 ⟨rfl, hb1⟩
    go_wp2
    go_ret2
    exact ⟨rfl, hb1⟩
end Go.Proofs.Ytnoocdannfeidaa
