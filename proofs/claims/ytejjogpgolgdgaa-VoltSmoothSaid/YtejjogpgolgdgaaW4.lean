/-
  WALKS: what is voltages, what a wish.
-/
import Derived.Test.YtejjogpgolgdgaaW3
namespace Go.Proofs.Ytejjogpgolgdgaa
open Go.RowKit Pulse

def vOk (g : List (List Int)) (l : List Int) : Bool := withinB l (wid g) 3
def wOk (g : List (List Int)) (l : List Int) : Bool := withinB l (g.length) 1000
def wishE (g : List (List Int)) (l : List Int) : Int := if vldG g = 0 then (if wOk g l then 0 else 1) else vldG g

set_option maxHeartbeats 400000 in
theorem pisVolts (r : Bool) (A A' : Option Addr) (k c k' c' : Nat) (g : List (List Int)) (l : List Int) (hrr : withinB l (wid g) 3 = r) (w : World) (hpos : 0 < g.length) (hl : l.length ≤ 1000) (B : Nat) (hB : B ≤ w.heap.size) (hr : TRd w B A k g) (hr' : Rd w B 1 A' k' (ints l)) :
    Calls Try.prog 62 #[.slice A k c, .slice A' k' c'] w fun e w' => e = .returned (.bool r) ∧ Below w.heap.size w w' := by
  obtain rfl := hr.len
  obtain rfl := hr'.int_len
  obtain ⟨b, off, A0, c0, rfl, hb0, hc0, _, _, _⟩ := hr.row hpos
  have HW := Lib.hid (wid_zero hpos)
  rw [Nat.add_zero, ← HW.out] at hc0
  have z2 : (0 : Int) < (g.length : Int) := by omega
  have HR := Lib.hid hrr
  clear hrr
  go_enter Try.func62, Try.ntmps62
  go_wp2_with fail
  refine (pwithin A' l.length c' l (wid g) 3 w (by omega) (by omega) hl B hB hr').mono ?_
  rw [HR.out]
  rintro e w1 ⟨rfl, hb1⟩
  go_wp2
  go_ret
  exact ⟨rfl, hb1⟩

set_option maxHeartbeats 400000 in
theorem risVolts (r : Bool) (A A' : Option Addr) (k c k' c' : Nat) (g : List (List Int)) (l : List Int) (hrr : withinB l (wid g) 3 = r) (w : World) (hpos : 0 < g.length) (hl : l.length ≤ 1000) (B : Nat) (hB : B ≤ w.heap.size) (hr : TRd w B A k g) (hr' : Rd w B 1 A' k' (ints l)) :
    Calls Try.prog 64 #[.slice A k c, .slice A' k' c'] w fun e w' => e = .returned (.bool r) ∧ Below w.heap.size w w' := by
  obtain rfl := hr.len
  obtain rfl := hr'.int_len
  obtain ⟨b, off, A0, c0, rfl, hb0, hc0, _, _, _⟩ := hr.row hpos
  have HW := Lib.hid (wid_zero hpos)
  rw [Nat.add_zero, ← HW.out] at hc0
  have z2 : (0 : Int) < (g.length : Int) := by omega
  have HR := Lib.hid hrr
  clear hrr
  go_enter Try.func64, Try.ntmps64
  go_wp2_with fail
  refine (rall_is r A' l.length c' l (wid g) 3 HR.out w (by omega) (by omega) hl B hr').mono ?_
  rintro e w1 ⟨rfl, rfl⟩
  go_wp2
  go_ret
  exact ⟨rfl, Below.refl _ _⟩

set_option maxHeartbeats 400000 in
theorem pisWish (r : Bool) (A A' : Option Addr) (k c k' c' : Nat) (g : List (List Int)) (l : List Int) (hrr : withinB l (g.length) 1000 = r) (w : World) (hpos : 0 < g.length) (hl : l.length ≤ 1000) (B : Nat) (hB : B ≤ w.heap.size) (hr : TRd w B A k g) (hr' : Rd w B 1 A' k' (ints l)) :
    Calls Try.prog 88 #[.slice A k c, .slice A' k' c'] w fun e w' => e = .returned (.bool r) ∧ Below w.heap.size w w' := by
  obtain rfl := hr.len
  obtain rfl := hr'.int_len
  have HR := Lib.hid hrr
  clear hrr
  go_enter Try.func88, Try.ntmps88
  go_wp2_with fail
  refine (pwithin A' l.length c' l (g.length) 1000 w (by omega) (by omega) hl B hB hr').mono ?_
  rw [HR.out]
  rintro e w1 ⟨rfl, hb1⟩
  go_wp2
  go_ret
  exact ⟨rfl, hb1⟩

set_option maxHeartbeats 400000 in
theorem risWish (r : Bool) (A A' : Option Addr) (k c k' c' : Nat) (g : List (List Int)) (l : List Int) (hrr : withinB l (g.length) 1000 = r) (w : World) (hpos : 0 < g.length) (hl : l.length ≤ 1000) (B : Nat) (hB : B ≤ w.heap.size) (hr : TRd w B A k g) (hr' : Rd w B 1 A' k' (ints l)) :
    Calls Try.prog 89 #[.slice A k c, .slice A' k' c'] w fun e w' => e = .returned (.bool r) ∧ Below w.heap.size w w' := by
  obtain rfl := hr.len
  obtain rfl := hr'.int_len
  have HR := Lib.hid hrr
  clear hrr
  go_enter Try.func89, Try.ntmps89
  go_wp2_with fail
  refine (rall_is r A' l.length c' l (g.length) 1000 HR.out w (by omega) (by omega) hl B hr').mono ?_
  rintro e w1 ⟨rfl, rfl⟩
  go_wp2
  go_ret
  exact ⟨rfl, Below.refl _ _⟩

set_option maxHeartbeats 400000 in
theorem pwished (A A' : Option Addr) (k c k' c' : Nat) (g : List (List Int)) (l : List Int) (w : World) (hs : Sm g) (hl : l.length ≤ 1000) (B : Nat) (hB : B ≤ w.heap.size) (hr : TRd w B A k g) (hr' : Rd w B 1 A' k' (ints l)) :
    Calls Try.prog 55 #[.slice A k c, .slice A' k' c'] w fun e w' => e = .returned (.int .i64 (wishE g l)) ∧ Below w.heap.size w w' := by
  have H := Lib.hid (pValidate A k c g w hs B hB hr)
  by_cases h : vldG g = 0
  · have hpos : 0 < g.length := (vldG_ok h).1
    have HE := Lib.hid (show wishE g l = if wOk g l = true then 0 else 1 by rw [wishE, if_pos h])
    rw [h] at H
    clear h
    cases ho : wOk g l with
    | true =>
      rw [ho] at HE
      have HO := Lib.hid ho
      clear ho
      go_enter Try.func55, Try.ntmps55
      go_wp2_with fail
      refine H.out.mono ?_
      rintro e w1 ⟨rfl, hb1⟩
      have s1 := hb1.size
      go_wp2_with fail
      refine (pisWish true A A' k c k' c' g l HO.out w1 hpos hl B (by omega) (hr.below' hb1 hB) (hr'.below' hb1 hB)).mono ?_
      rintro e w2 ⟨rfl, hb2⟩
      go_wp2
      go_ret
      exact ⟨ret_int HE.out.symm, hb1.trans (hb2.mono s1)⟩
    | false =>
      rw [ho] at HE
      have HO := Lib.hid ho
      clear ho
      go_enter Try.func55, Try.ntmps55
      go_wp2_with fail
      refine H.out.mono ?_
      rintro e w1 ⟨rfl, hb1⟩
      have s1 := hb1.size
      go_wp2_with fail
      refine (pisWish false A A' k c k' c' g l HO.out w1 hpos hl B (by omega) (hr.below' hb1 hB) (hr'.below' hb1 hB)).mono ?_
      rintro e w2 ⟨rfl, hb2⟩
      go_wp2
      go_ret
      exact ⟨ret_int HE.out.symm, hb1.trans (hb2.mono s1)⟩
  · have hd : (vldG g != 0) = true := by simpa using h
    have HE := Lib.hid (show wishE g l = vldG g by rw [wishE, if_neg h])
    clear h
    generalize vldG g = x at *
    go_enter Try.func55, Try.ntmps55
    go_wp2_with fail
    refine H.out.mono ?_
    rintro e w1 ⟨rfl, hb1⟩
    go_wp2
    go_ret
    exact ⟨ret_int HE.out.symm, hb1⟩

set_option maxHeartbeats 400000 in
theorem rWished (A A' : Option Addr) (k c k' c' : Nat) (g : List (List Int)) (l : List Int) (w : World) (hs : Sm g) (hl : l.length ≤ 1000) (B : Nat) (hB : B ≤ w.heap.size) (hr : TRd w B A k g) (hr' : Rd w B 1 A' k' (ints l)) :
    Calls Try.prog 57 #[.slice A k c, .slice A' k' c'] w fun e w' => e = .returned (.int .i64 (wishE g l)) ∧ Below w.heap.size w w' := by
  have H := Lib.hid (rValidate A k c g w hs B hB hr)
  by_cases h : vldG g = 0
  · have hpos : 0 < g.length := (vldG_ok h).1
    have HE := Lib.hid (show wishE g l = if wOk g l = true then 0 else 1 by rw [wishE, if_pos h])
    rw [h] at H
    clear h
    cases ho : wOk g l with
    | true =>
      rw [ho] at HE
      have HO := Lib.hid ho
      clear ho
      go_enter Try.func57, Try.ntmps57
      go_wp2_with fail
      refine H.out.mono ?_
      rintro e w1 ⟨rfl, hb1⟩
      have s1 := hb1.size
      go_wp2_with fail
      refine (risWish true A A' k c k' c' g l HO.out w1 hpos hl B (by omega) (hr.below' hb1 hB) (hr'.below' hb1 hB)).mono ?_
      rintro e w2 ⟨rfl, hb2⟩
      go_wp2
      go_ret
      exact ⟨ret_int HE.out.symm, hb1.trans (hb2.mono s1)⟩
    | false =>
      rw [ho] at HE
      have HO := Lib.hid ho
      clear ho
      go_enter Try.func57, Try.ntmps57
      go_wp2_with fail
      refine H.out.mono ?_
      rintro e w1 ⟨rfl, hb1⟩
      have s1 := hb1.size
      go_wp2_with fail
      refine (risWish false A A' k c k' c' g l HO.out w1 hpos hl B (by omega) (hr.below' hb1 hB) (hr'.below' hb1 hB)).mono ?_
      rintro e w2 ⟨rfl, hb2⟩
      go_wp2
      go_ret
      exact ⟨ret_int HE.out.symm, hb1.trans (hb2.mono s1)⟩
  · have hd : (vldG g != 0) = true := by simpa using h
    have HE := Lib.hid (show wishE g l = vldG g by rw [wishE, if_neg h])
    clear h
    generalize vldG g = x at *
    go_enter Try.func57, Try.ntmps57
    go_wp2_with fail
    refine H.out.mono ?_
    rintro e w1 ⟨rfl, hb1⟩
    go_wp2
    go_ret
    exact ⟨ret_int HE.out.symm, hb1⟩
end Go.Proofs.Ytejjogpgolgdgaa
