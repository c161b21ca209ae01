/-
  WALKS: Ways of both, Volts. (Printed by gen_w13.py.)
-/
import Derived.Test.YtejjogpgolgdgaaW12
namespace Go.Proofs.Ytejjogpgolgdgaa
open Go.RowKit Pulse

theorem headD_get {M : List (List Int)} (h : 0 < M.length) : M.headD [] = M[0] := by
  cases M with
  | nil => simp at h
  | cons a t => rfl
def waysN (g : List (List Int)) (l : List Int) : Int := if wishE g l = 0 then ((makeL g l).length : Int) else 0
def voltsIs (g : List (List Int)) (l : List Int) : Bool := decide (wishE g l = 0) && decide (0 < (makeL g l).length)
def voltsL (g : List (List Int)) (l : List Int) : List Int := if voltsIs g l then (makeL g l).headD [] else []
theorem mem_makeL {g : List (List Int)} {l v : List Int} : v ∈ makeL g l ↔ (v.length = wid g ∧ Forces 3 v) ∧ fieldL g v = l := by
  rw [makeL, List.mem_filter, decide_eq_true_eq, mem_allP]; rfl
theorem makeL_len {g : List (List Int)} {l : List Int} (h : vldG g = 0) : (makeL g l).length ≤ 343 := by
  rw [← makeTo_all]; exact makeTo_len g l _ (vldG_ok h).2.2.2.1

set_option maxRecDepth 100000 in
set_option maxHeartbeats 1000000 in
theorem pWays (A A' : Option Addr) (k c k' c' : Nat) (g : List (List Int)) (l : List Int) (w : World) (hs : Sm g) (hl : l.length ≤ 1000) (B : Nat) (hB : B ≤ w.heap.size) (hr : TRd w B A k g) (hr' : Rd w B 1 A' k' (ints l)) :
    Calls Try.prog 19 #[.slice A k c, .slice A' k' c'] w fun e w' => e = .returned (.tuple #[.int .i64 (waysN g l), .int .i64 (wishE g l)]) ∧ Below w.heap.size w w' := by
  have hr := hr.more hB
  have hr' := hr'.more hB
  by_cases h : wishE g l = 0
  · have HV := Lib.hid h
    have HG := Lib.hid (wishE_ok h).1
    have HE := Lib.hid (show waysN g l = ((makeL g l).length : Int) by rw [waysN, if_pos h])
    have hml := makeL_len (l := l) (wishE_ok h).1
    clear h
    go_enter Try.func19, Try.ntmps19
    go_wp2_with fail
    refine (pwished _ _ _ _ _ _ g l w hs hl w.heap.size (Nat.le_refl _) hr hr').mono ?_
    rw [HV.out]
    rintro e w1 ⟨rfl, hb1⟩
    have s1 := hb1.size
    have HB1 := Lib.hid hb1
    have hr := (hr.below hb1).more s1
    have hr' := (hr'.below hb1).more s1
    clear hb1
    go_wp2_with fail
    refine (pmaking _ _ _ _ _ _ g l w1 HG.out hl w1.heap.size (Nat.le_refl _) hr hr').mono ?_
    rintro e w2 ⟨v2, rfl, hown2, hb2⟩
    have s2 := hb2.size
    have HB2 := Lib.hid (HB1.out.trans (hb2.mono (by have := HB1.out.size; omega)))
    have hr := (hr.below hb2).more s2
    have hr' := (hr'.below hb2).more s2
    obtain ⟨A2, c2, rfl, r2⟩ := hown2.cap
    clear hb2 hown2
    go_wp2
    go_ret2
    exact ⟨ret_pair (by rw [HE.out]; rfl) (by rw [HV.out]; rfl), HB2.out⟩
  · have hd : (wishE g l != 0) = true := by simpa using h
    have HE := Lib.hid (show waysN g l = 0 by rw [waysN, if_neg h])
    clear h
    have H := Lib.hid (pwished _ _ _ c _ c' g l w hs hl w.heap.size (Nat.le_refl _) hr hr')
    generalize wishE g l = x at *
    go_enter Try.func19, Try.ntmps19
    go_wp2_with fail
    refine (H.out).mono ?_
    rintro e w1 ⟨rfl, hb1⟩
    have s1 := hb1.size
    have HB1 := Lib.hid hb1
    have hr := (hr.below hb1).more s1
    have hr' := (hr'.below hb1).more s1
    clear hb1
    go_wp2
    go_ret2
    exact ⟨ret_pair (by rw [HE.out]; rfl) rfl, HB1.out⟩

set_option maxRecDepth 100000 in
set_option maxHeartbeats 1000000 in
theorem rWays (A A' : Option Addr) (k c k' c' : Nat) (g : List (List Int)) (l : List Int) (w : World) (hs : Sm g) (hl : l.length ≤ 1000) (B : Nat) (hB : B ≤ w.heap.size) (hr : TRd w B A k g) (hr' : Rd w B 1 A' k' (ints l)) :
    Calls Try.prog 20 #[.slice A k c, .slice A' k' c'] w fun e w' => e = .returned (.tuple #[.int .i64 (waysN g l), .int .i64 (wishE g l)]) ∧ Below w.heap.size w w' := by
  have hr := hr.more hB
  have hr' := hr'.more hB
  by_cases h : wishE g l = 0
  · have HV := Lib.hid h
    have HG := Lib.hid (wishE_ok h).1
    have HE := Lib.hid (show waysN g l = ((makeL g l).length : Int) by rw [waysN, if_pos h])
    have hml := makeL_len (l := l) (wishE_ok h).1
    clear h
    go_enter Try.func20, Try.ntmps20
    go_wp2_with fail
    refine (rWished _ _ _ _ _ _ g l w hs hl w.heap.size (Nat.le_refl _) hr hr').mono ?_
    rw [HV.out]
    rintro e w1 ⟨rfl, hb1⟩
    have s1 := hb1.size
    have HB1 := Lib.hid hb1
    have hr := (hr.below hb1).more s1
    have hr' := (hr'.below hb1).more s1
    clear hb1
    go_wp2_with fail
    refine (rmeeting _ _ _ _ _ _ g l w1 HG.out hl w1.heap.size (Nat.le_refl _) hr hr').mono ?_
    rintro e w2 ⟨v2, rfl, hown2, hb2⟩
    have s2 := hb2.size
    have HB2 := Lib.hid (HB1.out.trans (hb2.mono (by have := HB1.out.size; omega)))
    have hr := (hr.below hb2).more s2
    have hr' := (hr'.below hb2).more s2
    obtain ⟨A2, c2, rfl, r2⟩ := hown2.cap
    clear hb2 hown2
    go_wp2
    go_ret2
    exact ⟨ret_pair (by rw [HE.out]; rfl) (by rw [HV.out]; rfl), HB2.out⟩
  · have hd : (wishE g l != 0) = true := by simpa using h
    have HE := Lib.hid (show waysN g l = 0 by rw [waysN, if_neg h])
    clear h
    have H := Lib.hid (rWished _ _ _ c _ c' g l w hs hl w.heap.size (Nat.le_refl _) hr hr')
    generalize wishE g l = x at *
    go_enter Try.func20, Try.ntmps20
    go_wp2_with fail
    refine (H.out).mono ?_
    rintro e w1 ⟨rfl, hb1⟩
    have s1 := hb1.size
    have HB1 := Lib.hid hb1
    have hr := (hr.below hb1).more s1
    have hr' := (hr'.below hb1).more s1
    clear hb1
    go_wp2
    go_ret2
    exact ⟨ret_pair (by rw [HE.out]; rfl) rfl, HB1.out⟩

set_option maxRecDepth 100000 in
set_option maxHeartbeats 1000000 in
theorem pVolts (A A' : Option Addr) (k c k' c' : Nat) (g : List (List Int)) (l : List Int) (w : World) (hs : Sm g) (hl : l.length ≤ 1000) (B : Nat) (hB : B ≤ w.heap.size) (hr : TRd w B A k g) (hr' : Rd w B 1 A' k' (ints l)) :
    Calls Try.prog 41 #[.slice A k c, .slice A' k' c'] w fun e w' => ∃ A2 c2, e = .returned (.tuple #[.slice A2 (voltsL g l).length c2, .bool (voltsIs g l), .int .i64 (wishE g l)]) ∧ Rd w' w'.heap.size 1 A2 (voltsL g l).length (ints (voltsL g l)) ∧ Below w.heap.size w w' := by
  have hr := hr.more hB
  have hr' := hr'.more hB
  by_cases h : wishE g l = 0
  · have HV := Lib.hid h
    have HG := Lib.hid (wishE_ok h).1
    have hml := makeL_len (l := l) (wishE_ok h).1
    by_cases hp : 0 < (makeL g l).length
    · have HI := Lib.hid (show voltsIs g l = true by rw [voltsIs, h]; simpa using hp)
      have HL := Lib.hid (show voltsL g l = (makeL g l)[0] by rw [voltsL, if_pos HI.out]; exact headD_get hp)
      have q1 : (((makeL g l).length : Int) == 0) = false := by simp; intro e; rw [e] at hp; simp at hp
      have z0 : (0 : Int) < ((makeL g l).length : Int) := by omega
      clear h
      obtain ⟨M, hM⟩ : ∃ M, M = makeL g l := ⟨_, rfl⟩
      go_enter Try.func41, Try.ntmps41
      go_wp2_with fail
      refine (pwished _ _ _ _ _ _ g l w hs hl w.heap.size (Nat.le_refl _) hr hr').mono ?_
      rw [HV.out]
      rintro e w1 ⟨rfl, hb1⟩
      have s1 := hb1.size
      have HB1 := Lib.hid hb1
      have hr := (hr.below hb1).more s1
      have hr' := (hr'.below hb1).more s1
      clear hb1
      go_wp2_with fail
      refine (pmaking _ _ _ _ _ _ g l w1 HG.out hl w1.heap.size (Nat.le_refl _) hr hr').mono ?_
      rintro e w2 ⟨v2, rfl, hown2, hb2⟩
      have s2 := hb2.size
      have HB2 := Lib.hid (HB1.out.trans (hb2.mono (by have := HB1.out.size; omega)))
      have hr := (hr.below hb2).more s2
      have hr' := (hr'.below hb2).more s2
      obtain ⟨A2, c2, rfl, r2⟩ := hown2.cap
      clear hb2 hown2
      obtain ⟨b, off, A0, c0, rfl, hb0, hc0, _, _, h0⟩ := r2.row hp
      rw [Nat.add_zero] at hc0
      have HR0 := Lib.hid h0
      clear h0 hM
      go_wp2
      refine bodyPost_ret (results_tmp3 rfl _ _ _) rfl ?_
      exact ⟨A0, c0, ret_three (by rw [HL.out]; rfl) (by rw [HI.out]; rfl) (by rw [HV.out]; rfl), by rw [HL.out]; exact HR0.out, HB2.out⟩
    · have HI := Lib.hid (show voltsIs g l = false by rw [voltsIs, decide_eq_false hp, Bool.and_false])
      have HL := Lib.hid (show voltsL g l = [] by rw [voltsL, HI.out]; rfl)
      have HM0 := Lib.hid (show (makeL g l).length = 0 by omega)
      clear h hp
      go_enter Try.func41, Try.ntmps41
      go_wp2_with fail
      refine (pwished _ _ _ _ _ _ g l w hs hl w.heap.size (Nat.le_refl _) hr hr').mono ?_
      rw [HV.out]
      rintro e w1 ⟨rfl, hb1⟩
      have s1 := hb1.size
      have HB1 := Lib.hid hb1
      have hr := (hr.below hb1).more s1
      have hr' := (hr'.below hb1).more s1
      clear hb1
      go_wp2_with fail
      refine (pmaking _ _ _ _ _ _ g l w1 HG.out hl w1.heap.size (Nat.le_refl _) hr hr').mono ?_
      rintro e w2 ⟨v2, rfl, hown2, hb2⟩
      have s2 := hb2.size
      have HB2 := Lib.hid (HB1.out.trans (hb2.mono (by have := HB1.out.size; omega)))
      have hr := (hr.below hb2).more s2
      have hr' := (hr'.below hb2).more s2
      obtain ⟨A2, c2, rfl, r2⟩ := hown2.cap
      clear hb2 hown2
      rw [HM0.out]
      go_wp2
      refine bodyPost_ret (results_tmp3 rfl _ _ _) rfl ?_
      exact ⟨none, 0, ret_three (by rw [HL.out]; rfl) (by rw [HI.out]; rfl) (by rw [HV.out]; rfl), by rw [HL.out]; exact Rd.nil, HB2.out⟩
  · have hd : (wishE g l != 0) = true := by simpa using h
    have HI := Lib.hid (show voltsIs g l = false by rw [voltsIs, decide_eq_false h, Bool.false_and])
    have HL := Lib.hid (show voltsL g l = [] by rw [voltsL, HI.out]; rfl)
    clear h
    have H := Lib.hid (pwished _ _ _ c _ c' g l w hs hl w.heap.size (Nat.le_refl _) hr hr')
    generalize wishE g l = x at *
    go_enter Try.func41, Try.ntmps41
    go_wp2_with fail
    refine (H.out).mono ?_
    rintro e w1 ⟨rfl, hb1⟩
    have s1 := hb1.size
    have HB1 := Lib.hid hb1
    have hr := (hr.below hb1).more s1
    have hr' := (hr'.below hb1).more s1
    clear hb1
    go_wp2
    refine bodyPost_ret (results_tmp3 rfl _ _ _) rfl ?_
    exact ⟨none, 0, ret_three (by rw [HL.out]; rfl) (by rw [HI.out]; rfl) rfl, by rw [HL.out]; exact Rd.nil, HB1.out⟩
end Go.Proofs.Ytejjogpgolgdgaa
