/-
  WALKS: Field, CheckVolts of both. (Printed by gen_w6.py.)
-/
import Derived.Test.YtejjogpgolgdgaaW5
namespace Go.Proofs.Ytejjogpgolgdgaa
open Go.RowKit Pulse

def fieldE (g : List (List Int)) (v : List Int) : Int := if vldG g = 0 then (if vOk g v then 0 else 1) else vldG g
def fieldR (g : List (List Int)) (v : List Int) : List Int := if fieldE g v = 0 then fieldL g v else []
def checkE (g : List (List Int)) (l v : List Int) : Int := if wishE g l = 0 then (if vOk g v then (if fieldL g v = l then 0 else 7) else 1) else wishE g l
theorem vOk_ok {g : List (List Int)} {v : List Int} (h : vOk g v = true) : v.length = wid g ∧ Forces 3 v := by
  simp only [vOk, withinB, Bool.and_eq_true, decide_eq_true_eq, List.all_eq_true, isIn] at h
  exact ⟨by omega, fun f hf => h.2 f hf⟩
theorem wOk_ok {g : List (List Int)} {l : List Int} (h : wOk g l = true) : l.length = g.length ∧ Forces 1000 l := by
  simp only [wOk, withinB, Bool.and_eq_true, decide_eq_true_eq, List.all_eq_true, isIn] at h
  exact ⟨by omega, fun f hf => h.2 f hf⟩
theorem wishE_ok {g : List (List Int)} {l : List Int} (h : wishE g l = 0) : vldG g = 0 ∧ wOk g l = true := by
  unfold wishE at h
  split at h
  · rename_i h0
    split at h
    · exact ⟨h0, ‹_›⟩
    · omega
  · exact absurd h ‹_›
/-- What the walk of a field asks. -/
def FitG (g : List (List Int)) (v : List Int) : Prop := g.length ≤ 3 ∧ v.length ≤ 3 ∧ (∀ l ∈ g, l.length = v.length ∧ Forces 9 l) ∧ Forces 3 v
theorem fitG {g : List (List Int)} {v : List Int} (h : vldG g = 0) (hv : v.length = wid g) (hf : Forces 3 v) : FitG g v := by
  obtain ⟨h1, h2, h3, h4, h5⟩ := vldG_ok h
  exact ⟨h2, by omega, fun l hl => ⟨by rw [(h5 l hl).1, hv], (h5 l hl).2⟩, hf⟩
theorem ret_pair {a a' b b' : Value} (h : a = a') (h' : b = b') : Ending.returned (.tuple #[a, b]) = .returned (.tuple #[a', b']) := by rw [h, h']
theorem ret_three {a a' b b' c c' : Value} (h : a = a') (h' : b = b') (h'' : c = c') : Ending.returned (.tuple #[a, b, c]) = .returned (.tuple #[a', b', c']) := by rw [h, h', h'']

set_option maxRecDepth 100000 in
set_option maxHeartbeats 1000000 in
theorem pField (A A' : Option Addr) (k c k' c' : Nat) (g : List (List Int)) (v : List Int) (w : World) (hs : Sm g) (hl : v.length ≤ 1000) (B : Nat) (hB : B ≤ w.heap.size) (hr : TRd w B A k g) (hr' : Rd w B 1 A' k' (ints v)) :
    Calls Try.prog 22 #[.slice A k c, .slice A' k' c'] w fun e w' => ∃ u, e = .returned (.tuple #[u, .int .i64 (fieldE g v)]) ∧ w'.ownsRow w.heap.size 3 1 u (fieldR g v).length (ints (fieldR g v)) ∧ Below w.heap.size w w' := by
  have hr := hr.more hB
  have hr' := hr'.more hB
  by_cases h : vldG g = 0
  · have hpos : 0 < g.length := (vldG_ok h).1
    have HV := Lib.hid h
    clear h
    cases ho : vOk g v with
    | true =>
      have HE := Lib.hid (show fieldE g v = 0 by rw [fieldE, if_pos HV.out, ho]; rfl)
      have HR := Lib.hid (show fieldR g v = fieldL g v by rw [fieldR, if_pos HE.out])
      have HGF := Lib.hid (fitG HV.out (vOk_ok ho).1 (vOk_ok ho).2)
      have HO := Lib.hid ho
      clear ho
      go_enter Try.func22, Try.ntmps22
      go_wp2_with fail
      refine (pValidate _ _ _ g w hs w.heap.size (Nat.le_refl _) hr).mono ?_
      rw [HV.out]
      rintro e w1 ⟨rfl, hb1⟩
      have s1 := hb1.size
      have HB1 := Lib.hid hb1
      have hr := (hr.below hb1).more s1
      have hr' := (hr'.below hb1).more s1
      clear hb1
      go_wp2_with fail
      refine (pisVolts true _ _ _ _ _ _ g v HO.out w1 hpos hl w1.heap.size (Nat.le_refl _) hr hr').mono ?_
      rintro e w2 ⟨rfl, hb2⟩
      have s2 := hb2.size
      have HB2 := Lib.hid (HB1.out.trans (hb2.mono (by have := HB1.out.size; omega)))
      have hr := (hr.below hb2).more s2
      have hr' := (hr'.below hb2).more s2
      clear hb2
      go_wp2_with fail
      refine (pfield _ _ _ _ _ _ g v w2 HGF.out.1 HGF.out.2.1 HGF.out.2.2.1 HGF.out.2.2.2 w2.heap.size (Nat.le_refl _) hr hr').mono ?_
      rintro e w3 ⟨v3, rfl, hown, hb⟩
      have HBF := Lib.hid (HB2.out.trans (hb.mono (by have := HB2.out.size; omega)))
      have HOW := Lib.hid (own_base hown (HB2.out.size))
      clear hown hb
      go_wp2
      go_ret2
      exact ⟨_, ret_pair rfl (by rw [HE.out]; rfl), by rw [HR.out]; exact HOW.out, HBF.out⟩
    | false =>
      have HE := Lib.hid (show fieldE g v = 1 by rw [fieldE, if_pos HV.out, ho]; rfl)
      have HR := Lib.hid (show fieldR g v = [] by rw [fieldR, if_neg (by rw [HE.out]; decide)])
      have HO := Lib.hid ho
      clear ho
      go_enter Try.func22, Try.ntmps22
      go_wp2_with fail
      refine (pValidate _ _ _ g w hs w.heap.size (Nat.le_refl _) hr).mono ?_
      rw [HV.out]
      rintro e w1 ⟨rfl, hb1⟩
      have s1 := hb1.size
      have HB1 := Lib.hid hb1
      have hr := (hr.below hb1).more s1
      have hr' := (hr'.below hb1).more s1
      clear hb1
      go_wp2_with fail
      refine (pisVolts false _ _ _ _ _ _ g v HO.out w1 hpos hl w1.heap.size (Nat.le_refl _) hr hr').mono ?_
      rintro e w2 ⟨rfl, hb2⟩
      have s2 := hb2.size
      have HB2 := Lib.hid (HB1.out.trans (hb2.mono (by have := HB1.out.size; omega)))
      have hr := (hr.below hb2).more s2
      have hr' := (hr'.below hb2).more s2
      clear hb2
      go_wp2
      go_ret2
      exact ⟨_, ret_pair rfl (by rw [HE.out]; rfl), by rw [HR.out]; exact World.ownsRow_nil .., HB2.out⟩
  · have hd : (vldG g != 0) = true := by simpa using h
    have HE := Lib.hid (show fieldE g v = vldG g by rw [fieldE, if_neg h])
    have HR := Lib.hid (show fieldR g v = [] by rw [fieldR, HE.out, if_neg h])
    clear h
    have H := Lib.hid (pValidate _ _ c g w hs w.heap.size (Nat.le_refl _) hr)
    generalize vldG g = x at *
    go_enter Try.func22, Try.ntmps22
    go_wp2_with fail
    refine (H.out).mono ?_
    rintro e w1 ⟨rfl, hb1⟩
    have s1 := hb1.size
    have HB1 := Lib.hid hb1
    have hr := (hr.below hb1).more s1
    have hr' := (hr'.below hb1).more s1
    clear hb1
    go_wp2
    go_ret2
    exact ⟨_, ret_pair rfl (by rw [HE.out]; rfl), by rw [HR.out]; exact World.ownsRow_nil .., HB1.out⟩

set_option maxRecDepth 100000 in
set_option maxHeartbeats 1000000 in
theorem rField (A A' : Option Addr) (k c k' c' : Nat) (g : List (List Int)) (v : List Int) (w : World) (hs : Sm g) (hl : v.length ≤ 1000) (B : Nat) (hB : B ≤ w.heap.size) (hr : TRd w B A k g) (hr' : Rd w B 1 A' k' (ints v)) :
    Calls Try.prog 23 #[.slice A k c, .slice A' k' c'] w fun e w' => ∃ u, e = .returned (.tuple #[u, .int .i64 (fieldE g v)]) ∧ w'.ownsRow w.heap.size 3 1 u (fieldR g v).length (ints (fieldR g v)) ∧ Below w.heap.size w w' := by
  have hr := hr.more hB
  have hr' := hr'.more hB
  by_cases h : vldG g = 0
  · have hpos : 0 < g.length := (vldG_ok h).1
    have HV := Lib.hid h
    clear h
    cases ho : vOk g v with
    | true =>
      have HE := Lib.hid (show fieldE g v = 0 by rw [fieldE, if_pos HV.out, ho]; rfl)
      have HR := Lib.hid (show fieldR g v = fieldL g v by rw [fieldR, if_pos HE.out])
      have HGF := Lib.hid (fitG HV.out (vOk_ok ho).1 (vOk_ok ho).2)
      have HO := Lib.hid ho
      clear ho
      go_enter Try.func23, Try.ntmps23
      go_wp2_with fail
      refine (rValidate _ _ _ g w hs w.heap.size (Nat.le_refl _) hr).mono ?_
      rw [HV.out]
      rintro e w1 ⟨rfl, hb1⟩
      have s1 := hb1.size
      have HB1 := Lib.hid hb1
      have hr := (hr.below hb1).more s1
      have hr' := (hr'.below hb1).more s1
      clear hb1
      go_wp2_with fail
      refine (risVolts true _ _ _ _ _ _ g v HO.out w1 hpos hl w1.heap.size (Nat.le_refl _) hr hr').mono ?_
      rintro e w2 ⟨rfl, hb2⟩
      have s2 := hb2.size
      have HB2 := Lib.hid (HB1.out.trans (hb2.mono (by have := HB1.out.size; omega)))
      have hr := (hr.below hb2).more s2
      have hr' := (hr'.below hb2).more s2
      clear hb2
      go_wp2_with fail
      refine (rfield _ _ _ _ _ _ g v w2 HGF.out.1 HGF.out.2.1 HGF.out.2.2.1 HGF.out.2.2.2 w2.heap.size (Nat.le_refl _) hr hr').mono ?_
      rintro e w3 ⟨v3, rfl, hown, hb⟩
      have HBF := Lib.hid (HB2.out.trans (hb.mono (by have := HB2.out.size; omega)))
      have HOW := Lib.hid (own_base hown (HB2.out.size))
      clear hown hb
      go_wp2
      go_ret2
      exact ⟨_, ret_pair rfl (by rw [HE.out]; rfl), by rw [HR.out]; exact HOW.out, HBF.out⟩
    | false =>
      have HE := Lib.hid (show fieldE g v = 1 by rw [fieldE, if_pos HV.out, ho]; rfl)
      have HR := Lib.hid (show fieldR g v = [] by rw [fieldR, if_neg (by rw [HE.out]; decide)])
      have HO := Lib.hid ho
      clear ho
      go_enter Try.func23, Try.ntmps23
      go_wp2_with fail
      refine (rValidate _ _ _ g w hs w.heap.size (Nat.le_refl _) hr).mono ?_
      rw [HV.out]
      rintro e w1 ⟨rfl, hb1⟩
      have s1 := hb1.size
      have HB1 := Lib.hid hb1
      have hr := (hr.below hb1).more s1
      have hr' := (hr'.below hb1).more s1
      clear hb1
      go_wp2_with fail
      refine (risVolts false _ _ _ _ _ _ g v HO.out w1 hpos hl w1.heap.size (Nat.le_refl _) hr hr').mono ?_
      rintro e w2 ⟨rfl, hb2⟩
      have s2 := hb2.size
      have HB2 := Lib.hid (HB1.out.trans (hb2.mono (by have := HB1.out.size; omega)))
      have hr := (hr.below hb2).more s2
      have hr' := (hr'.below hb2).more s2
      clear hb2
      go_wp2
      go_ret2
      exact ⟨_, ret_pair rfl (by rw [HE.out]; rfl), by rw [HR.out]; exact World.ownsRow_nil .., HB2.out⟩
  · have hd : (vldG g != 0) = true := by simpa using h
    have HE := Lib.hid (show fieldE g v = vldG g by rw [fieldE, if_neg h])
    have HR := Lib.hid (show fieldR g v = [] by rw [fieldR, HE.out, if_neg h])
    clear h
    have H := Lib.hid (rValidate _ _ c g w hs w.heap.size (Nat.le_refl _) hr)
    generalize vldG g = x at *
    go_enter Try.func23, Try.ntmps23
    go_wp2_with fail
    refine (H.out).mono ?_
    rintro e w1 ⟨rfl, hb1⟩
    have s1 := hb1.size
    have HB1 := Lib.hid hb1
    have hr := (hr.below hb1).more s1
    have hr' := (hr'.below hb1).more s1
    clear hb1
    go_wp2
    go_ret2
    exact ⟨_, ret_pair rfl (by rw [HE.out]; rfl), by rw [HR.out]; exact World.ownsRow_nil .., HB1.out⟩

set_option maxRecDepth 100000 in
set_option maxHeartbeats 1000000 in
theorem pCheckVolts (A A' A'' : Option Addr) (k c k' c' k'' c'' : Nat) (g : List (List Int)) (l v : List Int) (w : World) (hs : Sm g) (hl : l.length ≤ 1000) (hv : v.length ≤ 1000) (B : Nat) (hB : B ≤ w.heap.size) (hr : TRd w B A k g) (hr' : Rd w B 1 A' k' (ints l)) (hr'' : Rd w B 1 A'' k'' (ints v)) :
    Calls Try.prog 39 #[.slice A k c, .slice A' k' c', .slice A'' k'' c''] w fun e w' => e = .returned (.int .i64 (checkE g l v)) ∧ Below w.heap.size w w' := by
  have hr := hr.more hB
  have hr' := hr'.more hB
  have hr'' := hr''.more hB
  by_cases h : wishE g l = 0
  · have hpos : 0 < g.length := (vldG_ok (wishE_ok h).1).1
    have HV := Lib.hid h
    clear h
    cases ho : vOk g v with
    | true =>
      have HGF := Lib.hid (fitG (wishE_ok HV.out).1 (vOk_ok ho).1 (vOk_ok ho).2)
      have HO := Lib.hid ho
      have HE := Lib.hid (show checkE g l v = if fieldL g v = l then 0 else 7 by rw [checkE, if_pos HV.out, ho]; rfl)
      have hfl : (fieldL g v).length ≤ 3 := by rw [fieldL_len]; exact HGF.out.1
      clear ho
      obtain ⟨d, hd⟩ : ∃ d, d = decide (fieldL g v = l) := ⟨_, rfl⟩
      have HD := Lib.hid hd
      clear hd
      go_enter Try.func39, Try.ntmps39
      go_wp2_with fail
      refine (pwished _ _ _ _ _ _ g l w hs hl w.heap.size (Nat.le_refl _) hr hr').mono ?_
      rw [HV.out]
      rintro e w1 ⟨rfl, hb1⟩
      have s1 := hb1.size
      have HB1 := Lib.hid hb1
      have hr := (hr.below hb1).more s1
      have hr' := (hr'.below hb1).more s1
      have hr'' := (hr''.below hb1).more s1
      clear hb1
      go_wp2_with fail
      refine (pisVolts true _ _ _ _ _ _ g v HO.out w1 hpos hv w1.heap.size (Nat.le_refl _) hr hr'').mono ?_
      rintro e w2 ⟨rfl, hb2⟩
      have s2 := hb2.size
      have HB2 := Lib.hid (HB1.out.trans (hb2.mono (by have := HB1.out.size; omega)))
      have hr := (hr.below hb2).more s2
      have hr' := (hr'.below hb2).more s2
      have hr'' := (hr''.below hb2).more s2
      clear hb2
      go_wp2_with fail
      refine (pfield _ _ _ _ _ _ g v w2 HGF.out.1 HGF.out.2.1 HGF.out.2.2.1 HGF.out.2.2.2 w2.heap.size (Nat.le_refl _) hr hr'').mono ?_
      rintro e w3 ⟨v3, rfl, hown3, hb3⟩
      have s3 := hb3.size
      have HB3 := Lib.hid (HB2.out.trans (hb3.mono (by have := HB2.out.size; omega)))
      have hr := (hr.below hb3).more s3
      have hr' := (hr'.below hb3).more s3
      have hr'' := (hr''.below hb3).more s3
      obtain ⟨A3, c3, rfl, _, _⟩ := own_cap hown3
      have r3 := Rd.of_own hown3
      clear hb3 hown3
      go_wp2_with fail
      refine (pEqual_is d _ _ _ _ _ _ (fieldL g v) l HD.out.symm w3 (by omega) (by omega) w3.heap.size (Nat.le_refl _) r3 hr').mono ?_
      rintro e w4 ⟨rfl, hb4⟩
      have s4 := hb4.size
      have HB4 := Lib.hid (HB3.out.trans (hb4.mono (by have := HB3.out.size; omega)))
      have hr := (hr.below hb4).more s4
      have hr' := (hr'.below hb4).more s4
      have hr'' := (hr''.below hb4).more s4
      have r3 := (r3.below hb4).more s4
      clear hb4
      cases d
      case false =>
        go_wp2
        go_ret
        exact ⟨ret_int (by rw [HE.out, if_neg (of_decide_eq_false HD.out.symm)]), HB4.out⟩
      case true =>
        go_wp2
        go_ret
        exact ⟨ret_int (by rw [HE.out, if_pos (of_decide_eq_true HD.out.symm)]), HB4.out⟩
    | false =>
      have HO := Lib.hid ho
      have HE := Lib.hid (show checkE g l v = 1 by rw [checkE, if_pos HV.out, ho]; rfl)
      clear ho
      go_enter Try.func39, Try.ntmps39
      go_wp2_with fail
      refine (pwished _ _ _ _ _ _ g l w hs hl w.heap.size (Nat.le_refl _) hr hr').mono ?_
      rw [HV.out]
      rintro e w1 ⟨rfl, hb1⟩
      have s1 := hb1.size
      have HB1 := Lib.hid hb1
      have hr := (hr.below hb1).more s1
      have hr' := (hr'.below hb1).more s1
      have hr'' := (hr''.below hb1).more s1
      clear hb1
      go_wp2_with fail
      refine (pisVolts false _ _ _ _ _ _ g v HO.out w1 hpos hv w1.heap.size (Nat.le_refl _) hr hr'').mono ?_
      rintro e w2 ⟨rfl, hb2⟩
      have s2 := hb2.size
      have HB2 := Lib.hid (HB1.out.trans (hb2.mono (by have := HB1.out.size; omega)))
      have hr := (hr.below hb2).more s2
      have hr' := (hr'.below hb2).more s2
      have hr'' := (hr''.below hb2).more s2
      clear hb2
      go_wp2
      go_ret
      exact ⟨ret_int (by rw [HE.out]), HB2.out⟩
  · have hd : (wishE g l != 0) = true := by simpa using h
    have HE := Lib.hid (show checkE g l v = wishE g l by rw [checkE, if_neg h])
    clear h
    have H := Lib.hid (pwished _ _ _ c _ c' g l w hs hl w.heap.size (Nat.le_refl _) hr hr')
    generalize wishE g l = x at *
    go_enter Try.func39, Try.ntmps39
    go_wp2_with fail
    refine (H.out).mono ?_
    rintro e w1 ⟨rfl, hb1⟩
    have s1 := hb1.size
    have HB1 := Lib.hid hb1
    have hr := (hr.below hb1).more s1
    have hr' := (hr'.below hb1).more s1
    have hr'' := (hr''.below hb1).more s1
    clear hb1
    go_wp2
    go_ret
    exact ⟨ret_int (by rw [HE.out]), HB1.out⟩

set_option maxRecDepth 100000 in
set_option maxHeartbeats 1000000 in
theorem rCheckVolts (A A' A'' : Option Addr) (k c k' c' k'' c'' : Nat) (g : List (List Int)) (l v : List Int) (w : World) (hs : Sm g) (hl : l.length ≤ 1000) (hv : v.length ≤ 1000) (B : Nat) (hB : B ≤ w.heap.size) (hr : TRd w B A k g) (hr' : Rd w B 1 A' k' (ints l)) (hr'' : Rd w B 1 A'' k'' (ints v)) :
    Calls Try.prog 40 #[.slice A k c, .slice A' k' c', .slice A'' k'' c''] w fun e w' => e = .returned (.int .i64 (checkE g l v)) ∧ Below w.heap.size w w' := by
  have hr := hr.more hB
  have hr' := hr'.more hB
  have hr'' := hr''.more hB
  by_cases h : wishE g l = 0
  · have hpos : 0 < g.length := (vldG_ok (wishE_ok h).1).1
    have HV := Lib.hid h
    clear h
    cases ho : vOk g v with
    | true =>
      have HGF := Lib.hid (fitG (wishE_ok HV.out).1 (vOk_ok ho).1 (vOk_ok ho).2)
      have HO := Lib.hid ho
      have HE := Lib.hid (show checkE g l v = if fieldL g v = l then 0 else 7 by rw [checkE, if_pos HV.out, ho]; rfl)
      have hfl : (fieldL g v).length ≤ 3 := by rw [fieldL_len]; exact HGF.out.1
      clear ho
      obtain ⟨d, hd⟩ : ∃ d, d = decide (fieldL g v = l) := ⟨_, rfl⟩
      have HD := Lib.hid hd
      clear hd
      go_enter Try.func40, Try.ntmps40
      go_wp2_with fail
      refine (rWished _ _ _ _ _ _ g l w hs hl w.heap.size (Nat.le_refl _) hr hr').mono ?_
      rw [HV.out]
      rintro e w1 ⟨rfl, hb1⟩
      have s1 := hb1.size
      have HB1 := Lib.hid hb1
      have hr := (hr.below hb1).more s1
      have hr' := (hr'.below hb1).more s1
      have hr'' := (hr''.below hb1).more s1
      clear hb1
      go_wp2_with fail
      refine (risVolts true _ _ _ _ _ _ g v HO.out w1 hpos hv w1.heap.size (Nat.le_refl _) hr hr'').mono ?_
      rintro e w2 ⟨rfl, hb2⟩
      have s2 := hb2.size
      have HB2 := Lib.hid (HB1.out.trans (hb2.mono (by have := HB1.out.size; omega)))
      have hr := (hr.below hb2).more s2
      have hr' := (hr'.below hb2).more s2
      have hr'' := (hr''.below hb2).more s2
      clear hb2
      go_wp2_with fail
      refine (rfield _ _ _ _ _ _ g v w2 HGF.out.1 HGF.out.2.1 HGF.out.2.2.1 HGF.out.2.2.2 w2.heap.size (Nat.le_refl _) hr hr'').mono ?_
      rintro e w3 ⟨v3, rfl, hown3, hb3⟩
      have s3 := hb3.size
      have HB3 := Lib.hid (HB2.out.trans (hb3.mono (by have := HB2.out.size; omega)))
      have hr := (hr.below hb3).more s3
      have hr' := (hr'.below hb3).more s3
      have hr'' := (hr''.below hb3).more s3
      obtain ⟨A3, c3, rfl, _, _⟩ := own_cap hown3
      have r3 := Rd.of_own hown3
      clear hb3 hown3
      go_wp2_with fail
      refine (rSameInts_is d _ _ _ _ _ _ (fieldL g v) l HD.out.symm w3 (by omega) (by omega) w3.heap.size (Nat.le_refl _) r3 hr').mono ?_
      rintro e w4 ⟨rfl, hb4⟩
      have s4 := hb4.size
      have HB4 := Lib.hid (HB3.out.trans (hb4.mono (by have := HB3.out.size; omega)))
      have hr := (hr.below hb4).more s4
      have hr' := (hr'.below hb4).more s4
      have hr'' := (hr''.below hb4).more s4
      have r3 := (r3.below hb4).more s4
      clear hb4
      cases d
      case false =>
        go_wp2
        go_ret
        exact ⟨ret_int (by rw [HE.out, if_neg (of_decide_eq_false HD.out.symm)]), HB4.out⟩
      case true =>
        go_wp2
        go_ret
        exact ⟨ret_int (by rw [HE.out, if_pos (of_decide_eq_true HD.out.symm)]), HB4.out⟩
    | false =>
      have HO := Lib.hid ho
      have HE := Lib.hid (show checkE g l v = 1 by rw [checkE, if_pos HV.out, ho]; rfl)
      clear ho
      go_enter Try.func40, Try.ntmps40
      go_wp2_with fail
      refine (rWished _ _ _ _ _ _ g l w hs hl w.heap.size (Nat.le_refl _) hr hr').mono ?_
      rw [HV.out]
      rintro e w1 ⟨rfl, hb1⟩
      have s1 := hb1.size
      have HB1 := Lib.hid hb1
      have hr := (hr.below hb1).more s1
      have hr' := (hr'.below hb1).more s1
      have hr'' := (hr''.below hb1).more s1
      clear hb1
      go_wp2_with fail
      refine (risVolts false _ _ _ _ _ _ g v HO.out w1 hpos hv w1.heap.size (Nat.le_refl _) hr hr'').mono ?_
      rintro e w2 ⟨rfl, hb2⟩
      have s2 := hb2.size
      have HB2 := Lib.hid (HB1.out.trans (hb2.mono (by have := HB1.out.size; omega)))
      have hr := (hr.below hb2).more s2
      have hr' := (hr'.below hb2).more s2
      have hr'' := (hr''.below hb2).more s2
      clear hb2
      go_wp2
      go_ret
      exact ⟨ret_int (by rw [HE.out]), HB2.out⟩
  · have hd : (wishE g l != 0) = true := by simpa using h
    have HE := Lib.hid (show checkE g l v = wishE g l by rw [checkE, if_neg h])
    clear h
    have H := Lib.hid (rWished _ _ _ c _ c' g l w hs hl w.heap.size (Nat.le_refl _) hr hr')
    generalize wishE g l = x at *
    go_enter Try.func40, Try.ntmps40
    go_wp2_with fail
    refine (H.out).mono ?_
    rintro e w1 ⟨rfl, hb1⟩
    have s1 := hb1.size
    have HB1 := Lib.hid hb1
    have hr := (hr.below hb1).more s1
    have hr' := (hr'.below hb1).more s1
    have hr'' := (hr''.below hb1).more s1
    clear hb1
    go_wp2
    go_ret
    exact ⟨ret_int (by rw [HE.out]), HB1.out⟩
end Go.Proofs.Ytejjogpgolgdgaa
