/-
  WALK: Smooth. (Printed by gen_w27.py.)
-/
import Derived.Test.YtejjogpgolgdgaaW26
namespace Go.Proofs.Ytejjogpgolgdgaa
open Go.RowKit Pulse

def lastE (g row : List (List Int)) : List End := lastEnds g row row.length
def smoothIs (g row : List (List Int)) : Bool := decide (rowE g row = 0) && decide (0 < (lastE g row).length)
def smoothN (g row : List (List Int)) : Int := if smoothIs g row = true then ((lastE g row).map (·.j)).getD (bestI (lastE g row)).toNat 0 else 0
theorem sm_row {g : List (List Int)} {l : List Int} (h : Sm g) : True := trivial

set_option maxRecDepth 100000 in
set_option maxHeartbeats 4000000 in
theorem pSmooth (A A' : Option Addr) (k c k' c' : Nat) (g row : List (List Int)) (w : World) (hs : Sm g) (hs' : Sm row) (B : Nat) (hB : B ≤ w.heap.size) (hr : TRd w B A k g) (hr' : TRd w B A' k' row) :
    Calls Try.prog 21 #[.slice A k c, .slice A' k' c'] w fun e w' => e = .returned (.tuple #[.int .i64 (smoothN g row), .bool (smoothIs g row), .int .i64 (rowE g row)]) ∧ Below w.heap.size w w' := by
  have hr := hr.more hB
  have hr' := hr'.more hB
  obtain rfl := hr.len
  obtain rfl := hr'.len
  have HP := Lib.hid (prowed A A' g.length c row.length c' g row w hs hs' w.heap.size (Nat.le_refl _) hr hr')
  by_cases h : rowE g row = 0
  · have HV := Lib.hid h
    obtain ⟨hv, h1, h5, _⟩ := rowE_ok h
    rw [h] at HP
    have HSI := Lib.hid (show smoothIs g row = decide (0 < (lastE g row).length) by rw [smoothIs, h]; rfl)
    have HSN := Lib.hid (show smoothN g row = if smoothIs g row = true then ((lastE g row).map (·.j)).getD (bestI (lastE g row)).toNat 0 else 0 from rfl)
    obtain ⟨hlo, hll⟩ := lastEnds_ok (row := row) hv row.length
    have HLO := Lib.hid (show ∀ e ∈ lastE g row, 0 ≤ e.j ∧ e.j ≤ 6 from fun e he => ⟨(hlo e he).2.2.1, (hlo e he).2.2.2.1⟩)
    have hll : (lastE g row).length ≤ 343 := hll
    have HG := Lib.hid hv
    clear hlo h hv
    have HBB := Lib.hid (bestTo_bd (lastE g row) (lastE g row).length (Nat.le_refl _))
    have HBP := Lib.hid (bestTo_pos (lastE g row) (lastE g row).length (Nat.le_refl _))
    have HB0 := Lib.hid (show (lastE g row).length = 0 → bestI (lastE g row) = -1 from fun h => by rw [bestI, h]; rfl)
    have HLE := Lib.hid (show ∀ (q : Nat), row.length = q + 1 → (endsTo g row row.length)[q]? = some (lastE g row) from fun q hq => by rw [endsTo_get g row row.length q (by omega)]; rw [lastE, hq])
    have HEL := Lib.hid (endsTo_len g row row.length)
    obtain ⟨ess, hess⟩ : ∃ ess, ess = endsTo g row row.length := ⟨_, rfl⟩
    rw [← hess] at HLE HEL
    have HES := Lib.hid hess
    clear hess
    obtain ⟨es, hes⟩ : ∃ es, es = lastE g row := ⟨_, rfl⟩
    rw [← hes] at HSI HSN HLO hll HBB HBP HB0 HLE
    clear hes
    go_enter Try.func21, Try.ntmps21
    go_wp2_with fail
    refine (HP.out).mono ?_
    rintro e w1 ⟨rfl, hb1⟩
    have s1 := hb1.size
    have HB1 := Lib.hid hb1
    have hr := (hr.below hb1).more s1
    have hr' := (hr'.below hb1).more s1
    clear hb1
    go_wp2_with fail
    refine (pends A A' g.length c row.length c' g row w1 HG.out hs' w1.heap.size (Nat.le_refl _) hr hr').mono ?_
    rw [← HES.out]
    rintro e w2 ⟨u, Hs, rfl, hown, het, hb2⟩
    obtain ⟨Au, cu, rfl, _, _⟩ := own_cap hown
    have hrw := Rd.of_own hown
    have hq1 : row.length - 1 < ess.length := by have := HEL.out; omega
    obtain ⟨Hl, hHl, hep⟩ := het.row hq1
    have hee : ess[row.length - 1] = es := by have h := HLE.out (row.length - 1) (by omega); rw [List.getElem?_eq_getElem hq1] at h; injection h
    rw [hee] at hep
    obtain ⟨bo, offo, hAo, hbo, hco⟩ := hrw.head hHl
    subst hAo
    obtain ⟨Ap, cp, rfl, _, _⟩ := hep.cap
    have HEP := Lib.hid hep
    clear hown het hrw hep hHl hee hq1
    have s2 := hb2.size
    have HB2 := Lib.hid (HB1.out.trans (hb2.mono (by have := HB1.out.size; omega)))
    have hr := (hr.below hb2).more s2
    have hr' := (hr'.below hb2).more s2
    clear hb2
    have z0 : (0 : Int) < (row.length : Int) := by omega
    have zq : IntKind.i64.wrap ((row.length : Int) - 1) = ((row.length - 1 : Nat) : Int) := by rw [IntWalk.i64_in _ (by omega)]; omega
    have z1 : ((row.length - 1 : Nat) : Int) < (row.length : Int) := by omega
    have z2 : (0 : Int) ≤ ((row.length - 1 : Nat) : Int) := by omega
    have zr : (row.length : Int) - 1 = ((row.length - 1 : Nat) : Int) := by omega
    generalize hqq : row.length - 1 = qq at *
    clear hqq zr
    by_cases hp : 0 < es.length
    · have HP0 := Lib.hid hp
      obtain ⟨m, hm⟩ := Int.eq_ofNat_of_zero_le (show 0 ≤ bestI es from HBP.out hp)
      have hml : m < es.length := by have := HBB.out.2; unfold bestI at hm; omega
      have HM := Lib.hid hm
      have HBST := Lib.hid (pbest (.slice Ap es.length cp) es w2 (by omega) HLO.out (fun x => x < w1.heap.size ∨ (Value.slice (some ⟨bo, offo, none⟩) row.length cu).ownBlock = some x) w2.heap.size (Nat.le_refl _) HEP.out)
      rw [hm] at HBST
      clear hm
      go_wp2_with fail
      refine (HBST.out).mono ?_
      rintro e w3 ⟨rfl, hb3⟩
      have s3 := hb3.size
      have HB3 := Lib.hid (HB2.out.trans (hb3.mono (by have := HB2.out.size; omega)))
      have hr := (hr.below hb3).more s3
      have hr' := (hr'.below hb3).more s3
      have hbest := hb3
      clear hb3
      obtain ⟨bp, offp, cp2, A2, c2, he, hbp, _, k0, k1, k2, _⟩ := HEP.out.get hml
      injection he with e1 e2 e3
      subst e1 e3
      have k1 := (hbest.cell (p := ⟨bp, offp + m * 3 + 1, none⟩) hbp).trans k1
      have HSV := Lib.hid (show smoothN g row = es[m].j by rw [HSN.out, HSI.out, decide_eq_true HP0.out, if_pos rfl, HM.out]; simp [List.getD, List.getElem?_eq_getElem hml])
      obtain ⟨t, ht⟩ : ∃ t, t = es[m].j := ⟨_, rfl⟩
      rw [← ht] at k1 HSV
      have hm0 : ¬ (m : Int) < 0 := by omega
      have zm : (0 : Int) ≤ (m : Int) := by omega
      have zm1 : (m : Int) < (es.length : Int) := by omega
      clear ht k0 k2 hbest
      go_wp2
      refine bodyPost_ret (results_tmp3 rfl _ _ _) rfl ?_
      exact ⟨ret_three (by rw [HSV.out]; rfl) (by rw [HSI.out, decide_eq_true HP0.out]; rfl) (by rw [HV.out]; rfl), HB3.out⟩
    · have HP0 := Lib.hid hp
      have HBST := Lib.hid (pbest (.slice Ap es.length cp) es w2 (by omega) HLO.out (fun x => x < w1.heap.size ∨ (Value.slice (some ⟨bo, offo, none⟩) row.length cu).ownBlock = some x) w2.heap.size (Nat.le_refl _) HEP.out)
      rw [HB0.out (by omega)] at HBST
      go_wp2_with fail
      refine (HBST.out).mono ?_
      rintro e w3 ⟨rfl, hb3⟩
      have s3 := hb3.size
      have HB3 := Lib.hid (HB2.out.trans (hb3.mono (by have := HB2.out.size; omega)))
      have hr := (hr.below hb3).more s3
      have hr' := (hr'.below hb3).more s3
      clear hb3
      go_wp2
      refine bodyPost_ret (results_tmp3 rfl _ _ _) rfl ?_
      exact ⟨ret_three (by rw [HSN.out, HSI.out, decide_eq_false HP0.out]; rfl) (by rw [HSI.out, decide_eq_false HP0.out]; rfl) (by rw [HV.out]; rfl), HB3.out⟩
  · have hd : (rowE g row != 0) = true := by simpa using h
    have HI := Lib.hid (show smoothIs g row = false by rw [smoothIs, decide_eq_false h, Bool.false_and])
    have HE := Lib.hid (show smoothN g row = 0 by rw [smoothN, HI.out]; rfl)
    clear h
    generalize rowE g row = x at *
    go_enter Try.func21, Try.ntmps21
    go_wp2_with fail
    refine (HP.out).mono ?_
    rintro e w1 ⟨rfl, hb1⟩
    have s1 := hb1.size
    have HB1 := Lib.hid hb1
    have hr := (hr.below hb1).more s1
    have hr' := (hr'.below hb1).more s1
    clear hb1
    go_wp2
    refine bodyPost_ret (results_tmp3 rfl _ _ _) rfl ?_
    exact ⟨ret_three (by rw [HE.out]; rfl) (by rw [HI.out]; rfl) rfl, HB1.out⟩
end Go.Proofs.Ytejjogpgolgdgaa
