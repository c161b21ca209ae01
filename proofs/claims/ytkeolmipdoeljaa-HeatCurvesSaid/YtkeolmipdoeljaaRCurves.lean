/-
  PROVED HERE: 'Rows.HeatCurvesSaid': the law quadrupolelaw04.HeatCurves returns true at every input, and every argument reads behind the call as it read before. No condition.
-/
import Derived.Test.YtkeolmipdoeljaaOpen
import Derived.Test.YtkeolmipdoeljaaP2
namespace Go.Proofs.Ytkeolmipdoeljaa.heatCurves
open Go.ChangeShapes Go.WideShapes Go.ChangeAt Go.RowKit Go.Joins Go.Deep Heat

set_option maxRecDepth 100000 in
set_option maxHeartbeats 4000000 in
theorem law (a0 : Int) (a1 : Option Addr) (len1 cap1 : Nat) (l : List HAct) (w : World) (_ : I64 a0) (hk : len1 ≤ cap1) (hc : cap1 ≤ maxLen) (hr : Rd w w.heap.size 3 a1 len1 (actCells l)) (_ : Big l) :
    Calls Try.prog 5 #[.int .i64 a0, .slice a1 len1 cap1] w fun e w' => e = .returned (.bool true) ∧ Below w.heap.size w w' := by
  obtain rfl := hr.act_len
  have hL1 : l.length ≤ maxLen := by omega
  by_cases hL : 100 < l.length
  · have hd : decide (100 < l.length) = true := by simpa using hL
    go_enter Try.func5, Try.ntmps5
    go_wp2_with (first | (go_at_call 18; refine (long _ _ _ _ hL1).mono ?_; rintro e w1 ⟨rfl, rfl⟩) | (go_at_call 19; refine (known _).mono ?_; rintro e w1 ⟨rfl, hb⟩))
    go_ret
    exact ⟨rfl, hb⟩
  · have hd : decide (100 < l.length) = false := by simpa using hL
    have HP := Lib.hid (pCurve a0 a1 l.length cap1 l w (by omega) w.heap.size (Nat.le_refl _) hr)
    have hlen := curveL_len a0 l
    have HM := Lib.hid (curveL_mono a0 l)
    have hself : decide (curveL a0 l = curveL a0 l) = true := by simp
    have HS := Lib.hid hself
    clear hself
    go_enter Try.func5, Try.ntmps5
    go_wp2_with (go_at_call 18; refine (long _ _ _ _ hL1).mono ?_; rintro e w1 ⟨rfl, rfl⟩)
    refine HP.out.mono ?_
    rintro e w1 ⟨v1, rfl, hown1, hb1⟩
    obtain ⟨A1, c1, rfl, _, _⟩ := own_cap hown1
    have s1 := hb1.size
    go_wp2_with fail
    refine (rCurve a0 a1 l.length cap1 l w1 (by omega) hk hc w.heap.size s1 (hr.below hb1)).mono ?_
    rintro e w2 ⟨v2, rfl, hown2, hb2⟩
    obtain ⟨A2, c2, rfl, _, _⟩ := own_cap hown2
    have B2 := hb1.trans (hb2.mono s1)
    have s2 := B2.size
    have hr1 := (Rd.of_own hown1).below hb2
    have hr2 := Rd.of_own hown2
    have s12 := hb2.size
    have hr1' := hr1.more s12
    clear hown1 hown2 hr1 hb1 hb2
    generalize curveL a0 l = m at *
    go_wp2_with fail
    refine (rSameInts A1 A2 m.length m.length c1 c2 m m w2 (by omega) (by omega) w2.heap.size (Nat.le_refl _) hr1' hr2).mono ?_
    rw [decide_eq_true (rfl : m = m)]
    rintro e w3 ⟨rfl, hb3⟩
    have B3 := B2.trans (hb3.mono s2)
    have hr3 := hr1'.below hb3
    have s3 := hb3.size
    clear hr1' hr2 hb3 B2
    go_wp2
    go_loopw [9] (fun i wr => ∃ q : Nat, 1 ≤ q ∧ q ≤ m.length + 1 ∧ i = .int .i64 q ∧ Below w3.heap.size w3 wr) (fun i _ => m.length + 1 - (intOf i).toNat)
    case atStart => exact ⟨1, Nat.le_refl _, by omega, rfl, Below.refl _ _⟩
    case round =>
      obtain ⟨q, hq1, hq, rfl, hb⟩ := hrel
      by_cases hlt : q < m.length
      · obtain ⟨p, rfl⟩ : ∃ p, q = p + 1 := ⟨q - 1, by omega⟩
        obtain ⟨b, off, rfl, _, h0⟩ := (hr3.below' hb (by omega)).int hlt
        obtain ⟨b', off', e, _, h1⟩ := (hr3.below' hb (by omega)).int (show p < m.length by omega)
        simp only [Option.some.injEq, Addr.mk.injEq, and_true] at e
        obtain ⟨rfl, rfl⟩ := e
        have hm := HM.out p hlt
        have hd1 : decide (m[p] < m[p + 1]) = false := by simpa using hm
        have z0 : (0 : Int) ≤ ((p + 1 : Nat) : Int) := Int.natCast_nonneg _
        have z1 : ((p + 1 : Nat) : Int) < (m.length : Int) := by omega
        have z2 : (0 : Int) ≤ ((p + 1 : Nat) : Int) - 1 := by omega
        have z3 : ((p + 1 : Nat) : Int) - 1 < (m.length : Int) := by omega
        have z4 : (((p + 1 : Nat) : Int) - 1).toNat = p := by omega
        have z5 : (((p + 1 : Nat) : Int)).toNat = p + 1 := by omega
        generalize m[p] = x at *
        generalize m[p + 1] = y at *
        go_wp2
        go_quiet (fail)
        go_wp2
        go_roundw
        case rel => exact ⟨p + 1 + 1, by omega, by omega, by go_num, below_drewN hb nq⟩
        case measure => simp [intOf]; omega
      · have hd1 : decide (q < m.length) = false := by simpa using hlt
        go_wp2_with (go_at_call 19; refine (known _).mono ?_; rintro e w4 ⟨rfl, hb4⟩)
        go_ret
        have B4 := B3.trans (hb.mono B3.size)
        exact ⟨rfl, B4.trans (hb4.mono B4.size)⟩

set_option maxRecDepth 100000 in
theorem lifted (os : Os) (started : os.Started) (H : Type) (enc : TypeId × Value → H) :
    ReturnsInHanded {} Try.checked os 5 .any (Rows.heatCurvesSpec.pre6 enc Try.prog Try.f5 Rows.heatCurvesRow.domain false) (Rows.heatCurvesSpec.post enc Try.prog Try.f5 false true false false) := by
  refine returnsInHanded_of_change (C := Try.checked) ownKnob_none started (by kernel_rfl) Try.func5
    (ChangeSpec.witness6 (enc := enc) (C := Try.checked) false ⟨#[], #[.int .i64 0, .slice none 0 0], []⟩ 8 (by kernel_rfl) (by kernel_rfl) (by kernel_rfl) (by kernel_rfl)) ?_
  intro W base args ds gs before hval0 hW hcnd _
  have hval : ∀ (j : Nat) t v, Try.f5.params[j]? = some t → args[j]? = some v → Value.okWide Try.prog W .any base t v := hval0
  have hW' := hW
  obtain ⟨p, q, hA0, hV, rfl, hfz, hnd⟩ := hW
  have hA : DataW.TrodAll enc Try.prog W 0 (fun _ => true) true Try.f5.params.toList args.toList ds p := hA0
  rw [Try.params5] at hA hval
  obtain ⟨v0, vs0, d0, ds0, p0, q0, hargs, rfl, rfl, h0, r0⟩ := trodAll_cons hA
  obtain ⟨v1, vs1, d1, ds1, p1, q1, rfl, rfl, rfl, h1, r1⟩ := trodAll_cons r0
  obtain ⟨rfl, rfl, rfl⟩ := trodAll_nil r1
  obtain rfl : args = #[v0, v1] := by cases args; simp_all
  obtain ⟨rfl, rfl⟩ := trodVars_none hV
  obtain ⟨a0, rfl, rfl, rfl, w0⟩ := open_int Try.underlying3 (hval 0 3 v0 rfl rfl) h0
  obtain ⟨a1, len1, cap1, rfl⟩ := okWide_slice Try.underlying22 (hval 1 22 v1 rfl rfl)
  have k1 := h1
  have lt1 : ∀ x ∈ p1, x.block < W.heap.size := by obtain ⟨m, hm⟩ := k1; exact DataW.trod_lt m _ _ _ hm
  obtain ⟨z1, hk1, hc1, w1, b1⟩ : ∃ zs, len1 ≤ cap1 ∧ cap1 ≤ maxLen ∧ Rd W W.heap.size 3 a1 len1 (actCells zs) ∧ Big zs := by
    obtain ⟨fuel, hf⟩ := h1
    obtain ⟨A, l, c, zs, hcs, g1, g2, g3, g4⟩ := open_acts hf
    simp [Value.cells] at hcs
    obtain ⟨rfl, rfl, rfl⟩ := hcs
    exact ⟨zs, g1, g2, g3, g4⟩
  clear hA0 hval0
  refine (law a0 a1 len1 cap1 z1 W (i64_wf w0) hk1 hc1 w1 b1).mono fun e W' ⟨he, bel⟩ => ?_
  subst he
  exact ⟨_, rfl, _, _, _, [], _, [], hW', trodAll_mk1 (shut_bool Try.underlying4 _), (trodAll_cons_mk (shut_int Try.underlying3 w0) (trodAll_cons_mk (Below.trod laidOut (by kernel_rfl) (of_decide_eq_true (by kernel_rfl)) k1 bel lt1) trodAll_mk0)), rfl, bel.frame _, fun h => by cases h⟩

theorem over : Rows.heatCurvesRow.holds Try.pinned (OpenSpec.ofChange Rows.heatCurvesSpec) :=
  OpenClaim.holds_of_wide 5 Try.f5 rfl rfl rfl rfl rfl rfl rfl ⟨rfl, rfl, rfl, rfl, rfl⟩ rfl rfl rfl rfl rfl (by kernel_rfl) Try.func5 (by kernel_rfl)
    (of_decide_eq_true (by kernel_rfl)) (by unfold Func.isWrapper; first | (rw [if_pos (by decide +kernel)]; kernel_rfl) | (rw [if_neg (by decide +kernel)]; exact ⟨rfl, rfl⟩))
    (fun os started H enc _ => lifted os started H enc)

end Go.Proofs.Ytkeolmipdoeljaa.heatCurves
namespace Go.Proofs.Ytkeolmipdoeljaa
/-- The statement. -/
theorem heatCurvesProved : Rows.HeatCurvesSaid := heatCurves.over
#print axioms heatCurvesProved
end Go.Proofs.Ytkeolmipdoeljaa

