/-
  PROVED HERE: 'Rows.HeatJoinsSaid': the law quadrupolelaw04.HeatJoins returns true at every input, and every argument reads behind the call as it read before. No condition.
-/
import Derived.Test.YtkeolmipdoeljaaOpen
import Derived.Test.YtkeolmipdoeljaaW20
import Derived.Test.YtkeolmipdoeljaaW11
namespace Go.Proofs.Ytkeolmipdoeljaa.heatJoins
open Go.ChangeShapes Go.WideShapes Go.ChangeAt Go.RowKit Go.Joins Go.Deep Heat

set_option maxRecDepth 100000 in
set_option maxHeartbeats 4000000 in
theorem law (a0 : Int) (a1 a2 : Option Addr) (len1 cap1 len2 cap2 : Nat) (l m : List HAct) (w : World) (_ : I64 a0) (hk : len1 ≤ cap1) (hc : cap1 ≤ maxLen) (hr : Rd w w.heap.size 3 a1 len1 (actCells l)) (_ : Big l) (hk2 : len2 ≤ cap2) (hc2 : cap2 ≤ maxLen) (hr' : Rd w w.heap.size 3 a2 len2 (actCells m)) (_ : Big m) :
    Calls Try.prog 11 #[.int .i64 a0, .slice a1 len1 cap1, .slice a2 len2 cap2] w fun e w' => e = .returned (.bool true) ∧ Below w.heap.size w w' := by
  obtain rfl := hr.act_len
  obtain rfl := hr'.act_len
  have hL1 : l.length ≤ maxLen := by omega
  have hL2 : m.length ≤ maxLen := by omega
  by_cases hL : 100 < l.length
  · have hd : decide (100 < l.length) = true := by simpa using hL
    go_enter Try.func11, Try.ntmps11
    go_wp2_with (first | (go_at_call 18; refine (long _ _ _ _ hL1).mono ?_; rintro e w1 ⟨rfl, rfl⟩) | (go_at_call 19; refine (known _).mono ?_; rintro e w1 ⟨rfl, hb⟩))
    go_ret
    exact ⟨rfl, hb⟩
  · have hd : decide (100 < l.length) = false := by simpa using hL
    by_cases hM : 100 < m.length
    · have hd' : decide (100 < m.length) = true := by simpa using hM
      go_enter Try.func11, Try.ntmps11
      go_wp2_with fail
      refine (long _ _ _ _ hL1).mono ?_
      rintro e w1 ⟨rfl, rfl⟩
      go_wp2_with fail
      refine (long _ _ _ _ hL2).mono ?_
      rintro e w1 ⟨rfl, rfl⟩
      go_wp2_with fail
      refine (known _).mono ?_
      rintro e w1 ⟨rfl, hb⟩
      go_wp2
      go_ret
      exact ⟨rfl, hb⟩
    · have hd' : decide (100 < m.length) = false := by simpa using hM
      have HP := Lib.hid (pJoin a0 a1 a2 l.length cap1 m.length cap2 l m w (by omega) (by omega) w.heap.size (Nat.le_refl _) hr hr')
      have hlen := joinL_len a0 l m
      by_cases h : joinErr a0 l m = 0
      · obtain ⟨u1, u2, u3⟩ := join_law h
        have HE := Lib.hid h
        have HL := Lib.hid u1
        have HL2 := Lib.hid u2
        have HF := Lib.hid (show fewestN a0 l 5 = (cnt 5 cold l : Int) by rw [fewestN, if_pos u1])
        have HF2 := Lib.hid (show fewestN a0 (joinL a0 l m) 5 = (cnt 5 cold (joinL a0 l m) : Int) by rw [fewestN, if_pos u2])
        have e1 : decide (cnt 5 cold l ≤ cnt 5 cold (joinL a0 l m)) = true := by simpa using u3
        clear h u1 u2
        go_enter Try.func11, Try.ntmps11
        go_wp2_with fail
        refine (long _ _ _ _ hL1).mono ?_
        rintro e w1 ⟨rfl, rfl⟩
        go_wp2_with fail
        refine (long _ _ _ _ hL2).mono ?_
        rintro e w1 ⟨rfl, rfl⟩
        go_wp2_with fail
        refine HP.out.mono ?_
        rw [HE.out]
        rintro e w1 ⟨v1, rfl, hown1, hb1⟩
        obtain ⟨A1, c1, rfl, _, _⟩ := own_cap hown1
        have s1 := hb1.size
        go_wp2_with fail
        refine (rJoin a0 a1 a2 l.length cap1 m.length cap2 l m w1 (by omega) (by omega) w.heap.size s1 (hr.below hb1) (hr'.below hb1)).mono ?_
        rw [HE.out]
        rintro e w2 ⟨v2, rfl, hown2, hb2⟩
        obtain ⟨A2, c2, rfl, _, _⟩ := own_cap hown2
        have B2 := hb1.trans (hb2.mono s1)
        have s2 := B2.size
        have s12 := hb2.size
        have hr1 := ((Rd.of_own hown1).below hb2).more s12
        have hr2 := Rd.of_own hown2
        clear hown1 hown2 hb1 hb2
        go_wp2_with fail
        refine (rSame A1 A2 _ _ c1 c2 (joinL a0 l m) (joinL a0 l m) w2 (by omega) (by omega) w2.heap.size (Nat.le_refl _) hr1 hr2).mono ?_
        rw [decide_eq_true (rfl : joinL a0 l m = joinL a0 l m)]
        rintro e w3 ⟨rfl, hb3⟩
        have B3 := B2.trans (hb3.mono s2)
        have s3 := B3.size
        have s23 := hb3.size
        have hr3 := (hr1.below hb3).more s23
        clear hr1 hr2 hb3
        go_wp2_with fail
        refine (pFewest a0 a1 l.length cap1 5 l w3 (by omega) w.heap.size s3 (hr.below B3)).mono ?_
        rw [HL.out, HF.out]
        rintro e w4 ⟨rfl, hb4⟩
        have B4 := B3.trans (hb4.mono s3)
        have s4 := B4.size
        have s34 := hb4.size
        go_wp2_with fail
        refine (pFewest a0 A1 _ c1 5 (joinL a0 l m) w4 (by omega) w4.heap.size (Nat.le_refl _) ((hr3.below hb4).more s34)).mono ?_
        rw [HL2.out, HF2.out]
        rintro e w5 ⟨rfl, hb5⟩
        have B5 := B4.trans (hb5.mono s4)
        go_wp2_with (go_at_call 19; refine (known _).mono ?_; rintro e w6 ⟨rfl, hb6⟩)
        go_ret
        exact ⟨rfl, B5.trans (hb6.mono B5.size)⟩
      · have d1 : (joinErr a0 l m == 0) = false := by simpa using h
        have d2 : (joinErr a0 l m != 0) = true := by simpa using h
        clear h
        go_enter Try.func11, Try.ntmps11
        go_wp2_with fail
        refine (long _ _ _ _ hL1).mono ?_
        rintro e w1 ⟨rfl, rfl⟩
        go_wp2_with fail
        refine (long _ _ _ _ hL2).mono ?_
        rintro e w1 ⟨rfl, rfl⟩
        go_wp2_with fail
        refine HP.out.mono ?_
        rintro e w1 ⟨v1, rfl, hown1, hb1⟩
        obtain ⟨A1, c1, rfl, _, _⟩ := own_cap hown1
        have s1 := hb1.size
        go_wp2_with fail
        refine (rJoin a0 a1 a2 l.length cap1 m.length cap2 l m w1 (by omega) (by omega) w.heap.size s1 (hr.below hb1) (hr'.below hb1)).mono ?_
        rintro e w2 ⟨v2, rfl, hown2, hb2⟩
        obtain ⟨A2, c2, rfl, _, _⟩ := own_cap hown2
        have B2 := hb1.trans (hb2.mono s1)
        have s2 := B2.size
        have s12 := hb2.size
        have hr1 := ((Rd.of_own hown1).below hb2).more s12
        have hr2 := Rd.of_own hown2
        clear hown1 hown2 hb1 hb2
        go_wp2_with fail
        refine (rSame A1 A2 _ _ c1 c2 (joinL a0 l m) (joinL a0 l m) w2 (by omega) (by omega) w2.heap.size (Nat.le_refl _) hr1 hr2).mono ?_
        rw [decide_eq_true (rfl : joinL a0 l m = joinL a0 l m)]
        rintro e w3 ⟨rfl, hb3⟩
        have B3 := B2.trans (hb3.mono s2)
        have s3 := B3.size
        have s23 := hb3.size
        have hr3 := (hr1.below hb3).more s23
        clear hr1 hr2 hb3
        go_wp2_with fail
        refine (pFewest a0 a1 l.length cap1 5 l w3 (by omega) w.heap.size s3 (hr.below B3)).mono ?_
        rintro e w4 ⟨rfl, hb4⟩
        have B4 := B3.trans (hb4.mono s3)
        have s4 := B4.size
        have s34 := hb4.size
        go_wp2_with fail
        refine (pFewest a0 A1 _ c1 5 (joinL a0 l m) w4 (by omega) w4.heap.size (Nat.le_refl _) ((hr3.below hb4).more s34)).mono ?_
        rintro e w5 ⟨rfl, hb5⟩
        have B5 := B4.trans (hb5.mono s4)
        go_wp2_with (go_at_call 19; refine (known _).mono ?_; rintro e w6 ⟨rfl, hb6⟩)
        go_ret
        exact ⟨rfl, B5.trans (hb6.mono B5.size)⟩

set_option maxRecDepth 100000 in
theorem lifted (os : Os) (started : os.Started) (H : Type) (enc : TypeId × Value → H) :
    ReturnsInHanded {} Try.checked os 11 .any (Rows.heatJoinsSpec.pre6 enc Try.prog Try.f11 Rows.heatJoinsRow.domain false) (Rows.heatJoinsSpec.post enc Try.prog Try.f11 false true false false) := by
  refine returnsInHanded_of_change (C := Try.checked) ownKnob_none started (by kernel_rfl) Try.func11
    (ChangeSpec.witness6 (enc := enc) (C := Try.checked) false ⟨#[], #[.int .i64 0, .slice none 0 0, .slice none 0 0], []⟩ 8 (by kernel_rfl) (by kernel_rfl) (by kernel_rfl) (by kernel_rfl)) ?_
  intro W base args ds gs before hval0 hW hcnd _
  have hval : ∀ (j : Nat) t v, Try.f11.params[j]? = some t → args[j]? = some v → Value.okWide Try.prog W .any base t v := hval0
  have hW' := hW
  obtain ⟨p, q, hA0, hV, rfl, hfz, hnd⟩ := hW
  have hA : DataW.TrodAll enc Try.prog W 0 (fun _ => true) true Try.f11.params.toList args.toList ds p := hA0
  rw [Try.params11] at hA hval
  obtain ⟨v0, vs0, d0, ds0, p0, q0, hargs, rfl, rfl, h0, r0⟩ := trodAll_cons hA
  obtain ⟨v1, vs1, d1, ds1, p1, q1, rfl, rfl, rfl, h1, r1⟩ := trodAll_cons r0
  obtain ⟨v2, vs2, d2, ds2, p2, q2, rfl, rfl, rfl, h2, r2⟩ := trodAll_cons r1
  obtain ⟨rfl, rfl, rfl⟩ := trodAll_nil r2
  obtain rfl : args = #[v0, v1, v2] := by cases args; simp_all
  obtain ⟨rfl, rfl⟩ := trodVars_none hV
  obtain ⟨a0, rfl, rfl, rfl, w0⟩ := open_int Try.underlying3 (hval 0 3 v0 rfl rfl) h0
  obtain ⟨a1, len1, cap1, rfl⟩ := okWide_slice Try.underlying22 (hval 1 22 v1 rfl rfl)
  have k1 := h1
  have lt1 : ∀ x ∈ p1, x.block < W.heap.size := by obtain ⟨m, hm⟩ := k1; exact DataW.trod_lt m _ _ _ hm
  obtain ⟨z1, hk1, hc1, w1, b1⟩ : ∃ zs, len1 ≤ cap1 ∧ cap1 ≤ maxLen ∧ Rd W W.heap.size 3 a1 len1 (actCells zs) ∧ Big zs := by
    obtain ⟨fuel, hf⟩ := h1
    obtain ⟨A, l, c, zs, hcs, g1, g2, g3, g4⟩ := open_acts hf
    simp [Value.cells] at hcs
    obtain ⟨rfl, rfl, rfl⟩ := hcs
    exact ⟨zs, g1, g2, g3, g4⟩
  obtain ⟨a2, len2, cap2, rfl⟩ := okWide_slice Try.underlying22 (hval 2 22 v2 rfl rfl)
  have k2 := h2
  have lt2 : ∀ x ∈ p2, x.block < W.heap.size := by obtain ⟨m, hm⟩ := k2; exact DataW.trod_lt m _ _ _ hm
  obtain ⟨z2, hk2, hc2, w2, b2⟩ : ∃ zs, len2 ≤ cap2 ∧ cap2 ≤ maxLen ∧ Rd W W.heap.size 3 a2 len2 (actCells zs) ∧ Big zs := by
    obtain ⟨fuel, hf⟩ := h2
    obtain ⟨A, l, c, zs, hcs, g1, g2, g3, g4⟩ := open_acts hf
    simp [Value.cells] at hcs
    obtain ⟨rfl, rfl, rfl⟩ := hcs
    exact ⟨zs, g1, g2, g3, g4⟩
  clear hA0 hval0
  refine (law a0 a1 a2 len1 cap1 len2 cap2 z1 z2 W (i64_wf w0) hk1 hc1 w1 b1 hk2 hc2 w2 b2).mono fun e W' ⟨he, bel⟩ => ?_
  subst he
  exact ⟨_, rfl, _, _, _, [], _, [], hW', trodAll_mk1 (shut_bool Try.underlying4 _), (trodAll_cons_mk (shut_int Try.underlying3 w0) (trodAll_cons_mk (Below.trod laidOut (by kernel_rfl) (of_decide_eq_true (by kernel_rfl)) k1 bel lt1) (trodAll_cons_mk (Below.trod laidOut (by kernel_rfl) (of_decide_eq_true (by kernel_rfl)) k2 bel lt2) trodAll_mk0))), rfl, bel.frame _, fun h => by cases h⟩

theorem over : Rows.heatJoinsRow.holds Try.pinned (OpenSpec.ofChange Rows.heatJoinsSpec) :=
  OpenClaim.holds_of_wide 11 Try.f11 rfl rfl rfl rfl rfl rfl rfl ⟨rfl, rfl, rfl, rfl, rfl⟩ rfl rfl rfl rfl rfl (by kernel_rfl) Try.func11 (by kernel_rfl)
    (of_decide_eq_true (by kernel_rfl)) (by unfold Func.isWrapper; first | (rw [if_pos (by decide +kernel)]; kernel_rfl) | (rw [if_neg (by decide +kernel)]; exact ⟨rfl, rfl⟩))
    (fun os started H enc _ => lifted os started H enc)

end Go.Proofs.Ytkeolmipdoeljaa.heatJoins
namespace Go.Proofs.Ytkeolmipdoeljaa
/-- The statement. -/
theorem heatJoinsProved : Rows.HeatJoinsSaid := heatJoins.over
#print axioms heatJoinsProved
end Go.Proofs.Ytkeolmipdoeljaa

