/-
  PROVED HERE: 'Rows.HeatTracesSaid': the law quadrupolelaw04.HeatTraces returns true at every input, and every argument reads behind the call as it read before. No condition.
-/
import Derived.Test.YtkeolmipdoeljaaOpen
import Derived.Test.YtkeolmipdoeljaaW11
import Derived.Test.YtkeolmipdoeljaaW30
namespace Go.Proofs.Ytkeolmipdoeljaa.heatTraces
open Go.ChangeShapes Go.WideShapes Go.ChangeAt Go.RowKit Go.Joins Go.Deep Heat

set_option maxRecDepth 100000 in
set_option maxHeartbeats 4000000 in
theorem law (a0 : Int) (a1 : Option Addr) (len1 cap1 : Nat) (l : List HAct) (w : World) (_ : I64 a0) (hk : len1 ≤ cap1) (hc : cap1 ≤ maxLen) (hr : Rd w w.heap.size 3 a1 len1 (actCells l)) (_ : Big l) :
    Calls Try.prog 12 #[.int .i64 a0, .slice a1 len1 cap1] w fun e w' => e = .returned (.bool true) ∧ Below w.heap.size w w' := by
  obtain rfl := hr.act_len
  have hL1 : l.length ≤ maxLen := by omega
  by_cases hL : 100 < l.length
  · have hd : decide (100 < l.length) = true := by simpa using hL
    go_enter Try.func12, Try.ntmps12
    go_wp2_with (first | (go_at_call 18; refine (long _ _ _ _ hL1).mono ?_; rintro e w1 ⟨rfl, rfl⟩) | (go_at_call 19; refine (known _).mono ?_; rintro e w1 ⟨rfl, hb⟩))
    go_ret
    exact ⟨rfl, hb⟩
  · have hd : decide (100 < l.length) = false := by simpa using hL
    have HP := Lib.hid (pTrace a0 a1 l.length cap1 l w (by omega) w.heap.size (Nat.le_refl _) hr)
    obtain ⟨E, hE⟩ : ∃ E, E = validate a0 l := ⟨_, rfl⟩
    go_enter Try.func12, Try.ntmps12
    go_wp2_with (go_at_call 18; refine (long _ _ _ _ hL1).mono ?_; rintro e w1 ⟨rfl, rfl⟩)
    refine HP.out.mono ?_
    rintro e w1 ⟨v1, vs, rfl, hT1, hb1⟩
    obtain ⟨A1, c1, rfl, _, _⟩ := own_cap hT1.1
    have s1 := hb1.size
    have HT1 := Lib.hid hT1
    clear hT1
    go_wp2_with fail
    refine (rTrace a0 a1 l.length cap1 l w1 (by omega) hk hc w.heap.size s1 (hr.below hb1)).mono ?_
    rintro e w2 ⟨v2, us, rfl, hT2, hb2⟩
    obtain ⟨A2, c2, rfl, _, _⟩ := own_cap hT2.1
    have B2 := hb1.trans (hb2.mono s1)
    have s2 := B2.size
    have s12 := hb2.size
    have HT2 := Lib.hid hT2
    have HT1b := Lib.hid (HT1.out.keep (B := 0) hb2)
    clear hT2
    go_wp2_with fail
    refine (pPeak a0 a1 l.length cap1 l w2 (by omega) w.heap.size s2 (hr.below B2)).mono ?_
    rintro e w3 ⟨rfl, hb3⟩
    have B3 := B2.trans (hb3.mono s2)
    have s3 := B3.size
    have HT2b := Lib.hid (HT2.out.keep (B := 0) hb3)
    have HT1c := Lib.hid (HT1b.out.keep (B := 0) hb3)
    go_wp2_with fail
    refine (rPeak a0 a1 l.length cap1 l w3 (by omega) hk hc w.heap.size s3 (hr.below B3)).mono ?_
    rintro e w4 ⟨rfl, hb4⟩
    have B4 := B3.trans (hb4.mono s3)
    have s4 := B4.size
    have HT2c := Lib.hid (HT2b.out.keep (B := 0) hb4)
    have HT1d := Lib.hid (HT1c.out.keep (B := 0) hb4)
    go_wp2_with fail
    refine (pValidate a0 a1 l.length cap1 l w4 (by omega) w.heap.size s4 (hr.below B4)).mono ?_
    rintro e w5 ⟨rfl, hb5⟩
    have B5 := B4.trans (hb5.mono s4)
    have s5 := B5.size
    have HT2d := Lib.hid (HT2c.out.keep (B := 0) hb5)
    have HT1e := Lib.hid (HT1d.out.keep (B := 0) hb5)
    go_wp2_with fail
    refine (rValidate a0 a1 l.length cap1 l w5 (by omega) w.heap.size s5 (hr.below B5)).mono ?_
    rintro e w6 ⟨rfl, hb6⟩
    have B6 := B5.trans (hb6.mono s5)
    have s6 := B6.size
    obtain ⟨k1, k2, k3, k4, k5⟩ := trace_same (HT1e.out.keep (B := 0) hb6) (HT2d.out.keep (B := 0) hb6)
    have hsl := rSameLists A1 A2 _ c1 c2 vs us w6 k1 w6.heap.size (Nat.le_refl _) k4 k3 k5
    rw [show Value.slice A2 vs.length c2 = Value.slice A2 us.length c2 by rw [k2]] at hsl
    have HSL := Lib.hid hsl
    clear hsl k5 k3 k4 k2
    go_wp2_with fail
    with_reducible refine HSL.out.mono ?_
    rintro e w7 ⟨rfl, hb7⟩
    have B7 := B6.trans (hb7.mono s6)
    go_wp2_with (go_at_call 19; refine (known _).mono ?_; rintro e w8 ⟨rfl, hb8⟩)
    go_ret
    exact ⟨rfl, B7.trans (hb8.mono B7.size)⟩

set_option maxRecDepth 100000 in
theorem lifted (os : Os) (started : os.Started) (H : Type) (enc : TypeId × Value → H) :
    ReturnsInHanded {} Try.checked os 12 .any (Rows.heatTracesSpec.pre6 enc Try.prog Try.f12 Rows.heatTracesRow.domain false) (Rows.heatTracesSpec.post enc Try.prog Try.f12 false true false false) := by
  refine returnsInHanded_of_change (C := Try.checked) ownKnob_none started (by kernel_rfl) Try.func12
    (ChangeSpec.witness6 (enc := enc) (C := Try.checked) false ⟨#[], #[.int .i64 0, .slice none 0 0], []⟩ 8 (by kernel_rfl) (by kernel_rfl) (by kernel_rfl) (by kernel_rfl)) ?_
  intro W base args ds gs before hval0 hW hcnd _
  have hval : ∀ (j : Nat) t v, Try.f12.params[j]? = some t → args[j]? = some v → Value.okWide Try.prog W .any base t v := hval0
  have hW' := hW
  obtain ⟨p, q, hA0, hV, rfl, hfz, hnd⟩ := hW
  have hA : DataW.TrodAll enc Try.prog W 0 (fun _ => true) true Try.f12.params.toList args.toList ds p := hA0
  rw [Try.params12] at hA hval
  obtain ⟨v0, vs0, d0, ds0, p0, q0, hargs, rfl, rfl, h0, r0⟩ := trodAll_cons hA
  obtain ⟨v1, vs1, d1, ds1, p1, q1, rfl, rfl, rfl, h1, r1⟩ := trodAll_cons r0
  obtain ⟨rfl, rfl, rfl⟩ := trodAll_nil r1
  obtain rfl : args = #[v0, v1] := by cases args; simp_all
  obtain ⟨rfl, rfl⟩ := trodVars_none hV
  obtain ⟨a0, rfl, rfl, rfl, w0⟩ := open_int Try.underlying3 (hval 0 3 v0 rfl rfl) h0
  obtain ⟨a1, len1, cap1, rfl⟩ := okWide_slice Try.underlying22 (hval 1 22 v1 rfl rfl)
  have k1 := h1
  have lt1 : ∀ x ∈ p1, x.block < W.heap.size := by obtain ⟨m, hm⟩ := k1; exact DataW.trod_lt m _ _ _ hm
  obtain ⟨z1, hk1, hc1, w1, b1⟩ : ∃ zs, len1 ≤ cap1 ∧ cap1 ≤ maxLen ∧ Rd W W.heap.size 3 a1 len1 (actCells zs) ∧ Big zs := by
    obtain ⟨fuel, hf⟩ := h1
    obtain ⟨A, l, c, zs, hcs, g1, g2, g3, g4⟩ := open_acts hf
    simp [Value.cells] at hcs
    obtain ⟨rfl, rfl, rfl⟩ := hcs
    exact ⟨zs, g1, g2, g3, g4⟩
  clear hA0 hval0
  refine (law a0 a1 len1 cap1 z1 W (i64_wf w0) hk1 hc1 w1 b1).mono fun e W' ⟨he, bel⟩ => ?_
  subst he
  exact ⟨_, rfl, _, _, _, [], _, [], hW', trodAll_mk1 (shut_bool Try.underlying4 _), (trodAll_cons_mk (shut_int Try.underlying3 w0) (trodAll_cons_mk (Below.trod laidOut (by kernel_rfl) (of_decide_eq_true (by kernel_rfl)) k1 bel lt1) trodAll_mk0)), rfl, bel.frame _, fun h => by cases h⟩

theorem over : Rows.heatTracesRow.holds Try.pinned (OpenSpec.ofChange Rows.heatTracesSpec) :=
  OpenClaim.holds_of_wide 12 Try.f12 rfl rfl rfl rfl rfl rfl rfl ⟨rfl, rfl, rfl, rfl, rfl⟩ rfl rfl rfl rfl rfl (by kernel_rfl) Try.func12 (by kernel_rfl)
    (of_decide_eq_true (by kernel_rfl)) (by unfold Func.isWrapper; first | (rw [if_pos (by decide +kernel)]; kernel_rfl) | (rw [if_neg (by decide +kernel)]; exact ⟨rfl, rfl⟩))
    (fun os started H enc _ => lifted os started H enc)

end Go.Proofs.Ytkeolmipdoeljaa.heatTraces
namespace Go.Proofs.Ytkeolmipdoeljaa
/-- The statement. -/
theorem heatTracesProved : Rows.HeatTracesSaid := heatTraces.over
#print axioms heatTracesProved
end Go.Proofs.Ytkeolmipdoeljaa

