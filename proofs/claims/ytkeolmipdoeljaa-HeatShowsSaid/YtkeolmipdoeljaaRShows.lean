/-
  PROVED HERE: 'Rows.HeatShowsSaid': the law quadrupolelaw04.HeatShows returns true at every input, and every argument reads behind the call as it read before. No condition.
-/
import Derived.Test.YtkeolmipdoeljaaOpen
import Derived.Test.YtkeolmipdoeljaaW11
import Derived.Test.YtkeolmipdoeljaaW12
import Derived.Test.YtkeolmipdoeljaaW32
namespace Go.Proofs.Ytkeolmipdoeljaa.heatShows
open Go.ChangeShapes Go.WideShapes Go.ChangeAt Go.RowKit Go.Joins Go.Deep Heat

set_option maxRecDepth 100000 in
set_option maxHeartbeats 4000000 in
theorem law (a0 : Int) (a1 : Option Addr) (len1 cap1 : Nat) (limit : Int) (l : List HAct) (w : World) (_ : I64 a0) (_ : I64 limit) (hk : len1 ≤ cap1) (hc : cap1 ≤ maxLen) (hr : Rd w w.heap.size 3 a1 len1 (actCells l)) (_ : Big l) :
    Calls Try.prog 16 #[.int .i64 a0, .slice a1 len1 cap1, .int .i64 limit] w fun e w' => e = .returned (.bool true) ∧ Below w.heap.size w w' := by
  obtain rfl := hr.act_len
  have hL1 : l.length ≤ maxLen := by omega
  by_cases hL : 100 < l.length
  · have hd : decide (100 < l.length) = true := by simpa using hL
    go_enter Try.func16, Try.ntmps16
    go_wp2_with (first | (go_at_call 18; refine (long _ _ _ _ hL1).mono ?_; rintro e w1 ⟨rfl, rfl⟩) | (go_at_call 19; refine (known _).mono ?_; rintro e w1 ⟨rfl, hb⟩))
    go_ret
    exact ⟨rfl, hb⟩
  · have hd : decide (100 < l.length) = false := by simpa using hL
    have HP := Lib.hid (pWindows a0 a1 l.length cap1 limit l w (by omega) w.heap.size (Nat.le_refl _) hr)
    by_cases h : limited a0 l limit = 0
    · obtain ⟨e1, e2⟩ := windows_law h
      have HL := Lib.hid h
      have HE := Lib.hid e1
      have HN := Lib.hid (show winsN a0 l limit (windowsOf limit l) = (cnt limit cold l : Int) by rw [winsN, if_pos e1, e2])
      have HF := Lib.hid (show fewestN a0 l limit = (cnt limit cold l : Int) by rw [fewestN, if_pos h])
      have hlen : (windowsOf limit l).length ≤ 1000 := by
        have := cnt_le limit l cold
        omega
      clear h e1 e2
      go_enter Try.func16, Try.ntmps16
      go_wp2_with (go_at_call 18; refine (long _ _ _ _ hL1).mono ?_; rintro e w1 ⟨rfl, rfl⟩)
      refine HP.out.mono ?_
      rw [HL.out]
      rintro e w1 ⟨v1, rfl, hwn, _, hb1⟩
      have hown1 := hwn rfl
      clear hwn
      obtain ⟨A1, c1, rfl, _, _⟩ := own_cap hown1
      have s1 := hb1.size
      go_wp2_with fail
      refine (rFewest a0 a1 l.length cap1 limit l w1 (by omega) hk hc w.heap.size s1 (hr.below hb1)).mono ?_
      rw [HL.out, HF.out]
      rintro e w2 ⟨rfl, hb2⟩
      have B2 := hb1.trans (hb2.mono s1)
      have s2 := B2.size
      have s12 := hb2.size
      have hr1 := ((Rd.of_own hown1).below hb2).more s12
      clear hown1
      go_wp2_with fail
      refine (rCheckWindows a0 a1 A1 l.length cap1 _ c1 limit l (windowsOf limit l) w2 (by omega) hlen w2.heap.size (Nat.le_refl _) ((hr.below B2).more s2) hr1).mono ?_
      rw [HE.out, HN.out]
      rintro e w3 ⟨rfl, hb3⟩
      go_wp2_with (go_at_call 19; refine (known _).mono ?_; rintro e w4 ⟨rfl, hb4⟩)
      go_ret
      have B3 := B2.trans (hb3.mono s2)
      exact ⟨rfl, B3.trans (hb4.mono B3.size)⟩
    · have HX := Lib.hid h
      have hd1 : (limited a0 l limit == 0) = false := by simpa using h
      have hd2 : (limited a0 l limit != 0) = true := by simpa using h
      clear h
      go_enter Try.func16, Try.ntmps16
      go_wp2_with (go_at_call 18; refine (long _ _ _ _ hL1).mono ?_; rintro e w1 ⟨rfl, rfl⟩)
      refine HP.out.mono ?_
      rintro e w1 ⟨v1, rfl, _, hv, hb1⟩
      obtain rfl := hv HX.out
      have s1 := hb1.size
      go_wp2_with fail
      refine (rFewest a0 a1 l.length cap1 limit l w1 (by omega) hk hc w.heap.size s1 (hr.below hb1)).mono ?_
      rintro e w2 ⟨rfl, hb2⟩
      have B2 := hb1.trans (hb2.mono s1)
      have s2 := B2.size
      go_wp2_with (go_at_call 19; refine (known _).mono ?_; rintro e w4 ⟨rfl, hb4⟩)
      go_ret
      exact ⟨rfl, B2.trans (hb4.mono s2)⟩

set_option maxRecDepth 100000 in
theorem lifted (os : Os) (started : os.Started) (H : Type) (enc : TypeId × Value → H) :
    ReturnsInHanded {} Try.checked os 16 .any (Rows.heatShowsSpec.pre6 enc Try.prog Try.f16 Rows.heatShowsRow.domain false) (Rows.heatShowsSpec.post enc Try.prog Try.f16 false true false false) := by
  refine returnsInHanded_of_change (C := Try.checked) ownKnob_none started (by kernel_rfl) Try.func16
    (ChangeSpec.witness6 (enc := enc) (C := Try.checked) false ⟨#[], #[.int .i64 0, .slice none 0 0, .int .i64 0], []⟩ 8 (by kernel_rfl) (by kernel_rfl) (by kernel_rfl) (by kernel_rfl)) ?_
  intro W base args ds gs before hval0 hW hcnd _
  have hval : ∀ (j : Nat) t v, Try.f16.params[j]? = some t → args[j]? = some v → Value.okWide Try.prog W .any base t v := hval0
  have hW' := hW
  obtain ⟨p, q, hA0, hV, rfl, hfz, hnd⟩ := hW
  have hA : DataW.TrodAll enc Try.prog W 0 (fun _ => true) true Try.f16.params.toList args.toList ds p := hA0
  rw [Try.params16] at hA hval
  obtain ⟨v0, vs0, d0, ds0, p0, q0, hargs, rfl, rfl, h0, r0⟩ := trodAll_cons hA
  obtain ⟨v1, vs1, d1, ds1, p1, q1, rfl, rfl, rfl, h1, r1⟩ := trodAll_cons r0
  obtain ⟨v2, vs2, d2, ds2, p2, q2, rfl, rfl, rfl, h2, r2⟩ := trodAll_cons r1
  obtain ⟨rfl, rfl, rfl⟩ := trodAll_nil r2
  obtain rfl : args = #[v0, v1, v2] := by cases args; simp_all
  obtain ⟨rfl, rfl⟩ := trodVars_none hV
  obtain ⟨a0, rfl, rfl, rfl, w0⟩ := open_int Try.underlying3 (hval 0 3 v0 rfl rfl) h0
  obtain ⟨a1, len1, cap1, rfl⟩ := okWide_slice Try.underlying22 (hval 1 22 v1 rfl rfl)
  have k1 := h1
  have lt1 : ∀ x ∈ p1, x.block < W.heap.size := by obtain ⟨m, hm⟩ := k1; exact DataW.trod_lt m _ _ _ hm
  obtain ⟨z1, hk1, hc1, w1, b1⟩ : ∃ zs, len1 ≤ cap1 ∧ cap1 ≤ maxLen ∧ Rd W W.heap.size 3 a1 len1 (actCells zs) ∧ Big zs := by
    obtain ⟨fuel, hf⟩ := h1
    obtain ⟨A, l, c, zs, hcs, g1, g2, g3, g4⟩ := open_acts hf
    simp [Value.cells] at hcs
    obtain ⟨rfl, rfl, rfl⟩ := hcs
    exact ⟨zs, g1, g2, g3, g4⟩
  obtain ⟨a2, rfl, rfl, rfl, w2⟩ := open_int Try.underlying3 (hval 2 3 v2 rfl rfl) h2
  clear hA0 hval0
  refine (law a0 a1 len1 cap1 a2 z1 W (i64_wf w0) (i64_wf w2) hk1 hc1 w1 b1).mono fun e W' ⟨he, bel⟩ => ?_
  subst he
  exact ⟨_, rfl, _, _, _, [], _, [], hW', trodAll_mk1 (shut_bool Try.underlying4 _), (trodAll_cons_mk (shut_int Try.underlying3 w0) (trodAll_cons_mk (Below.trod laidOut (by kernel_rfl) (of_decide_eq_true (by kernel_rfl)) k1 bel lt1) (trodAll_cons_mk (shut_int Try.underlying3 w2) trodAll_mk0))), rfl, bel.frame _, fun h => by cases h⟩

theorem over : Rows.heatShowsRow.holds Try.pinned (OpenSpec.ofChange Rows.heatShowsSpec) :=
  OpenClaim.holds_of_wide 16 Try.f16 rfl rfl rfl rfl rfl rfl rfl ⟨rfl, rfl, rfl, rfl, rfl⟩ rfl rfl rfl rfl rfl (by kernel_rfl) Try.func16 (by kernel_rfl)
    (of_decide_eq_true (by kernel_rfl)) (by unfold Func.isWrapper; first | (rw [if_pos (by decide +kernel)]; kernel_rfl) | (rw [if_neg (by decide +kernel)]; exact ⟨rfl, rfl⟩))
    (fun os started H enc _ => lifted os started H enc)

end Go.Proofs.Ytkeolmipdoeljaa.heatShows
namespace Go.Proofs.Ytkeolmipdoeljaa
/-- The statement. -/
theorem heatShowsProved : Rows.HeatShowsSaid := heatShows.over
#print axioms heatShowsProved
end Go.Proofs.Ytkeolmipdoeljaa

