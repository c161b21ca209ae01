/-
  PROVED HERE: 'Rows.HeatChecksSaid': the law quadrupolelaw04.HeatChecks returns true at every input, and every argument reads behind the call as it read before. No condition.
-/
import Derived.Test.YtkeolmipdoeljaaOpen
import Derived.Test.YtkeolmipdoeljaaW11
import Derived.Test.YtkeolmipdoeljaaW26
namespace Go.Proofs.Ytkeolmipdoeljaa.heatChecks
open Go.ChangeShapes Go.WideShapes Go.ChangeAt Go.RowKit Go.Joins Go.Deep Heat

set_option maxRecDepth 100000 in
set_option maxHeartbeats 4000000 in
theorem law (a0 : Int) (a1 a2 : Option Addr) (len1 cap1 len2 cap2 : Nat) (lim : Int) (l ws : List HAct) (w : World) (_ : I64 a0) (_ : I64 lim) (hk : len1 ≤ cap1) (hc : cap1 ≤ maxLen) (hr : Rd w w.heap.size 3 a1 len1 (actCells l)) (_ : Big l) (hk' : len2 ≤ cap2) (hc' : cap2 ≤ maxLen) (hr' : Rd w w.heap.size 3 a2 len2 (actCells ws)) (_ : Big ws) :
    Calls Try.prog 15 #[.int .i64 a0, .slice a1 len1 cap1, .agg #[.slice a2 len2 cap2, .int .i64 lim]] w fun e w' => e = .returned (.bool true) ∧ Below w.heap.size w w' := by
  obtain rfl := hr.act_len
  obtain rfl := hr'.act_len
  have hL1 : l.length ≤ maxLen := by omega
  have hL2 : ws.length ≤ maxLen := by omega
  have hB0 := (Below.refl w.heap.size w).alloc (Nat.le_refl _) (.cells #[.slice a2 ws.length cap2, .int .i64 lim] 61)
  by_cases hL : 100 < l.length
  · have hd : decide (100 < l.length) = true := by simpa using hL
    go_enter Try.func15, Try.ntmps15
    go_wp2_with (first | (go_at_call 18; refine (long _ _ _ _ hL1).mono ?_; rintro e w1 ⟨rfl, rfl⟩) | (go_at_call 19; refine (known _).mono ?_; rintro e w1 ⟨rfl, hb⟩))
    go_ret
    exact ⟨rfl, hB0.trans (hb.mono (by simp))⟩
  · have hd : decide (100 < l.length) = false := by simpa using hL
    by_cases hW : 100 < ws.length
    · have hd2 : decide (100 < ws.length) = true := by simpa using hW
      go_enter Try.func15, Try.ntmps15
      go_wp2_with fail
      refine (long _ _ _ _ hL1).mono ?_
      rintro e w1 ⟨rfl, rfl⟩
      go_wp2_with fail
      refine (long _ _ _ _ hL2).mono ?_
      rintro e w1 ⟨rfl, rfl⟩
      go_wp2_with (go_at_call 19; refine (known _).mono ?_; rintro e w1 ⟨rfl, hb⟩)
      go_ret
      exact ⟨rfl, hB0.trans (hb.mono (by simp))⟩
    · have hd2 : decide (100 < ws.length) = false := by simpa using hW
      have HP := Lib.hid (pCheckInsert a0 a1 a2 l.length cap1 ws.length cap2 lim l ws (w.alloc (.cells #[.slice a2 ws.length cap2, .int .i64 lim] 61)) (by omega) (by omega) w.heap.size (by simp) (hr.alloc (Nat.le_refl _) _) (hr'.alloc (Nat.le_refl _) _))
      have HX := Lib.hid (blk_new w 61 #[.slice a2 ws.length cap2, .int .i64 lim])
      by_cases h : checkErr a0 l ws lim = 0
      · obtain ⟨h0, hle⟩ := check_le h
        have HL := Lib.hid h0
        have HE := Lib.hid h
        have HF := Lib.hid (show fewestN a0 l lim = (cnt lim cold l : Int) by rw [fewestN, if_pos h0])
        obtain ⟨CN, hCN⟩ : ∃ x, x = checkN a0 l ws lim := ⟨_, rfl⟩
        rw [← hCN] at hle HP
        have HCN := Lib.hid hCN
        have hdd : decide ((cnt lim cold l : Int) ≤ CN) = true := by simpa using hle
        clear h h0 hCN
        go_enter Try.func15, Try.ntmps15
        go_wp2_with fail
        refine (long _ _ _ _ hL1).mono ?_
        rintro e w1 ⟨rfl, rfl⟩
        go_wp2_with fail
        refine (long _ _ _ _ hL2).mono ?_
        rintro e w1 ⟨rfl, rfl⟩
        go_wp2_with fail
        refine HP.out.mono ?_
        rw [HE.out]
        rintro e w1 ⟨rfl, hb1⟩
        have x1 := blk_below HX.out hb1 (by simp)
        have B1 := hB0.trans (hb1.mono (by simp))
        have s1 := B1.size
        have c0 : w1.cell? ⟨w.heap.size, 0, none⟩ = some (.slice a2 ws.length cap2) := blk_cell x1 0
        have c1 : w1.cell? ⟨w.heap.size, 1, none⟩ = some (.int .i64 lim) := blk_cell x1 1
        have X1 := Lib.hid x1
        clear x1
        go_wp2_with fail
        refine (rCheckInsert a0 a1 a2 l.length cap1 ws.length cap2 lim l ws w1 (by omega) (by omega) w.heap.size s1 (hr.below B1) (hr'.below B1)).mono ?_
        rw [HE.out, ← HCN.out]
        rintro e w2 ⟨rfl, hb2⟩
        have B2 := B1.trans (hb2.mono s1)
        have s2 := B2.size
        have x2 := blk_below X1.out hb2 (blk_lt X1.out)
        have d1 : w2.cell? ⟨w.heap.size, 1, none⟩ = some (.int .i64 lim) := blk_cell x2 1
        have X2 := Lib.hid x2
        clear x2 c0 c1
        go_wp2_with fail
        refine (pFewest a0 a1 l.length cap1 lim l w2 (by omega) w.heap.size s2 (hr.below B2)).mono ?_
        rw [HL.out, HF.out]
        rintro e w3 ⟨rfl, hb3⟩
        go_wp2_with (go_at_call 19; refine (known _).mono ?_; rintro e w4 ⟨rfl, hb4⟩)
        go_ret
        have B3 := B2.trans (hb3.mono s2)
        exact ⟨rfl, B3.trans (hb4.mono B3.size)⟩
      · have d1 : (checkErr a0 l ws lim == 0) = false := by simpa using h
        have d2 : (checkErr a0 l ws lim != 0) = true := by simpa using h
        clear h
        go_enter Try.func15, Try.ntmps15
        go_wp2_with fail
        refine (long _ _ _ _ hL1).mono ?_
        rintro e w1 ⟨rfl, rfl⟩
        go_wp2_with fail
        refine (long _ _ _ _ hL2).mono ?_
        rintro e w1 ⟨rfl, rfl⟩
        go_wp2_with fail
        refine HP.out.mono ?_
        rintro e w1 ⟨rfl, hb1⟩
        have x1 := blk_below HX.out hb1 (by simp)
        have B1 := hB0.trans (hb1.mono (by simp))
        have s1 := B1.size
        have c0 : w1.cell? ⟨w.heap.size, 0, none⟩ = some (.slice a2 ws.length cap2) := blk_cell x1 0
        have c1 : w1.cell? ⟨w.heap.size, 1, none⟩ = some (.int .i64 lim) := blk_cell x1 1
        have X1 := Lib.hid x1
        clear x1
        go_wp2_with fail
        refine (rCheckInsert a0 a1 a2 l.length cap1 ws.length cap2 lim l ws w1 (by omega) (by omega) w.heap.size s1 (hr.below B1) (hr'.below B1)).mono ?_
        rintro e w2 ⟨rfl, hb2⟩
        have B2 := B1.trans (hb2.mono s1)
        have s2 := B2.size
        have x2 := blk_below X1.out hb2 (blk_lt X1.out)
        have d1 : w2.cell? ⟨w.heap.size, 1, none⟩ = some (.int .i64 lim) := blk_cell x2 1
        have X2 := Lib.hid x2
        clear x2 c0 c1
        go_wp2_with fail
        refine (pFewest a0 a1 l.length cap1 lim l w2 (by omega) w.heap.size s2 (hr.below B2)).mono ?_
        rintro e w3 ⟨rfl, hb3⟩
        go_wp2_with (go_at_call 19; refine (known _).mono ?_; rintro e w4 ⟨rfl, hb4⟩)
        go_ret
        have B3 := B2.trans (hb3.mono s2)
        exact ⟨rfl, B3.trans (hb4.mono B3.size)⟩

set_option maxRecDepth 100000 in
theorem lifted (os : Os) (started : os.Started) (H : Type) (enc : TypeId × Value → H) :
    ReturnsInHanded {} Try.checked os 15 .any (Rows.heatChecksSpec.pre6 enc Try.prog Try.f15 Rows.heatChecksRow.domain false) (Rows.heatChecksSpec.post enc Try.prog Try.f15 false true false false) := by
  refine returnsInHanded_of_change (C := Try.checked) ownKnob_none started (by kernel_rfl) Try.func15
    (ChangeSpec.witness6 (enc := enc) (C := Try.checked) false ⟨#[], #[.int .i64 0, .slice none 0 0, .agg #[.slice none 0 0, .int .i64 0]], []⟩ 8 (by kernel_rfl) (by kernel_rfl) (by kernel_rfl) (by kernel_rfl)) ?_
  intro W base args ds gs before hval0 hW hcnd _
  have hval : ∀ (j : Nat) t v, Try.f15.params[j]? = some t → args[j]? = some v → Value.okWide Try.prog W .any base t v := hval0
  have hW' := hW
  obtain ⟨p, q, hA0, hV, rfl, hfz, hnd⟩ := hW
  have hA : DataW.TrodAll enc Try.prog W 0 (fun _ => true) true Try.f15.params.toList args.toList ds p := hA0
  rw [Try.params15] at hA hval
  obtain ⟨v0, vs0, d0, ds0, p0, q0, hargs, rfl, rfl, h0, r0⟩ := trodAll_cons hA
  obtain ⟨v1, vs1, d1, ds1, p1, q1, rfl, rfl, rfl, h1, r1⟩ := trodAll_cons r0
  obtain ⟨v2, vs2, d2, ds2, p2, q2, rfl, rfl, rfl, h2, r2⟩ := trodAll_cons r1
  obtain ⟨rfl, rfl, rfl⟩ := trodAll_nil r2
  obtain rfl : args = #[v0, v1, v2] := by cases args; simp_all
  obtain ⟨rfl, rfl⟩ := trodVars_none hV
  obtain ⟨a0, rfl, rfl, rfl, w0⟩ := open_int Try.underlying3 (hval 0 3 v0 rfl rfl) h0
  obtain ⟨a1, len1, cap1, rfl⟩ := okWide_slice Try.underlying22 (hval 1 22 v1 rfl rfl)
  have k1 := h1
  have lt1 : ∀ x ∈ p1, x.block < W.heap.size := by obtain ⟨m, hm⟩ := k1; exact DataW.trod_lt m _ _ _ hm
  obtain ⟨z1, hk1, hc1, w1, b1⟩ : ∃ zs, len1 ≤ cap1 ∧ cap1 ≤ maxLen ∧ Rd W W.heap.size 3 a1 len1 (actCells zs) ∧ Big zs := by
    obtain ⟨fuel, hf⟩ := h1
    obtain ⟨A, l, c, zs, hcs, g1, g2, g3, g4⟩ := open_acts hf
    simp [Value.cells] at hcs
    obtain ⟨rfl, rfl, rfl⟩ := hcs
    exact ⟨zs, g1, g2, g3, g4⟩
  have k2 := h2
  have lt2 : ∀ x ∈ p2, x.block < W.heap.size := by obtain ⟨m, hm⟩ := k2; exact DataW.trod_lt m _ _ _ hm
  obtain ⟨u0, u1, y0, y1, n, rfl, _, _, t0, t1⟩ := open_agg2 Try.underlying61 (by kernel_rfl) (by kernel_rfl) (hval 2 61 v2 rfl rfl) h2
  obtain ⟨a3, e1, _, w3⟩ := DataW.trod_int Try.underlying3 t1
  obtain ⟨a2, len2, cap2, z2, e0, hk2, hc2, w2, b2⟩ := open_acts t0
  simp at e0 e1
  subst e0 e1
  clear hA0 hval0
  refine (law a0 a1 a2 len1 cap1 len2 cap2 a3 z1 z2 W (i64_wf w0) (i64_wf w3) hk1 hc1 w1 b1 hk2 hc2 w2 b2).mono fun e W' ⟨he, bel⟩ => ?_
  subst he
  exact ⟨_, rfl, _, _, _, [], _, [], hW', trodAll_mk1 (shut_bool Try.underlying4 _), (trodAll_cons_mk (shut_int Try.underlying3 w0) (trodAll_cons_mk (Below.trod laidOut (by kernel_rfl) (of_decide_eq_true (by kernel_rfl)) k1 bel lt1) (trodAll_cons_mk (Below.trod laidOut (by kernel_rfl) (of_decide_eq_true (by kernel_rfl)) k2 bel lt2) trodAll_mk0))), rfl, bel.frame _, fun h => by cases h⟩

theorem over : Rows.heatChecksRow.holds Try.pinned (OpenSpec.ofChange Rows.heatChecksSpec) :=
  OpenClaim.holds_of_wide 15 Try.f15 rfl rfl rfl rfl rfl rfl rfl ⟨rfl, rfl, rfl, rfl, rfl⟩ rfl rfl rfl rfl rfl (by kernel_rfl) Try.func15 (by kernel_rfl)
    (of_decide_eq_true (by kernel_rfl)) (by unfold Func.isWrapper; first | (rw [if_pos (by decide +kernel)]; kernel_rfl) | (rw [if_neg (by decide +kernel)]; exact ⟨rfl, rfl⟩))
    (fun os started H enc _ => lifted os started H enc)

end Go.Proofs.Ytkeolmipdoeljaa.heatChecks
namespace Go.Proofs.Ytkeolmipdoeljaa
/-- The statement. -/
theorem heatChecksProved : Rows.HeatChecksSaid := heatChecks.over
#print axioms heatChecksProved
end Go.Proofs.Ytkeolmipdoeljaa

