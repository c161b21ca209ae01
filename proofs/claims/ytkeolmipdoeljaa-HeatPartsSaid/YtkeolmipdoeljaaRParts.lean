/-
  PROVED HERE: 'Rows.HeatPartsSaid': the law quadrupolelaw04.HeatParts returns true at every input, and every argument reads behind the call as it read before. No condition.
-/
import Derived.Test.YtkeolmipdoeljaaOpen
import Derived.Test.YtkeolmipdoeljaaP5
namespace Go.Proofs.Ytkeolmipdoeljaa.heatParts
open Go.ChangeShapes Go.WideShapes Go.ChangeAt Go.RowKit Go.Joins Go.Deep Heat

set_option maxRecDepth 100000 in
set_option maxHeartbeats 4000000 in
theorem law (a0 : Int) (a1 : Option Addr) (len1 cap1 : Nat) (limit : Int) (l : List HAct) (w : World) (_ : I64 a0) (_ : I64 limit) (hk : len1 ≤ cap1) (hc : cap1 ≤ maxLen) (hr : Rd w w.heap.size 3 a1 len1 (actCells l)) (_ : Big l) :
    Calls Try.prog 10 #[.int .i64 a0, .slice a1 len1 cap1, .int .i64 limit] w fun e w' => e = .returned (.bool true) ∧ Below w.heap.size w w' := by
  obtain rfl := hr.act_len
  have hL1 : l.length ≤ maxLen := by omega
  by_cases hL : 100 < l.length
  · have hd : decide (100 < l.length) = true := by simpa using hL
    go_enter Try.func10, Try.ntmps10
    go_wp2_with (first | (go_at_call 18; refine (long _ _ _ _ hL1).mono ?_; rintro e w1 ⟨rfl, rfl⟩) | (go_at_call 19; refine (known _).mono ?_; rintro e w1 ⟨rfl, hb⟩))
    go_ret
    exact ⟨rfl, hb⟩
  · have hd : decide (100 < l.length) = false := by simpa using hL
    have HP := Lib.hid (pFewest a0 a1 l.length cap1 limit l w (by omega) w.heap.size (Nat.le_refl _) hr)
    by_cases h : limited a0 l limit = 0
    · obtain ⟨⟨h1, h2, h3, h4⟩, h5, h6⟩ := limited_ok h
      obtain ⟨N, rfl⟩ := Int.eq_ofNat_of_zero_le (show 0 ≤ a0 by omega)
      have HV := Lib.hid (show validate N l = 0 by unfold limited at h; split at h; assumption; omega)
      have HL := Lib.hid h
      have HF := Lib.hid (show fewestN N l limit = (cnt limit cold l : Int) by rw [fewestN, if_pos h])
      have HS := Lib.hid (parts_sum limit N l h4)
      have hcl := cnt_le limit l cold
      have HU := Lib.hid (fun k (hk : k ≤ N) => sumTo_up (fun j => cnt limit cold (own j l)) k N hk)
      have HO := Lib.hid (fun (q : Nat) (hq : q < N) => show onlyErr N l q = 0 by rw [onlyErr, if_neg (by rw [HV.out]; decide), if_pos (by simp; omega)])
      have HOL := Lib.hid (fun (q : Nat) (hq : q < N) => show onlyL N l q = own q l by rw [onlyL, if_pos (HO.out q hq), keep_own])
      have HOF := Lib.hid (fun (q : Nat) (_ : q < N) => show limited N (own q l) limit = 0 from by
        rw [← keep_own]
        exact limited_sub h (keep_sub _ _) (keep_len _ _))
      have HON := Lib.hid (fun (q : Nat) (hq : q < N) => show fewestN N (own q l) limit = (cnt limit cold (own q l) : Int) by rw [fewestN, if_pos (HOF.out q hq)])
      have HOE := Lib.hid (fun (q : Nat) => show (own q l).length ≤ l.length from List.length_filter_le _ _)
      clear h h4
      go_enter Try.func10, Try.ntmps10
      go_wp2_with (go_at_call 18; refine (long _ _ _ _ hL1).mono ?_; rintro e w1 ⟨rfl, rfl⟩)
      refine HP.out.mono ?_
      rw [HL.out, HF.out]
      rintro e w1 ⟨rfl, hb1⟩
      go_wp2
      go_loopw [9, 10] (fun s i wr => ∃ q : Nat, i = .int .i64 q ∧ q ≤ N ∧ s = .int .i64 ((sumTo (fun j => cnt limit cold (own j l)) q : Nat) : Int) ∧ Below w.heap.size w wr) (fun _ i _ => N - (intOf i).toNat)
      case atStart => exact ⟨0, rfl, Nat.zero_le _, rfl, hb1⟩
      case round =>
        clear hb1
        obtain ⟨q, rfl, hq, rfl, hb⟩ := hrel
        have hsz := hb.size
        by_cases hlt : q < N
        · have hi4 : (q : Int) < 4 := by omega
          have hd1 : decide (q < N) = true := by simpa using hlt
          have hd2 : decide (q < 4) = true := by simp; omega
          have HQ := Lib.hid (show sumTo (fun j => cnt limit cold (own j l)) (q + 1) = sumTo (fun j => cnt limit cold (own j l)) q + cnt limit cold (own q l) from rfl)
          have hbd : sumTo (fun j => cnt limit cold (own j l)) q + cnt limit cold (own q l) ≤ 1000 := by
            have h1 := HU.out (q + 1) (by omega)
            have h2 := HS.out
            have h3 := HQ.out
            omega
          have hol := HOE.out q
          generalize sumTo (fun j => cnt limit cold (own j l)) q = s at *
          go_wp2_with fail
          refine (pOnly N a1 l.length cap1 q l wr (by omega) w.heap.size hsz (hr.below hb)).mono ?_
          rw [HO.out q hlt, HOL.out q hlt]
          rintro e w2 ⟨v, rfl, hown, hb2⟩
          obtain ⟨A2, c2, rfl, _, _⟩ := own_cap hown
          have B2 := hb.trans (hb2.mono hsz)
          have s2 := B2.size
          have hr2 := Rd.of_own hown
          go_wp2_with fail
          refine (pFewest N A2 _ c2 limit (own q l) w2 (by omega) w2.heap.size (Nat.le_refl _) hr2).mono ?_
          rw [HOF.out q hlt, HON.out q hlt]
          rintro e w3 ⟨rfl, hb3⟩
          go_wp2
          go_roundw
          case rel => exact ⟨q + 1, by go_num, by omega, by rw [HQ.out]; go_num, B2.trans (hb3.mono s2)⟩
          case measure => simp [intOf]; omega
        · obtain rfl : q = N := by omega
          have hd1 : decide (q < q) = false := by simp
          rw [HS.out]
          go_wp2_with (go_at_call 19; refine (known _).mono ?_; rintro e w4 ⟨rfl, hb4⟩)
          go_ret
          exact ⟨rfl, hb.trans (hb4.mono hsz)⟩
    · have hd1 : (limited a0 l limit == 0) = false := by simpa using h
      have hd2 : (limited a0 l limit != 0) = true := by simpa using h
      clear h
      go_enter Try.func10, Try.ntmps10
      go_wp2_with (go_at_call 18; refine (long _ _ _ _ hL1).mono ?_; rintro e w1 ⟨rfl, rfl⟩)
      refine HP.out.mono ?_
      rintro e w1 ⟨rfl, hb1⟩
      go_wp2_with (go_at_call 19; refine (known _).mono ?_; rintro e w4 ⟨rfl, hb4⟩)
      go_ret
      exact ⟨rfl, hb1.trans (hb4.mono hb1.size)⟩

set_option maxRecDepth 100000 in
theorem lifted (os : Os) (started : os.Started) (H : Type) (enc : TypeId × Value → H) :
    ReturnsInHanded {} Try.checked os 10 .any (Rows.heatPartsSpec.pre6 enc Try.prog Try.f10 Rows.heatPartsRow.domain false) (Rows.heatPartsSpec.post enc Try.prog Try.f10 false true false false) := by
  refine returnsInHanded_of_change (C := Try.checked) ownKnob_none started (by kernel_rfl) Try.func10
    (ChangeSpec.witness6 (enc := enc) (C := Try.checked) false ⟨#[], #[.int .i64 0, .slice none 0 0, .int .i64 0], []⟩ 8 (by kernel_rfl) (by kernel_rfl) (by kernel_rfl) (by kernel_rfl)) ?_
  intro W base args ds gs before hval0 hW hcnd _
  have hval : ∀ (j : Nat) t v, Try.f10.params[j]? = some t → args[j]? = some v → Value.okWide Try.prog W .any base t v := hval0
  have hW' := hW
  obtain ⟨p, q, hA0, hV, rfl, hfz, hnd⟩ := hW
  have hA : DataW.TrodAll enc Try.prog W 0 (fun _ => true) true Try.f10.params.toList args.toList ds p := hA0
  rw [Try.params10] at hA hval
  obtain ⟨v0, vs0, d0, ds0, p0, q0, hargs, rfl, rfl, h0, r0⟩ := trodAll_cons hA
  obtain ⟨v1, vs1, d1, ds1, p1, q1, rfl, rfl, rfl, h1, r1⟩ := trodAll_cons r0
  obtain ⟨v2, vs2, d2, ds2, p2, q2, rfl, rfl, rfl, h2, r2⟩ := trodAll_cons r1
  obtain ⟨rfl, rfl, rfl⟩ := trodAll_nil r2
  obtain rfl : args = #[v0, v1, v2] := by cases args; simp_all
  obtain ⟨rfl, rfl⟩ := trodVars_none hV
  obtain ⟨a0, rfl, rfl, rfl, w0⟩ := open_int Try.underlying3 (hval 0 3 v0 rfl rfl) h0
  obtain ⟨a1, len1, cap1, rfl⟩ := okWide_slice Try.underlying22 (hval 1 22 v1 rfl rfl)
  have k1 := h1
  have lt1 : ∀ x ∈ p1, x.block < W.heap.size := by obtain ⟨m, hm⟩ := k1; exact DataW.trod_lt m _ _ _ hm
  obtain ⟨z1, hk1, hc1, w1, b1⟩ : ∃ zs, len1 ≤ cap1 ∧ cap1 ≤ maxLen ∧ Rd W W.heap.size 3 a1 len1 (actCells zs) ∧ Big zs := by
    obtain ⟨fuel, hf⟩ := h1
    obtain ⟨A, l, c, zs, hcs, g1, g2, g3, g4⟩ := open_acts hf
    simp [Value.cells] at hcs
    obtain ⟨rfl, rfl, rfl⟩ := hcs
    exact ⟨zs, g1, g2, g3, g4⟩
  obtain ⟨a2, rfl, rfl, rfl, w2⟩ := open_int Try.underlying3 (hval 2 3 v2 rfl rfl) h2
  clear hA0 hval0
  refine (law a0 a1 len1 cap1 a2 z1 W (i64_wf w0) (i64_wf w2) hk1 hc1 w1 b1).mono fun e W' ⟨he, bel⟩ => ?_
  subst he
  exact ⟨_, rfl, _, _, _, [], _, [], hW', trodAll_mk1 (shut_bool Try.underlying4 _), (trodAll_cons_mk (shut_int Try.underlying3 w0) (trodAll_cons_mk (Below.trod laidOut (by kernel_rfl) (of_decide_eq_true (by kernel_rfl)) k1 bel lt1) (trodAll_cons_mk (shut_int Try.underlying3 w2) trodAll_mk0))), rfl, bel.frame _, fun h => by cases h⟩

theorem over : Rows.heatPartsRow.holds Try.pinned (OpenSpec.ofChange Rows.heatPartsSpec) :=
  OpenClaim.holds_of_wide 10 Try.f10 rfl rfl rfl rfl rfl rfl rfl ⟨rfl, rfl, rfl, rfl, rfl⟩ rfl rfl rfl rfl rfl (by kernel_rfl) Try.func10 (by kernel_rfl)
    (of_decide_eq_true (by kernel_rfl)) (by unfold Func.isWrapper; first | (rw [if_pos (by decide +kernel)]; kernel_rfl) | (rw [if_neg (by decide +kernel)]; exact ⟨rfl, rfl⟩))
    (fun os started H enc _ => lifted os started H enc)

end Go.Proofs.Ytkeolmipdoeljaa.heatParts
namespace Go.Proofs.Ytkeolmipdoeljaa
/-- The statement. -/
theorem heatPartsProved : Rows.HeatPartsSaid := heatParts.over
#print axioms heatPartsProved
end Go.Proofs.Ytkeolmipdoeljaa

