/-
  WALK: the reference's Smooth. (Printed by gen_w37.py.)
-/
import Derived.Test.YtejjogpgolgdgaaP5
import Derived.Test.YtejjogpgolgdgaaW12
namespace Go.Proofs.Ytejjogpgolgdgaa
open Go.RowKit Pulse

set_option maxRecDepth 100000 in
set_option maxHeartbeats 8000000 in
theorem rSmooth (A A' : Option Addr) (k c k' c' : Nat) (g row : List (List Int)) (w : World) (hs : Sm g) (hs' : Sm row) (B : Nat) (hB : B ≤ w.heap.size) (hr : TRd w B A k g) (hr' : TRd w B A' k' row) :
    Calls Try.prog 35 #[.slice A k c, .slice A' k' c'] w fun e w' => e = .returned (.tuple #[.int .i64 (smoothN g row), .bool (smoothIs g row), .int .i64 (rowE g row)]) ∧ Below w.heap.size w w' := by
  have hr := hr.more hB
  have hr' := hr'.more hB
  obtain rfl := hr.len
  obtain rfl := hr'.len
  have HP := Lib.hid (rRowed A A' g.length c row.length c' g row w hs hs' w.heap.size (Nat.le_refl _) hr hr')
  by_cases h : rowE g row = 0
  · have HV := Lib.hid h
    obtain ⟨hv, h1, h5, _⟩ := rowE_ok h
    rw [h] at HP
    obtain ⟨Q, hQ⟩ : ∃ Q, row.length = Q + 1 := ⟨row.length - 1, by omega⟩
    have HQ := Lib.hid hQ
    have HFI := Lib.hid (fun (m : Nat) hno hyes => smooth_first (m := m) h hQ hno hyes)
    have HNO := Lib.hid (fun (m : Nat) hm hno => smooth_none (m := m) h hQ hm hno)
    have HSN := Lib.hid (fun h => smoothN_else (g := g) (row := row) h)
    have HRS := Lib.hid hs'.2
    have HG := Lib.hid hv
    have HNL := Lib.hid (fun (m : Int) (i : Nat) => nowL_len (row := row) (m := m) hv i)
    have HNR := Lib.hid (fun (m : Int) (i : Nat) => nowL_rows (g := g) (row := row) (m := m) (i := i))
    have HML := Lib.hid (fun l => makeL_len (l := l) hv)
    clear hv h hQ
    have hq0 : 0 < row.length := by omega
    go_enter Try.func35, Try.ntmps35
    go_wp2_with fail
    refine (HP.out).mono ?_
    rintro e w1 ⟨rfl, hb1⟩
    have s1 := hb1.size
    have HB1 := Lib.hid hb1
    have hr := (hr.below hb1).more s1
    have hr' := (hr'.below hb1).more s1
    clear hb1
    have hr1 := hr
    have hr1' := hr'
    clear hr hr'
    go_wp2
    go_loopw [8] (fun x wr => ∃ m : Nat, x = .int .i64 m ∧ m ≤ 7 ∧ Hid (∀ i : Nat, i < m → (nowL g row i Q).length = 0) ∧ Below w1.heap.size w1 wr) (fun x _ => 7 - (intOf x).toNat)
    case atStart => exact ⟨0, rfl, by omega, fun i h => absurd h (by omega), Below.refl _ _⟩
    case round =>
      obtain ⟨m, rfl, hm7, HN, hb⟩ := hrel
      obtain ⟨wm, hwm⟩ : ∃ z, z = wr := ⟨_, rfl⟩
      rw [← hwm] at hb ⊢
      clear hwm
      have hsm := hb.size
      by_cases hlt : m < 7
      · obtain ⟨b0, o0, A0, c0, rfl, lb0, g0, _, _, r0⟩ := (hr1'.below' hb (Nat.le_refl _)).row hq0
        rw [Nat.add_zero] at g0
        have hx0 := HRS.out _ (List.getElem_mem hq0)
        have HN0 := Lib.hid (show nowL g row m 0 = makeL g row[0] by rw [nowL]; simp [List.getD, List.getElem?_eq_getElem hq0])
        obtain ⟨l0, hl0⟩ : ∃ l0, l0 = row[0] := ⟨_, rfl⟩
        rw [← hl0] at g0 r0 hx0 HN0
        clear hl0
        have hm6 : (m : Int) ≤ 6 := by omega
        have HBM := Lib.hid hb
        go_wp2_with fail
        refine (rmeeting _ _ _ c _ c0 g l0 wm HG.out hx0 w1.heap.size hsm (hr1.below' hb (Nat.le_refl _)) r0).mono ?_
        rw [← HN0.out]
        rintro e w2 ⟨u2, rfl, hown2, hb2⟩
        obtain ⟨A2, c2, rfl, r2⟩ := hown2.cap
        have HB2 := Lib.hid (hb.trans (hb2.mono hsm))
        clear hown2 hb2 r0 hb HBM HN0
        have sz2 := HB2.out.size
        go_wp2
        go_loopw [10, 9] (fun x y wr => ∃ (q : Nat) (An : Option Addr) (cn : Nat), x = .int .i64 ((q : Int) + 1) ∧ y = .slice An (nowL g row m q).length cn ∧ q + 1 ≤ row.length ∧ TRd wr wr.heap.size An (nowL g row m q).length (nowL g row m q) ∧ Below w1.heap.size w1 wr) (fun x _ _ => row.length - (intOf x).toNat)
        case atStart => exact ⟨0, A2, c2, rfl, rfl, by omega, r2, HB2.out⟩
        case round =>
          clear r2 HB2 sz2
          obtain ⟨q, An, cn, rfl, rfl, hq, rn, hb⟩ := hrel
          obtain ⟨wi, hwi⟩ : ∃ z, z = wr := ⟨_, rfl⟩
          rw [← hwi] at hb rn ⊢
          clear hwi
          have hsi := hb.size
          have hnl := HNL.out m q
          have HNF := Lib.hid (HNR.out m q)
          by_cases hltq : q + 1 < row.length
          · obtain ⟨A1, c1, _, lb1, g1, _, _, r1⟩ := (hr1'.below' hb (Nat.le_refl _)).rowAt hltq
            have hx1 := HRS.out _ (List.getElem_mem hltq)
            have HN1 := Lib.hid (show nowL g row m (q + 1) = stepTo m (nowL g row m q) (makeL g row[q + 1]) (makeL g row[q + 1]).length by rw [nowL]; simp [List.getD, List.getElem?_eq_getElem hltq])
            obtain ⟨l1, hl1⟩ : ∃ l1, l1 = row[q + 1] := ⟨_, rfl⟩
            rw [← hl1] at g1 r1 hx1 HN1
            clear hl1
            obtain ⟨now, hnow⟩ : ∃ now, now = nowL g row m q := ⟨_, rfl⟩
            rw [← hnow] at rn hnl HNF HN1 ⊢
            clear hnow
            have zq0 : (0 : Int) ≤ (q : Int) + 1 := by omega
            have zq1 : (q : Int) + 1 < (row.length : Int) := by omega
            have hml := HML.out l1
            have HMF := Lib.hid (fun v => makeL_rows (g := g) (l := l1) (v := v))
            have rg := hr1.below' hb (Nat.le_refl _)
            go_wp2_with fail
            refine (rmeeting _ _ _ c _ c1 g l1 wi HG.out hx1 w1.heap.size hsi rg r1).mono ?_
            obtain ⟨M, hM⟩ : ∃ M, M = makeL g l1 := ⟨_, rfl⟩
            rw [← hM] at hml HMF HN1 ⊢
            clear hM r1 rg
            rintro e w3 ⟨u3, rfl, hown3, hb3⟩
            have rM := hown3.cap
            obtain ⟨vsM, hoM, htM⟩ := hown3
            obtain ⟨A3, c3, rfl, r3⟩ := rM
            have HTM := Lib.hid htM
            have HOM := Lib.hid hoM
            have s3 := hb3.size
            have rn := rn.below hb3
            have HB3 := Lib.hid (hb.trans (hb3.mono hsi))
            clear hoM htM hb3 hb
            go_wp2
            go_loopw [13, 11] (fun x u wr => ∃ (kk : Nat) (vs : List Value), x = .int .i64 kk ∧ kk ≤ M.length ∧ wr.ownsRow w3.heap.size 23 1 u (stepTo m now M kk).length vs ∧ Tab wr wr.heap.size (fun x => x < wi.heap.size ∨ u.ownBlock = some x) vs (stepTo m now M kk) ∧ Below w3.heap.size w3 wr) (fun x _ _ => M.length - (intOf x).toNat)
            case atStart => exact ⟨0, [], rfl, Nat.zero_le _, by exact World.ownsRow_nil .., by exact Tab.nil, Below.refl _ _⟩
            case round =>
              obtain ⟨kk, vs, rfl, hkk, hown, htab, hb⟩ := hrel
              obtain ⟨wk, hwk⟩ : ∃ z, z = wr := ⟨_, rfl⟩
              rw [← hwk] at hb hown htab ⊢
              clear hwk
              have hsk := hb.size
              have HO := Lib.hid (And.intro hown (And.intro htab hb))
              obtain ⟨Au, cu, rfl, _, _⟩ := own_cap hown
              have hln : (stepTo m now M kk).length ≤ 343 := by have h := List.length_filter_le (nearB m now) (M.take kk); have h2 := List.length_take_le kk M; unfold stepTo; omega
              clear hown htab
              by_cases hltk : kk < M.length
              · have HST := Lib.hid (stepTo_succ (m := m) (now := now) hltk)
                obtain ⟨b3, o3, A5, c5, rfl, lb5, g5, _, _, r5⟩ := (r3.below' hb (Nat.le_refl _)).row hltk
                have HVF := Lib.hid (HMF.out _ (List.getElem_mem hltk))
                have HVA := Lib.hid (HTM.out.row hltk)
                obtain ⟨v, hvv⟩ : ∃ v, v = M[kk] := ⟨_, rfl⟩
                rw [← hvv] at g5 r5 HVF HVA HST
                clear hvv
                have hvl : v.length ≤ 3 := by have := HVF.out.1; have := (vldG_ok HG.out).2.2.2.1; omega
                have zk0 : (0 : Int) ≤ (kk : Int) := by omega
                have zk1 : (kk : Int) < (M.length : Int) := by omega
                have HBK := Lib.hid hb
                clear hb
                go_wp2
                go_loopw [14, 11] (fun x y wr => ∃ j : Nat, x = .int .i64 j ∧ y = .slice Au (stepTo m now M kk).length cu ∧ j ≤ now.length ∧ Hid (nearB m (now.take j) v = false) ∧ Below wk.heap.size wk wr) (fun x _ _ => now.length - (intOf x).toNat)
                case atStart => exact ⟨0, rfl, rfl, Nat.zero_le _, rfl, Below.refl _ _⟩
                case round =>
                  obtain ⟨j, rfl, rfl, hj, HNB, hbj⟩ := hrel
                  have hsj := hbj.size
                  by_cases hltj : j < now.length
                  · have hb37 := HBK.out.trans (hbj.mono hsk)
                    obtain ⟨b6, o6, A6, c6, rfl, lb6, g6, _, _, r6⟩ := (rn.below' hb37 s3).row hltj
                    have HUF := Lib.hid (HNF.out _ (List.getElem_mem hltj))
                    have HNT := Lib.hid (near_take (m := m) (v := v) hltj)
                    have HNO2 := Lib.hid (fun h => near_of (m := m) (v := v) hltj h)
                    obtain ⟨u, huu⟩ : ∃ u, u = now[j] := ⟨_, rfl⟩
                    rw [← huu] at g6 r6 HUF HNT HNO2
                    clear huu
                    have hul : u.length ≤ 3 := by have := HUF.out.1; have := (vldG_ok HG.out).2.2.2.1; omega
                    have HLV := Lib.hid (show v.length = u.length by rw [HUF.out.1, HVF.out.1])
                    have z3 := jumpL_nn u v
                    have z4 := jumpL_le (x := 3) (y := 3) (by decide) (by decide) HUF.out.2 HVF.out.2
                    have r5j := (r5.below' hbj hsk).more (B' := wr.heap.size) (by omega)
                    have r6j := r6.more (B' := wr.heap.size) (by omega)
                    have HA := Lib.hid (fun s => rjump _ _ _ c6 _ c5 u v (mergeW wr s) (by omega) HLV.out (fun f hf => by have := HUF.out.2 f hf; omega) (fun f hf => by have := HVF.out.2 f hf; omega) wr.heap.size (below_mergeW wr s).size (r6j.below (below_mergeW wr s)) (r5j.below (below_mergeW wr s)))
                    obtain ⟨z, hz⟩ : ∃ z, z = jumpL u v := ⟨_, rfl⟩
                    rw [← hz] at HA HNT HNO2 z3 z4
                    clear hz r6j r5j r6
                    have g5j := (hbj.cell (p := ⟨b3, o3 + kk, none⟩) (show b3 < wk.heap.size by omega)).trans g5
                    have zj0 : (0 : Int) ≤ (j : Int) := by omega
                    have zj1 : (j : Int) < (now.length : Int) := by omega
                    have mc := cell_mergeW wr
                    have mf := frozen_mergeW wr
                    have lb7 : b3 < wr.heap.size := by omega
                    have lb8 : b6 < wr.heap.size := by omega
                    by_cases hzm : z ≤ (m : Int)
                    · have hd : decide (z ≤ (m : Int)) = true := decide_eq_true hzm
                      have HNV := Lib.hid (HNO2.out hzm)
                      go_wp2
                      refine wp_region_btail 10 (by kernel_rfl) (by kernel_rfl) ?_
                      simp only [List.take_succ_cons, List.take_zero, List.drop_succ_cons, List.drop_zero]
                      repeat (go_big_quiet_step (first | (go_at_call 77; refine (HA.out _).mono ?_; rintro e w7 ⟨rfl, hb7⟩; exact ⟨rfl, in_mergeW hb7⟩)))
                      refine wpQuiet_nil ?_
                      rintro w7 ⟨s7, hs7⟩
                      have hb7 := below_mergeW wr s7
                      rw [← hs7] at hb7
                      clear hs7 mc mf HA
                      have HBL := Lib.hid (hbj.trans (hb7.mono hsj))
                      have g5j := (hb7.cell (p := ⟨b3, o3 + kk, none⟩) lb7).trans g5j
                      clear hb7 hbj hb37 g6
                      have u1 := own_below HO.out.1 HBL.out
                      have sL := HBL.out.size
                      have HBX := Lib.hid (HBK.out.trans (HBL.out.mono hsk))
                      have HTX := Lib.hid ((HO.out.2.1.below HBL.out (Nat.le_refl _)).more sL)
                      obtain ⟨hv5, he5, hra5⟩ := HVA.out
                      have HRA := Lib.hid (show RowAt w7 w7.heap.size (fun x => x < wi.heap.size ∨ (Value.slice Au (stepTo m now M kk).length cu).ownBlock = some x) hv5 v from by
                        have h1 := hra5.at (X' := fun x => x < wi.heap.size ∨ (Value.slice Au (stepTo m now M kk).length cu).ownBlock = some x) (fun x hx => by
                          rcases hx with hx | hx
                          · exact .inl (.inl hx)
                          · exact .inr (HO.out.1.lt x hx).1)
                        exact (h1.below HBX.out (Nat.le_refl _)).more HBX.out.size)
                      have hhv : hv5 = .slice A5 v.length c5 := by
                        obtain ⟨b', o', e', _, hc'⟩ := (Rd.of_own HOM.out).head he5
                        injection e' with e'
                        injection e' with e1 e2
                        subst e1 e2
                        have := (HBX.out.cell (p := ⟨b3, o3 + kk, none⟩) (by omega)).trans hc'
                        rw [g5j] at this
                        injection this with this
                        exact this.symm
                      subst hhv
                      clear hra5 he5
                      go_wp2_with (at_builtin; go_must (refine app1x rfl (.tmp 65) (.tmp 70) 22 rfl 23 _ 1 24 E22 w3.heap.size _ _ _ _ rfl u1 _ rfl ?_ ?_ ?_ ?_ ?_ ?_); rfl; rfl; rfl; omega; omega; intro v8 w8 hown8 hg8 hx8)
                      have HT8 := Lib.hid (tab_push (L := fun x => x < wi.heap.size) HTX.out HRA.out hg8 hx8)
                      have HB8 := Lib.hid (below_own HBX.out (by omega) u1 (Nat.le_refl _) hg8)
                      have HO8 := Lib.hid hown8
                      have HS8 := Lib.hid (show stepTo m now M (kk + 1) = stepTo m now M kk ++ [v] by rw [HST.out, if_pos HNV.out])
                      clear hown8 hg8 hx8 u1
                      go_roundw
                      case rel => exact ⟨kk + 1, _, by go_num, by omega, by rw [HS8.out, List.length_append]; exact HO8.out, by rw [HS8.out]; exact HT8.out, HB8.out⟩
                      case measure => simp [intOf]; omega
                    · have hd : decide (z ≤ (m : Int)) = false := decide_eq_false hzm
                      have HNB2 := Lib.hid (show nearB m (now.take (j + 1)) v = false by rw [HNT.out, HNB.out, hd]; rfl)
                      go_wp2
                      refine wp_region_btail 10 (by kernel_rfl) (by kernel_rfl) ?_
                      simp only [List.take_succ_cons, List.take_zero, List.drop_succ_cons, List.drop_zero]
                      repeat (go_big_quiet_step (first | (go_at_call 77; refine (HA.out _).mono ?_; rintro e w7 ⟨rfl, hb7⟩; exact ⟨rfl, in_mergeW hb7⟩)))
                      refine wpQuiet_nil ?_
                      rintro w7 ⟨s7, hs7⟩
                      have hb7 := below_mergeW wr s7
                      rw [← hs7] at hb7
                      clear hs7 mc mf HA
                      have HBL := Lib.hid (hbj.trans (hb7.mono hsj))
                      clear hb7 hbj
                      go_wp2
                      go_roundw
                      case rel => exact ⟨j + 1, by go_num, rfl, by omega, HNB2.out, HBL.out⟩
                      case measure => simp [intOf]; omega
                  · obtain rfl : j = now.length := by omega
                    have HS8 := Lib.hid (show stepTo m now M (kk + 1) = stepTo m now M kk by rw [HST.out, if_neg (by rw [← List.take_length (l := now), HNB.out]; decide), List.append_nil])
                    have HOU := Lib.hid (own_below HO.out.1 hbj)
                    have HTX := Lib.hid ((HO.out.2.1.below hbj (Nat.le_refl _)).more hsj)
                    have HBX := Lib.hid (HBK.out.trans (hbj.mono hsk))
                    clear hbj
                    go_wp2
                    go_roundw
                    case rel => exact ⟨kk + 1, vs, by go_num, by omega, by rw [HS8.out]; exact HOU.out, by rw [HS8.out]; exact HTX.out, HBX.out⟩
                    case measure => simp [intOf]; omega
              · obtain rfl : kk = M.length := by omega
                have HTR := Lib.hid (TRd.of_own HO.out.1 HO.out.2.1)
                have HBX := Lib.hid (HB3.out.trans (hb.mono (by omega)))
                rw [← HN1.out] at HTR
                have HN2 := Lib.hid (show (stepTo m now M M.length).length = (nowL g row m (q + 1)).length by rw [HN1.out])
                clear hb
                go_wp2
                go_roundw
                case rel => exact ⟨q + 1, Au, cu, by go_num, by rw [HN2.out], by omega, HTR.out, HBX.out⟩
                case measure => simp [intOf]; omega
          · have hqQ : q = Q := by have := HQ.out; omega
            subst hqQ
            have zq1 : ¬ (q : Int) + 1 < (row.length : Int) := by omega
            by_cases hpos : 0 < (nowL g row m q).length
            · have HR := Lib.hid (HFI.out m HN.out hpos)
              have HBX := Lib.hid hb
              obtain ⟨n, hn⟩ : ∃ n, n = (nowL g row m q).length := ⟨_, rfl⟩
              rw [← hn] at hpos ⊢
              clear hn rn hnl hb
              have hd : decide (0 < (n : Int)) = true := by simpa using hpos
              go_wp2
              refine bodyPost_ret (results_tmp3 rfl _ _ _) rfl ?_
              exact ⟨ret_three (by rw [HR.out.2]; rfl) (by rw [HR.out.1]; rfl) (by rw [HV.out]; rfl), HB1.out.trans (HBX.out.mono (by have := HB1.out.size; omega))⟩
            · have HNN := Lib.hid (show ∀ i : Nat, i < m + 1 → (nowL g row i q).length = 0 from fun i hi => by
                rcases Nat.lt_or_ge i m with h | h
                · exact HN.out i h
                · obtain rfl : i = m := by omega
                  omega)
              have HBX := Lib.hid hb
              obtain ⟨n, hn⟩ : ∃ n, n = (nowL g row m q).length := ⟨_, rfl⟩
              rw [← hn] at hpos ⊢
              clear hn rn hnl hb
              obtain rfl : n = 0 := by omega
              go_wp2
              go_roundw
              case rel => exact ⟨m + 1, by go_num, by omega, HNN.out, HBX.out⟩
              case measure => simp [intOf]; omega
      · obtain rfl : m = 7 := by omega
        have HR := Lib.hid (HNO.out 7 rfl HN.out)
        have HR2 := Lib.hid (HSN.out HR.out)
        go_wp2
        refine bodyPost_ret (results_tmp3 rfl _ _ _) rfl ?_
        exact ⟨ret_three (by rw [HR2.out]; rfl) (by rw [HR.out]; rfl) (by rw [HV.out]; rfl), HB1.out.trans (hb.mono (by have := HB1.out.size; omega))⟩
  · have hd : (rowE g row != 0) = true := by simpa using h
    have HI := Lib.hid (show smoothIs g row = false by rw [smoothIs, decide_eq_false h, Bool.false_and])
    have HE := Lib.hid (smoothN_else HI.out)
    clear h
    generalize rowE g row = x at *
    go_enter Try.func35, Try.ntmps35
    go_wp2_with fail
    refine (HP.out).mono ?_
    rintro e w1 ⟨rfl, hb1⟩
    have s1 := hb1.size
    have HB1 := Lib.hid hb1
    have hr := (hr.below hb1).more s1
    have hr' := (hr'.below hb1).more s1
    clear hb1
    go_wp2
    refine bodyPost_ret (results_tmp3 rfl _ _ _) rfl ?_
    exact ⟨ret_three (by rw [HE.out]; rfl) (by rw [HI.out]; rfl) rfl, HB1.out⟩
end Go.Proofs.Ytejjogpgolgdgaa
