/-
  WALKS: CheckWindows of the reference.
-/
import Derived.Test.YtkeolmipdoeljaaW9
namespace Go.Proofs.Ytkeolmipdoeljaa
open Go.RowKit Heat

theorem any_snoc' {α : Type} (p : α → Bool) (l : List α) (q : Nat) (h : q < l.length) : (l.take (q + 1)).any p = ((l.take q).any p || p l[q]) := any_take p l q h

set_option maxRecDepth 100000 in
set_option maxHeartbeats 4000000 in
theorem rCheckWindows (n : Int) (A A' : Option Addr) (k c k' c' : Nat) (limit : Int) (l : List HAct) (ws : List HWin) (w : World) (hl : l.length ≤ 1000) (hws : ws.length ≤ 1000) (B : Nat) (hB : B ≤ w.heap.size) (hr : Rd w B 3 A k (actCells l)) (hr' : Rd w B 3 A' k' (winCells ws)) :
    Calls Try.prog 23 #[.int .i64 n, .slice A k c, .int .i64 limit, .slice A' k' c'] w fun e w' => e = .returned (.tuple #[.int .i64 (winsN n l limit ws), .int .i64 (winsErr n l limit ws)]) ∧ Below w.heap.size w w' := by
  obtain rfl := hr.act_len
  obtain rfl := hr'.win_len
  have H := Lib.hid (rlimited n A l.length c l limit w hl B hB hr)
  by_cases h : limited n l limit = 0
  · obtain ⟨⟨h1, h2, h3, h4⟩, h5, h6⟩ := limited_ok h
    have HM := Lib.hid (mild_of h4)
    have HL := Lib.hid h
    by_cases hw : 20 < ws.length
    · have HE := Lib.hid (show winsErr n l limit ws = 3 by rw [winsErr, if_neg (by simpa using h), if_pos hw])
      clear h h4
      go_enter Try.func23, Try.ntmps23
      go_wp2_with fail
      refine H.out.mono ?_
      rw [HL.out]
      rintro e w1 ⟨rfl, hb⟩
      go_wp2
      go_ret2
      exact ⟨ret_ii (by rw [winsN, HE.out]; rfl) HE.out.symm, hb⟩
    · clear h h4
      go_enter Try.func23, Try.ntmps23
      go_wp2_with fail
      refine H.out.mono ?_
      rw [HL.out]
      rintro e w1 ⟨rfl, hb⟩
      go_wp2
      go_loopw [11] (fun i wr => ∃ q : Nat, q ≤ ws.length ∧ i = .int .i64 q ∧ Hid ((ws.take q).all (fun x => winErr n l limit x == 0) = true) ∧ Below w.heap.size w wr) (fun i _ => ws.length - (intOf i).toNat)
      case atStart => exact ⟨0, Nat.zero_le _, rfl, rfl, hb⟩
      case round =>
        clear hb
        obtain ⟨q, hq, rfl, HA, hb⟩ := hrel
        by_cases hlt : q < ws.length
        · obtain ⟨b', off', rfl, hbb', g0, g1, g2⟩ := (hr'.below' hb hB).win hlt
          have HS := Lib.hid (all_snoc' (fun x => winErr n l limit x == 0) ws q hlt)
          have HW := fun (e : Int) (he : winErr n l limit ws[q] = e) (hne : e ≠ 0) => winsErr_hit HL.out (by omega) q hlt HA.out he hne
          have HWH := Lib.hid HW
          clear HW
          have hsz := hb.size
          generalize ws[q] = x at *
          by_cases hin : inside n l.length x = true
          · have HI := Lib.hid hin
            obtain ⟨v0, v1, v2, v3, v4, v5⟩ := inside_iff.1 hin
            clear hin
            obtain ⟨ion, frm, to⟩ := x
            obtain ⟨f, rfl⟩ := Int.eq_ofNat_of_zero_le v2
            obtain ⟨t, rfl⟩ := Int.eq_ofNat_of_zero_le v4
            dsimp only at *
            cases hx : isWinN l limit ion f t with
            | true =>
              have HX := Lib.hid hx
              have HN := Lib.hid (show (ws.take (q + 1)).all (fun x => winErr n l limit x == 0) = true by rw [HS.out, HA.out, (winErr_in HI.out).1 hx]; rfl)
              clear hx
              go_wp2_with (go_at_call 63; refine (rwithin _ _ _ _).mono ?_; rintro e w' ⟨rfl, rfl⟩)
              refine (risWindow A l.length c f t limit ion l _ hl HM.out (by omega) (by omega) B (by omega) (hr.below' hb hB)).mono ?_
              rw [HX.out]
              rintro e w2 ⟨rfl, hb2⟩
              go_wp2
              go_roundw
              case rel => exact ⟨q + 1, by omega, by go_num, HN.out, hb.trans (hb2.mono hsz)⟩
              case measure => simp [intOf]; omega
            | false =>
              have HX := Lib.hid hx
              have HE := Lib.hid (HWH.out 7 ((winErr_in HI.out).2 hx) (by decide))
              clear hx
              go_wp2_with (go_at_call 63; refine (rwithin _ _ _ _).mono ?_; rintro e w' ⟨rfl, rfl⟩)
              refine (risWindow A l.length c f t limit ion l _ hl HM.out (by omega) (by omega) B (by omega) (hr.below' hb hB)).mono ?_
              rw [HX.out]
              rintro e w2 ⟨rfl, hb2⟩
              go_wp2
              go_ret2
              exact ⟨ret_ii (by rw [winsN, HE.out]; rfl) HE.out.symm, hb.trans (hb2.mono hsz)⟩
          · rw [Bool.not_eq_true] at hin
            have HE := Lib.hid (HWH.out 1 (winErr_out hin) (by decide))
            have HI := Lib.hid hin
            clear hin
            obtain ⟨ion, frm, to⟩ := x
            dsimp only at *
            go_wp2_with (go_at_call 63; refine (rwithin _ _ _ _).mono ?_; rintro e w' ⟨rfl, rfl⟩)
            all_goals first
              | (go_ret2; exact ⟨ret_ii (by rw [winsN, HE.out]; rfl) HE.out.symm, hb⟩)
              | (exfalso; have t3 : (!decide (0 ≤ to)) = false ∧ (!decide (to ≤ (l.length : Int) - 1)) = false := by assumption
                 have t1 : 0 ≤ ion ∧ ion ≤ n - 1 := by assumption
                 have t2 : 0 ≤ frm ∧ frm ≤ (l.length : Int) - 1 := by assumption
                 have := HI.out
                 rw [inside, decide_eq_false_iff_not] at this
                 simp at t3
                 exact this ⟨t1.1, t1.2, t2.1, t2.2, t3.1, t3.2⟩)
        · obtain rfl : q = ws.length := by omega
          have HZ := Lib.hid (winsErr_none (ws := ws) HL.out (by omega) (by have := HA.out; rwa [List.take_length] at this))
          have hsz := hb.size
          go_wp2
          go_loopw [12] (fun i wr => ∃ q : Nat, q ≤ ws.length ∧ i = .int .i64 q ∧ Hid (clashTo ws q = false) ∧ Below w.heap.size w wr) (fun i _ => ws.length - (intOf i).toNat)
          case atStart => exact ⟨0, Nat.zero_le _, rfl, rfl, hb⟩
          case round =>
            clear hb hsz
            obtain ⟨q, hq, rfl, HC, hb⟩ := hrel
            by_cases hlt : q < ws.length
            · have HS := Lib.hid (show clashTo ws (q + 1) = (clashTo ws q || (ws.take q).any (meets ws[q])) by rw [clashTo, List.getElem?_eq_getElem hlt]; rfl)
              go_wp2
              go_loopw [13] (fun j wr => ∃ p : Nat, p ≤ q ∧ j = .int .i64 p ∧ Hid ((ws.take p).any (meets ws[q]) = false) ∧ Below w.heap.size w wr) (fun j _ => q - (intOf j).toNat)
              case atStart => exact ⟨0, Nat.zero_le _, rfl, rfl, hb⟩
              case round =>
                clear hb
                obtain ⟨p, hp, rfl, HP, hb⟩ := hrel
                by_cases hpq : p < q
                · have hpl : p < ws.length := by omega
                  obtain ⟨b', off', rfl, hbb', g0, g1, g2⟩ := (hr'.below' hb hB).win hlt
                  obtain ⟨b2, off2, e2, _, k0, k1, k2⟩ := (hr'.below' hb hB).win hpl
                  simp only [Option.some.injEq, Addr.mk.injEq, and_true] at e2
                  obtain ⟨rfl, rfl⟩ := e2
                  have HT := Lib.hid (any_snoc' (meets ws[q]) ws p hpl)
                  have HCL := Lib.hid (show meets ws[q] ws[p] = true → winsErr n l limit ws = 8 from fun hx => by
                    rw [HZ.out, if_pos (clash_mono ws (q + 1) (by
                      rw [HS.out, HC.out, Bool.false_or]
                      exact List.any_eq_true.2 ⟨ws[p], List.mem_take_iff_getElem.2 ⟨p, by omega, rfl⟩, hx⟩) _ (by omega))])
                  have y0 : (0 : Int) ≤ (q : Int) := Int.natCast_nonneg _
                  have y1 : (q : Int) < (ws.length : Int) := by omega
                  have y2 : (0 : Int) ≤ (p : Int) := Int.natCast_nonneg _
                  have y3 : (p : Int) < (ws.length : Int) := by omega
                  have hsz := hb.size
                  generalize hwx : ws[q] = x at *
                  generalize ws[p] = y at *
                  have HWX := Lib.hid hwx
                  clear hwx
                  by_cases c1 : x.ion = y.ion
                  · have d1 : (x.ion == y.ion) = true := by simpa using c1
                    by_cases c2 : x.frm < y.to
                    · have d2 : decide (x.frm < y.to) = true := by simpa using c2
                      by_cases c3 : y.frm < x.to
                      · have d3 : decide (y.frm < x.to) = true := by simpa using c3
                        have HE := Lib.hid (HCL.out (by rw [meets, d1, d2, d3]; rfl))
                        clear c1
                        go_wp2
                        go_quiet (fail)
                        go_wp2
                        go_ret2
                        exact ⟨ret_ii (by rw [winsN, HE.out]; rfl) HE.out.symm, below_drewN hb nq⟩
                      · have d3 : decide (y.frm < x.to) = false := by simpa using c3
                        have HN := Lib.hid (show (ws.take (p + 1)).any (meets x) = false by rw [HT.out, HP.out, meets, d1, d2, d3]; rfl)
                        clear c1
                        go_wp2
                        go_quiet (fail)
                        go_wp2
                        go_roundw
                        case rel => exact ⟨p + 1, by omega, by go_num, HN.out, below_drewN hb nq⟩
                        case measure => simp [intOf]; omega
                    · have d2 : decide (x.frm < y.to) = false := by simpa using c2
                      have HN := Lib.hid (show (ws.take (p + 1)).any (meets x) = false by rw [HT.out, HP.out, meets, d1, d2]; rfl)
                      clear c1
                      go_wp2
                      go_quiet (fail)
                      go_wp2
                      go_roundw
                      case rel => exact ⟨p + 1, by omega, by go_num, HN.out, below_drewN hb nq⟩
                      case measure => simp [intOf]; omega
                  · have d1 : (x.ion == y.ion) = false := by simpa using c1
                    have HN := Lib.hid (show (ws.take (p + 1)).any (meets x) = false by rw [HT.out, HP.out, meets, d1]; rfl)
                    clear c1
                    go_wp2
                    go_quiet (fail)
                    go_wp2
                    go_roundw
                    case rel => exact ⟨p + 1, by omega, by go_num, HN.out, below_drewN hb nq⟩
                    case measure => simp [intOf]; omega
                · obtain rfl : p = q := by omega
                  have HN := Lib.hid (show clashTo ws (p + 1) = false by rw [HS.out, HC.out, HP.out]; rfl)
                  go_wp2
                  go_roundw
                  case rel => exact ⟨p + 1, by omega, by go_num, HN.out, hb⟩
                  case measure => simp [intOf]; omega
            · obtain rfl : q = ws.length := by omega
              have HE := Lib.hid (show winsErr n l limit ws = 0 by rw [HZ.out, HC.out]; rfl)
              go_wp2
              go_ret2
              exact ⟨ret_ii (by rw [winsN, HE.out]; rfl) HE.out.symm, hb⟩
  · have hd : (limited n l limit == 0) = false := by simpa using h
    have hd' : (limited n l limit != 0) = true := by simpa using h
    have HE := Lib.hid (show winsErr n l limit ws = limited n l limit by rw [winsErr, if_pos h])
    have HL := Lib.hid h
    clear h
    go_enter Try.func23, Try.ntmps23
    go_wp2_with fail
    refine H.out.mono ?_
    rintro e w1 ⟨rfl, hb⟩
    go_wp2
    go_ret2
    exact ⟨ret_ii (by rw [winsN, HE.out, if_neg HL.out]) HE.out.symm, hb⟩
end Go.Proofs.Ytkeolmipdoeljaa
