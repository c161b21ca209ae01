/-
  WALKS: CheckWindows of the program.
-/
import Derived.Test.YtkeolmipdoeljaaW8
namespace Go.Proofs.Ytkeolmipdoeljaa
open Go.RowKit Heat

theorem inside_iff {n : Int} {m : Nat} {x : HWin} : inside n m x = true ↔ 0 ≤ x.ion ∧ x.ion ≤ n - 1 ∧ 0 ≤ x.frm ∧ x.frm ≤ (m : Int) - 1 ∧ 0 ≤ x.to ∧ x.to ≤ (m : Int) - 1 := by simp [inside]

theorem winsErr_of {n : Int} {l : List HAct} {limit : Int} {ws : List HWin} (h0 : limited n l limit = 0) (h1 : ws.length ≤ 20) : winsErr n l limit ws = match ws.find? (fun x => winErr n l limit x != 0) with
  | some x => winErr n l limit x
  | none => if clashTo ws ws.length then 8 else 0 := by
  rw [winsErr, if_neg (by simpa using h0), if_neg (by omega)]; rfl
theorem winsErr_hit {n : Int} {l : List HAct} {limit : Int} {ws : List HWin} (h0 : limited n l limit = 0) (h1 : ws.length ≤ 20) (q : Nat) (hq : q < ws.length) (hall : (ws.take q).all (fun x => winErr n l limit x == 0) = true) {e : Int} (he : winErr n l limit ws[q] = e) (hne : e ≠ 0) : winsErr n l limit ws = e := by
  rw [winsErr_of h0 h1, find_hit _ ws q hq (by rw [List.all_eq_true] at *; intro x hx; have := hall x hx; simpa using this) (by simpa [he] using hne)]
  exact he
theorem winsErr_none {n : Int} {l : List HAct} {limit : Int} {ws : List HWin} (h0 : limited n l limit = 0) (h1 : ws.length ≤ 20) (hall : ws.all (fun x => winErr n l limit x == 0) = true) : winsErr n l limit ws = if clashTo ws ws.length then 8 else 0 := by
  rw [winsErr_of h0 h1, find_none _ ws (by rw [List.all_eq_true] at *; intro x hx; have := hall x hx; simpa using this)]
theorem clash_mono (ws : List HWin) (q : Nat) (h : clashTo ws q = true) : ∀ r, q ≤ r → clashTo ws r = true := by
  intro r hr
  induction r with
  | zero => obtain rfl : q = 0 := by omega
            exact h
  | succ r ih =>
    rcases Nat.lt_or_ge r q with e | e
    · obtain rfl : q = r + 1 := by omega
      exact h
    · rw [clashTo, ih e]; rfl

set_option maxRecDepth 100000 in
set_option maxHeartbeats 4000000 in
theorem pCheckWindows (n : Int) (A A' : Option Addr) (k c k' c' : Nat) (limit : Int) (l : List HAct) (ws : List HWin) (w : World) (hl : l.length ≤ 1000) (hk : k ≤ c) (hc : c ≤ maxLen) (hws : ws.length ≤ 1000) (hk' : k' ≤ c') (hc' : c' ≤ maxLen) (B : Nat) (hB : B ≤ w.heap.size) (hr : Rd w B 3 A k (actCells l)) (hr' : Rd w B 3 A' k' (winCells ws)) :
    Calls Try.prog 22 #[.int .i64 n, .slice A k c, .int .i64 limit, .slice A' k' c'] w fun e w' => e = .returned (.tuple #[.int .i64 (winsN n l limit ws), .int .i64 (winsErr n l limit ws)]) ∧ Below w.heap.size w w' := by
  obtain rfl := hr.act_len
  obtain rfl := hr'.win_len
  have H := Lib.hid (plimited n A l.length c l limit w hl B hB hr)
  by_cases h : limited n l limit = 0
  · obtain ⟨⟨h1, h2, h3, h4⟩, h5, h6⟩ := limited_ok h
    have HM := Lib.hid (mild_of h4)
    have HL := Lib.hid h
    by_cases hw : 20 < ws.length
    · have HE := Lib.hid (show winsErr n l limit ws = 3 by rw [winsErr, if_neg (by simpa using h), if_pos hw])
      clear h h4
      go_enter Try.func22, Try.ntmps22
      go_wp2_with fail
      refine H.out.mono ?_
      rw [HL.out]
      rintro e w1 ⟨rfl, hb⟩
      go_wp2
      go_ret2
      exact ⟨ret_ii (by rw [winsN, HE.out]; rfl) HE.out.symm, hb⟩
    · clear h h4
      go_enter Try.func22, Try.ntmps22
      go_wp2_with fail
      refine H.out.mono ?_
      rw [HL.out]
      rintro e w1 ⟨rfl, hb⟩
      go_wp2
      go_loopw [27] (fun i wr => ∃ q : Nat, q ≤ ws.length ∧ i = .int .i64 q ∧ Hid ((ws.take q).all (fun x => winErr n l limit x == 0) = true) ∧ Below w.heap.size w wr) (fun i _ => ws.length - (intOf i).toNat)
      case atStart => exact ⟨0, Nat.zero_le _, rfl, rfl, hb⟩
      case round =>
        clear hb
        obtain ⟨q, hq, rfl, HA, hb⟩ := hrel
        by_cases hlt : q < ws.length
        · obtain ⟨b', off', rfl, hbb', g0, g1, g2⟩ := (hr'.below' hb hB).win hlt
          have HS := Lib.hid (all_snoc' (fun x => winErr n l limit x == 0) ws q hlt)
          have HW := fun (e : Int) (he : winErr n l limit ws[q] = e) (hne : e ≠ 0) => winsErr_hit HL.out (by omega) q hlt HA.out he hne
          have HWH := Lib.hid HW
          clear HW
          have hsz := hb.size
          generalize ws[q] = x at *
          by_cases hin : inside n l.length x = true
          · have HI := Lib.hid hin
            obtain ⟨v0, v1, v2, v3, v4, v5⟩ := inside_iff.1 hin
            clear hin
            obtain ⟨ion, frm, to⟩ := x
            obtain ⟨f, rfl⟩ := Int.eq_ofNat_of_zero_le v2
            obtain ⟨t, rfl⟩ := Int.eq_ofNat_of_zero_le v4
            dsimp only at *
            cases hx : isWinN l limit ion f t with
            | true =>
              have HX := Lib.hid hx
              have HN := Lib.hid (show (ws.take (q + 1)).all (fun x => winErr n l limit x == 0) = true by rw [HS.out, HA.out, (winErr_in HI.out).1 hx]; rfl)
              clear hx
              go_wp2_with (go_at_call 58; refine (pwithin _ _ _ _).mono ?_; rintro e w' ⟨rfl, rfl⟩)
              refine (pisWindow A l.length c f t limit ion l _ hl hk hc HM.out (by omega) (by omega) B (by simp; omega) ((hr.below' hb hB).alloc (by omega) _)).mono ?_
              rw [HX.out]
              rintro e w2 ⟨rfl, hb2⟩
              go_wp2
              go_roundw
              case rel => exact ⟨q + 1, by omega, by go_num, HN.out, (hb.alloc hb.size _).trans (hb2.mono (by simp; omega))⟩
              case measure => simp [intOf]; omega
            | false =>
              have HX := Lib.hid hx
              have HE := Lib.hid (HWH.out 7 ((winErr_in HI.out).2 hx) (by decide))
              clear hx
              go_wp2_with (go_at_call 58; refine (pwithin _ _ _ _).mono ?_; rintro e w' ⟨rfl, rfl⟩)
              refine (pisWindow A l.length c f t limit ion l _ hl hk hc HM.out (by omega) (by omega) B (by simp; omega) ((hr.below' hb hB).alloc (by omega) _)).mono ?_
              rw [HX.out]
              rintro e w2 ⟨rfl, hb2⟩
              go_wp2
              go_ret2
              exact ⟨ret_ii (by rw [winsN, HE.out]; rfl) HE.out.symm, (hb.alloc hb.size _).trans (hb2.mono (by simp; omega))⟩
          · rw [Bool.not_eq_true] at hin
            have HE := Lib.hid (HWH.out 1 (winErr_out hin) (by decide))
            have HI := Lib.hid hin
            clear hin
            obtain ⟨ion, frm, to⟩ := x
            dsimp only at *
            go_wp2_with (go_at_call 58; refine (pwithin _ _ _ _).mono ?_; rintro e w' ⟨rfl, rfl⟩)
            all_goals first
              | (go_ret2; exact ⟨ret_ii (by rw [winsN, HE.out]; rfl) HE.out.symm, hb.alloc hb.size _⟩)
              | (exfalso; have t3 : (!decide (0 ≤ to)) = false ∧ (!decide (to ≤ (l.length : Int) - 1)) = false := by assumption
                 have t1 : 0 ≤ ion ∧ ion ≤ n - 1 := by assumption
                 have t2 : 0 ≤ frm ∧ frm ≤ (l.length : Int) - 1 := by assumption
                 have := HI.out
                 rw [inside, decide_eq_false_iff_not] at this
                 simp at t3
                 exact this ⟨t1.1, t1.2, t2.1, t2.2, t3.1, t3.2⟩)
        · obtain rfl : q = ws.length := by omega
          have HZ := Lib.hid (winsErr_none (ws := ws) HL.out (by omega) (by have := HA.out; rwa [List.take_length] at this))
          have hsz := hb.size
          go_wp2
          go_loopw [63] (fun i wr => ∃ q : Nat, q ≤ ws.length ∧ i = .int .i64 q ∧ Hid (clashTo ws q = false) ∧ Below w.heap.size w wr) (fun i _ => ws.length - (intOf i).toNat)
          case atStart => exact ⟨0, Nat.zero_le _, rfl, rfl, hb⟩
          case round =>
            clear hb hsz
            obtain ⟨q, hq, rfl, HC, hb⟩ := hrel
            by_cases hlt : q < ws.length
            · obtain ⟨b', off', rfl, hbb', g0, g1, g2⟩ := (hr'.below' hb hB).win hlt
              have HS := Lib.hid (show clashTo ws (q + 1) = (clashTo ws q || (ws.take q).any (meets ws[q])) by rw [clashTo, List.getElem?_eq_getElem hlt]; rfl)
              have hfr := (hr'.below' hb hB).winFront (k := q) (by omega)
              have hsz := hb.size
              generalize ws[q] = x at *
              have hcap : (q : Int) ≤ (c' : Int) := by omega
              cases hx : (ws.take q).any (meets x) with
              | true =>
                have HX := Lib.hid hx
                have HE := Lib.hid (show winsErr n l limit ws = 8 by rw [HZ.out, if_pos (clash_mono ws (q + 1) (by rw [HS.out, hx]; simp) _ (by omega))])
                clear hx
                go_wp2_with fail
                refine (winContainsFunc 61 Try.call61 #[.pointer (some ⟨wr.heap.size, 0, none⟩)] (meets x) (some ⟨b', off', none⟩) q c' (ws.take q) _ (by rw [List.length_take]; omega) B (by simp; omega) (hfr.alloc (by omega) _) (fun y _ W hW => checkFn x y W wr.heap.size (blk_below (blk_new wr 67 _) hW (by simp)))).mono ?_
                rw [HX.out]
                rintro e w2 ⟨rfl, hb2⟩
                go_wp2
                go_ret2
                exact ⟨ret_ii (by rw [winsN, HE.out]; rfl) HE.out.symm, (hb.alloc hb.size _).trans (hb2.mono (by simp; omega))⟩
              | false =>
                have HX := Lib.hid hx
                have HN := Lib.hid (show clashTo ws (q + 1) = false by rw [HS.out, HC.out, hx]; rfl)
                clear hx
                go_wp2_with fail
                refine (winContainsFunc 61 Try.call61 #[.pointer (some ⟨wr.heap.size, 0, none⟩)] (meets x) (some ⟨b', off', none⟩) q c' (ws.take q) _ (by rw [List.length_take]; omega) B (by simp; omega) (hfr.alloc (by omega) _) (fun y _ W hW => checkFn x y W wr.heap.size (blk_below (blk_new wr 67 _) hW (by simp)))).mono ?_
                rw [HX.out]
                rintro e w2 ⟨rfl, hb2⟩
                go_wp2
                go_roundw
                case rel => exact ⟨q + 1, by omega, by go_num, HN.out, (hb.alloc hb.size _).trans (hb2.mono (by simp; omega))⟩
                case measure => simp [intOf]; omega
            · obtain rfl : q = ws.length := by omega
              have HE := Lib.hid (show winsErr n l limit ws = 0 by rw [HZ.out, HC.out]; rfl)
              go_wp2
              go_ret2
              exact ⟨ret_ii (by rw [winsN, HE.out]; rfl) HE.out.symm, hb⟩
  · have hd : (limited n l limit == 0) = false := by simpa using h
    have hd' : (limited n l limit != 0) = true := by simpa using h
    have HE := Lib.hid (show winsErr n l limit ws = limited n l limit by rw [winsErr, if_pos h])
    have HL := Lib.hid h
    clear h
    go_enter Try.func22, Try.ntmps22
    go_wp2_with fail
    refine H.out.mono ?_
    rintro e w1 ⟨rfl, hb⟩
    go_wp2
    go_ret2
    exact ⟨ret_ii (by rw [winsN, HE.out, if_neg HL.out]) HE.out.symm, hb⟩
end Go.Proofs.Ytkeolmipdoeljaa
