/-
  WALK: Scale of the program.
-/
import Derived.Test.YtnoocdannfeidaaW24
namespace Go.Proofs.Ytnoocdannfeidaa
open Go.RowKit Pulse

/-- The number that is multiplied by: within the forces and one more. -/
def clip (b : Int) : Int := max (-100) (min b 100)
def scL (p : List Int) (b : Int) : List Int := p.map (· * clip b)
def scaleE (p : List Int) (b : Int) : Int := if vald p = 0 then (if vald (scL p b) = 0 then 0 else 1) else vald p
def scaleL (p : List Int) (b : Int) : List Int := if vald p = 0 ∧ vald (scL p b) = 0 then scL p b else []
theorem clip_bd (b : Int) : -100 ≤ clip b ∧ clip b ≤ 100 := by unfold clip; omega

set_option maxHeartbeats 1000000 in
theorem pScale (A : Option Addr) (k c : Nat) (p : List Int) (b : Int) (w : World) (hl : p.length ≤ 1000) (B : Nat) (hB : B ≤ w.heap.size) (hr : Rd w B 1 A k (ints p)) :
    Calls Try.prog 37 #[.slice A k c, .int .i64 b] w fun e w' => ∃ v, e = .returned (.tuple #[v, .int .i64 (scaleE p b)]) ∧ w'.ownsRow w.heap.size 3 1 v (scaleL p b).length (ints (scaleL p b)) ∧ Below w.heap.size w w' := by
  obtain rfl := hr.int_len
  have H := Lib.hid (pValidate A p.length c p w hl B hB hr)
  have HE := Lib.hid (show scaleE p b = if vald p = 0 then (if vald (scL p b) = 0 then 0 else 1) else vald p from rfl)
  have HL := Lib.hid (show scaleL p b = if vald p = 0 ∧ vald (scL p b) = 0 then scL p b else [] from rfl)
  by_cases h : vald p = 0
  · obtain ⟨h4, h5⟩ := vald_ok h
    have HV := Lib.hid h
    rw [h] at H
    rw [if_pos h] at HE
    have HF := Lib.hid h5
    by_cases hlo : b ≤ -100
    · have HCD := Lib.hid (show scL p b = p.map (· * (-100)) by rw [scL, show clip b = (-100) by unfold clip; omega])
      clear h h5
      go_enter Try.func37, Try.ntmps37
      go_wp2_with fail
      refine H.out.mono ?_
      rintro e w1 ⟨rfl, hb1⟩
      go_wp2
      go_loopw [7, 9, 20] (fun v _ i wr => ∃ q : Nat, i = .int .i64 q ∧ q ≤ p.length ∧ wr.ownsRow w.heap.size 3 1 v q (ints ((p.take q).map (· * (-100)))) ∧ Below w.heap.size w wr) (fun _ _ i _ => p.length - (intOf i).toNat)
      case atStart => exact ⟨0, rfl, Nat.zero_le _, World.ownsRow_nil .., hb1⟩
      case round =>
        clear hb1
        obtain ⟨q, rfl, hq, hown, hb⟩ := hrel
        have hsz := hb.size
        by_cases hlt : q < p.length
        · obtain ⟨bb, off, rfl, hbb, h0⟩ := (hr.below' hb hB).int hlt
          have hfb := HF.out p[q] (List.getElem_mem hlt)
          have HSN := Lib.hid (show (p.take (q + 1)).map (· * (-100)) = (p.take q).map (· * (-100)) ++ [p[q] * (-100)] by rw [take_snoc' p q hlt, List.map_append]; rfl)
          have hmb := mul_bd (a := p[q]) (b := (-100)) (A := 99) (B := 100) (by decide) hfb (by omega)
          generalize p[q] = f at *
          have V := Lib.hid (fun (w' : World) => below_own (w' := w') hb hsz hown (Nat.le_refl _))
          go_wp2_with (at_builtin; go_must (refine app1 rfl (.tmp 24) (.tmp 28) 22 rfl 3 _ 1 8 E22 w.heap.size _ _ _ _ rfl hown _ rfl ?_ ?_ ?_ ?_ ?_ ?_); rfl; rfl; rfl; omega; omega; intro v3 w3 hown3 hg3)
          go_roundw
          case rel => exact ⟨q + 1, by go_num, by omega, by rw [HSN.out]; simpa using hown3, V.out _ hg3⟩
          case measure => simp [intOf]; omega
        · obtain rfl : q = p.length := by omega
          rw [List.take_length, ← HCD.out] at hown
          obtain ⟨Av, cv, rfl, _, _⟩ := own_cap hown
          have hln : (scL p b).length = p.length := by simp [scL]
          have HT := Lib.hid (pTold Av p.length cv (scL p b) wr (by omega) wr.heap.size (Nat.le_refl _) (Rd.of_own hown))
          have HOW := Lib.hid (And.intro hown hb)
          have HLN := Lib.hid hln
          clear hown hb hln
          by_cases hs : vald (scL p b) = 0
          · rw [if_pos hs] at HT HE
            rw [if_pos ⟨HV.out, hs⟩] at HL
            clear hs
            go_wp2_with fail
            refine HT.out.mono ?_
            rintro e w4 ⟨rfl, hb4⟩
            go_wp2
            go_ret2
            exact ⟨_, ret_two rfl (by rw [HE.out]; rfl), by rw [HL.out, HLN.out]; exact own_below HOW.out.1 hb4, HOW.out.2.trans (hb4.mono hsz)⟩
          · rw [if_neg hs] at HT HE
            rw [if_neg (fun x => hs x.2)] at HL
            clear hs
            go_wp2_with fail
            refine HT.out.mono ?_
            rintro e w4 ⟨rfl, hb4⟩
            go_wp2
            go_ret2
            exact ⟨_, ret_two rfl (by rw [HE.out]; rfl), by rw [HL.out]; exact World.ownsRow_nil .., HOW.out.2.trans (hb4.mono hsz)⟩
    · by_cases hhi : 100 < b
      · have HCD := Lib.hid (show scL p b = p.map (· * 100) by rw [scL, show clip b = 100 by unfold clip; omega])
        clear h h5
        go_enter Try.func37, Try.ntmps37
        go_wp2_with fail
        refine H.out.mono ?_
        rintro e w1 ⟨rfl, hb1⟩
        go_wp2
        go_loopw [7, 9, 20] (fun v _ i wr => ∃ q : Nat, i = .int .i64 q ∧ q ≤ p.length ∧ wr.ownsRow w.heap.size 3 1 v q (ints ((p.take q).map (· * 100))) ∧ Below w.heap.size w wr) (fun _ _ i _ => p.length - (intOf i).toNat)
        case atStart => exact ⟨0, rfl, Nat.zero_le _, World.ownsRow_nil .., hb1⟩
        case round =>
          clear hb1
          obtain ⟨q, rfl, hq, hown, hb⟩ := hrel
          have hsz := hb.size
          by_cases hlt : q < p.length
          · obtain ⟨bb, off, rfl, hbb, h0⟩ := (hr.below' hb hB).int hlt
            have hfb := HF.out p[q] (List.getElem_mem hlt)
            have HSN := Lib.hid (show (p.take (q + 1)).map (· * 100) = (p.take q).map (· * 100) ++ [p[q] * 100] by rw [take_snoc' p q hlt, List.map_append]; rfl)
            have hmb := mul_bd (a := p[q]) (b := 100) (A := 99) (B := 100) (by decide) hfb (by omega)
            generalize p[q] = f at *
            have V := Lib.hid (fun (w' : World) => below_own (w' := w') hb hsz hown (Nat.le_refl _))
            go_wp2_with (at_builtin; go_must (refine app1 rfl (.tmp 24) (.tmp 28) 22 rfl 3 _ 1 8 E22 w.heap.size _ _ _ _ rfl hown _ rfl ?_ ?_ ?_ ?_ ?_ ?_); rfl; rfl; rfl; omega; omega; intro v3 w3 hown3 hg3)
            go_roundw
            case rel => exact ⟨q + 1, by go_num, by omega, by rw [HSN.out]; simpa using hown3, V.out _ hg3⟩
            case measure => simp [intOf]; omega
          · obtain rfl : q = p.length := by omega
            rw [List.take_length, ← HCD.out] at hown
            obtain ⟨Av, cv, rfl, _, _⟩ := own_cap hown
            have hln : (scL p b).length = p.length := by simp [scL]
            have HT := Lib.hid (pTold Av p.length cv (scL p b) wr (by omega) wr.heap.size (Nat.le_refl _) (Rd.of_own hown))
            have HOW := Lib.hid (And.intro hown hb)
            have HLN := Lib.hid hln
            clear hown hb hln
            by_cases hs : vald (scL p b) = 0
            · rw [if_pos hs] at HT HE
              rw [if_pos ⟨HV.out, hs⟩] at HL
              clear hs
              go_wp2_with fail
              refine HT.out.mono ?_
              rintro e w4 ⟨rfl, hb4⟩
              go_wp2
              go_ret2
              exact ⟨_, ret_two rfl (by rw [HE.out]; rfl), by rw [HL.out, HLN.out]; exact own_below HOW.out.1 hb4, HOW.out.2.trans (hb4.mono hsz)⟩
            · rw [if_neg hs] at HT HE
              rw [if_neg (fun x => hs x.2)] at HL
              clear hs
              go_wp2_with fail
              refine HT.out.mono ?_
              rintro e w4 ⟨rfl, hb4⟩
              go_wp2
              go_ret2
              exact ⟨_, ret_two rfl (by rw [HE.out]; rfl), by rw [HL.out]; exact World.ownsRow_nil .., HOW.out.2.trans (hb4.mono hsz)⟩
      · by_cases heq : b = 100
        · subst heq
          have HCD := Lib.hid (show scL p 100 = p.map (· * 100) by rw [scL, show clip 100 = 100 by unfold clip; omega])
          clear h h5
          go_enter Try.func37, Try.ntmps37
          go_wp2_with fail
          refine H.out.mono ?_
          rintro e w1 ⟨rfl, hb1⟩
          go_wp2
          go_loopw [7, 9, 20] (fun v _ i wr => ∃ q : Nat, i = .int .i64 q ∧ q ≤ p.length ∧ wr.ownsRow w.heap.size 3 1 v q (ints ((p.take q).map (· * 100))) ∧ Below w.heap.size w wr) (fun _ _ i _ => p.length - (intOf i).toNat)
          case atStart => exact ⟨0, rfl, Nat.zero_le _, World.ownsRow_nil .., hb1⟩
          case round =>
            clear hb1
            obtain ⟨q, rfl, hq, hown, hb⟩ := hrel
            have hsz := hb.size
            by_cases hlt : q < p.length
            · obtain ⟨bb, off, rfl, hbb, h0⟩ := (hr.below' hb hB).int hlt
              have hfb := HF.out p[q] (List.getElem_mem hlt)
              have HSN := Lib.hid (show (p.take (q + 1)).map (· * 100) = (p.take q).map (· * 100) ++ [p[q] * 100] by rw [take_snoc' p q hlt, List.map_append]; rfl)
              have hmb := mul_bd (a := p[q]) (b := 100) (A := 99) (B := 100) (by decide) hfb (by omega)
              generalize p[q] = f at *
              have V := Lib.hid (fun (w' : World) => below_own (w' := w') hb hsz hown (Nat.le_refl _))
              go_wp2_with (at_builtin; go_must (refine app1 rfl (.tmp 24) (.tmp 28) 22 rfl 3 _ 1 8 E22 w.heap.size _ _ _ _ rfl hown _ rfl ?_ ?_ ?_ ?_ ?_ ?_); rfl; rfl; rfl; omega; omega; intro v3 w3 hown3 hg3)
              go_roundw
              case rel => exact ⟨q + 1, by go_num, by omega, by rw [HSN.out]; simpa using hown3, V.out _ hg3⟩
              case measure => simp [intOf]; omega
            · obtain rfl : q = p.length := by omega
              rw [List.take_length, ← HCD.out] at hown
              obtain ⟨Av, cv, rfl, _, _⟩ := own_cap hown
              have hln : (scL p 100).length = p.length := by simp [scL]
              have HT := Lib.hid (pTold Av p.length cv (scL p 100) wr (by omega) wr.heap.size (Nat.le_refl _) (Rd.of_own hown))
              have HOW := Lib.hid (And.intro hown hb)
              have HLN := Lib.hid hln
              clear hown hb hln
              by_cases hs : vald (scL p 100) = 0
              · rw [if_pos hs] at HT HE
                rw [if_pos ⟨HV.out, hs⟩] at HL
                clear hs
                go_wp2_with fail
                refine HT.out.mono ?_
                rintro e w4 ⟨rfl, hb4⟩
                go_wp2
                go_ret2
                exact ⟨_, ret_two rfl (by rw [HE.out]; rfl), by rw [HL.out, HLN.out]; exact own_below HOW.out.1 hb4, HOW.out.2.trans (hb4.mono hsz)⟩
              · rw [if_neg hs] at HT HE
                rw [if_neg (fun x => hs x.2)] at HL
                clear hs
                go_wp2_with fail
                refine HT.out.mono ?_
                rintro e w4 ⟨rfl, hb4⟩
                go_wp2
                go_ret2
                exact ⟨_, ret_two rfl (by rw [HE.out]; rfl), by rw [HL.out]; exact World.ownsRow_nil .., HOW.out.2.trans (hb4.mono hsz)⟩
        · have HCD := Lib.hid (show scL p b = p.map (· * b) by rw [scL, show clip b = b by unfold clip; omega])
          clear h h5
          go_enter Try.func37, Try.ntmps37
          go_wp2_with fail
          refine H.out.mono ?_
          rintro e w1 ⟨rfl, hb1⟩
          go_wp2
          go_loopw [7, 9, 20] (fun v _ i wr => ∃ q : Nat, i = .int .i64 q ∧ q ≤ p.length ∧ wr.ownsRow w.heap.size 3 1 v q (ints ((p.take q).map (· * b))) ∧ Below w.heap.size w wr) (fun _ _ i _ => p.length - (intOf i).toNat)
          case atStart => exact ⟨0, rfl, Nat.zero_le _, World.ownsRow_nil .., hb1⟩
          case round =>
            clear hb1
            obtain ⟨q, rfl, hq, hown, hb⟩ := hrel
            have hsz := hb.size
            by_cases hlt : q < p.length
            · obtain ⟨bb, off, rfl, hbb, h0⟩ := (hr.below' hb hB).int hlt
              have hfb := HF.out p[q] (List.getElem_mem hlt)
              have HSN := Lib.hid (show (p.take (q + 1)).map (· * b) = (p.take q).map (· * b) ++ [p[q] * b] by rw [take_snoc' p q hlt, List.map_append]; rfl)
              have hmb := mul_bd (a := p[q]) (b := b) (A := 99) (B := 100) (by decide) hfb (by omega)
              generalize p[q] = f at *
              have V := Lib.hid (fun (w' : World) => below_own (w' := w') hb hsz hown (Nat.le_refl _))
              go_wp2_with (at_builtin; go_must (refine app1 rfl (.tmp 24) (.tmp 28) 22 rfl 3 _ 1 8 E22 w.heap.size _ _ _ _ rfl hown _ rfl ?_ ?_ ?_ ?_ ?_ ?_); rfl; rfl; rfl; omega; omega; intro v3 w3 hown3 hg3)
              go_roundw
              case rel => exact ⟨q + 1, by go_num, by omega, by rw [HSN.out]; simpa using hown3, V.out _ hg3⟩
              case measure => simp [intOf]; omega
            · obtain rfl : q = p.length := by omega
              rw [List.take_length, ← HCD.out] at hown
              obtain ⟨Av, cv, rfl, _, _⟩ := own_cap hown
              have hln : (scL p b).length = p.length := by simp [scL]
              have HT := Lib.hid (pTold Av p.length cv (scL p b) wr (by omega) wr.heap.size (Nat.le_refl _) (Rd.of_own hown))
              have HOW := Lib.hid (And.intro hown hb)
              have HLN := Lib.hid hln
              clear hown hb hln
              by_cases hs : vald (scL p b) = 0
              · rw [if_pos hs] at HT HE
                rw [if_pos ⟨HV.out, hs⟩] at HL
                clear hs
                go_wp2_with fail
                refine HT.out.mono ?_
                rintro e w4 ⟨rfl, hb4⟩
                go_wp2
                go_ret2
                exact ⟨_, ret_two rfl (by rw [HE.out]; rfl), by rw [HL.out, HLN.out]; exact own_below HOW.out.1 hb4, HOW.out.2.trans (hb4.mono hsz)⟩
              · rw [if_neg hs] at HT HE
                rw [if_neg (fun x => hs x.2)] at HL
                clear hs
                go_wp2_with fail
                refine HT.out.mono ?_
                rintro e w4 ⟨rfl, hb4⟩
                go_wp2
                go_ret2
                exact ⟨_, ret_two rfl (by rw [HE.out]; rfl), by rw [HL.out]; exact World.ownsRow_nil .., HOW.out.2.trans (hb4.mono hsz)⟩
  · have hd : (vald p != 0) = true := by simpa using h
    rw [if_neg h] at HE
    rw [if_neg (fun x => h x.1)] at HL
    clear h
    go_enter Try.func37, Try.ntmps37
    go_wp2_with fail
    refine H.out.mono ?_
    rintro e w1 ⟨rfl, hb1⟩
    go_wp2
    go_ret2
    exact ⟨_, ret_two rfl (by rw [HE.out]; rfl), by rw [HL.out]; exact World.ownsRow_nil .., hb1⟩
end Go.Proofs.Ytnoocdannfeidaa
