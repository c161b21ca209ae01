/-
  MERGED: W25, W26, W27, W28.
-/
import Derived.Test.YtnoocdannfeidaaK12
/-
  WALK: Scale of the program.
-/
namespace Go.Proofs.Ytnoocdannfeidaa
open Go.RowKit Pulse

/-- The number that is multiplied by: within the forces and one more. -/
def clip (b : Int) : Int := max (-100) (min b 100)
def scL (p : List Int) (b : Int) : List Int := p.map (· * clip b)
def scaleE (p : List Int) (b : Int) : Int := if vald p = 0 then (if vald (scL p b) = 0 then 0 else 1) else vald p
def scaleL (p : List Int) (b : Int) : List Int := if vald p = 0 ∧ vald (scL p b) = 0 then scL p b else []
theorem clip_bd (b : Int) : -100 ≤ clip b ∧ clip b ≤ 100 := by unfold clip; omega

set_option maxHeartbeats 1000000 in
theorem pScale (A : Option Addr) (k c : Nat) (p : List Int) (b : Int) (w : World) (hl : p.length ≤ 1000) (B : Nat) (hB : B ≤ w.heap.size) (hr : Rd w B 1 A k (ints p)) :
    Calls Try.prog 37 #[.slice A k c, .int .i64 b] w fun e w' => ∃ v, e = .returned (.tuple #[v, .int .i64 (scaleE p b)]) ∧ w'.ownsRow w.heap.size 3 1 v (scaleL p b).length (ints (scaleL p b)) ∧ Below w.heap.size w w' := by
  obtain rfl := hr.int_len
  have H := Lib.hid (pValidate A p.length c p w hl B hB hr)
  have HE := Lib.hid (show scaleE p b = if vald p = 0 then (if vald (scL p b) = 0 then 0 else 1) else vald p from rfl)
  have HL := Lib.hid (show scaleL p b = if vald p = 0 ∧ vald (scL p b) = 0 then scL p b else [] from rfl)
  by_cases h : vald p = 0
  · obtain ⟨h4, h5⟩ := vald_ok h
    have HV := Lib.hid h
    rw [h] at H
    rw [if_pos h] at HE
    have HF := Lib.hid h5
    by_cases hlo : b ≤ -100
    · have HCD := Lib.hid (show scL p b = p.map (· * (-100)) by rw [scL, show clip b = (-100) by unfold clip; omega])
      clear h h5
      go_enter Try.func37, Try.ntmps37
      go_wp2_with fail
      refine H.out.mono ?_
      rintro e w1 ⟨rfl, hb1⟩
      go_wp2
      go_loopw [7, 9, 20] (fun v _ i wr => ∃ q : Nat, i = .int .i64 q ∧ q ≤ p.length ∧ wr.ownsRow w.heap.size 3 1 v q (ints ((p.take q).map (· * (-100)))) ∧ Below w.heap.size w wr) (fun _ _ i _ => p.length - (intOf i).toNat)
      case atStart => exact ⟨0, rfl, Nat.zero_le _, World.ownsRow_nil .., hb1⟩
      case round =>
        clear hb1
        obtain ⟨q, rfl, hq, hown, hb⟩ := hrel
        have hsz := hb.size
        by_cases hlt : q < p.length
        · obtain ⟨bb, off, rfl, hbb, h0⟩ := (hr.below' hb hB).int hlt
          have hfb := HF.out p[q] (List.getElem_mem hlt)
          have HSN := Lib.hid (show (p.take (q + 1)).map (· * (-100)) = (p.take q).map (· * (-100)) ++ [p[q] * (-100)] by rw [take_snoc' p q hlt, List.map_append]; rfl)
          have hmb := mul_bd (a := p[q]) (b := (-100)) (A := 99) (B := 100) (by decide) hfb (by omega)
          generalize p[q] = f at *
          have V := Lib.hid (fun (w' : World) => below_own (w' := w') hb hsz hown (Nat.le_refl _))
          go_wp2_with (at_builtin; go_must (refine app1 rfl (.tmp 24) (.tmp 28) 22 rfl 3 _ 1 8 E22 w.heap.size _ _ _ _ rfl hown _ rfl ?_ ?_ ?_ ?_ ?_ ?_); rfl; rfl; rfl; omega; omega; intro v3 w3 hown3 hg3)
          go_roundw
          case rel => exact ⟨q + 1, by go_num, by omega, by rw [HSN.out]; simpa using hown3, V.out _ hg3⟩
          case measure => simp [intOf]; omega
        · obtain rfl : q = p.length := by omega
          rw [List.take_length, ← HCD.out] at hown
          obtain ⟨Av, cv, rfl, _, _⟩ := own_cap hown
          have hln : (scL p b).length = p.length := by simp [scL]
          have HT := Lib.hid (pTold Av p.length cv (scL p b) wr (by omega) wr.heap.size (Nat.le_refl _) (Rd.of_own hown))
          have HOW := Lib.hid (And.intro hown hb)
          have HLN := Lib.hid hln
          clear hown hb hln
          by_cases hs : vald (scL p b) = 0
          · rw [if_pos hs] at HT HE
            rw [if_pos ⟨HV.out, hs⟩] at HL
            clear hs
            go_wp2_with fail
            refine HT.out.mono ?_
            rintro e w4 ⟨rfl, hb4⟩
            go_wp2
            go_ret2
            exact ⟨_, ret_two rfl (by rw [HE.out]; rfl), by rw [HL.out, HLN.out]; exact own_below HOW.out.1 hb4, HOW.out.2.trans (hb4.mono hsz)⟩
          · rw [if_neg hs] at HT HE
            rw [if_neg (fun x => hs x.2)] at HL
            clear hs
            go_wp2_with fail
            refine HT.out.mono ?_
            rintro e w4 ⟨rfl, hb4⟩
            go_wp2
            go_ret2
            exact ⟨_, ret_two rfl (by rw [HE.out]; rfl), by rw [HL.out]; exact World.ownsRow_nil .., HOW.out.2.trans (hb4.mono hsz)⟩
    · by_cases hhi : 100 < b
      · have HCD := Lib.hid (show scL p b = p.map (· * 100) by rw [scL, show clip b = 100 by unfold clip; omega])
        clear h h5
        go_enter Try.func37, Try.ntmps37
        go_wp2_with fail
        refine H.out.mono ?_
        rintro e w1 ⟨rfl, hb1⟩
        go_wp2
        go_loopw [7, 9, 20] (fun v _ i wr => ∃ q : Nat, i = .int .i64 q ∧ q ≤ p.length ∧ wr.ownsRow w.heap.size 3 1 v q (ints ((p.take q).map (· * 100))) ∧ Below w.heap.size w wr) (fun _ _ i _ => p.length - (intOf i).toNat)
        case atStart => exact ⟨0, rfl, Nat.zero_le _, World.ownsRow_nil .., hb1⟩
        case round =>
          clear hb1
          obtain ⟨q, rfl, hq, hown, hb⟩ := hrel
          have hsz := hb.size
          by_cases hlt : q < p.length
          · obtain ⟨bb, off, rfl, hbb, h0⟩ := (hr.below' hb hB).int hlt
            have hfb := HF.out p[q] (List.getElem_mem hlt)
            have HSN := Lib.hid (show (p.take (q + 1)).map (· * 100) = (p.take q).map (· * 100) ++ [p[q] * 100] by rw [take_snoc' p q hlt, List.map_append]; rfl)
            have hmb := mul_bd (a := p[q]) (b := 100) (A := 99) (B := 100) (by decide) hfb (by omega)
            generalize p[q] = f at *
            have V := Lib.hid (fun (w' : World) => below_own (w' := w') hb hsz hown (Nat.le_refl _))
            go_wp2_with (at_builtin; go_must (refine app1 rfl (.tmp 24) (.tmp 28) 22 rfl 3 _ 1 8 E22 w.heap.size _ _ _ _ rfl hown _ rfl ?_ ?_ ?_ ?_ ?_ ?_); rfl; rfl; rfl; omega; omega; intro v3 w3 hown3 hg3)
            go_roundw
            case rel => exact ⟨q + 1, by go_num, by omega, by rw [HSN.out]; simpa using hown3, V.out _ hg3⟩
            case measure => simp [intOf]; omega
          · obtain rfl : q = p.length := by omega
            rw [List.take_length, ← HCD.out] at hown
            obtain ⟨Av, cv, rfl, _, _⟩ := own_cap hown
            have hln : (scL p b).length = p.length := by simp [scL]
            have HT := Lib.hid (pTold Av p.length cv (scL p b) wr (by omega) wr.heap.size (Nat.le_refl _) (Rd.of_own hown))
            have HOW := Lib.hid (And.intro hown hb)
            have HLN := Lib.hid hln
            clear hown hb hln
            by_cases hs : vald (scL p b) = 0
            · rw [if_pos hs] at HT HE
              rw [if_pos ⟨HV.out, hs⟩] at HL
              clear hs
              go_wp2_with fail
              refine HT.out.mono ?_
              rintro e w4 ⟨rfl, hb4⟩
              go_wp2
              go_ret2
              exact ⟨_, ret_two rfl (by rw [HE.out]; rfl), by rw [HL.out, HLN.out]; exact own_below HOW.out.1 hb4, HOW.out.2.trans (hb4.mono hsz)⟩
            · rw [if_neg hs] at HT HE
              rw [if_neg (fun x => hs x.2)] at HL
              clear hs
              go_wp2_with fail
              refine HT.out.mono ?_
              rintro e w4 ⟨rfl, hb4⟩
              go_wp2
              go_ret2
              exact ⟨_, ret_two rfl (by rw [HE.out]; rfl), by rw [HL.out]; exact World.ownsRow_nil .., HOW.out.2.trans (hb4.mono hsz)⟩
      · by_cases heq : b = 100
        · subst heq
          have HCD := Lib.hid (show scL p 100 = p.map (· * 100) by rw [scL, show clip 100 = 100 by unfold clip; omega])
          clear h h5
          go_enter Try.func37, Try.ntmps37
          go_wp2_with fail
          refine H.out.mono ?_
          rintro e w1 ⟨rfl, hb1⟩
          go_wp2
          go_loopw [7, 9, 20] (fun v _ i wr => ∃ q : Nat, i = .int .i64 q ∧ q ≤ p.length ∧ wr.ownsRow w.heap.size 3 1 v q (ints ((p.take q).map (· * 100))) ∧ Below w.heap.size w wr) (fun _ _ i _ => p.length - (intOf i).toNat)
          case atStart => exact ⟨0, rfl, Nat.zero_le _, World.ownsRow_nil .., hb1⟩
          case round =>
            clear hb1
            obtain ⟨q, rfl, hq, hown, hb⟩ := hrel
            have hsz := hb.size
            by_cases hlt : q < p.length
            · obtain ⟨bb, off, rfl, hbb, h0⟩ := (hr.below' hb hB).int hlt
              have hfb := HF.out p[q] (List.getElem_mem hlt)
              have HSN := Lib.hid (show (p.take (q + 1)).map (· * 100) = (p.take q).map (· * 100) ++ [p[q] * 100] by rw [take_snoc' p q hlt, List.map_append]; rfl)
              have hmb := mul_bd (a := p[q]) (b := 100) (A := 99) (B := 100) (by decide) hfb (by omega)
              generalize p[q] = f at *
              have V := Lib.hid (fun (w' : World) => below_own (w' := w') hb hsz hown (Nat.le_refl _))
              go_wp2_with (at_builtin; go_must (refine app1 rfl (.tmp 24) (.tmp 28) 22 rfl 3 _ 1 8 E22 w.heap.size _ _ _ _ rfl hown _ rfl ?_ ?_ ?_ ?_ ?_ ?_); rfl; rfl; rfl; omega; omega; intro v3 w3 hown3 hg3)
              go_roundw
              case rel => exact ⟨q + 1, by go_num, by omega, by rw [HSN.out]; simpa using hown3, V.out _ hg3⟩
              case measure => simp [intOf]; omega
            · obtain rfl : q = p.length := by omega
              rw [List.take_length, ← HCD.out] at hown
              obtain ⟨Av, cv, rfl, _, _⟩ := own_cap hown
              have hln : (scL p 100).length = p.length := by simp [scL]
              have HT := Lib.hid (pTold Av p.length cv (scL p 100) wr (by omega) wr.heap.size (Nat.le_refl _) (Rd.of_own hown))
              have HOW := Lib.hid (And.intro hown hb)
              have HLN := Lib.hid hln
              clear hown hb hln
              by_cases hs : vald (scL p 100) = 0
              · rw [if_pos hs] at HT HE
                rw [if_pos ⟨HV.out, hs⟩] at HL
                clear hs
                go_wp2_with fail
                refine HT.out.mono ?_
                rintro e w4 ⟨rfl, hb4⟩
                go_wp2
                go_ret2
                exact ⟨_, ret_two rfl (by rw [HE.out]; rfl), by rw [HL.out, HLN.out]; exact own_below HOW.out.1 hb4, HOW.out.2.trans (hb4.mono hsz)⟩
              · rw [if_neg hs] at HT HE
                rw [if_neg (fun x => hs x.2)] at HL
                clear hs
                go_wp2_with fail
                refine HT.out.mono ?_
                rintro e w4 ⟨rfl, hb4⟩
                go_wp2
                go_ret2
                exact ⟨_, ret_two rfl (by rw [HE.out]; rfl), by rw [HL.out]; exact World.ownsRow_nil .., HOW.out.2.trans (hb4.mono hsz)⟩
        · have HCD := Lib.hid (show scL p b = p.map (· * b) by rw [scL, show clip b = b by unfold clip; omega])
          clear h h5
          go_enter Try.func37, Try.ntmps37
          go_wp2_with fail
          refine H.out.mono ?_
          rintro e w1 ⟨rfl, hb1⟩
          go_wp2
          go_loopw [7, 9, 20] (fun v _ i wr => ∃ q : Nat, i = .int .i64 q ∧ q ≤ p.length ∧ wr.ownsRow w.heap.size 3 1 v q (ints ((p.take q).map (· * b))) ∧ Below w.heap.size w wr) (fun _ _ i _ => p.length - (intOf i).toNat)
          case atStart => exact ⟨0, rfl, Nat.zero_le _, World.ownsRow_nil .., hb1⟩
          case round =>
            clear hb1
            obtain ⟨q, rfl, hq, hown, hb⟩ := hrel
            have hsz := hb.size
            by_cases hlt : q < p.length
            · obtain ⟨bb, off, rfl, hbb, h0⟩ := (hr.below' hb hB).int hlt
              have hfb := HF.out p[q] (List.getElem_mem hlt)
              have HSN := Lib.hid (show (p.take (q + 1)).map (· * b) = (p.take q).map (· * b) ++ [p[q] * b] by rw [take_snoc' p q hlt, List.map_append]; rfl)
              have hmb := mul_bd (a := p[q]) (b := b) (A := 99) (B := 100) (by decide) hfb (by omega)
              generalize p[q] = f at *
              have V := Lib.hid (fun (w' : World) => below_own (w' := w') hb hsz hown (Nat.le_refl _))
              go_wp2_with (at_builtin; go_must (refine app1 rfl (.tmp 24) (.tmp 28) 22 rfl 3 _ 1 8 E22 w.heap.size _ _ _ _ rfl hown _ rfl ?_ ?_ ?_ ?_ ?_ ?_); rfl; rfl; rfl; omega; omega; intro v3 w3 hown3 hg3)
              go_roundw
              case rel => exact ⟨q + 1, by go_num, by omega, by rw [HSN.out]; simpa using hown3, V.out _ hg3⟩
              case measure => simp [intOf]; omega
            · obtain rfl : q = p.length := by omega
              rw [List.take_length, ← HCD.out] at hown
              obtain ⟨Av, cv, rfl, _, _⟩ := own_cap hown
              have hln : (scL p b).length = p.length := by simp [scL]
              have HT := Lib.hid (pTold Av p.length cv (scL p b) wr (by omega) wr.heap.size (Nat.le_refl _) (Rd.of_own hown))
              have HOW := Lib.hid (And.intro hown hb)
              have HLN := Lib.hid hln
              clear hown hb hln
              by_cases hs : vald (scL p b) = 0
              · rw [if_pos hs] at HT HE
                rw [if_pos ⟨HV.out, hs⟩] at HL
                clear hs
                go_wp2_with fail
                refine HT.out.mono ?_
                rintro e w4 ⟨rfl, hb4⟩
                go_wp2
                go_ret2
                exact ⟨_, ret_two rfl (by rw [HE.out]; rfl), by rw [HL.out, HLN.out]; exact own_below HOW.out.1 hb4, HOW.out.2.trans (hb4.mono hsz)⟩
              · rw [if_neg hs] at HT HE
                rw [if_neg (fun x => hs x.2)] at HL
                clear hs
                go_wp2_with fail
                refine HT.out.mono ?_
                rintro e w4 ⟨rfl, hb4⟩
                go_wp2
                go_ret2
                exact ⟨_, ret_two rfl (by rw [HE.out]; rfl), by rw [HL.out]; exact World.ownsRow_nil .., HOW.out.2.trans (hb4.mono hsz)⟩
  · have hd : (vald p != 0) = true := by simpa using h
    rw [if_neg h] at HE
    rw [if_neg (fun x => h x.1)] at HL
    clear h
    go_enter Try.func37, Try.ntmps37
    go_wp2_with fail
    refine H.out.mono ?_
    rintro e w1 ⟨rfl, hb1⟩
    go_wp2
    go_ret2
    exact ⟨_, ret_two rfl (by rw [HE.out]; rfl), by rw [HL.out]; exact World.ownsRow_nil .., hb1⟩
end Go.Proofs.Ytnoocdannfeidaa

/-
  WALK: Has.
-/
namespace Go.Proofs.Ytnoocdannfeidaa
open Go.RowKit Pulse

def hasB (l : List Int) (x : Int) : Bool := l.any fun y => y == x
set_option maxHeartbeats 400000 in
theorem rHas (A : Option Addr) (k c : Nat) (l : List Int) (x : Int) (w : World) (hl : l.length ≤ 5000) (B : Nat) (hB : B ≤ w.heap.size) (hr : Rd w B 1 A k (ints l)) :
    Calls Try.prog 42 #[.slice A k c, .int .i64 x] w fun e w' => e = .returned (.bool (hasB l x)) ∧ Below w.heap.size w w' := by
  obtain rfl := hr.int_len
  have HD := Lib.hid (show hasB l x = l.any (fun y => y == x) from rfl)
  go_enter Try.func42, Try.ntmps42
  go_wp2
  go_loopw [5] (fun i wr => ∃ q : Nat, q ≤ l.length ∧ i = .int .i64 q ∧ Below w.heap.size w wr ∧ Hid ((l.take q).any (fun y => y == x) = false)) (fun i _ => l.length - (intOf i).toNat)
  case atStart => exact ⟨0, Nat.zero_le _, rfl, Below.refl _ _, rfl⟩
  case round =>
    obtain ⟨q, hq, rfl, hb, hall⟩ := hrel
    by_cases hlt : q < l.length
    · obtain ⟨b, off, rfl, hbb, h0⟩ := (hr.below' hb hB).int hlt
      have ht := any_take (fun y => y == x) l q hlt
      rw [hall.out, Bool.false_or] at ht
      have HIN := Lib.hid (List.getElem_mem hlt)
      have HT := Lib.hid ht
      clear ht
      generalize l[q] = f at *
      by_cases hf : f = x
      · have hd : (f == x) = true := by simpa using hf
        have HX := Lib.hid (show hasB l x = true by rw [HD.out]; exact List.any_eq_true.2 ⟨f, HIN.out, hd⟩)
        clear hf
        go_wp2
        go_ret
        exact ⟨ret_bool HX.out.symm, hb⟩
      · have hd : (f == x) = false := by simpa using hf
        have HX := Lib.hid (HT.out.trans hd)
        clear hf
        go_wp2
        go_roundw
        case rel => exact ⟨q + 1, by omega, by go_num, hb, HX⟩
        case measure => simp [intOf]; omega
    · obtain rfl : q = l.length := by omega
      have HX := Lib.hid (show hasB l x = false by rw [HD.out]; have := hall.out; rwa [List.take_length] at this)
      go_wp2
      go_ret
      exact ⟨ret_bool HX.out.symm, hb⟩
end Go.Proofs.Ytnoocdannfeidaa

/-
  WALK: Scale of the reference.
-/
namespace Go.Proofs.Ytnoocdannfeidaa
open Go.RowKit Pulse

theorem vald_three {p : List Int} (hl : p.length ≤ 12) (h : vald p ≠ 0) : vald p = 1 := by
  unfold vald at h ⊢
  rw [if_neg (by omega)] at h ⊢
  split at h
  · exact absurd rfl h
  · rename_i hx
    rw [if_neg hx]
theorem vald_far {p : List Int} {b f : Int} (hf : f ∈ p) (h0 : f ≠ 0) (hb : ¬ (-99 ≤ b ∧ b ≤ 99)) : vald (scL p b) ≠ 0 := by
  intro h
  obtain ⟨_, h2⟩ := vald_ok h
  have := h2 (f * clip b) (List.mem_map.2 ⟨f, hf, rfl⟩)
  rcases (show clip b = 100 ∨ clip b = -100 by unfold clip; omega) with e | e
  · rw [e] at this; omega
  · rw [e] at this; omega

set_option maxHeartbeats 1000000 in
theorem rScale (A : Option Addr) (k c : Nat) (p : List Int) (b : Int) (w : World) (hl : p.length ≤ 1000) (B : Nat) (hB : B ≤ w.heap.size) (hr : Rd w B 1 A k (ints p)) :
    Calls Try.prog 38 #[.slice A k c, .int .i64 b] w fun e w' => ∃ v, e = .returned (.tuple #[v, .int .i64 (scaleE p b)]) ∧ w'.ownsRow w.heap.size 3 1 v (scaleL p b).length (ints (scaleL p b)) ∧ Below w.heap.size w w' := by
  obtain rfl := hr.int_len
  have H := Lib.hid (rValidate A p.length c p w hl B hB hr)
  have HE := Lib.hid (show scaleE p b = if vald p = 0 then (if vald (scL p b) = 0 then 0 else 1) else vald p from rfl)
  have HL := Lib.hid (show scaleL p b = if vald p = 0 ∧ vald (scL p b) = 0 then scL p b else [] from rfl)
  by_cases h : vald p = 0
  · obtain ⟨h4, h5⟩ := vald_ok h
    have HV := Lib.hid h
    rw [h] at H
    rw [if_pos h] at HE
    have HF := Lib.hid h5
    have HCD := Lib.hid (show scL p b = p.map (· * clip b) from rfl)
    have HFAR := Lib.hid (fun (f : Int) (hf : f ∈ p) (h0 : f ≠ 0) (hb : ¬ (-99 ≤ b ∧ b ≤ 99)) => vald_far hf h0 hb)
    have HV3 := Lib.hid (fun (h : vald (scL p b) ≠ 0) => vald_three (p := scL p b) (by simp [scL]; exact h4) h)
    have HCL := Lib.hid (fun (hb : -99 ≤ b ∧ b ≤ 99) => show clip b = b by unfold clip; omega)
    clear h h5
    go_enter Try.func38, Try.ntmps38
    go_wp2_with fail
    refine H.out.mono ?_
    rintro e w1 ⟨rfl, hb1⟩
    go_wp2
    go_loopw [7, 8, 9] (fun v i _ wr => ∃ q : Nat, i = .int .i64 q ∧ q ≤ p.length ∧ wr.ownsRow w.heap.size 3 1 v q (ints ((p.take q).map (· * clip b))) ∧ Below w.heap.size w wr) (fun _ i _ _ => p.length - (intOf i).toNat)
    case atStart => exact ⟨0, rfl, Nat.zero_le _, World.ownsRow_nil .., hb1⟩
    case round =>
      clear hb1
      obtain ⟨q, rfl, hq, hown, hb⟩ := hrel
      have hsz := hb.size
      by_cases hlt : q < p.length
      · obtain ⟨bb, off, rfl, hbb, h0⟩ := (hr.below' hb hB).int hlt
        have hfb := HF.out p[q] (List.getElem_mem hlt)
        have HIN := Lib.hid (List.getElem_mem hlt)
        have HSN := Lib.hid (show (p.take (q + 1)).map (· * clip b) = (p.take q).map (· * clip b) ++ [p[q] * clip b] by rw [take_snoc' p q hlt, List.map_append]; rfl)
        generalize p[q] = f at *
        have V := Lib.hid (fun (w' : World) => below_own (w' := w') hb hsz hown (Nat.le_refl _))
        by_cases hf : f = 0
        · have d1 : (f != 0) = false := by simpa using hf
          have HZ := Lib.hid (show f * clip b = 0 by rw [hf, Int.zero_mul])
          clear hf
          go_wp2_with (at_builtin; go_must (refine app1 rfl (.tmp 43) (.tmp 45) 22 rfl 3 _ 1 8 E22 w.heap.size _ _ _ _ rfl hown _ rfl ?_ ?_ ?_ ?_ ?_ ?_); rfl; rfl; rfl; omega; omega; intro v3 w3 hown3 hg3)
          go_roundw
          case rel => exact ⟨q + 1, by go_num, by omega, by rw [HSN.out, HZ.out]; simpa using hown3, V.out _ hg3⟩
          case measure => simp [intOf]; omega
        · have d1 : (f != 0) = true := by simpa using hf
          have HNZ := Lib.hid hf
          clear hf
          cases hi : (decide (-99 ≤ b) && decide (b ≤ 99)) with
          | true =>
            have HI := Lib.hid hi
            have hbd : -99 ≤ b ∧ b ≤ 99 := by simpa using hi
            have HZ := Lib.hid (show f * clip b = f * b by rw [HCL.out hbd])
            have hmb := mul_bd (a := f) (b := b) (A := 99) (B := 99) (by decide) hfb hbd
            clear hi
            go_wp2_with fail
            refine (rwithin b (-99) 99 _).mono ?_
            rw [HI.out]
            rintro e w2 ⟨rfl, rfl⟩
            go_wp2_with (at_builtin; go_must (refine app1 rfl (.tmp 43) (.tmp 45) 22 rfl 3 _ 1 8 E22 w.heap.size _ _ _ _ rfl hown _ rfl ?_ ?_ ?_ ?_ ?_ ?_); rfl; rfl; rfl; omega; omega; intro v3 w3 hown3 hg3)
            go_roundw
            case rel => exact ⟨q + 1, by go_num, by omega, by rw [HSN.out, HZ.out]; simpa using hown3, V.out _ hg3⟩
            case measure => simp [intOf]; omega
          | false =>
            have HI := Lib.hid hi
            have hbd : ¬ (-99 ≤ b ∧ b ≤ 99) := by
              intro h
              rw [decide_eq_true h.1, decide_eq_true h.2] at hi
              cases hi
            have hne := HFAR.out f HIN.out HNZ.out hbd
            rw [if_neg hne] at HE
            rw [if_neg (fun x => hne x.2)] at HL
            clear hi hbd hne
            go_wp2_with fail
            refine (rwithin b (-99) 99 _).mono ?_
            rw [HI.out]
            rintro e w2 ⟨rfl, rfl⟩
            go_wp2
            go_ret2
            exact ⟨_, ret_two rfl (by rw [HE.out]; rfl), by rw [HL.out]; exact World.ownsRow_nil .., hb⟩
      · obtain rfl : q = p.length := by omega
        rw [List.take_length, ← HCD.out] at hown
        obtain ⟨Av, cv, rfl, _, _⟩ := own_cap hown
        have hln : (scL p b).length = p.length := by simp [scL]
        have HT := Lib.hid (rValidate Av p.length cv (scL p b) wr (by omega) wr.heap.size (Nat.le_refl _) (Rd.of_own hown))
        have HOW := Lib.hid (And.intro hown hb)
        have HLN := Lib.hid hln
        clear hown hb hln
        by_cases hs : vald (scL p b) = 0
        · rw [hs] at HT
          rw [if_pos hs] at HE
          rw [if_pos ⟨HV.out, hs⟩] at HL
          clear hs
          go_wp2_with fail
          refine HT.out.mono ?_
          rintro e w4 ⟨rfl, hb4⟩
          go_wp2
          go_ret2
          exact ⟨_, ret_two rfl (by rw [HE.out]; rfl), by rw [HL.out, HLN.out]; exact own_below HOW.out.1 hb4, HOW.out.2.trans (hb4.mono hsz)⟩
        · rw [HV3.out hs] at HT
          rw [if_neg hs] at HE
          rw [if_neg (fun x => hs x.2)] at HL
          clear hs
          go_wp2_with fail
          refine HT.out.mono ?_
          rintro e w4 ⟨rfl, hb4⟩
          go_wp2
          go_ret2
          exact ⟨_, ret_two rfl (by rw [HE.out]; rfl), by rw [HL.out]; exact World.ownsRow_nil .., HOW.out.2.trans (hb4.mono hsz)⟩
  · have hd : (vald p != 0) = true := by simpa using h
    rw [if_neg h] at HE
    rw [if_neg (fun x => h x.1)] at HL
    clear h
    go_enter Try.func38, Try.ntmps38
    go_wp2_with fail
    refine H.out.mono ?_
    rintro e w1 ⟨rfl, hb1⟩
    go_wp2
    go_ret2
    exact ⟨_, ret_two rfl (by rw [HE.out]; rfl), by rw [HL.out]; exact World.ownsRow_nil .., hb1⟩
end Go.Proofs.Ytnoocdannfeidaa

/-
  WALK: Back of the reference.
-/
namespace Go.Proofs.Ytnoocdannfeidaa
open Go.RowKit Pulse

def backL (p : List Int) : List Int := if vald p = 0 then p.reverse else []
theorem drop_back {p : List Int} {j : Nat} (h : j < p.length) : (p.drop j).reverse = (p.drop (j + 1)).reverse ++ [p[j]] := by
  rw [List.drop_eq_getElem_cons h, List.reverse_cons]
set_option maxHeartbeats 1000000 in
theorem rBack (A : Option Addr) (k c : Nat) (p : List Int) (w : World) (hl : p.length ≤ 1000) (B : Nat) (hB : B ≤ w.heap.size) (hr : Rd w B 1 A k (ints p)) :
    Calls Try.prog 44 #[.slice A k c] w fun e w' => ∃ v, e = .returned (.tuple #[v, .int .i64 (vald p)]) ∧ w'.ownsRow w.heap.size 3 1 v (backL p).length (ints (backL p)) ∧ Below w.heap.size w w' := by
  obtain rfl := hr.int_len
  have H := Lib.hid (rValidate A p.length c p w hl B hB hr)
  have HL := Lib.hid (show backL p = if vald p = 0 then p.reverse else [] from rfl)
  by_cases h : vald p = 0
  · have HV := Lib.hid h
    rw [h] at H
    rw [if_pos h] at HL
    clear h
    go_enter Try.func44, Try.ntmps44
    go_wp2_with fail
    refine H.out.mono ?_
    rintro e w1 ⟨rfl, hb1⟩
    go_wp2
    go_loopw [5, 6] (fun v i wr => ∃ j : Nat, i = .int .i64 ((j : Int) - 1) ∧ j ≤ p.length ∧ wr.ownsRow w.heap.size 3 1 v (p.length - j) (ints (p.drop j).reverse) ∧ Below w.heap.size w wr) (fun _ i _ => (intOf i + 1).toNat)
    case atStart => exact ⟨p.length, by go_num, Nat.le_refl _, by rw [Nat.sub_self, List.drop_length]; exact World.ownsRow_nil .., hb1⟩
    case round =>
      clear hb1
      obtain ⟨j, rfl, hj, hown, hb⟩ := hrel
      have hsz := hb.size
      cases j with
      | zero =>
        rw [show ((0 : Nat) : Int) - 1 = -1 by omega]
        rw [Nat.sub_zero, List.drop_zero] at hown
        have HO := Lib.hid hown
        clear hown
        go_wp2
        go_ret2
        exact ⟨_, ret_two rfl (by rw [HV.out]; rfl), by rw [HL.out, List.length_reverse]; exact HO.out, hb⟩
      | succ j =>
        rw [show ((j + 1 : Nat) : Int) - 1 = (j : Int) by omega]
        have hjp : j < p.length := by omega
        obtain ⟨bb, off, rfl, hbb, h0⟩ := (hr.below' hb hB).int hjp
        have HSN := Lib.hid (drop_back hjp)
        generalize p[j] = f at *
        have hn : p.length - (j + 1) ≤ 1000 := by omega
        have HNN := Lib.hid (show p.length - j = p.length - (j + 1) + 1 by omega)
        have V := Lib.hid (fun (w' : World) => below_own (w' := w') hb hsz hown (Nat.le_refl _))
        go_wp2_with (at_builtin; go_must (refine app1 rfl (.tmp 19) (.tmp 24) 22 rfl 3 _ 1 8 E22 w.heap.size _ _ _ _ rfl hown _ rfl ?_ ?_ ?_ ?_ ?_ ?_); rfl; rfl; rfl; omega; omega; intro v3 w3 hown3 hg3)
        go_roundw
        case rel => exact ⟨j, by go_num, by omega, by rw [HNN.out, HSN.out]; simpa using hown3, V.out _ hg3⟩
        case measure => simp [intOf]
  · have hd : (vald p != 0) = true := by simpa using h
    rw [if_neg h] at HL
    clear h
    go_enter Try.func44, Try.ntmps44
    go_wp2_with fail
    refine H.out.mono ?_
    rintro e w1 ⟨rfl, hb1⟩
    go_wp2
    go_ret2
    exact ⟨_, ret_two rfl rfl, by rw [HL.out]; exact World.ownsRow_nil .., hb1⟩
end Go.Proofs.Ytnoocdannfeidaa
