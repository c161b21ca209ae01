/-
  WALK: Scale of the reference.
-/
import Derived.Test.YtnoocdannfeidaaW26
namespace Go.Proofs.Ytnoocdannfeidaa
open Go.RowKit Pulse

theorem vald_three {p : List Int} (hl : p.length ≤ 12) (h : vald p ≠ 0) : vald p = 1 := by
  unfold vald at h ⊢
  rw [if_neg (by omega)] at h ⊢
  split at h
  · exact absurd rfl h
  · rename_i hx
    rw [if_neg hx]
theorem vald_far {p : List Int} {b f : Int} (hf : f ∈ p) (h0 : f ≠ 0) (hb : ¬ (-99 ≤ b ∧ b ≤ 99)) : vald (scL p b) ≠ 0 := by
  intro h
  obtain ⟨_, h2⟩ := vald_ok h
  have := h2 (f * clip b) (List.mem_map.2 ⟨f, hf, rfl⟩)
  rcases (show clip b = 100 ∨ clip b = -100 by unfold clip; omega) with e | e
  · rw [e] at this; omega
  · rw [e] at this; omega

set_option maxHeartbeats 1000000 in
theorem rScale (A : Option Addr) (k c : Nat) (p : List Int) (b : Int) (w : World) (hl : p.length ≤ 1000) (B : Nat) (hB : B ≤ w.heap.size) (hr : Rd w B 1 A k (ints p)) :
    Calls Try.prog 38 #[.slice A k c, .int .i64 b] w fun e w' => ∃ v, e = .returned (.tuple #[v, .int .i64 (scaleE p b)]) ∧ w'.ownsRow w.heap.size 3 1 v (scaleL p b).length (ints (scaleL p b)) ∧ Below w.heap.size w w' := by
  obtain rfl := hr.int_len
  have H := Lib.hid (rValidate A p.length c p w hl B hB hr)
  have HE := Lib.hid (show scaleE p b = if vald p = 0 then (if vald (scL p b) = 0 then 0 else 1) else vald p from rfl)
  have HL := Lib.hid (show scaleL p b = if vald p = 0 ∧ vald (scL p b) = 0 then scL p b else [] from rfl)
  by_cases h : vald p = 0
  · obtain ⟨h4, h5⟩ := vald_ok h
    have HV := Lib.hid h
    rw [h] at H
    rw [if_pos h] at HE
    have HF := Lib.hid h5
    have HCD := Lib.hid (show scL p b = p.map (· * clip b) from rfl)
    have HFAR := Lib.hid (fun (f : Int) (hf : f ∈ p) (h0 : f ≠ 0) (hb : ¬ (-99 ≤ b ∧ b ≤ 99)) => vald_far hf h0 hb)
    have HV3 := Lib.hid (fun (h : vald (scL p b) ≠ 0) => vald_three (p := scL p b) (by simp [scL]; exact h4) h)
    have HCL := Lib.hid (fun (hb : -99 ≤ b ∧ b ≤ 99) => show clip b = b by unfold clip; omega)
    clear h h5
    go_enter Try.func38, Try.ntmps38
    go_wp2_with fail
    refine H.out.mono ?_
    rintro e w1 ⟨rfl, hb1⟩
    go_wp2
    go_loopw [7, 8, 9] (fun v i _ wr => ∃ q : Nat, i = .int .i64 q ∧ q ≤ p.length ∧ wr.ownsRow w.heap.size 3 1 v q (ints ((p.take q).map (· * clip b))) ∧ Below w.heap.size w wr) (fun _ i _ _ => p.length - (intOf i).toNat)
    case atStart => exact ⟨0, rfl, Nat.zero_le _, World.ownsRow_nil .., hb1⟩
    case round =>
      clear hb1
      obtain ⟨q, rfl, hq, hown, hb⟩ := hrel
      have hsz := hb.size
      by_cases hlt : q < p.length
      · obtain ⟨bb, off, rfl, hbb, h0⟩ := (hr.below' hb hB).int hlt
        have hfb := HF.out p[q] (List.getElem_mem hlt)
        have HIN := Lib.hid (List.getElem_mem hlt)
        have HSN := Lib.hid (show (p.take (q + 1)).map (· * clip b) = (p.take q).map (· * clip b) ++ [p[q] * clip b] by rw [take_snoc' p q hlt, List.map_append]; rfl)
        generalize p[q] = f at *
        have V := Lib.hid (fun (w' : World) => below_own (w' := w') hb hsz hown (Nat.le_refl _))
        by_cases hf : f = 0
        · have d1 : (f != 0) = false := by simpa using hf
          have HZ := Lib.hid (show f * clip b = 0 by rw [hf, Int.zero_mul])
          clear hf
          go_wp2_with (at_builtin; go_must (refine app1 rfl (.tmp 43) (.tmp 45) 22 rfl 3 _ 1 8 E22 w.heap.size _ _ _ _ rfl hown _ rfl ?_ ?_ ?_ ?_ ?_ ?_); rfl; rfl; rfl; omega; omega; intro v3 w3 hown3 hg3)
          go_roundw
          case rel => exact ⟨q + 1, by go_num, by omega, by rw [HSN.out, HZ.out]; simpa using hown3, V.out _ hg3⟩
          case measure => simp [intOf]; omega
        · have d1 : (f != 0) = true := by simpa using hf
          have HNZ := Lib.hid hf
          clear hf
          cases hi : (decide (-99 ≤ b) && decide (b ≤ 99)) with
          | true =>
            have HI := Lib.hid hi
            have hbd : -99 ≤ b ∧ b ≤ 99 := by simpa using hi
            have HZ := Lib.hid (show f * clip b = f * b by rw [HCL.out hbd])
            have hmb := mul_bd (a := f) (b := b) (A := 99) (B := 99) (by decide) hfb hbd
            clear hi
            go_wp2_with fail
            refine (rwithin b (-99) 99 _).mono ?_
            rw [HI.out]
            rintro e w2 ⟨rfl, rfl⟩
            go_wp2_with (at_builtin; go_must (refine app1 rfl (.tmp 43) (.tmp 45) 22 rfl 3 _ 1 8 E22 w.heap.size _ _ _ _ rfl hown _ rfl ?_ ?_ ?_ ?_ ?_ ?_); rfl; rfl; rfl; omega; omega; intro v3 w3 hown3 hg3)
            go_roundw
            case rel => exact ⟨q + 1, by go_num, by omega, by rw [HSN.out, HZ.out]; simpa using hown3, V.out _ hg3⟩
            case measure => simp [intOf]; omega
          | false =>
            have HI := Lib.hid hi
            have hbd : ¬ (-99 ≤ b ∧ b ≤ 99) := by
              intro h
              rw [decide_eq_true h.1, decide_eq_true h.2] at hi
              cases hi
            have hne := HFAR.out f HIN.out HNZ.out hbd
            rw [if_neg hne] at HE
            rw [if_neg (fun x => hne x.2)] at HL
            clear hi hbd hne
            go_wp2_with fail
            refine (rwithin b (-99) 99 _).mono ?_
            rw [HI.out]
            rintro e w2 ⟨rfl, rfl⟩
            go_wp2
            go_ret2
            exact ⟨_, ret_two rfl (by rw [HE.out]; rfl), by rw [HL.out]; exact World.ownsRow_nil .., hb⟩
      · obtain rfl : q = p.length := by omega
        rw [List.take_length, ← HCD.out] at hown
        obtain ⟨Av, cv, rfl, _, _⟩ := own_cap hown
        have hln : (scL p b).length = p.length := by simp [scL]
        have HT := Lib.hid (rValidate Av p.length cv (scL p b) wr (by omega) wr.heap.size (Nat.le_refl _) (Rd.of_own hown))
        have HOW := Lib.hid (And.intro hown hb)
        have HLN := Lib.hid hln
        clear hown hb hln
        by_cases hs : vald (scL p b) = 0
        · rw [hs] at HT
          rw [if_pos hs] at HE
          rw [if_pos ⟨HV.out, hs⟩] at HL
          clear hs
          go_wp2_with fail
          refine HT.out.mono ?_
          rintro e w4 ⟨rfl, hb4⟩
          go_wp2
          go_ret2
          exact ⟨_, ret_two rfl (by rw [HE.out]; rfl), by rw [HL.out, HLN.out]; exact own_below HOW.out.1 hb4, HOW.out.2.trans (hb4.mono hsz)⟩
        · rw [HV3.out hs] at HT
          rw [if_neg hs] at HE
          rw [if_neg (fun x => hs x.2)] at HL
          clear hs
          go_wp2_with fail
          refine HT.out.mono ?_
          rintro e w4 ⟨rfl, hb4⟩
          go_wp2
          go_ret2
          exact ⟨_, ret_two rfl (by rw [HE.out]; rfl), by rw [HL.out]; exact World.ownsRow_nil .., HOW.out.2.trans (hb4.mono hsz)⟩
  · have hd : (vald p != 0) = true := by simpa using h
    rw [if_neg h] at HE
    rw [if_neg (fun x => h x.1)] at HL
    clear h
    go_enter Try.func38, Try.ntmps38
    go_wp2_with fail
    refine H.out.mono ?_
    rintro e w1 ⟨rfl, hb1⟩
    go_wp2
    go_ret2
    exact ⟨_, ret_two rfl (by rw [HE.out]; rfl), by rw [HL.out]; exact World.ownsRow_nil .., hb1⟩
end Go.Proofs.Ytnoocdannfeidaa
