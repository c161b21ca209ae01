/-
  WALKS: Curve and Same of the reference.
-/
import Derived.Test.YtkeolmipdoeljaaW10
namespace Go.Proofs.Ytkeolmipdoeljaa
open Go.RowKit Heat

set_option maxRecDepth 100000 in
set_option maxHeartbeats 1000000 in
theorem rCurve (n : Int) (A : Option Addr) (k c : Nat) (l : List HAct) (w : World) (hl : l.length ≤ 400) (hk : k ≤ c) (hc : c ≤ maxLen) (B : Nat) (hB : B ≤ w.heap.size) (hr : Rd w B 3 A k (actCells l)) :
    Calls Try.prog 25 #[.int .i64 n, .slice A k c] w fun e w' => ∃ v, e = .returned (.tuple #[v, .int .i64 (validate n l)]) ∧ w'.ownsRow w.heap.size 3 1 v (curveL n l).length (ints (curveL n l)) ∧ Below w.heap.size w w' := by
  have H := Lib.hid (rValidate n A k c l w (by omega) B hB hr)
  by_cases h : validate n l = 0
  · obtain ⟨h1, h2, h3, h4⟩ := validate_ok h
    have HC := Lib.hid (show curveL n l = curve l by rw [curveL, if_pos h])
    have HL := Lib.hid h
    have HM := Lib.hid (mild_of h4)
    clear h h4
    go_enter Try.func25, Try.ntmps25
    go_wp2_with fail
    refine H.out.mono ?_
    rw [HL.out]
    rintro e w1 ⟨rfl, hb⟩
    go_wp2
    go_loopw [7, 8] (fun v i wr => ∃ q : Nat, q ≤ 101 ∧ i = .int .i64 q ∧ wr.ownsRow w.heap.size 3 1 v q (ints (curveTo l q)) ∧ Hid (noZero l q) ∧ Below w.heap.size w wr) (fun _ i _ => 101 - (intOf i).toNat)
    case atStart => exact ⟨0, by omega, rfl, World.ownsRow_nil _ _ _ _, fun i hi => absurd hi (by omega), hb⟩
    case round =>
      clear hb
      obtain ⟨q, hq, rfl, hown, HN, hb⟩ := hrel
      have hsz := hb.size
      by_cases hlt : q < 101
      · have hF := Lib.hid (rfewest A k c q l wr hl hk hc (by omega) HM.out B (by omega) (hr.below' hb hB))
        have HS := Lib.hid (curveTo_succ l q)
        by_cases hz : cnt (q : Int) cold l = 0
        · have HZ := Lib.hid hz
          have HE := Lib.hid (curve_hit l q hlt HN.out hz)
          clear hz
          go_wp2_with fail
          refine hF.out.mono ?_
          rw [HZ.out]
          rintro e w2 ⟨rfl, hb2⟩
          have hown2 := own_below hown hb2
          have s2 := hb2.size
          go_wp2_with (at_builtin; go_must (refine app1 rfl (.tmp 23) (.tmp 25) 34 rfl 3 _ 1 8 E34 w.heap.size _ _ _ _ rfl hown2 _ rfl ?_ ?_ ?_ ?_ ?_ ?_); rfl; rfl; rfl; omega; omega; intro v3 w3 hown3 hg3)
          go_ret2
          refine ⟨_, ret_vi HL.out.symm, ?_, below_own (hb.trans (hb2.mono hsz)) (by omega) hown2 (Nat.le_refl _) hg3⟩
          rw [HC.out, HE.out, curveTo_len, HS.out, HZ.out]
          simpa using hown3
        · have hd : ((cnt (q : Int) cold l : Int) == 0) = false := by simpa using hz
          have HZ := Lib.hid (show noZero l (q + 1) from fun i hi => by
            rcases Nat.lt_or_ge i q with e | e
            · exact HN.out i e
            · obtain rfl : i = q := by omega
              exact hz)
          clear hz
          go_wp2_with fail
          refine hF.out.mono ?_
          rintro e w2 ⟨rfl, hb2⟩
          have hown2 := own_below hown hb2
          have s2 := hb2.size
          go_wp2_with (at_builtin; go_must (refine app1 rfl (.tmp 23) (.tmp 25) 34 rfl 3 _ 1 8 E34 w.heap.size _ _ _ _ rfl hown2 _ rfl ?_ ?_ ?_ ?_ ?_ ?_); rfl; rfl; rfl; omega; omega; intro v3 w3 hown3 hg3)
          go_roundw
          case rel => exact ⟨q + 1, by omega, by go_num, by rw [HS.out]; simpa using hown3, HZ.out, below_own (hb.trans (hb2.mono hsz)) (by omega) hown2 (Nat.le_refl _) hg3⟩
          case measure => simp [intOf]; omega
      · obtain rfl : q = 101 := by omega
        have HE := Lib.hid (curve_all l HN.out)
        go_wp2
        go_ret2
        exact ⟨_, ret_vi HL.out.symm, by rw [HC.out, HE.out, curveTo_len]; exact hown, hb⟩
  · have hd : (validate n l == 0) = false := by simpa using h
    have hd' : (validate n l != 0) = true := by simpa using h
    have HC := Lib.hid (show curveL n l = [] by rw [curveL, if_neg h])
    clear h
    go_enter Try.func25, Try.ntmps25
    go_wp2_with fail
    refine H.out.mono ?_
    rintro e w1 ⟨rfl, hb⟩
    go_wp2
    go_ret2
    exact ⟨_, rfl, by rw [HC.out]; exact World.ownsRow_nil _ _ _ _, hb⟩

set_option maxRecDepth 100000 in
theorem rSame (A A' : Option Addr) (k k' c c' : Nat) (l m : List HAct) (w : World) (hl : l.length ≤ 1000) (hm : m.length ≤ 1000) (B : Nat) (hB : B ≤ w.heap.size) (hr : Rd w B 3 A k (actCells l)) (hr' : Rd w B 3 A' k' (actCells m)) :
    Calls Try.prog 31 #[.slice A k c, .slice A' k' c'] w fun e w' => e = .returned (.bool (decide (l = m))) ∧ Below w.heap.size w w' := by
  obtain rfl := hr.act_len
  obtain rfl := hr'.act_len
  by_cases hlm : l.length = m.length
  · have HLM := Lib.hid hlm
    have hd : ((l.length : Int) == (m.length : Int)) = true := by simp [hlm]
    have hd' : ((l.length : Int) != (m.length : Int)) = false := by simp [hlm]
    clear hlm
    go_enter Try.func31, Try.ntmps31
    go_wp2
    go_loopw [5] (fun i wr => ∃ q : Nat, q ≤ l.length ∧ i = .int .i64 q ∧ Below w.heap.size w wr ∧ Hid (l.take q = m.take q)) (fun i _ => l.length - (intOf i).toNat)
    case atStart => exact ⟨0, Nat.zero_le _, rfl, Below.refl _ _, rfl⟩
    case round =>
      obtain ⟨q, hq, rfl, hb, HT⟩ := hrel
      by_cases hlt : q < l.length
      · have hlt' : q < m.length := by have := HLM.out; omega
        obtain ⟨b, off, rfl, _, h0, h1, h2⟩ := (hr.below' hb hB).act hlt
        obtain ⟨b', off', rfl, _, h0', h1', h2'⟩ := (hr'.below' hb hB).act hlt'
        have z0 : (0 : Int) ≤ (q : Int) := Int.natCast_nonneg _
        have z1 : (q : Int) < (l.length : Int) := by omega
        have z2 : (q : Int) < (m.length : Int) := by omega
        have HS := Lib.hid (take_snoc l q hlt)
        have HS' := Lib.hid (take_snoc m q hlt')
        have HE : l[q] = m[q] → Hid (l.take (q + 1) = m.take (q + 1)) := fun e => by show l.take (q + 1) = m.take (q + 1); rw [HS.out, HS'.out, HT.out, e]
        have HF : l[q] ≠ m[q] → Hid (decide (l = m) = false) := fun e => by show decide (l = m) = false; apply decide_eq_false; intro h; subst h; exact e rfl
        have HEH := Lib.hid HE
        have HFH := Lib.hid HF
        clear HE HF
        generalize l[q] = x at *
        generalize m[q] = y at *
        obtain ⟨x0, x1, x2⟩ := x
        obtain ⟨y0, y1, y2⟩ := y
        dsimp only at *
        by_cases e0 : x0 = y0
        · by_cases e1 : x1 = y1
          · by_cases e2 : x2 = y2
            · have HN := Lib.hid (HEH.out (by rw [e0, e1, e2]))
              have d0 : (x0 == y0) = true := by simpa using e0
              have d1 : (x1 == y1) = true := by simpa using e1
              have d2 : (x2 == y2) = true := by simpa using e2
              have b0 : (x0 != y0) = false := by simpa using e0
              have b1 : (x1 != y1) = false := by simpa using e1
              have b2 : (x2 != y2) = false := by simpa using e2
              clear e0 e1 e2
              go_wp2
              go_quiet (fail)
              go_wp2
              go_roundw
              case rel => exact ⟨q + 1, by omega, by go_num, below_drewN hb nq, HN.out⟩
              case measure => simp [intOf]; omega
            · have HN := Lib.hid (HFH.out (by simp [e2]))
              have d0 : (x0 == y0) = true := by simpa using e0
              have d1 : (x1 == y1) = true := by simpa using e1
              have d2 : (x2 == y2) = false := by simpa using e2
              have b0 : (x0 != y0) = false := by simpa using e0
              have b1 : (x1 != y1) = false := by simpa using e1
              have b2 : (x2 != y2) = true := by simpa using e2
              clear e0 e1 e2
              go_wp2
              go_quiet (fail)
              go_wp2
              go_ret
              exact ⟨ret_bool HN.out.symm, below_drewN hb nq⟩
          · have HN := Lib.hid (HFH.out (by simp [e1]))
            have d0 : (x0 == y0) = true := by simpa using e0
            have d1 : (x1 == y1) = false := by simpa using e1
            have b0 : (x0 != y0) = false := by simpa using e0
            have b1 : (x1 != y1) = true := by simpa using e1
            clear e0 e1
            go_wp2
            go_quiet (fail)
            go_wp2
            go_ret
            exact ⟨ret_bool HN.out.symm, below_drewN hb nq⟩
        · have HN := Lib.hid (HFH.out (by simp [e0]))
          have d0 : (x0 == y0) = false := by simpa using e0
          have b0 : (x0 != y0) = true := by simpa using e0
          clear e0
          go_wp2
          go_quiet (fail)
          go_wp2
          go_ret
          exact ⟨ret_bool HN.out.symm, below_drewN hb nq⟩
      · obtain rfl : q = l.length := by omega
        have HE := Lib.hid (show l = m by have := HT.out; rw [List.take_length, HLM.out, List.take_length] at this; exact this)
        go_wp2
        go_ret
        exact ⟨ret_bool (decide_eq_true HE.out).symm, hb⟩
  · have hd : ((l.length : Int) == (m.length : Int)) = false := by simp; omega
    have hd' : ((l.length : Int) != (m.length : Int)) = true := by simp; omega
    have HLM := Lib.hid hlm
    clear hlm
    go_enter Try.func31, Try.ntmps31
    go_wp2
    go_ret
    exact ⟨ret_bool (by symm; apply decide_eq_false; intro h; subst h; exact HLM.out rfl), Below.refl _ _⟩
end Go.Proofs.Ytkeolmipdoeljaa
