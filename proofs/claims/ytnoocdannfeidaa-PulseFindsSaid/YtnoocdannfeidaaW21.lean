/-
  WALK: Check of both. (Printed by gen_check.py.)
-/
import Derived.Test.YtnoocdannfeidaaW20
namespace Go.Proofs.Ytnoocdannfeidaa
open Go.RowKit Pulse

set_option maxHeartbeats 1000000 in
theorem rclosedIn (p ms : List Int) (A A' : Option Addr) (c k' c' : Nat) (hl : p.length ≤ 12) (hF : Forces 99 p) (hms : ∀ m ∈ ms, 0 ≤ m ∧ m ≤ 3) (hl' : ms.length ≤ 1000) (w : World) (B : Nat) (hB : B ≤ w.heap.size) (hr : Rd w B 1 A p.length (ints p)) (hr' : Rd w B 1 A' k' (ints ms)) :
    Calls Try.prog 70 #[.slice A p.length c, .slice A' k' c'] w fun e w' => e = .returned (.bool (shut p ms)) ∧ Below w.heap.size w w' := by
  obtain rfl := hr'.int_len
  have HSD := Lib.hid (show shut p ms = !(ms.any (away p)) from rfl)
  go_enter Try.func70, Try.ntmps70
  go_wp2
  go_loopw [5] (fun i wr => ∃ q : Nat, q ≤ ms.length ∧ i = .int .i64 q ∧ Below w.heap.size w wr ∧ Hid ((ms.take q).any (away p) = false)) (fun i _ => ms.length - (intOf i).toNat)
  case atStart => exact ⟨0, Nat.zero_le _, rfl, Below.refl _ _, rfl⟩
  case round =>
    obtain ⟨q, hq, rfl, hb, hall⟩ := hrel
    have hsz := hb.size
    by_cases hlt : q < ms.length
    · obtain ⟨b, off, rfl, hbb, h0⟩ := (hr'.below' hb hB).int hlt
      have hin : ms[q] ∈ ms := List.getElem_mem hlt
      obtain ⟨hm1, hm2⟩ := hms _ hin
      have ht := any_take (away p) ms q hlt
      rw [hall.out, Bool.false_or] at ht
      have HE := Lib.hid (rend p ms[q] hl hF hm1 hm2 A c wr B (by omega) (hr.below' hb hB))
      have HIN := Lib.hid hin
      have HAW := Lib.hid (show away p ms[q] = !(decide ((endL ms[q].toNat p).x = 0) && decide ((endL ms[q].toNat p).y = 0)) from rfl)
      have HT := Lib.hid ht
      clear ht hin
      generalize ms[q] = mq at *
      obtain ⟨u, hu⟩ : ∃ u, u = endL mq.toNat p := ⟨_, rfl⟩
      rw [← hu] at HE HAW
      clear hu
      have HB := Lib.hid hb
      clear hb
      by_cases hx : u.x = 0
      · by_cases hy : u.y = 0
        · have HA2 := Lib.hid (show (ms.take (q + 1)).any (away p) = false by rw [HT.out, HAW.out, hx, hy]; rfl)
          go_wp2_with fail
          refine HE.out.mono ?_
          rintro e w2 ⟨rfl, hb2⟩
          go_wp2
          go_roundw
          case rel => exact ⟨q + 1, by omega, by go_num, HB.out.trans (hb2.mono hsz), HA2⟩
          case measure => simp [intOf]; omega
        · have HA2 := Lib.hid (show away p mq = true by rw [HAW.out, decide_eq_false hy, Bool.and_false]; rfl)
          go_wp2_with fail
          refine HE.out.mono ?_
          rintro e w2 ⟨rfl, hb2⟩
          go_wp2
          go_ret
          exact ⟨ret_bool (by rw [HSD.out, List.any_eq_true.2 ⟨mq, HIN.out, HA2.out⟩]; rfl), HB.out.trans (hb2.mono hsz)⟩
      · have HA2 := Lib.hid (show away p mq = true by rw [HAW.out, decide_eq_false hx, Bool.false_and]; rfl)
        go_wp2_with fail
        refine HE.out.mono ?_
        rintro e w2 ⟨rfl, hb2⟩
        go_wp2
        go_ret
        exact ⟨ret_bool (by rw [HSD.out, List.any_eq_true.2 ⟨mq, HIN.out, HA2.out⟩]; rfl), HB.out.trans (hb2.mono hsz)⟩
    · obtain rfl : q = ms.length := by omega
      have HA := Lib.hid (show ms.any (away p) = false by have := hall.out; rwa [List.take_length] at this)
      go_wp2
      go_ret
      exact ⟨ret_bool (by rw [HSD.out, HA.out]; rfl), hb⟩

/-- What Check answers. -/
def chkE (p ms : List Int) (a : Int) : Int := if vald p = 0 then (if areModes ms = true then (if shut p ms = true ∧ areaL (ms.getD 0 0).toNat p = a then 0 else 7) else 1) else vald p

set_option maxHeartbeats 1000000 in
theorem pCheck (A A' : Option Addr) (k c k' c' : Nat) (p ms : List Int) (a : Int) (w : World) (hl : p.length ≤ 1000) (hl' : ms.length ≤ 1000) (B : Nat) (hB : B ≤ w.heap.size) (hr : Rd w B 1 A k (ints p)) (hr' : Rd w B 1 A' k' (ints ms)) :
    Calls Try.prog 28 #[.slice A k c, .slice A' k' c', .int .i64 a] w fun e w' => e = .returned (.int .i64 (chkE p ms a)) ∧ Below w.heap.size w w' := by
  obtain rfl := hr.int_len
  obtain rfl := hr'.int_len
  have H := Lib.hid (pValidate A p.length c p w hl B hB hr)
  have HC := Lib.hid (show chkE p ms a = if vald p = 0 then (if areModes ms = true then (if shut p ms = true ∧ areaL (ms.getD 0 0).toNat p = a then 0 else 7) else 1) else vald p from rfl)
  by_cases h : vald p = 0
  · obtain ⟨h4, h5⟩ := vald_ok h
    have HV := Lib.hid h
    rw [h] at H
    rw [if_pos h] at HC
    have HF := Lib.hid h5
    clear h h5
    go_enter Try.func28, Try.ntmps28
    go_wp2_with fail
    refine H.out.mono ?_
    rintro e w1 ⟨rfl, hb1⟩
    have s1 := hb1.size
    have HM := Lib.hid (pisModes A' ms.length c' ms w1 hl' B (by omega) (hr'.below' hb1 hB))
    have HB1 := Lib.hid hb1
    clear hb1
    cases ha : areModes ms with
    | false =>
      rw [ha] at HM HC
      rw [if_neg (by decide)] at HC
      clear ha
      go_wp2_with fail
      refine HM.out.mono ?_
      rintro e w2 ⟨rfl, hb2⟩
      go_wp2
      go_ret
      exact ⟨ret_int HC.out.symm, HB1.out.trans (hb2.mono s1)⟩
    | true =>
      obtain ⟨g1, g2⟩ := areModes_ok ha
      rw [ha] at HM HC
      rw [if_pos rfl] at HC
      have HMS := Lib.hid g2
      clear ha g2
      go_wp2_with fail
      refine HM.out.mono ?_
      rintro e w2 ⟨rfl, hb2⟩
      have B2 := HB1.out.trans (hb2.mono s1)
      have s2 := B2.size
      have HSH := Lib.hid (pisClosed p ms A A' c ms.length c' h4 HF.out HMS.out hl' w2 B (by omega) (hr.below' B2 hB) (hr'.below' B2 hB))
      clear hb2
      cases hs : shut p ms with
      | false =>
        rw [hs] at HSH HC
        rw [if_neg (by simp)] at HC
        clear hs
        go_wp2_with fail
        refine HSH.out.mono ?_
        rintro e w3 ⟨rfl, hb3⟩
        go_wp2
        go_ret
        exact ⟨ret_int HC.out.symm, B2.trans (hb3.mono s2)⟩
      | true =>
        rw [hs] at HSH HC
        clear hs
        go_wp2_with fail
        refine HSH.out.mono ?_
        rintro e w3 ⟨rfl, hb3⟩
        have B3 := B2.trans (hb3.mono s2)
        have s3 := B3.size
        obtain ⟨b, off, rfl, hbb, h0⟩ := (hr'.below' B3 hB).int g1
        obtain ⟨m1, m2⟩ := HMS.out _ (List.getElem_mem g1)
        have e0 : ms.getD 0 0 = ms[0] := by simp [g1]
        rw [e0] at HC
        rw [Nat.add_zero] at h0
        have HA := Lib.hid (pArea p ms[0] h4 HF.out m1 m2 A c w3 B (by omega) (hr.below' B3 hB))
        clear e0 hb3
        generalize ms[0] = m0 at *
        have HB3 := Lib.hid B3
        clear B3 B2
        by_cases hx : areaL m0.toNat p = a
        · rw [if_pos ⟨trivial, hx⟩] at HC
          rw [hx] at HA
          clear hx
          go_wp2_with fail
          refine HA.out.mono ?_
          rintro e w4 ⟨rfl, hb4⟩
          go_wp2
          go_ret
          exact ⟨ret_int HC.out.symm, HB3.out.trans (hb4.mono s3)⟩
        · rw [if_neg (fun h => hx h.2)] at HC
          have hd1 : (areaL m0.toNat p != a) = true := by simpa using hx
          clear hx
          go_wp2_with fail
          refine HA.out.mono ?_
          rintro e w4 ⟨rfl, hb4⟩
          go_wp2
          go_ret
          exact ⟨ret_int HC.out.symm, HB3.out.trans (hb4.mono s3)⟩
  · have hd : (vald p != 0) = true := by simpa using h
    rw [if_neg h] at HC
    clear h
    go_enter Try.func28, Try.ntmps28
    go_wp2_with fail
    refine H.out.mono ?_
    rintro e w1 ⟨rfl, hb1⟩
    go_wp2
    go_ret
    exact ⟨ret_int HC.out.symm, hb1⟩

set_option maxHeartbeats 1000000 in
theorem rCheck (A A' : Option Addr) (k c k' c' : Nat) (p ms : List Int) (a : Int) (w : World) (hl : p.length ≤ 1000) (hl' : ms.length ≤ 1000) (B : Nat) (hB : B ≤ w.heap.size) (hr : Rd w B 1 A k (ints p)) (hr' : Rd w B 1 A' k' (ints ms)) :
    Calls Try.prog 29 #[.slice A k c, .slice A' k' c', .int .i64 a] w fun e w' => e = .returned (.int .i64 (chkE p ms a)) ∧ Below w.heap.size w w' := by
  obtain rfl := hr.int_len
  obtain rfl := hr'.int_len
  have H := Lib.hid (rValidate A p.length c p w hl B hB hr)
  have HC := Lib.hid (show chkE p ms a = if vald p = 0 then (if areModes ms = true then (if shut p ms = true ∧ areaL (ms.getD 0 0).toNat p = a then 0 else 7) else 1) else vald p from rfl)
  by_cases h : vald p = 0
  · obtain ⟨h4, h5⟩ := vald_ok h
    have HV := Lib.hid h
    rw [h] at H
    rw [if_pos h] at HC
    have HF := Lib.hid h5
    clear h h5
    go_enter Try.func29, Try.ntmps29
    go_wp2_with fail
    refine H.out.mono ?_
    rintro e w1 ⟨rfl, hb1⟩
    have s1 := hb1.size
    have HM := Lib.hid (rareModes A' ms.length c' ms w1 hl' B (by omega) (hr'.below' hb1 hB))
    have HB1 := Lib.hid hb1
    clear hb1
    cases ha : areModes ms with
    | false =>
      rw [ha] at HM HC
      rw [if_neg (by decide)] at HC
      clear ha
      go_wp2_with fail
      refine HM.out.mono ?_
      rintro e w2 ⟨rfl, hb2⟩
      go_wp2
      go_ret
      exact ⟨ret_int HC.out.symm, HB1.out.trans (hb2.mono s1)⟩
    | true =>
      obtain ⟨g1, g2⟩ := areModes_ok ha
      rw [ha] at HM HC
      rw [if_pos rfl] at HC
      have HMS := Lib.hid g2
      clear ha g2
      go_wp2_with fail
      refine HM.out.mono ?_
      rintro e w2 ⟨rfl, hb2⟩
      have B2 := HB1.out.trans (hb2.mono s1)
      have s2 := B2.size
      have HSH := Lib.hid (rclosedIn p ms A A' c ms.length c' h4 HF.out HMS.out hl' w2 B (by omega) (hr.below' B2 hB) (hr'.below' B2 hB))
      clear hb2
      cases hs : shut p ms with
      | false =>
        rw [hs] at HSH HC
        rw [if_neg (by simp)] at HC
        clear hs
        go_wp2_with fail
        refine HSH.out.mono ?_
        rintro e w3 ⟨rfl, hb3⟩
        go_wp2
        go_ret
        exact ⟨ret_int HC.out.symm, B2.trans (hb3.mono s2)⟩
      | true =>
        rw [hs] at HSH HC
        clear hs
        go_wp2_with fail
        refine HSH.out.mono ?_
        rintro e w3 ⟨rfl, hb3⟩
        have B3 := B2.trans (hb3.mono s2)
        have s3 := B3.size
        obtain ⟨b, off, rfl, hbb, h0⟩ := (hr'.below' B3 hB).int g1
        obtain ⟨m1, m2⟩ := HMS.out _ (List.getElem_mem g1)
        have e0 : ms.getD 0 0 = ms[0] := by simp [g1]
        rw [e0] at HC
        rw [Nat.add_zero] at h0
        have HA := Lib.hid (rarea p ms[0] h4 HF.out m1 m2 A c w3 B (by omega) (hr.below' B3 hB))
        clear e0 hb3
        generalize ms[0] = m0 at *
        have HB3 := Lib.hid B3
        clear B3 B2
        by_cases hx : areaL m0.toNat p = a
        · rw [if_pos ⟨trivial, hx⟩] at HC
          rw [hx] at HA
          clear hx
          go_wp2_with fail
          refine HA.out.mono ?_
          rintro e w4 ⟨rfl, hb4⟩
          go_wp2
          go_ret
          exact ⟨ret_int HC.out.symm, HB3.out.trans (hb4.mono s3)⟩
        · rw [if_neg (fun h => hx h.2)] at HC
          have hd1 : (areaL m0.toNat p != a) = true := by simpa using hx
          clear hx
          go_wp2_with fail
          refine HA.out.mono ?_
          rintro e w4 ⟨rfl, hb4⟩
          go_wp2
          go_ret
          exact ⟨ret_int HC.out.symm, HB3.out.trans (hb4.mono s3)⟩
  · have hd : (vald p != 0) = true := by simpa using h
    rw [if_neg h] at HC
    clear h
    go_enter Try.func29, Try.ntmps29
    go_wp2_with fail
    refine H.out.mono ?_
    rintro e w1 ⟨rfl, hb1⟩
    go_wp2
    go_ret
    exact ⟨ret_int HC.out.symm, hb1⟩
end Go.Proofs.Ytnoocdannfeidaa
