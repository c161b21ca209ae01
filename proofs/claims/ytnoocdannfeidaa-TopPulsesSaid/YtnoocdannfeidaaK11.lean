/-
  MERGED: W19, W20, W21.
-/
import Derived.Test.YtnoocdannfeidaaK10
/-
  WALK: the reference's area.
-/
namespace Go.Proofs.Ytnoocdannfeidaa
open Go.RowKit Pulse

theorem area_stp {m : Int} {p : List Int} {q : Nat} (h : q < p.length) : areaL m.toNat (p.take (q + 1)) = areaL m.toNat (p.take q) + cross (pt m p q) (stp m p q) := by
  unfold pt stp stepAt
  rw [take_snoc' p q h, areaL_snoc', List.length_take, Nat.min_eq_left (Nat.le_of_lt h), show p.getD q 0 = p[q] by simp [h]]
theorem cross_stp {m : Int} {p : List Int} {i : Nat} (h : i < p.length) (t : V) : cross (pt m p (i + 1)) t = cross (pt m p i) t + cross (stp m p i) t := by
  rw [pt_stp h, cross_add_left]
theorem area_bd {m : Int} {p : List Int} (hl : p.length ≤ 12) (h : Forces 99 p) (q : Nat) (hq : q ≤ p.length) : -200000000 ≤ areaL m.toNat (p.take q) ∧ areaL m.toNat (p.take q) ≤ 200000000 := by
  have := crAt_bd hl h (q + 1) (by omega) (m := m)
  have e : crAt m p (q + 1) = areaL m.toNat (p.take q) := rfl
  rw [e] at this
  omega

set_option maxHeartbeats 1000000 in
theorem rarea (p : List Int) (m : Int) (hl : p.length ≤ 12) (hF : Forces 99 p) (hm : 0 ≤ m) (hm' : m ≤ 3) (A : Option Addr) (c : Nat) (w : World) (B : Nat) (hB : B ≤ w.heap.size) (hr : Rd w B 1 A p.length (ints p)) :
    Calls Try.prog 59 #[.slice A p.length c, .int .i64 m] w fun e w' => e = .returned (.int .i64 (areaL m.toNat p)) ∧ Below w.heap.size w w' := by
  have HST := Lib.hid (rsteps p m hl hF hm hm' A c w B hB hr)
  go_enter Try.func59, Try.ntmps59
  go_wp2_with fail
  refine HST.out.mono ?_
  rintro e w1 ⟨v1, rfl, hown, hb1⟩
  obtain ⟨Av, cv, rfl, hcv, hcv'⟩ := own_cap hown
  have HG := Lib.hid (And.intro hown hb1)
  clear hown hb1 HST
  go_wp2
  go_loopw [5, 7] (fun s i wr => ∃ q : Nat, i = .int .i64 q ∧ q ≤ p.length ∧ s = .int .i64 (areaL m.toNat (p.take q)) ∧
    wr.ownsRow w.heap.size 29 2 (.slice Av p.length cv) p.length (ptCells (stps m p p.length)) ∧ Below w.heap.size w wr) (fun _ i _ => p.length - (intOf i).toNat)
  case atStart => exact ⟨0, rfl, Nat.zero_le _, rfl, HG.out.1, HG.out.2⟩
  case round =>
    clear HG
    obtain ⟨q, rfl, hq, rfl, hown, hb⟩ := hrel
    by_cases hlt : q < p.length
    · have HPT := Lib.hid (area_stp (m := m) hlt)
      have hab := area_bd hl hF q hq (m := m)
      obtain ⟨a, ha⟩ : ∃ a, a = areaL m.toNat (p.take q) := ⟨_, rfl⟩
      rw [← ha] at HPT hab ⊢
      clear ha
      have HOW := Lib.hid (And.intro hown hb)
      clear hown hb
      go_wp2
      go_loopw [5, 8] (fun s i wr => ∃ j : Nat, i = .int .i64 j ∧ j ≤ q ∧ s = .int .i64 (a + cross (pt m p j) (stp m p q)) ∧
        wr.ownsRow w.heap.size 29 2 (.slice Av p.length cv) p.length (ptCells (stps m p p.length)) ∧ Below w.heap.size w wr) (fun _ i _ => q - (intOf i).toNat)
      case atStart => exact ⟨0, rfl, Nat.zero_le _, by rw [show pt m p 0 = V.zero from rfl, cross_zero_left, Int.add_zero], HOW.out.1, HOW.out.2⟩
      case round =>
        clear HOW
        obtain ⟨j, rfl, hj, rfl, hown, hb⟩ := hrel
        have hcb := cross_bd (pt_wi hl hF j (m := m)) ((stp_wi hF q (m := m)).mono (by decide))
        by_cases hlt2 : j < q
        · have hjp : j < p.length := by omega
          obtain ⟨b, off, rfl, hbb, k1, k2⟩ := own_pt hown (stps_len m p p.length) (show q < (stps m p p.length).length by rw [stps_len]; exact hlt)
          obtain ⟨b', off', e', hbb', k3, k4⟩ := own_pt hown (stps_len m p p.length) (show j < (stps m p p.length).length by rw [stps_len]; exact hjp)
          obtain ⟨rfl, rfl⟩ : b' = b ∧ off' = off := by simp at e'; exact ⟨e'.1.symm, e'.2.symm⟩
          rw [stps_get] at k1 k2 k3 k4
          clear e' hbb'
          have HC := Lib.hid (cross_stp (m := m) hjp (stp m p q))
          have hst := stp_wi hF q (m := m)
          have hss := stp_wi hF j (m := m)
          have hcc := cross_bd (hss.mono (by decide)) (hst.mono (by decide))
          obtain ⟨t, ht⟩ : ∃ t, t = stp m p q := ⟨_, rfl⟩
          have HTQ := Lib.hid ht
          rw [← ht] at k1 k2 hst HC hcb hcc ⊢
          clear ht
          obtain ⟨s, hs⟩ : ∃ s, s = stp m p j := ⟨_, rfl⟩
          rw [← hs] at k3 k4 hss HC hcc
          clear hs
          have HH := Lib.hid (And.intro hown hb)
          clear hown hb
          generalize cross (pt m p j) t = x at hcb HC ⊢
          go_wp2
          have mc := cell_mergeW wr
          have mf := frozen_mergeW wr
          refine wp_region_btail 10 (by kernel_rfl) (by kernel_rfl) ?_
          simp only [List.take_succ_cons, List.take_zero, List.drop_succ_cons, List.drop_zero]
          repeat (go_big_quiet_step (first | (go_at_call 94; refine (rcross s t (hss.mono (by decide)) (hst.mono (by decide)) _).mono ?_; rintro e w3 ⟨rfl, hb3⟩; exact ⟨rfl, in_mergeW hb3⟩)))
          refine wpQuiet_nil ?_
          rintro w4 ⟨s4, hs4⟩
          have hb3 := below_mergeW wr s4
          rw [← hs4] at hb3
          clear hs4 mc mf
          obtain ⟨hown, hb⟩ := HH.out
          have V := Lib.hid (And.intro (own_below hown hb3) (hb.trans (hb3.mono hb.size)))
          clear hown hb hb3 k1 k2 k3 k4
          generalize cross s t = y at *
          go_wp2
          go_roundw
          case rel => exact ⟨j + 1, by go_num, by omega, by rw [HC.out, Int.add_assoc], V.out.1, V.out.2⟩
          case measure => simp [intOf]; omega
        · obtain rfl : j = q := by omega
          rw [← HPT.out]
          have V := Lib.hid (And.intro hown hb)
          clear hown hb
          go_wp2
          go_roundw
          case rel => exact ⟨j + 1, by go_num, by omega, rfl, V.out.1, V.out.2⟩
          case measure => simp [intOf]; omega
    · obtain rfl : q = p.length := by omega
      rw [List.take_length]
      go_wp2
      go_ret
      exact ⟨rfl, hb⟩
end Go.Proofs.Ytnoocdannfeidaa

/-
  WALK: Area, Sum, End of the reference. (Printed by gensum.py.)
-/
namespace Go.Proofs.Ytnoocdannfeidaa
open Go.RowKit Pulse

theorem rAreaF (A : Option Addr) (k c : Nat) (p : List Int) (m : Int) (w : World) (hl : p.length ≤ 1000) (B : Nat) (hB : B ≤ w.heap.size) (hr : Rd w B 1 A k (ints p)) :
    Calls Try.prog 20 #[.slice A k c, .int .i64 m] w fun e w' => e = .returned (.tuple #[.int .i64 (areaN p m), .int .i64 (moded p m)]) ∧ Below w.heap.size w w' := by
  obtain rfl := hr.int_len
  have H := Lib.hid (rmoded A p.length c p m w hl B hB hr)
  by_cases h : moded p m = 0
  · obtain ⟨h1, h2, h3⟩ := moded_ok h
    obtain ⟨h4, h5⟩ := vald_ok h1
    have HA := Lib.hid (show areaN p m = areaL m.toNat p by rw [areaN, if_pos h])
    have HM := Lib.hid h
    clear h
    go_enter Try.func20, Try.ntmps20
    go_wp2_with fail
    refine H.out.mono ?_
    rw [HM.out]
    rintro e w1 ⟨rfl, hb1⟩
    go_wp2_with fail
    refine (rarea p m h4 h5 h2 h3 A c w1 B (by have := hb1.size; omega) (hr.below' hb1 hB)).mono ?_
    rintro e w2 ⟨rfl, hb2⟩
    go_wp2
    go_ret2
    exact ⟨ret_two (by rw [HA.out]; rfl) (by rw [HM.out]; rfl), hb1.trans (hb2.mono hb1.size)⟩
  · have HA := Lib.hid (show areaN p m = 0 by rw [areaN, if_neg h])
    have hd : (moded p m != 0) = true := by simpa using h
    clear h
    go_enter Try.func20, Try.ntmps20
    go_wp2_with fail
    refine H.out.mono ?_
    rintro e w1 ⟨rfl, hb1⟩
    go_wp2
    go_ret2
    exact ⟨ret_two (by rw [HA.out]; rfl) rfl, hb1⟩

set_option maxHeartbeats 400000 in
theorem rSumF (A : Option Addr) (k c : Nat) (p : List Int) (m : Int) (w : World) (hl : p.length ≤ 1000) (B : Nat) (hB : B ≤ w.heap.size) (hr : Rd w B 1 A k (ints p)) :
    Calls Try.prog 22 #[.slice A k c, .int .i64 m] w fun e w' => e = .returned (.tuple #[vV (sumV p m), .int .i64 (moded p m)]) ∧ Below w.heap.size w w' := by
  obtain rfl := hr.int_len
  have H := Lib.hid (rmoded A p.length c p m (w.alloc (.cells #[.int .i64 0, .int .i64 0] 29)) hl B (by simp; omega) (hr.alloc hB _))
  have hn := blk_new w 29 #[.int .i64 0, .int .i64 0]
  have HB := Lib.hid ((Below.refl w.heap.size w).alloc (Nat.le_refl _) (.cells #[.int .i64 0, .int .i64 0] 29))
  have hr1 := hr.alloc hB (.cells #[.int .i64 0, .int .i64 0] 29)
  by_cases h : moded p m = 0
  · obtain ⟨h1, h2, h3⟩ := moded_ok h
    obtain ⟨h4, h5⟩ := vald_ok h1
    have HA := Lib.hid (show sumV p m = sumL m.toNat p by rw [sumV, if_pos h])
    have HM := Lib.hid h
    have HN := Lib.hid hn
    have HR := Lib.hid hr1
    clear h hn hr1
    go_enter Try.func22, Try.ntmps22
    go_wp2_with fail
    refine H.out.mono ?_
    rw [HM.out]
    rintro e w1 ⟨rfl, hb1⟩
    have s1 := hb1.size
    rw [World.size_alloc] at s1
    have n1 := blk_below HN.out hb1 (by simp)
    have r1 := HR.out.below' hb1 (by simp; omega)
    have HN1 := Lib.hid n1
    have HR1 := Lib.hid r1
    have HB1 := Lib.hid (HB.out.trans (hb1.mono (by simp)))
    clear n1 r1 hb1
    go_wp2_with fail
    refine (rsum p m h4 h5 h2 h3 A c w1 B (by omega) HR1.out).mono ?_
    rintro e w2 ⟨rfl, hb2⟩
    obtain ⟨u, hu⟩ : ∃ u, u = sumL m.toNat p := ⟨_, rfl⟩
    rw [← hu]
    have HU := Lib.hid hu
    clear hu
    have n2 := blk_below HN1.out hb2 (by omega)
    have s2 := hb2.size
    have hbx := (HB1.out.trans (hb2.mono (by omega))).setCell (p := ⟨w.heap.size, 0, none⟩) (Nat.le_refl _) (.int .i64 u.x)
    have HBX := Lib.hid (hbx.setCell (p := ⟨w.heap.size, 1, none⟩) (Nat.le_refl _) (.int .i64 u.y))
    clear hb2 hbx
    have c1 : w2.cell? ⟨w.heap.size, 0, none⟩ = some (.int .i64 0) := blk_cell n2 0
    have c2 : w2.cell? ⟨w.heap.size, 1, none⟩ = some (.int .i64 0) := blk_cell n2 1
    have f1 := blk_frozen n2 0
    have f2 := blk_frozen n2 1
    have v2 := blk_set (blk_set n2 0 (.int .i64 u.x)) 1 (.int .i64 u.y)
    have HV2 := Lib.hid v2
    clear n2 v2
    go_wp2
    have r0 := blk_cell HV2.out 0
    have r1 := blk_cell HV2.out 1
    exact bodyPost_ret (v := .tuple #[vV u, .int .i64 0]) (by simp [results, Try.results22, go_sem, r0, r1]) rfl ⟨ret_two (by rw [HA.out, HU.out]) (by rw [HM.out]), HBX.out⟩
  · have HA := Lib.hid (show sumV p m = V.zero by rw [sumV, if_neg h])
    have hd : (moded p m != 0) = true := by simpa using h
    clear h
    have HN := Lib.hid hn
    clear hn hr1
    go_enter Try.func22, Try.ntmps22
    go_wp2_with fail
    refine H.out.mono ?_
    rintro e w1 ⟨rfl, hb1⟩
    have s1 := hb1.size
    rw [World.size_alloc] at s1
    have n2 := blk_below HN.out hb1 (by simp)
    have hbx := (HB.out.trans (hb1.mono (by simp))).setCell (p := ⟨w.heap.size, 0, none⟩) (Nat.le_refl _) (.int .i64 0)
    have HBX := Lib.hid (hbx.setCell (p := ⟨w.heap.size, 1, none⟩) (Nat.le_refl _) (.int .i64 0))
    clear hbx hb1
    have c1 : w1.cell? ⟨w.heap.size, 0, none⟩ = some (.int .i64 0) := blk_cell n2 0
    have c2 : w1.cell? ⟨w.heap.size, 1, none⟩ = some (.int .i64 0) := blk_cell n2 1
    have f1 := blk_frozen n2 0
    have f2 := blk_frozen n2 1
    have v2 := blk_set (blk_set n2 0 (.int .i64 0)) 1 (.int .i64 0)
    have HV2 := Lib.hid v2
    clear n2 v2
    go_wp2
    have r0 := blk_cell HV2.out 0
    have r1 := blk_cell HV2.out 1
    exact bodyPost_ret (v := .tuple #[vV V.zero, .int .i64 (moded p m)]) (by simp [results, Try.results22, go_sem, r0, r1, V.zero]) rfl ⟨ret_two (by rw [HA.out]) rfl, HBX.out⟩
set_option maxHeartbeats 400000 in
theorem rEndF (A : Option Addr) (k c : Nat) (p : List Int) (m : Int) (w : World) (hl : p.length ≤ 1000) (B : Nat) (hB : B ≤ w.heap.size) (hr : Rd w B 1 A k (ints p)) :
    Calls Try.prog 33 #[.slice A k c, .int .i64 m] w fun e w' => e = .returned (.tuple #[vV (endV p m), .int .i64 (moded p m)]) ∧ Below w.heap.size w w' := by
  obtain rfl := hr.int_len
  have H := Lib.hid (rmoded A p.length c p m (w.alloc (.cells #[.int .i64 0, .int .i64 0] 29)) hl B (by simp; omega) (hr.alloc hB _))
  have hn := blk_new w 29 #[.int .i64 0, .int .i64 0]
  have HB := Lib.hid ((Below.refl w.heap.size w).alloc (Nat.le_refl _) (.cells #[.int .i64 0, .int .i64 0] 29))
  have hr1 := hr.alloc hB (.cells #[.int .i64 0, .int .i64 0] 29)
  by_cases h : moded p m = 0
  · obtain ⟨h1, h2, h3⟩ := moded_ok h
    obtain ⟨h4, h5⟩ := vald_ok h1
    have HA := Lib.hid (show endV p m = endL m.toNat p by rw [endV, if_pos h])
    have HM := Lib.hid h
    have HN := Lib.hid hn
    have HR := Lib.hid hr1
    clear h hn hr1
    go_enter Try.func33, Try.ntmps33
    go_wp2_with fail
    refine H.out.mono ?_
    rw [HM.out]
    rintro e w1 ⟨rfl, hb1⟩
    have s1 := hb1.size
    rw [World.size_alloc] at s1
    have n1 := blk_below HN.out hb1 (by simp)
    have r1 := HR.out.below' hb1 (by simp; omega)
    have HN1 := Lib.hid n1
    have HR1 := Lib.hid r1
    have HB1 := Lib.hid (HB.out.trans (hb1.mono (by simp)))
    clear n1 r1 hb1
    go_wp2_with fail
    refine (rend p m h4 h5 h2 h3 A c w1 B (by omega) HR1.out).mono ?_
    rintro e w2 ⟨rfl, hb2⟩
    obtain ⟨u, hu⟩ : ∃ u, u = endL m.toNat p := ⟨_, rfl⟩
    rw [← hu]
    have HU := Lib.hid hu
    clear hu
    have n2 := blk_below HN1.out hb2 (by omega)
    have s2 := hb2.size
    have hbx := (HB1.out.trans (hb2.mono (by omega))).setCell (p := ⟨w.heap.size, 0, none⟩) (Nat.le_refl _) (.int .i64 u.x)
    have HBX := Lib.hid (hbx.setCell (p := ⟨w.heap.size, 1, none⟩) (Nat.le_refl _) (.int .i64 u.y))
    clear hb2 hbx
    have c1 : w2.cell? ⟨w.heap.size, 0, none⟩ = some (.int .i64 0) := blk_cell n2 0
    have c2 : w2.cell? ⟨w.heap.size, 1, none⟩ = some (.int .i64 0) := blk_cell n2 1
    have f1 := blk_frozen n2 0
    have f2 := blk_frozen n2 1
    have v2 := blk_set (blk_set n2 0 (.int .i64 u.x)) 1 (.int .i64 u.y)
    have HV2 := Lib.hid v2
    clear n2 v2
    go_wp2
    have r0 := blk_cell HV2.out 0
    have r1 := blk_cell HV2.out 1
    exact bodyPost_ret (v := .tuple #[vV u, .int .i64 0]) (by simp [results, Try.results33, go_sem, r0, r1]) rfl ⟨ret_two (by rw [HA.out, HU.out]) (by rw [HM.out]), HBX.out⟩
  · have HA := Lib.hid (show endV p m = V.zero by rw [endV, if_neg h])
    have hd : (moded p m != 0) = true := by simpa using h
    clear h
    have HN := Lib.hid hn
    clear hn hr1
    go_enter Try.func33, Try.ntmps33
    go_wp2_with fail
    refine H.out.mono ?_
    rintro e w1 ⟨rfl, hb1⟩
    have s1 := hb1.size
    rw [World.size_alloc] at s1
    have n2 := blk_below HN.out hb1 (by simp)
    have hbx := (HB.out.trans (hb1.mono (by simp))).setCell (p := ⟨w.heap.size, 0, none⟩) (Nat.le_refl _) (.int .i64 0)
    have HBX := Lib.hid (hbx.setCell (p := ⟨w.heap.size, 1, none⟩) (Nat.le_refl _) (.int .i64 0))
    clear hbx hb1
    have c1 : w1.cell? ⟨w.heap.size, 0, none⟩ = some (.int .i64 0) := blk_cell n2 0
    have c2 : w1.cell? ⟨w.heap.size, 1, none⟩ = some (.int .i64 0) := blk_cell n2 1
    have f1 := blk_frozen n2 0
    have f2 := blk_frozen n2 1
    have v2 := blk_set (blk_set n2 0 (.int .i64 0)) 1 (.int .i64 0)
    have HV2 := Lib.hid v2
    clear n2 v2
    go_wp2
    have r0 := blk_cell HV2.out 0
    have r1 := blk_cell HV2.out 1
    exact bodyPost_ret (v := .tuple #[vV V.zero, .int .i64 (moded p m)]) (by simp [results, Try.results33, go_sem, r0, r1, V.zero]) rfl ⟨ret_two (by rw [HA.out]) rfl, HBX.out⟩
end Go.Proofs.Ytnoocdannfeidaa

/-
  WALK: Check of both. (Printed by gen_check.py.)
-/
namespace Go.Proofs.Ytnoocdannfeidaa
open Go.RowKit Pulse

set_option maxHeartbeats 1000000 in
theorem rclosedIn (p ms : List Int) (A A' : Option Addr) (c k' c' : Nat) (hl : p.length ≤ 12) (hF : Forces 99 p) (hms : ∀ m ∈ ms, 0 ≤ m ∧ m ≤ 3) (hl' : ms.length ≤ 1000) (w : World) (B : Nat) (hB : B ≤ w.heap.size) (hr : Rd w B 1 A p.length (ints p)) (hr' : Rd w B 1 A' k' (ints ms)) :
    Calls Try.prog 70 #[.slice A p.length c, .slice A' k' c'] w fun e w' => e = .returned (.bool (shut p ms)) ∧ Below w.heap.size w w' := by
  obtain rfl := hr'.int_len
  have HSD := Lib.hid (show shut p ms = !(ms.any (away p)) from rfl)
  go_enter Try.func70, Try.ntmps70
  go_wp2
  go_loopw [5] (fun i wr => ∃ q : Nat, q ≤ ms.length ∧ i = .int .i64 q ∧ Below w.heap.size w wr ∧ Hid ((ms.take q).any (away p) = false)) (fun i _ => ms.length - (intOf i).toNat)
  case atStart => exact ⟨0, Nat.zero_le _, rfl, Below.refl _ _, rfl⟩
  case round =>
    obtain ⟨q, hq, rfl, hb, hall⟩ := hrel
    have hsz := hb.size
    by_cases hlt : q < ms.length
    · obtain ⟨b, off, rfl, hbb, h0⟩ := (hr'.below' hb hB).int hlt
      have hin : ms[q] ∈ ms := List.getElem_mem hlt
      obtain ⟨hm1, hm2⟩ := hms _ hin
      have ht := any_take (away p) ms q hlt
      rw [hall.out, Bool.false_or] at ht
      have HE := Lib.hid (rend p ms[q] hl hF hm1 hm2 A c wr B (by omega) (hr.below' hb hB))
      have HIN := Lib.hid hin
      have HAW := Lib.hid (show away p ms[q] = !(decide ((endL ms[q].toNat p).x = 0) && decide ((endL ms[q].toNat p).y = 0)) from rfl)
      have HT := Lib.hid ht
      clear ht hin
      generalize ms[q] = mq at *
      obtain ⟨u, hu⟩ : ∃ u, u = endL mq.toNat p := ⟨_, rfl⟩
      rw [← hu] at HE HAW
      clear hu
      have HB := Lib.hid hb
      clear hb
      by_cases hx : u.x = 0
      · by_cases hy : u.y = 0
        · have HA2 := Lib.hid (show (ms.take (q + 1)).any (away p) = false by rw [HT.out, HAW.out, hx, hy]; rfl)
          go_wp2_with fail
          refine HE.out.mono ?_
          rintro e w2 ⟨rfl, hb2⟩
          go_wp2
          go_roundw
          case rel => exact ⟨q + 1, by omega, by go_num, HB.out.trans (hb2.mono hsz), HA2⟩
          case measure => simp [intOf]; omega
        · have HA2 := Lib.hid (show away p mq = true by rw [HAW.out, decide_eq_false hy, Bool.and_false]; rfl)
          go_wp2_with fail
          refine HE.out.mono ?_
          rintro e w2 ⟨rfl, hb2⟩
          go_wp2
          go_ret
          exact ⟨ret_bool (by rw [HSD.out, List.any_eq_true.2 ⟨mq, HIN.out, HA2.out⟩]; rfl), HB.out.trans (hb2.mono hsz)⟩
      · have HA2 := Lib.hid (show away p mq = true by rw [HAW.out, decide_eq_false hx, Bool.false_and]; rfl)
        go_wp2_with fail
        refine HE.out.mono ?_
        rintro e w2 ⟨rfl, hb2⟩
        go_wp2
        go_ret
        exact ⟨ret_bool (by rw [HSD.out, List.any_eq_true.2 ⟨mq, HIN.out, HA2.out⟩]; rfl), HB.out.trans (hb2.mono hsz)⟩
    · obtain rfl : q = ms.length := by omega
      have HA := Lib.hid (show ms.any (away p) = false by have := hall.out; rwa [List.take_length] at this)
      go_wp2
      go_ret
      exact ⟨ret_bool (by rw [HSD.out, HA.out]; rfl), hb⟩

/-- What Check answers. -/
def chkE (p ms : List Int) (a : Int) : Int := if vald p = 0 then (if areModes ms = true then (if shut p ms = true ∧ areaL (ms.getD 0 0).toNat p = a then 0 else 7) else 1) else vald p

set_option maxHeartbeats 1000000 in
theorem pCheck (A A' : Option Addr) (k c k' c' : Nat) (p ms : List Int) (a : Int) (w : World) (hl : p.length ≤ 1000) (hl' : ms.length ≤ 1000) (B : Nat) (hB : B ≤ w.heap.size) (hr : Rd w B 1 A k (ints p)) (hr' : Rd w B 1 A' k' (ints ms)) :
    Calls Try.prog 28 #[.slice A k c, .slice A' k' c', .int .i64 a] w fun e w' => e = .returned (.int .i64 (chkE p ms a)) ∧ Below w.heap.size w w' := by
  obtain rfl := hr.int_len
  obtain rfl := hr'.int_len
  have H := Lib.hid (pValidate A p.length c p w hl B hB hr)
  have HC := Lib.hid (show chkE p ms a = if vald p = 0 then (if areModes ms = true then (if shut p ms = true ∧ areaL (ms.getD 0 0).toNat p = a then 0 else 7) else 1) else vald p from rfl)
  by_cases h : vald p = 0
  · obtain ⟨h4, h5⟩ := vald_ok h
    have HV := Lib.hid h
    rw [h] at H
    rw [if_pos h] at HC
    have HF := Lib.hid h5
    clear h h5
    go_enter Try.func28, Try.ntmps28
    go_wp2_with fail
    refine H.out.mono ?_
    rintro e w1 ⟨rfl, hb1⟩
    have s1 := hb1.size
    have HM := Lib.hid (pisModes A' ms.length c' ms w1 hl' B (by omega) (hr'.below' hb1 hB))
    have HB1 := Lib.hid hb1
    clear hb1
    cases ha : areModes ms with
    | false =>
      rw [ha] at HM HC
      rw [if_neg (by decide)] at HC
      clear ha
      go_wp2_with fail
      refine HM.out.mono ?_
      rintro e w2 ⟨rfl, hb2⟩
      go_wp2
      go_ret
      exact ⟨ret_int HC.out.symm, HB1.out.trans (hb2.mono s1)⟩
    | true =>
      obtain ⟨g1, g2⟩ := areModes_ok ha
      rw [ha] at HM HC
      rw [if_pos rfl] at HC
      have HMS := Lib.hid g2
      clear ha g2
      go_wp2_with fail
      refine HM.out.mono ?_
      rintro e w2 ⟨rfl, hb2⟩
      have B2 := HB1.out.trans (hb2.mono s1)
      have s2 := B2.size
      have HSH := Lib.hid (pisClosed p ms A A' c ms.length c' h4 HF.out HMS.out hl' w2 B (by omega) (hr.below' B2 hB) (hr'.below' B2 hB))
      clear hb2
      cases hs : shut p ms with
      | false =>
        rw [hs] at HSH HC
        rw [if_neg (by simp)] at HC
        clear hs
        go_wp2_with fail
        refine HSH.out.mono ?_
        rintro e w3 ⟨rfl, hb3⟩
        go_wp2
        go_ret
        exact ⟨ret_int HC.out.symm, B2.trans (hb3.mono s2)⟩
      | true =>
        rw [hs] at HSH HC
        clear hs
        go_wp2_with fail
        refine HSH.out.mono ?_
        rintro e w3 ⟨rfl, hb3⟩
        have B3 := B2.trans (hb3.mono s2)
        have s3 := B3.size
        obtain ⟨b, off, rfl, hbb, h0⟩ := (hr'.below' B3 hB).int g1
        obtain ⟨m1, m2⟩ := HMS.out _ (List.getElem_mem g1)
        have e0 : ms.getD 0 0 = ms[0] := by simp [g1]
        rw [e0] at HC
        rw [Nat.add_zero] at h0
        have HA := Lib.hid (pArea p ms[0] h4 HF.out m1 m2 A c w3 B (by omega) (hr.below' B3 hB))
        clear e0 hb3
        generalize ms[0] = m0 at *
        have HB3 := Lib.hid B3
        clear B3 B2
        by_cases hx : areaL m0.toNat p = a
        · rw [if_pos ⟨trivial, hx⟩] at HC
          rw [hx] at HA
          clear hx
          go_wp2_with fail
          refine HA.out.mono ?_
          rintro e w4 ⟨rfl, hb4⟩
          go_wp2
          go_ret
          exact ⟨ret_int HC.out.symm, HB3.out.trans (hb4.mono s3)⟩
        · rw [if_neg (fun h => hx h.2)] at HC
          have hd1 : (areaL m0.toNat p != a) = true := by simpa using hx
          clear hx
          go_wp2_with fail
          refine HA.out.mono ?_
          rintro e w4 ⟨rfl, hb4⟩
          go_wp2
          go_ret
          exact ⟨ret_int HC.out.symm, HB3.out.trans (hb4.mono s3)⟩
  · have hd : (vald p != 0) = true := by simpa using h
    rw [if_neg h] at HC
    clear h
    go_enter Try.func28, Try.ntmps28
    go_wp2_with fail
    refine H.out.mono ?_
    rintro e w1 ⟨rfl, hb1⟩
    go_wp2
    go_ret
    exact ⟨ret_int HC.out.symm, hb1⟩

set_option maxHeartbeats 1000000 in
theorem rCheck (A A' : Option Addr) (k c k' c' : Nat) (p ms : List Int) (a : Int) (w : World) (hl : p.length ≤ 1000) (hl' : ms.length ≤ 1000) (B : Nat) (hB : B ≤ w.heap.size) (hr : Rd w B 1 A k (ints p)) (hr' : Rd w B 1 A' k' (ints ms)) :
    Calls Try.prog 29 #[.slice A k c, .slice A' k' c', .int .i64 a] w fun e w' => e = .returned (.int .i64 (chkE p ms a)) ∧ Below w.heap.size w w' := by
  obtain rfl := hr.int_len
  obtain rfl := hr'.int_len
  have H := Lib.hid (rValidate A p.length c p w hl B hB hr)
  have HC := Lib.hid (show chkE p ms a = if vald p = 0 then (if areModes ms = true then (if shut p ms = true ∧ areaL (ms.getD 0 0).toNat p = a then 0 else 7) else 1) else vald p from rfl)
  by_cases h : vald p = 0
  · obtain ⟨h4, h5⟩ := vald_ok h
    have HV := Lib.hid h
    rw [h] at H
    rw [if_pos h] at HC
    have HF := Lib.hid h5
    clear h h5
    go_enter Try.func29, Try.ntmps29
    go_wp2_with fail
    refine H.out.mono ?_
    rintro e w1 ⟨rfl, hb1⟩
    have s1 := hb1.size
    have HM := Lib.hid (rareModes A' ms.length c' ms w1 hl' B (by omega) (hr'.below' hb1 hB))
    have HB1 := Lib.hid hb1
    clear hb1
    cases ha : areModes ms with
    | false =>
      rw [ha] at HM HC
      rw [if_neg (by decide)] at HC
      clear ha
      go_wp2_with fail
      refine HM.out.mono ?_
      rintro e w2 ⟨rfl, hb2⟩
      go_wp2
      go_ret
      exact ⟨ret_int HC.out.symm, HB1.out.trans (hb2.mono s1)⟩
    | true =>
      obtain ⟨g1, g2⟩ := areModes_ok ha
      rw [ha] at HM HC
      rw [if_pos rfl] at HC
      have HMS := Lib.hid g2
      clear ha g2
      go_wp2_with fail
      refine HM.out.mono ?_
      rintro e w2 ⟨rfl, hb2⟩
      have B2 := HB1.out.trans (hb2.mono s1)
      have s2 := B2.size
      have HSH := Lib.hid (rclosedIn p ms A A' c ms.length c' h4 HF.out HMS.out hl' w2 B (by omega) (hr.below' B2 hB) (hr'.below' B2 hB))
      clear hb2
      cases hs : shut p ms with
      | false =>
        rw [hs] at HSH HC
        rw [if_neg (by simp)] at HC
        clear hs
        go_wp2_with fail
        refine HSH.out.mono ?_
        rintro e w3 ⟨rfl, hb3⟩
        go_wp2
        go_ret
        exact ⟨ret_int HC.out.symm, B2.trans (hb3.mono s2)⟩
      | true =>
        rw [hs] at HSH HC
        clear hs
        go_wp2_with fail
        refine HSH.out.mono ?_
        rintro e w3 ⟨rfl, hb3⟩
        have B3 := B2.trans (hb3.mono s2)
        have s3 := B3.size
        obtain ⟨b, off, rfl, hbb, h0⟩ := (hr'.below' B3 hB).int g1
        obtain ⟨m1, m2⟩ := HMS.out _ (List.getElem_mem g1)
        have e0 : ms.getD 0 0 = ms[0] := by simp [g1]
        rw [e0] at HC
        rw [Nat.add_zero] at h0
        have HA := Lib.hid (rarea p ms[0] h4 HF.out m1 m2 A c w3 B (by omega) (hr.below' B3 hB))
        clear e0 hb3
        generalize ms[0] = m0 at *
        have HB3 := Lib.hid B3
        clear B3 B2
        by_cases hx : areaL m0.toNat p = a
        · rw [if_pos ⟨trivial, hx⟩] at HC
          rw [hx] at HA
          clear hx
          go_wp2_with fail
          refine HA.out.mono ?_
          rintro e w4 ⟨rfl, hb4⟩
          go_wp2
          go_ret
          exact ⟨ret_int HC.out.symm, HB3.out.trans (hb4.mono s3)⟩
        · rw [if_neg (fun h => hx h.2)] at HC
          have hd1 : (areaL m0.toNat p != a) = true := by simpa using hx
          clear hx
          go_wp2_with fail
          refine HA.out.mono ?_
          rintro e w4 ⟨rfl, hb4⟩
          go_wp2
          go_ret
          exact ⟨ret_int HC.out.symm, HB3.out.trans (hb4.mono s3)⟩
  · have hd : (vald p != 0) = true := by simpa using h
    rw [if_neg h] at HC
    clear h
    go_enter Try.func29, Try.ntmps29
    go_wp2_with fail
    refine H.out.mono ?_
    rintro e w1 ⟨rfl, hb1⟩
    go_wp2
    go_ret
    exact ⟨ret_int HC.out.symm, hb1⟩
end Go.Proofs.Ytnoocdannfeidaa
