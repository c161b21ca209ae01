/-
  WALK: the reference's area.
-/
import Derived.Test.YtnoocdannfeidaaW18
namespace Go.Proofs.Ytnoocdannfeidaa
open Go.RowKit Pulse

theorem area_stp {m : Int} {p : List Int} {q : Nat} (h : q < p.length) : areaL m.toNat (p.take (q + 1)) = areaL m.toNat (p.take q) + cross (pt m p q) (stp m p q) := by
  unfold pt stp stepAt
  rw [take_snoc' p q h, areaL_snoc', List.length_take, Nat.min_eq_left (Nat.le_of_lt h), show p.getD q 0 = p[q] by simp [h]]
theorem cross_stp {m : Int} {p : List Int} {i : Nat} (h : i < p.length) (t : V) : cross (pt m p (i + 1)) t = cross (pt m p i) t + cross (stp m p i) t := by
  rw [pt_stp h, cross_add_left]
theorem area_bd {m : Int} {p : List Int} (hl : p.length ≤ 12) (h : Forces 99 p) (q : Nat) (hq : q ≤ p.length) : -200000000 ≤ areaL m.toNat (p.take q) ∧ areaL m.toNat (p.take q) ≤ 200000000 := by
  have := crAt_bd hl h (q + 1) (by omega) (m := m)
  have e : crAt m p (q + 1) = areaL m.toNat (p.take q) := rfl
  rw [e] at this
  omega

set_option maxHeartbeats 1000000 in
theorem rarea (p : List Int) (m : Int) (hl : p.length ≤ 12) (hF : Forces 99 p) (hm : 0 ≤ m) (hm' : m ≤ 3) (A : Option Addr) (c : Nat) (w : World) (B : Nat) (hB : B ≤ w.heap.size) (hr : Rd w B 1 A p.length (ints p)) :
    Calls Try.prog 59 #[.slice A p.length c, .int .i64 m] w fun e w' => e = .returned (.int .i64 (areaL m.toNat p)) ∧ Below w.heap.size w w' := by
  have HST := Lib.hid (rsteps p m hl hF hm hm' A c w B hB hr)
  go_enter Try.func59, Try.ntmps59
  go_wp2_with fail
  refine HST.out.mono ?_
  rintro e w1 ⟨v1, rfl, hown, hb1⟩
  obtain ⟨Av, cv, rfl, hcv, hcv'⟩ := own_cap hown
  have HG := Lib.hid (And.intro hown hb1)
  clear hown hb1 HST
  go_wp2
  go_loopw [5, 7] (fun s i wr => ∃ q : Nat, i = .int .i64 q ∧ q ≤ p.length ∧ s = .int .i64 (areaL m.toNat (p.take q)) ∧
    wr.ownsRow w.heap.size 29 2 (.slice Av p.length cv) p.length (ptCells (stps m p p.length)) ∧ Below w.heap.size w wr) (fun _ i _ => p.length - (intOf i).toNat)
  case atStart => exact ⟨0, rfl, Nat.zero_le _, rfl, HG.out.1, HG.out.2⟩
  case round =>
    clear HG
    obtain ⟨q, rfl, hq, rfl, hown, hb⟩ := hrel
    by_cases hlt : q < p.length
    · have HPT := Lib.hid (area_stp (m := m) hlt)
      have hab := area_bd hl hF q hq (m := m)
      obtain ⟨a, ha⟩ : ∃ a, a = areaL m.toNat (p.take q) := ⟨_, rfl⟩
      rw [← ha] at HPT hab ⊢
      clear ha
      have HOW := Lib.hid (And.intro hown hb)
      clear hown hb
      go_wp2
      go_loopw [5, 8] (fun s i wr => ∃ j : Nat, i = .int .i64 j ∧ j ≤ q ∧ s = .int .i64 (a + cross (pt m p j) (stp m p q)) ∧
        wr.ownsRow w.heap.size 29 2 (.slice Av p.length cv) p.length (ptCells (stps m p p.length)) ∧ Below w.heap.size w wr) (fun _ i _ => q - (intOf i).toNat)
      case atStart => exact ⟨0, rfl, Nat.zero_le _, by rw [show pt m p 0 = V.zero from rfl, cross_zero_left, Int.add_zero], HOW.out.1, HOW.out.2⟩
      case round =>
        clear HOW
        obtain ⟨j, rfl, hj, rfl, hown, hb⟩ := hrel
        have hcb := cross_bd (pt_wi hl hF j (m := m)) ((stp_wi hF q (m := m)).mono (by decide))
        by_cases hlt2 : j < q
        · have hjp : j < p.length := by omega
          obtain ⟨b, off, rfl, hbb, k1, k2⟩ := own_pt hown (stps_len m p p.length) (show q < (stps m p p.length).length by rw [stps_len]; exact hlt)
          obtain ⟨b', off', e', hbb', k3, k4⟩ := own_pt hown (stps_len m p p.length) (show j < (stps m p p.length).length by rw [stps_len]; exact hjp)
          obtain ⟨rfl, rfl⟩ : b' = b ∧ off' = off := by simp at e'; exact ⟨e'.1.symm, e'.2.symm⟩
          rw [stps_get] at k1 k2 k3 k4
          clear e' hbb'
          have HC := Lib.hid (cross_stp (m := m) hjp (stp m p q))
          have hst := stp_wi hF q (m := m)
          have hss := stp_wi hF j (m := m)
          have hcc := cross_bd (hss.mono (by decide)) (hst.mono (by decide))
          obtain ⟨t, ht⟩ : ∃ t, t = stp m p q := ⟨_, rfl⟩
          have HTQ := Lib.hid ht
          rw [← ht] at k1 k2 hst HC hcb hcc ⊢
          clear ht
          obtain ⟨s, hs⟩ : ∃ s, s = stp m p j := ⟨_, rfl⟩
          rw [← hs] at k3 k4 hss HC hcc
          clear hs
          have HH := Lib.hid (And.intro hown hb)
          clear hown hb
          generalize cross (pt m p j) t = x at hcb HC ⊢
          go_wp2
          have mc := cell_mergeW wr
          have mf := frozen_mergeW wr
          refine wp_region_btail 10 (by kernel_rfl) (by kernel_rfl) ?_
          simp only [List.take_succ_cons, List.take_zero, List.drop_succ_cons, List.drop_zero]
          repeat (go_big_quiet_step (first | (go_at_call 94; refine (rcross s t (hss.mono (by decide)) (hst.mono (by decide)) _).mono ?_; rintro e w3 ⟨rfl, hb3⟩; exact ⟨rfl, in_mergeW hb3⟩)))
          refine wpQuiet_nil ?_
          rintro w4 ⟨s4, hs4⟩
          have hb3 := below_mergeW wr s4
          rw [← hs4] at hb3
          clear hs4 mc mf
          obtain ⟨hown, hb⟩ := HH.out
          have V := Lib.hid (And.intro (own_below hown hb3) (hb.trans (hb3.mono hb.size)))
          clear hown hb hb3 k1 k2 k3 k4
          generalize cross s t = y at *
          go_wp2
          go_roundw
          case rel => exact ⟨j + 1, by go_num, by omega, by rw [HC.out, Int.add_assoc], V.out.1, V.out.2⟩
          case measure => simp [intOf]; omega
        · obtain rfl : j = q := by omega
          rw [← HPT.out]
          have V := Lib.hid (And.intro hown hb)
          clear hown hb
          go_wp2
          go_roundw
          case rel => exact ⟨j + 1, by go_num, by omega, rfl, V.out.1, V.out.2⟩
          case measure => simp [intOf]; omega
    · obtain rfl : q = p.length := by omega
      rw [List.take_length]
      go_wp2
      go_ret
      exact ⟨rfl, hb⟩
end Go.Proofs.Ytnoocdannfeidaa
