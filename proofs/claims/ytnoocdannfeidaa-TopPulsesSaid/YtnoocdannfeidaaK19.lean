/-
  MERGED: LDelays.
-/
import Derived.Test.YtnoocdannfeidaaK1
import Derived.Test.YtnoocdannfeidaaK18
/-
  THE WALK of the law PulseDelays.
-/
namespace Go.Proofs.Ytnoocdannfeidaa
open Go.RowKit Pulse

theorem delayE_ok {p : List Int} {s : Int} (h : delayE p s = 0) : vald p = 0 ∧ (0 ≤ s ∧ s ≤ 12) ∧ s.toNat + p.length ≤ 12 ∧ delayL p s = List.replicate s.toNat 0 ++ p := by
  unfold delayE at h
  split at h
  · rename_i h0
    split at h
    · rename_i h1
      split at h
      · omega
      · rename_i h2
        exact ⟨h0, h1, by omega, by rw [delayL, if_pos ⟨h0, h1, h2⟩]⟩
    · omega
  · exact absurd h (by assumption)
theorem vald_delay {p : List Int} {n : Nat} (h : vald p = 0) (h' : n + p.length ≤ 12) : vald (List.replicate n 0 ++ p) = 0 := by
  have h2 : p.all isF = true := by
    unfold vald at h
    split at h
    · omega
    · split at h
      · assumption
      · omega
  rw [vald, if_neg (by simp; omega), if_pos]
  rw [List.all_append, h2, Bool.and_true, List.all_eq_true]
  intro f hf
  rw [(List.mem_replicate.1 hf).2]
  decide
theorem closedN_delay {p : List Int} {n : Nat} (h : vald p = 0) (h' : n + p.length ≤ 12) : closedN (List.replicate n 0 ++ p) = closedN p := by
  rw [closedN, closedN, vald_delay h h', h, if_pos rfl, if_pos rfl]
  refine clTo_congr (fun m => away_congr ?_) 4
  rw [endL_delay]
  exact ⟨rotN_eq_zero, fun e => by rw [e, rotN_zero]⟩
theorem areaN_delay {p : List Int} {n : Nat} (h : vald p = 0) (h' : n + p.length ≤ 12) (m : Int) : areaN (List.replicate n 0 ++ p) m = areaN p m ∧ moded (List.replicate n 0 ++ p) m = moded p m := by
  have e := moded_same h (vald_delay h h') m
  exact ⟨by rw [areaN, areaN, e, areaL_delay], e⟩

set_option maxRecDepth 100000 in
set_option maxHeartbeats 4000000 in
theorem lawDelays (A : Option Addr) (k c : Nat) (p : List Int) (s m : Int) (w : World) (hk : k ≤ c) (hc : c ≤ maxLen) (hr : Rd w w.heap.size 1 A k (ints p)) (_ : Big p) (_ : I64 s) (_ : I64 m) :
    Calls Try.prog 14 #[.slice A k c, .int .i64 s, .int .i64 m] w fun e w' => e = .returned (.bool true) ∧ Below w.heap.size w w' := by
  have hkm : k ≤ maxLen := Nat.le_trans hk hc
  obtain rfl := hr.int_len
  by_cases hL : 100 < p.length
  · have hd : decide (100 < p.length) = true := by simpa using hL
    go_enter Try.func14, Try.ntmps14
    go_wp2_with fail
    refine (long _ _ _ _ hkm).mono ?_
    rw [hd]
    rintro e w1 ⟨rfl, rfl⟩
    go_wp2_with fail
    refine (known _).mono ?_
    rintro e w2 ⟨rfl, hb2⟩
    go_wp2
    go_ret
    exact ⟨rfl, hb2⟩
  · have hd : decide (100 < p.length) = false := by simpa using hL
    have hl : p.length ≤ 1000 := by omega
    have HOK := Lib.hid (fun h => delayE_ok (p := p) (s := s) h)
    have HCL := Lib.hid (fun h h' => closedN_delay (p := p) (n := s.toNat) h h')
    have HAR := Lib.hid (fun h h' => areaN_delay (p := p) (n := s.toNat) h h' m)
    have HVL := Lib.hid (fun h h' => vald_delay (p := p) (n := s.toNat) h h')
    have hcl := closedN_len p
    have hbl : (delayL p s).length ≤ 1000 := by unfold delayL; split <;> simp; omega
    have H1 := Lib.hid (pDelay A p.length c p s w hl w.heap.size (Nat.le_refl _) hr)
    have H2 := Lib.hid (fun w1 B hB h => rDelay A p.length c p s w1 hl B hB h)
    obtain ⟨S, hS⟩ : ∃ S, S = delayL p s := ⟨_, rfl⟩
    obtain ⟨E, hE⟩ : ∃ E, E = delayE p s := ⟨_, rfl⟩
    rw [← hS] at hbl HOK H1 H2
    rw [← hE] at HOK H1 H2
    clear hS hE
    go_enter Try.func14, Try.ntmps14
    go_wp2_with fail
    refine (long _ _ _ _ hkm).mono ?_
    rw [hd]
    rintro e w1 ⟨rfl, rfl⟩
    clear hL
    go_wp2_with fail
    refine H1.out.mono ?_
    rintro e w6 ⟨v6, rfl, hown6, hb6⟩
    obtain ⟨A6, c6, rfl, _, _⟩ := own_cap hown6
    have s6 := hb6.size
    have r6 := Rd.of_own hown6
    clear hown6
    go_wp2_with fail
    refine (H2.out w6 w.heap.size s6 (hr.below hb6)).mono ?_
    rintro e w7 ⟨v7, rfl, hown7, hb7⟩
    obtain ⟨A7, c7, rfl, _, _⟩ := own_cap hown7
    have s7 := hb7.size
    have r6 := (r6.below hb7).more s7
    have B7 := hb6.trans (hb7.mono (by omega))
    have r7 := Rd.of_own hown7
    clear hown7 hb6 hb7
    go_wp2_with fail
    refine (rSameInts A6 A7 S.length S.length c6 c7 S S w7 hbl hbl w7.heap.size (Nat.le_refl _) r6 r7).mono ?_
    rw [decide_eq_true rfl]
    rintro e w8 ⟨rfl, hb8⟩
    have s8 := hb8.size
    have r6 := (r6.below hb8).more s8
    have B8 := B7.trans (hb8.mono (by omega))
    clear r7 hb8 B7
    by_cases h0 : E = 0
    · obtain ⟨g1, g2, g3, g4⟩ := HOK.out h0
      subst h0
      have HC := Lib.hid (HCL.out g1 g3)
      have HA := Lib.hid (HAR.out g1 g3)
      have HV := Lib.hid g1
      have HV2 := Lib.hid (HVL.out g1 g3)
      rw [← g4] at HC HA HV2
      clear g1 g2 g3 g4 HCL HAR HVL HOK
      go_wp2_with fail
      refine (pClosed A6 S.length c6 S w8 hbl w8.heap.size (Nat.le_refl _) r6).mono ?_
      rw [HC.out, HV2.out]
      rintro e w9 ⟨v9, rfl, hown9, hb9⟩
      obtain ⟨A9, c9, rfl, _, _⟩ := own_cap hown9
      have s9 := hb9.size
      have r6 := (r6.below hb9).more s9
      have r9 := Rd.of_own hown9
      have B9 := B8.trans (hb9.mono (by omega))
      clear hb9 B8 hown9
      go_wp2_with fail
      refine (pClosed A p.length c p w9 hl w.heap.size (by omega) (hr.below B9)).mono ?_
      rw [HV.out]
      rintro e w10 ⟨v10, rfl, hown10, hb10⟩
      obtain ⟨A10, c10, rfl, _, _⟩ := own_cap hown10
      have s10 := hb10.size
      have r6 := (r6.below hb10).more s10
      have r9 := (r9.below hb10).more s10
      have r10 := Rd.of_own hown10
      have B10 := B9.trans (hb10.mono (by omega))
      clear hb10 B9 hown10
      go_wp2_with fail
      refine (pAreaF A6 S.length c6 S m w10 hbl w10.heap.size (Nat.le_refl _) r6).mono ?_
      rw [HA.out.1, HA.out.2]
      rintro e w11 ⟨rfl, hb11⟩
      have s11 := hb11.size
      have r9 := (r9.below hb11).more s11
      have r10 := (r10.below hb11).more s11
      have B11 := B10.trans (hb11.mono (by omega))
      clear hb11 B10 r6
      go_wp2_with fail
      refine (pAreaF A p.length c p m w11 hl w.heap.size (by omega) (hr.below B11)).mono ?_
      rintro e w12 ⟨rfl, hb12⟩
      have s12 := hb12.size
      have r9 := (r9.below hb12).more s12
      have r10 := (r10.below hb12).more s12
      have B12 := B11.trans (hb12.mono (by omega))
      clear hb12 B11
      generalize areaN p m = a at *
      generalize moded p m = e at *
      go_wp2_with fail
      refine (rSameInts A9 A10 (closedN p).length (closedN p).length c9 c10 (closedN p) (closedN p) w12 (by omega) (by omega) w12.heap.size (Nat.le_refl _) r9 r10).mono ?_
      rw [decide_eq_true rfl]
      rintro e w13 ⟨rfl, hb13⟩
      have s13 := hb13.size
      have B13 := B12.trans (hb13.mono (by omega))
      clear hb13
      go_wp2_with fail
      refine (known _).mono ?_
      rintro e w15 ⟨rfl, hb15⟩
      go_wp2
      go_ret
      exact ⟨rfl, B13.trans (hb15.mono (by omega))⟩
    · have hd0 : (E != 0) = true := by simpa using h0
      clear h0
      go_wp2_with fail
      refine (known _).mono ?_
      rintro e w9 ⟨rfl, hb9⟩
      go_wp2
      go_ret
      exact ⟨rfl, B8.trans (hb9.mono (by omega))⟩
end Go.Proofs.Ytnoocdannfeidaa
