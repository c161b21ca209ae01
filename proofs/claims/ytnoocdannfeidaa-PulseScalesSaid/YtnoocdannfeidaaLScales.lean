/-
  THE WALK of the law PulseScales.
-/
import Derived.Test.YtnoocdannfeidaaOpen
import Derived.Test.YtnoocdannfeidaaW27
import Derived.Test.YtnoocdannfeidaaLAreas
namespace Go.Proofs.Ytnoocdannfeidaa
open Go.RowKit Pulse

theorem scL_mode {p : List Int} {b m : Int} (hs : vald (scL p b) = 0) (hm : moded p m = 0) : moded (scL p b) m = 0 := by
  obtain ⟨h1, h2, h3⟩ := moded_ok hm
  rw [moded, if_pos hs, if_pos]
  rw [isMode, Bool.and_eq_true, decide_eq_true_eq, decide_eq_true_eq]
  omega
theorem areaN_scale {p : List Int} {b m : Int} (hs : vald (scL p b) = 0) (hm : moded p m = 0) (hb : -99 ≤ b ∧ b ≤ 99) : areaN (scL p b) m = areaN p m * b * b := by
  rw [areaN, if_pos (scL_mode hs hm), areaN, if_pos hm]
  have e : scL p b = p.map (· * b) := by rw [scL, show clip b = b by unfold clip; omega]
  rw [e, areaL_scale]
theorem areaL_zero (m : Nat) : ∀ p : List Int, (∀ f ∈ p, f = 0) → areaL m p = 0 := by
  intro p h
  have : p = List.replicate p.length 0 := List.eq_replicate_of_mem h
  rw [this, areaL_zeros]
theorem areaN_far {p : List Int} {b m : Int} (hs : vald (scL p b) = 0) (hm : moded p m = 0) (hb : ¬ (-99 ≤ b ∧ b ≤ 99)) : areaN p m = 0 ∧ areaN (scL p b) m = 0 := by
  have hz : ∀ f ∈ p, f = 0 := fun f hf => by
    by_cases h : f = 0
    · exact h
    · exact absurd hs (vald_far hf h hb)
  rw [areaN, if_pos hm, areaN, if_pos (scL_mode hs hm)]
  refine ⟨areaL_zero _ _ hz, areaL_zero _ _ fun f hf => ?_⟩
  obtain ⟨g, hg, rfl⟩ := List.mem_map.1 hf
  rw [hz g hg, Int.zero_mul]

set_option maxHeartbeats 2000000 in
theorem lawScales (A : Option Addr) (k c : Nat) (p : List Int) (b m : Int) (w : World) (hk : k ≤ c) (hc : c ≤ maxLen) (hr : Rd w w.heap.size 1 A k (ints p)) (_ : Big p) (hb : I64 b) (hm : I64 m) :
    Calls Try.prog 8 #[.slice A k c, .int .i64 b, .int .i64 m] w fun e w' => e = .returned (.bool true) ∧ Below w.heap.size w w' := by
  have hkm : k ≤ maxLen := Nat.le_trans hk hc
  obtain rfl := hr.int_len
  obtain ⟨hm1, hm2⟩ := hm
  by_cases hL : 100 < p.length
  · have hd : decide (100 < p.length) = true := by simpa using hL
    go_enter Try.func8, Try.ntmps8
    go_wp2_with fail
    refine (long _ _ _ _ hkm).mono ?_
    rw [hd]
    rintro e w1 ⟨rfl, rfl⟩
    go_wp2_with fail
    refine (known _).mono ?_
    rintro e w2 ⟨rfl, hb2⟩
    go_wp2
    go_ret
    exact ⟨rfl, hb2⟩
  · have HD := Lib.hid (show decide (100 < p.length) = false by simpa using hL)
    have hl : p.length ≤ 1000 := by omega
    have hsl : (scaleL p b).length ≤ 1000 := by unfold scaleL; split <;> simp [scL]; omega
    have HE := Lib.hid (show scaleE p b = 0 → vald p = 0 ∧ vald (scL p b) = 0 ∧ scaleL p b = scL p b from fun h => by
      unfold scaleE at h
      split at h
      · rename_i h1
        split at h
        · rename_i h2
          exact ⟨h1, h2, by rw [scaleL, if_pos ⟨h1, h2⟩]⟩
        · omega
      · exact absurd h (by assumption))
    have H1 := Lib.hid (fun w0 (B : Nat) (hB : B ≤ w0.heap.size) (h : Rd w0 B 1 A p.length (ints p)) => pScale A p.length c p b w0 hl B hB h)
    have H2 := Lib.hid (fun w0 (B : Nat) (hB : B ≤ w0.heap.size) (h : Rd w0 B 1 A p.length (ints p)) => rScale A p.length c p b w0 hl B hB h)
    obtain ⟨S, hS⟩ : ∃ S, S = scaleL p b := ⟨_, rfl⟩
    obtain ⟨E, hE⟩ : ∃ E, E = scaleE p b := ⟨_, rfl⟩
    rw [← hS] at hsl HE H1 H2
    rw [← hE] at HE H1 H2
    clear hS hE
    go_enter Try.func8, Try.ntmps8
    go_wp2_with fail
    refine (long _ _ _ _ hkm).mono ?_
    rw [HD.out]
    rintro e w1 ⟨rfl, rfl⟩
    go_wp2_with fail
    refine (H1.out w w.heap.size (Nat.le_refl _) hr).mono ?_
    rintro e w1 ⟨v1, rfl, hown1, hb1⟩
    obtain ⟨A1, c1, rfl, _, _⟩ := own_cap hown1
    have s1 := hb1.size
    have r1 := Rd.of_own hown1
    clear hown1
    go_wp2_with fail
    refine (H2.out w1 w.heap.size s1 (hr.below hb1)).mono ?_
    rintro e w2 ⟨v2, rfl, hown2, hb2⟩
    obtain ⟨A2, c2, rfl, _, _⟩ := own_cap hown2
    have B2 := hb1.trans (hb2.mono s1)
    have s2 := B2.size
    have t2 := hb2.size
    have r1 := (r1.below hb2).more t2
    have r2 := Rd.of_own hown2
    clear hown2 hb1 hb2
    go_wp2_with fail
    refine (rSameInts A1 A2 S.length S.length c1 c2 S S w2 hsl hsl w2.heap.size (Nat.le_refl _) r1 r2).mono ?_
    rw [decide_eq_true rfl]
    rintro e w3 ⟨rfl, hb3⟩
    have B3 := B2.trans (hb3.mono s2)
    have s3 := B3.size
    have t3 := hb3.size
    have r1 := (r1.below hb3).more t3
    clear hb3 r2
    go_wp2_with fail
    refine (pAreaF A p.length c p m w3 hl w.heap.size s3 (hr.below B3)).mono ?_
    rintro e w4 ⟨rfl, hb4⟩
    have B4 := B3.trans (hb4.mono s3)
    have s4 := B4.size
    have t4 := hb4.size
    have r1 := (r1.below hb4).more t4
    clear hb4
    go_wp2_with fail
    refine (pAreaF A1 S.length c1 S m w4 hsl w4.heap.size (Nat.le_refl _) r1).mono ?_
    rintro e w5 ⟨rfl, hb5⟩
    have HB5 := Lib.hid (B4.trans (hb5.mono s4))
    have s5 := HB5.out.size
    clear B4 B3 B2 hb5 r1
    by_cases hE0 : E = 0
    · obtain ⟨g1, g2, g3⟩ := HE.out hE0
      subst hE0
      by_cases hm0 : moded p m = 0
      · have HMS := Lib.hid (scL_mode g2 hm0)
        rw [g3, HMS.out]
        by_cases hbb : -99 ≤ b ∧ b ≤ 99
        · have HA := Lib.hid (areaN_scale g2 hm0 hbb)
          have hab := areaN_bd (p := p) (m := m)
          rw [hm0, HA.out]
          obtain ⟨hb1, hb2⟩ := hbb
          have q1 := mul_bd (a := areaN p m) (b := b) (A := 200000000) (B := 99) (by decide) hab ⟨hb1, hb2⟩
          have q2 := mul_bd (a := areaN p m * b) (b := b) (A := 200000000 * 99) (B := 99) (by decide) q1 ⟨hb1, hb2⟩
          clear g1 g2 g3 hm0
          have d1 : decide (b < -99) = false := by simp; omega
          have d2 : decide (99 < b) = false := by simp; omega
          generalize areaN p m = a at *
          go_wp2_with fail
          refine (known _).mono ?_
          rintro e w6 ⟨rfl, hb6⟩
          go_wp2
          go_ret
          exact ⟨rfl, HB5.out.trans (hb6.mono s5)⟩
        · obtain ⟨z1, z2⟩ := areaN_far g2 hm0 hbb
          rw [hm0, z1, z2]
          clear g1 g2 g3 hm0 z1 z2
          by_cases hlo : b < -99
          · have d1 : decide (b < -99) = true := by simpa using hlo
            go_wp2_with fail
            refine (known _).mono ?_
            rintro e w6 ⟨rfl, hb6⟩
            go_wp2
            go_ret
            exact ⟨rfl, HB5.out.trans (hb6.mono s5)⟩
          · have d1 : decide (b < -99) = false := by simpa using hlo
            have d2 : decide (99 < b) = true := by simp; omega
            go_wp2_with fail
            refine (known _).mono ?_
            rintro e w6 ⟨rfl, hb6⟩
            go_wp2
            go_ret
            exact ⟨rfl, HB5.out.trans (hb6.mono s5)⟩
      · have d1 : (moded p m != 0) = true := by simpa using hm0
        clear g1 g2 hm0 HE
        go_wp2_with fail
        refine (known _).mono ?_
        rintro e w6 ⟨rfl, hb6⟩
        go_wp2
        go_ret
        exact ⟨rfl, HB5.out.trans (hb6.mono s5)⟩
    · have d1 : (E != 0) = true := by simpa using hE0
      clear hE0 HE
      go_wp2_with fail
      refine (known _).mono ?_
      rintro e w6 ⟨rfl, hb6⟩
      go_wp2
      go_ret
      exact ⟨rfl, HB5.out.trans (hb6.mono s5)⟩
end Go.Proofs.Ytnoocdannfeidaa
