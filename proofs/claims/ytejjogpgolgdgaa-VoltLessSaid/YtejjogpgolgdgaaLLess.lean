/-
  THE WALK of the law VoltLess. (Printed by gen_lless.py.)
-/
import Derived.Test.YtejjogpgolgdgaaOpen
import Derived.Test.YtejjogpgolgdgaaP2
namespace Go.Proofs.Ytejjogpgolgdgaa
open Go.RowKit Pulse

set_option maxRecDepth 100000 in
set_option maxHeartbeats 4000000 in
theorem lawLess (A : Option Addr) (k c : Nat) (g : List (List Int)) (wire : Int) (w : World) (hk : k ≤ c) (hc : c ≤ maxLen) (hr : TRd w w.heap.size A k g) (hb : ∀ l ∈ g, l.length ≤ maxLen) (hi' : I64 wire) :
    Calls Try.prog 14 #[.slice A k c, .int .i64 wire] w fun e w' => e = .returned (.bool true) ∧ Below w.heap.size w w' := by
  have hi : -9223372036854775808 ≤ wire ∧ wire ≤ 9223372036854775807 := hi'
  clear hi'
  have hm : k ≤ maxLen := Nat.le_trans hk hc
  obtain rfl := hr.len
  by_cases h : longT g = true
  · skip
    go_enter Try.func14, Try.ntmps14
    go_wp2_with fail
    refine (long_is true _ _ _ g h w hm _ hr hb).mono ?_
    rintro e w' ⟨rfl, rfl⟩
    go_wp2_with fail
    refine (known w).mono ?_
    rintro e w1 ⟨rfl, hb1⟩
    have s1 := hb1.size
    have HB1 := Lib.hid hb1
    clear hb1
    go_wp2
    go_ret
    exact ⟨rfl, HB1.out⟩
  · skip
    have h : longT g = false := by simpa using h
    go_enter Try.func14, Try.ntmps14
    go_wp2_with fail
    refine (long_is false _ _ _ g h w hm _ hr hb).mono ?_
    rintro e w' ⟨rfl, rfl⟩
    have hs := longT_sm h
    clear h
    have hst := withT_sm (wire := wire) hs
    have HLS := Lib.hid (fun h => less (g := g) (wire := wire) h)
    have HLV := Lib.hid (fun h => (withE_ok (g := g) (wire := wire) h).1)
    go_wp2_with fail
    refine (rCopyTable _ _ c g w hs w.heap.size (Nat.le_refl _) hr).mono ?_
    rintro e w1 ⟨Aro, cro, rfl, ro, hb1⟩
    have s1 := hb1.size
    have HB1 := Lib.hid hb1
    have hr := (hr.below hb1).more s1
    clear hb1
    have hro := ro
    have hrg := hr
    have HCH := Lib.hid (Below.refl w1.heap.size w1)
    go_wp2_with fail
    refine (pWithout _ _ cro g wire w1 hs hi w1.heap.size (Nat.le_refl _) ro).mono ?_
    rintro e w2 ⟨u2, rfl, hos, hb2⟩
    have s2 := hb2.size
    have HB2 := Lib.hid (HB1.out.trans (hb2.mono (by have := HB1.out.size; omega)))
    have hr := (hr.below hb2).more s2
    have ro := (ro.below hb2).more s2
    have HCH := Lib.hid (HCH.out.trans (hb2.mono (by have := HCH.out.size; omega)))
    clear hb2
    obtain ⟨Aa, ca, rfl, ra⟩ := hos.cap
    have HOS := Lib.hid hos
    clear hos
    go_wp2_with fail
    refine (rWithout _ _ c g wire w2 hs hi w2.heap.size (Nat.le_refl _) hr).mono ?_
    rintro e w3 ⟨u3, rfl, hos2, hb3⟩
    have s3 := hb3.size
    have HB3 := Lib.hid (HB2.out.trans (hb3.mono (by have := HB2.out.size; omega)))
    have hr := (hr.below hb3).more s3
    have ro := (ro.below hb3).more s3
    have ra := (ra.below hb3).more s3
    have HCH := Lib.hid (HCH.out.trans (hb3.mono (by have := HCH.out.size; omega)))
    have HOS := Lib.hid (HOS.out.below hb3)
    clear hb3
    obtain ⟨Ab, cb, rfl, rb⟩ := hos2.cap
    clear hos2
    obtain ⟨e0, he0⟩ : ∃ x, x = withE g wire := ⟨_, rfl⟩
    rw [← he0] at HLS HLV ⊢
    clear he0
    generalize withT g wire = T at *
    go_wp2_with fail
    refine (rSameTables true _ _ _ ca _ cb T T (by simp) w3 hst hst w3.heap.size (Nat.le_refl _) ra rb).mono ?_
    rintro e w4 ⟨rfl, hb4⟩
    have s4 := hb4.size
    have HB4 := Lib.hid (HB3.out.trans (hb4.mono (by have := HB3.out.size; omega)))
    have hr := (hr.below hb4).more s4
    have ro := (ro.below hb4).more s4
    have ra := (ra.below hb4).more s4
    have rb := (rb.below hb4).more s4
    have HCH := Lib.hid (HCH.out.trans (hb4.mono (by have := HCH.out.size; omega)))
    have HOS := Lib.hid (HOS.out.below hb4)
    clear hb4
    clear rb
    by_cases hz : e0 = 0
    · subst hz
      obtain ⟨k1, k2, k3, k4, k5, k6⟩ := HLS.out rfl
      have HVG := Lib.hid (HLV.out rfl)
      have HK1 := Lib.hid k1
      have HK3 := Lib.hid k3
      clear k1 k3 HLS
      go_wp2_with fail
      refine (pFields _ _ ca T w4 hst w4.heap.size (Nat.le_refl _) ra).mono ?_
      rw [HK1.out]
      rintro e w5 ⟨rfl, hb5⟩
      have s5 := hb5.size
      have HB5 := Lib.hid (HB4.out.trans (hb5.mono (by have := HB4.out.size; omega)))
      have hr := (hr.below hb5).more s5
      have ro := (ro.below hb5).more s5
      have ra := (ra.below hb5).more s5
      have HCH := Lib.hid (HCH.out.trans (hb5.mono (by have := HCH.out.size; omega)))
      have HOS := Lib.hid (HOS.out.below hb5)
      clear hb5
      go_wp2_with fail
      refine (pFields _ _ c g w5 hs w5.heap.size (Nat.le_refl _) hr).mono ?_
      rw [HVG.out]
      rintro e w6 ⟨rfl, hb6⟩
      have s6 := hb6.size
      have HB6 := Lib.hid (HB5.out.trans (hb6.mono (by have := HB5.out.size; omega)))
      have hr := (hr.below hb6).more s6
      have ro := (ro.below hb6).more s6
      have ra := (ra.below hb6).more s6
      have HCH := Lib.hid (HCH.out.trans (hb6.mono (by have := HCH.out.size; omega)))
      have HOS := Lib.hid (HOS.out.below hb6)
      clear hb6
      generalize fieldsN T = n1 at *
      generalize fieldsN g = n2 at *
      obtain ⟨vs, hu, hvl, hwr⟩ : ∃ vs, w6.ownsRow w1.heap.size 23 1 (.slice Aa T.length ca) T.length vs ∧ vs.length = T.length ∧ (∀ gu, Aa = some ⟨gu, 0, none⟩ → ∀ v ∈ vs, WrAt w6 w1.heap.size gu v) := by
        have h0 := HOS.out
        obtain ⟨vs, h1, h2, h3⟩ := HOS.out
        rcases Nat.eq_zero_or_pos T.length with h | h
        · exact ⟨vs, h1, h2.1, fun gu _ v hv => by have := List.length_pos_of_mem hv; have := h2.1; omega⟩
        · obtain ⟨gu, cap, hv, hg1, hg2⟩ := h1.form h
          injection hv with e1 e2 e3
          subst e1
          obtain ⟨vs, h1, h2, h3⟩ := h0.wr HK3.out
          refine ⟨vs, h1, h2, fun gu' hgu v hv => ?_⟩
          injection hgu with hgu
          injection hgu with hgu
          subst hgu
          exact h3 v hv
      have HVL := Lib.hid hvl
      have hT3 := k4
      have HST := Lib.hid (And.intro hro (And.intro hrg HCH.out))
      clear hvl ra hr ro
      have hkeep := HB6.out
      have HB9 := Lib.hid hkeep
      clear hkeep
      go_wp2
      go_loopw [14] (fun i wr => ∃ q : Nat, i = .int .i64 q ∧ q ≤ T.length ∧ wr.ownsRow w1.heap.size 23 1 (.slice Aa T.length ca) T.length vs ∧ (∀ gu, Aa = some ⟨gu, 0, none⟩ → ∀ v ∈ vs, WrAt wr w1.heap.size gu v) ∧ Below w1.heap.size w1 wr ∧ Below w.heap.size w wr) (fun i _ => T.length - (intOf i).toNat)
      case atStart => exact ⟨0, rfl, Nat.zero_le _, hu, hwr, HCH.out, HB9.out⟩
      case round =>
        clear hu hwr
        obtain ⟨q, rfl, hq, hu, hwr, hb, hbw⟩ := hrel
        have hsz := hb.size
        by_cases hlt : q < T.length
        · have hqv : q < vs.length := by rw [HVL.out]; exact hlt
          obtain ⟨gu, cap, hv, hg1, hg2⟩ := hu.form (by omega)
          injection hv with e1 e2 e3
          subst e1 e3
          obtain ⟨bq, oq, nq, cq, zq, ev, hbq, hne, hcq, hfq⟩ := hwr gu rfl _ (List.getElem_mem hqv)
          have g1 : wr.cell? ⟨gu, q, none⟩ = some (.slice (some ⟨bq, oq, none⟩) (nq + 1) cq) := by
            have := (Rd.head (Rd.of_own hu) (List.getElem?_eq_getElem hqv))
            obtain ⟨b', off', e', _, hc'⟩ := this
            injection e' with e'
            injection e' with e1' e2' e3'
            subst e1' e2'
            rw [Nat.zero_add] at hc'
            rw [hc', ev]
          have HO := Lib.hid (And.intro (own_keep (w' := wr.setCell ⟨bq, oq, none⟩ (.int .i64 99)) hu (fun g0 hg0 => Below.heap_setCell wr ⟨bq, oq, none⟩ (.int .i64 99) g0 (fun e => hne (by have h9 : some gu = some g0 := hg0; injection h9 with h9; exact e.symm.trans h9.symm)))) (And.intro (fun gu' hgu' v hv => (hwr gu' hgu' v hv).set ⟨bq, oq, none⟩ hfq ⟨zq, hcq⟩ 99) (And.intro (hb.setCell (p := ⟨bq, oq, none⟩) hbq (.int .i64 99)) (hbw.setCell (p := ⟨bq, oq, none⟩) (Nat.le_trans (by have := HST.out.2.2.size; omega) hbq) (.int .i64 99)))))
          have z0 : (0 : Int) ≤ (q : Int) := by omega
          have z1 : (q : Int) < (T.length : Int) := by omega
          have z2 : (0 : Int) < ((nq : Int) + 1) := by omega
          clear hu hwr hb hbw ev hbq hne
          go_wp2
          go_roundw
          case rel => exact ⟨q + 1, by go_num, by omega, HO.out.1, HO.out.2.1, HO.out.2.2.1, HO.out.2.2.2⟩
          case measure => simp [intOf]; omega
        · obtain rfl : q = T.length := by omega
          have hbw2 := hbw.size
          have rg2 := (hrg.below' hb (Nat.le_refl _)).more hsz
          have ro2 := (hro.below' hb (Nat.le_refl _)).more hsz
          have HBW := Lib.hid hbw
          clear hu hwr hb hbw
          obtain ⟨w7, hw7⟩ : ∃ z, z = wr := ⟨_, rfl⟩
          rw [← hw7] at rg2 ro2 HBW hsz hbw2 ⊢
          clear hw7
          go_wp2_with fail
          refine (rSameTables true _ _ _ cro _ c g g (by simp) w7 hs hs w7.heap.size (Nat.le_refl _) ro2 rg2).mono ?_
          rintro e w8 ⟨rfl, hb8⟩
          have s8 := hb8.size
          have HB8 := Lib.hid (HBW.out.trans (hb8.mono (by have := HBW.out.size; omega)))
          have rg2 := (rg2.below hb8).more s8
          have ro2 := (ro2.below hb8).more s8
          clear hb8
          go_wp2_with fail
          refine (known w8).mono ?_
          rintro e w9 ⟨rfl, hb9⟩
          have s9 := hb9.size
          have HB9 := Lib.hid (HB8.out.trans (hb9.mono (by have := HB8.out.size; omega)))
          have rg2 := (rg2.below hb9).more s9
          have ro2 := (ro2.below hb9).more s9
          clear hb9
          go_wp2
          go_ret
          exact ⟨rfl, HB9.out⟩
    · have hd : (e0 != 0) = true := by simpa using hz
      clear hz HLS
      go_wp2_with fail
      refine (known w4).mono ?_
      rintro e w5 ⟨rfl, hb5⟩
      have s5 := hb5.size
      have HB5 := Lib.hid (HB4.out.trans (hb5.mono (by have := HB4.out.size; omega)))
      have hr := (hr.below hb5).more s5
      have ro := (ro.below hb5).more s5
      have ra := (ra.below hb5).more s5
      have HCH := Lib.hid (HCH.out.trans (hb5.mono (by have := HCH.out.size; omega)))
      have HOS := Lib.hid (HOS.out.below hb5)
      clear hb5
      go_wp2
      go_ret
      exact ⟨rfl, HB5.out⟩
end Go.Proofs.Ytejjogpgolgdgaa
