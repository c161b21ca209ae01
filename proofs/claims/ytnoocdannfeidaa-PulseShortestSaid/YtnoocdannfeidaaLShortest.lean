/-
  THE WALK of the law PulseShortest.
-/
import Derived.Test.YtnoocdannfeidaaOpen
import Derived.Test.YtnoocdannfeidaaW39
namespace Go.Proofs.Ytnoocdannfeidaa
open Go.RowKit Pulse

theorem least_found {ms : List Int} {F : Nat} : ∀ q, 1 ≤ q → foundAt ms F q = true → ∃ r, 1 ≤ r ∧ r ≤ q ∧ foundAt ms F r = true ∧ ∀ n, 1 ≤ n → n < r → foundAt ms F n = false := by
  intro q
  induction q using Nat.strongRecOn with
  | _ q ih =>
    intro h1 h2
    by_cases h : ∃ n, 1 ≤ n ∧ n < q ∧ foundAt ms F n = true
    · obtain ⟨n, a, b, c⟩ := h
      obtain ⟨r, r1, r2, r3, r4⟩ := ih n b a c
      exact ⟨r, r1, by omega, r3, r4⟩
    · refine ⟨q, h1, Nat.le_refl _, h2, fun n a b => ?_⟩
      cases hc : foundAt ms F n with
      | false => rfl
      | true => exact absurd ⟨n, a, b, hc⟩ h
theorem firstLen_ok {ms : List Int} {F : Nat} (h : firstLen ms F ≠ 0) : 1 ≤ firstLen ms F ∧ firstLen ms F ≤ 6 ∧ foundAt ms F (firstLen ms F) = true := by
  by_cases h' : ∃ n, 1 ≤ n ∧ n < 7 ∧ foundAt ms F n = true
  · obtain ⟨n, a, b, c⟩ := h'
    obtain ⟨r, r1, r2, r3, r4⟩ := least_found n a c
    rw [firstLen_at r1 (by omega) r3 r4]
    exact ⟨r1, by omega, r3⟩
  · exact absurd (firstLen_none fun n a b => by
      cases hc : foundAt ms F n with
      | false => rfl
      | true => exact absurd ⟨n, a, b, hc⟩ h') h
theorem found_more {ms : List Int} {F n : Nat} (h : foundAt ms F n = true) : foundAt ms (F + 1) n = true := by
  unfold foundAt at *
  rw [List.any_eq_true] at *
  obtain ⟨p, hp, hq⟩ := h
  obtain ⟨h1, h2⟩ := mem_allP.1 hp
  exact ⟨p, mem_allP.2 ⟨h1, fun f hf => by have := h2 f hf; omega⟩, hq⟩
theorem first_more {ms : List Int} {F : Nat} (h : firstLen ms F ≠ 0) : firstLen ms (F + 1) ≠ 0 ∧ firstLen ms (F + 1) ≤ firstLen ms F := by
  obtain ⟨h1, h2, h3⟩ := firstLen_ok h
  obtain ⟨r, r1, r2, r3, r4⟩ := least_found _ h1 (found_more h3)
  rw [firstLen_at r1 (by omega) r3 r4]
  exact ⟨by omega, r2⟩
theorem short_more {ms : List Int} {f : Int} (h : shortIs ms f = true) (hf : f < 2) : srchE ms 0 (f + 1) = 0 ∧ shortIs ms (f + 1) = true ∧ shortN ms (f + 1) ≤ shortN ms f := by
  have h0 : shortN ms f ≠ 0 := by simpa [shortIs] using h
  by_cases hs : srchE ms 0 f = 0
  · obtain ⟨h1, _, _, h2, h3⟩ := srchE_ok hs
    have e : f = 1 := by omega
    subst e
    have hs2 : srchE ms 0 (1 + 1) = 0 := by rw [srchE, if_pos ⟨h1, by omega, by omega, by omega, by omega⟩]
    have n1 : shortN ms 1 = firstLen ms 1 := by rw [shortN, if_pos hs]; rfl
    have n2 : shortN ms (1 + 1) = firstLen ms 2 := by rw [shortN, if_pos hs2]; rfl
    obtain ⟨m1, m2⟩ := first_more (F := 1) (ms := ms) (by rw [n1] at h0; omega)
    have m1 : firstLen ms 2 ≠ 0 := m1
    have m2 : firstLen ms 2 ≤ firstLen ms 1 := m2
    refine ⟨hs2, ?_, by rw [n1, n2]; omega⟩
    rw [shortIs, n2]
    exact decide_eq_true (by omega)
  · rw [shortN, if_neg hs] at h0
    exact absurd rfl h0
theorem shortN_bd (ms : List Int) (f : Int) : 0 ≤ shortN ms f ∧ shortN ms f ≤ 6 := by
  unfold shortN
  split
  · by_cases h : firstLen ms f.toNat = 0
    · rw [h]; decide
    · have := firstLen_ok h
      omega
  · decide

set_option maxRecDepth 100000 in
set_option maxHeartbeats 4000000 in
theorem lawShortest (A : Option Addr) (k c : Nat) (ms : List Int) (f : Int) (w : World) (hk : k ≤ c) (hc : c ≤ maxLen) (hr : Rd w w.heap.size 1 A k (ints ms)) (_ : Big ms) (hf : I64 f) :
    Calls Try.prog 5 #[.slice A k c, .int .i64 f] w fun e w' => e = .returned (.bool true) ∧ Below w.heap.size w w' := by
  have hkm : k ≤ maxLen := Nat.le_trans hk hc
  obtain rfl := hr.int_len
  by_cases hL : 100 < ms.length
  · have hd : decide (100 < ms.length) = true := by simpa using hL
    go_enter Try.func5, Try.ntmps5
    go_wp2_with fail
    refine (long _ _ _ _ hkm).mono ?_
    rw [hd]
    rintro e w1 ⟨rfl, rfl⟩
    go_wp2_with fail
    refine (known _).mono ?_
    rintro e w2 ⟨rfl, hb2⟩
    go_wp2
    go_ret
    exact ⟨rfl, hb2⟩
  · have hd : decide (100 < ms.length) = false := by simpa using hL
    have hl : ms.length ≤ 1000 := by omega
    have H1 := Lib.hid (pShortest A ms.length c ms f w hl w.heap.size (Nat.le_refl _) hr)
    have H2 := Lib.hid (fun w1 B hB h => rShortest A ms.length c ms f w1 hl B hB h)
    have H3 := Lib.hid (fun w1 B hB h => pShortest A ms.length c ms (f + 1) w1 hl B hB h)
    have HM := Lib.hid (fun h1 h2 => short_more (ms := ms) (f := f) h1 h2)
    have hb1 := shortN_bd ms f
    have hb2 := shortN_bd ms (f + 1)
    obtain ⟨a, ha⟩ : ∃ a, a = shortN ms f := ⟨_, rfl⟩
    obtain ⟨a', ha'⟩ : ∃ a, a = shortN ms (f + 1) := ⟨_, rfl⟩
    obtain ⟨e0, he⟩ : ∃ a, a = srchE ms 0 f := ⟨_, rfl⟩
    obtain ⟨e1, he'⟩ : ∃ a, a = srchE ms 0 (f + 1) := ⟨_, rfl⟩
    obtain ⟨i0, hi⟩ : ∃ a, a = shortIs ms f := ⟨_, rfl⟩
    obtain ⟨i1, hi'⟩ : ∃ a, a = shortIs ms (f + 1) := ⟨_, rfl⟩
    rw [← ha, ← he, ← hi] at H1 H2
    rw [← ha', ← he', ← hi'] at H3
    rw [← ha, ← ha', ← he', ← hi, ← hi'] at HM
    rw [← ha] at hb1
    rw [← ha'] at hb2
    clear ha ha' he he' hi hi'
    have hf1 := hf.1
    have hf2 := hf.2
    go_enter Try.func5, Try.ntmps5
    go_wp2_with fail
    refine (long _ _ _ _ hkm).mono ?_
    rw [hd]
    rintro e w1 ⟨rfl, rfl⟩
    clear hL
    go_wp2_with fail
    refine H1.out.mono ?_
    rintro e w6 ⟨rfl, hb6⟩
    have s6 := hb6.size
    go_wp2_with fail
    refine (H2.out w6 w.heap.size s6 (hr.below hb6)).mono ?_
    rintro e w7 ⟨rfl, hb7⟩
    have s7 := hb7.size
    have B7 := hb6.trans (hb7.mono (by omega))
    clear hb6 hb7
    cases i0 with
    | false =>
      go_wp2_with fail
      refine (known _).mono ?_
      rintro e w13 ⟨rfl, hb13⟩
      go_wp2
      go_ret
      exact ⟨rfl, B7.trans (hb13.mono (by omega))⟩
    | true =>
      by_cases hf3 : 2 ≤ f
      · go_wp2_with fail
        refine (known _).mono ?_
        rintro e w13 ⟨rfl, hb13⟩
        go_wp2
        go_ret
        exact ⟨rfl, B7.trans (hb13.mono (by omega))⟩
      · obtain ⟨rfl, rfl, hle⟩ := HM.out rfl (by omega)
        have hf4 : f ≤ 1 := by omega
        have hd2 : decide (2 ≤ f) = false := decide_eq_false hf3
        clear hf3
        go_wp2_with fail
        refine (H3.out w7 w.heap.size (by omega) (hr.below B7)).mono ?_
        rintro e w8 ⟨rfl, hb8⟩
        have s8 := hb8.size
        have B8 := B7.trans (hb8.mono (by omega))
        clear hb8
        go_wp2_with fail
        refine (known _).mono ?_
        rintro e w13 ⟨rfl, hb13⟩
        go_wp2
        go_ret
        exact ⟨rfl, B8.trans (hb13.mono (by omega))⟩
end Go.Proofs.Ytnoocdannfeidaa
