/-
  THE WALK of the law VoltCounts. (Printed by gen_lways.py.)
-/
import Derived.Test.YtejjogpgolgdgaaOpen
import Derived.Test.YtejjogpgolgdgaaP1
namespace Go.Proofs.Ytejjogpgolgdgaa
open Go.RowKit Pulse

theorem pow7 : ∀ k : Nat, k ≤ 3 → 0 ≤ (7 : Int) ^ k ∧ (7 : Int) ^ k ≤ 343
  | 0, _ => by decide
  | 1, _ => by decide
  | 2, _ => by decide
  | 3, _ => by decide
  | k + 4, h => by omega
theorem quietL_len (g : List (List Int)) : (quietL g).length ≤ 1000 := by
  unfold quietL quietO
  split
  · rename_i hv
    cases hf : (makeL g (zerosL g.length)).find? (fun v => decide (0 < sizeL v)) with
    | none => simp
    | some v =>
      have h1 := (mem_makeL.1 (List.mem_of_find?_eq_some hf)).1.1
      have := (vldG_ok hv).2.2.2.1
      show v.length ≤ 1000
      omega
  · simp

set_option maxRecDepth 100000 in
set_option maxHeartbeats 4000000 in
theorem lawCounts (A : Option Addr) (k c : Nat) (g : List (List Int)) (w : World) (hk : k ≤ c) (hc : c ≤ maxLen) (hr : TRd w w.heap.size A k g) (hb : ∀ l ∈ g, l.length ≤ maxLen) :
    Calls Try.prog 6 #[.slice A k c] w fun e w' => e = .returned (.bool true) ∧ Below w.heap.size w w' := by
  have hm : k ≤ maxLen := Nat.le_trans hk hc
  obtain rfl := hr.len
  by_cases h : longT g = true
  · skip
    go_enter Try.func6, Try.ntmps6
    go_wp2_with fail
    refine (long_is true _ _ _ g h w hm _ hr hb).mono ?_
    rintro e w' ⟨rfl, rfl⟩
    go_wp2_with fail
    refine (known w).mono ?_
    rintro e w1 ⟨rfl, hb1⟩
    have s1 := hb1.size
    have HB1 := Lib.hid hb1
    clear hb1
    go_wp2
    go_ret
    exact ⟨rfl, HB1.out⟩
  · skip
    have h : longT g = false := by simpa using h
    have hql := quietL_len g
    have HQ := Lib.hid (show quietIs g = quietIs g from rfl)
    go_enter Try.func6, Try.ntmps6
    go_wp2_with fail
    refine (long_is false _ _ _ g h w hm _ hr hb).mono ?_
    rintro e w' ⟨rfl, rfl⟩
    have hs := longT_sm h
    clear h
    go_wp2_with fail
    refine (pFields _ _ c g w hs w.heap.size (Nat.le_refl _) hr).mono ?_
    rintro e w1 ⟨rfl, hb1⟩
    have s1 := hb1.size
    have HB1 := Lib.hid hb1
    have hr := (hr.below hb1).more s1
    clear hb1
    go_wp2_with fail
    refine (rFields _ _ c g w1 hs w1.heap.size (Nat.le_refl _) hr).mono ?_
    rintro e w2 ⟨rfl, hb2⟩
    have s2 := hb2.size
    have HB2 := Lib.hid (HB1.out.trans (hb2.mono (by have := HB1.out.size; omega)))
    have hr := (hr.below hb2).more s2
    clear hb2
    go_wp2_with fail
    refine (pQuiet _ _ c g w2 hs w2.heap.size (Nat.le_refl _) hr).mono ?_
    rintro e w3 ⟨Ara, cra, rfl, ra, hb3⟩
    have s3 := hb3.size
    have HB3 := Lib.hid (HB2.out.trans (hb3.mono (by have := HB2.out.size; omega)))
    have hr := (hr.below hb3).more s3
    clear hb3
    go_wp2_with fail
    refine (rQuiet _ _ c g w3 hs w3.heap.size (Nat.le_refl _) hr).mono ?_
    rintro e w4 ⟨Arb, crb, rfl, rb, hb4⟩
    have s4 := hb4.size
    have HB4 := Lib.hid (HB3.out.trans (hb4.mono (by have := HB3.out.size; omega)))
    have hr := (hr.below hb4).more s4
    have ra := (ra.below hb4).more s4
    clear hb4
    have HBD := Lib.hid (fun h => fields_bd (g := g) h)
    have HPOS := Lib.hid (fun h => vldG_ok (g := g) h)
    obtain ⟨e0, he0⟩ : ∃ e, e = vldG g := ⟨_, rfl⟩
    rw [← he0] at HBD HPOS ⊢
    obtain ⟨n0, hn0⟩ : ∃ e, e = fieldsN g := ⟨_, rfl⟩
    rw [← hn0] at HBD ⊢
    obtain ⟨b0, hb0⟩ : ∃ e, e = quietIs g := ⟨_, rfl⟩
    rw [← hb0] at HBD ⊢
    clear HQ he0 hn0 hb0
    go_wp2_with fail
    refine (rSameInts_is true _ _ _ _ _ _ (quietL g) (quietL g) (by simp) w4 hql hql w4.heap.size (Nat.le_refl _) ra rb).mono ?_
    rintro e w5 ⟨rfl, hb5⟩
    have s5 := hb5.size
    have HB5 := Lib.hid (HB4.out.trans (hb5.mono (by have := HB4.out.size; omega)))
    have hr := (hr.below hb5).more s5
    have ra := (ra.below hb5).more s5
    have rb := (rb.below hb5).more s5
    clear hb5
    by_cases hz : e0 = 0
    · subst hz
      obtain ⟨hp1, hp2, hp3, hp4, hp5⟩ := HPOS.out rfl
      obtain ⟨hd1, hd2, hd3⟩ := HBD.out rfl
      have HD3 := Lib.hid hd3
      have hpos : 0 < g.length := by omega
      have HW := Lib.hid (wid_zero hpos)
      clear HPOS HBD hp5 hd3
      obtain ⟨b, off, A0, c0, rfl, hbk, hc0, _, _, _⟩ := hr.row hpos
      rw [Nat.add_zero, ← HW.out] at hc0
      have hn0b : n0 ≤ 343 := by have := pow7 _ hp4; omega
      have HP := Lib.hid (fun k h => pow7 k h)
      generalize wid g = m at *
      have z2 : (0 : Int) < (g.length : Int) := by omega
      go_wp2
      go_loop [14, 13] (fun i s => ∃ q : Nat, i = .int .i64 q ∧ q ≤ m ∧ s = .int .i64 ((7 : Int) ^ q)) (fun i _ => m - (intOf i).toNat)
      case atStart => exact ⟨0, rfl, Nat.zero_le _, rfl⟩
      case round =>
        obtain ⟨q, rfl, hq, rfl⟩ := hrel
        have hp7 := HP.out q (by omega)
        by_cases hlt : q < m
        · have HT := Lib.hid (Int.pow_succ 7 q)
          obtain ⟨s, hs9⟩ : ∃ s, s = (7 : Int) ^ q := ⟨_, rfl⟩
          rw [← hs9] at hp7 HT ⊢
          clear hs9
          have z0 : (0 : Int) ≤ (q : Int) := by omega
          have z1 : (q : Int) < (m : Int) := by omega
          have z3 : (q : Int) < 10 := by omega
          go_wp2
          go_round
          case rel => exact ⟨q + 1, by go_num, by omega, by rw [HT.out]⟩
          case measure => simp [intOf]; omega
        · obtain rfl : q = m := by omega
          generalize (7 : Int) ^ q = s at *
          cases b0 with
          | true =>
            have hd4 := HD3.out rfl
            go_wp2_with fail
            refine (known w5).mono ?_
            rintro e w6 ⟨rfl, hb6⟩
            have s6 := hb6.size
            have HB6 := Lib.hid (HB5.out.trans (hb6.mono (by have := HB5.out.size; omega)))
            have hr := (hr.below hb6).more s6
            have ra := (ra.below hb6).more s6
            have rb := (rb.below hb6).more s6
            clear hb6
            go_wp2
            go_ret
            exact ⟨rfl, HB6.out⟩
          | false =>
            go_wp2_with fail
            refine (known w5).mono ?_
            rintro e w6 ⟨rfl, hb6⟩
            have s6 := hb6.size
            have HB6 := Lib.hid (HB5.out.trans (hb6.mono (by have := HB5.out.size; omega)))
            have hr := (hr.below hb6).more s6
            have ra := (ra.below hb6).more s6
            have rb := (rb.below hb6).more s6
            clear hb6
            go_wp2
            go_ret
            exact ⟨rfl, HB6.out⟩
    · have hd : (e0 != 0) = true := by simpa using hz
      clear hz HBD HPOS
      go_wp2_with fail
      refine (known w5).mono ?_
      rintro e w6 ⟨rfl, hb6⟩
      have s6 := hb6.size
      have HB6 := Lib.hid (HB5.out.trans (hb6.mono (by have := HB5.out.size; omega)))
      have hr := (hr.below hb6).more s6
      have ra := (ra.below hb6).more s6
      have rb := (rb.below hb6).more s6
      clear hb6
      go_wp2
      go_ret
      exact ⟨rfl, HB6.out⟩
end Go.Proofs.Ytejjogpgolgdgaa
