/-
  THE WALK of the law PulseSearches.
-/
import Derived.Test.YtnoocdannfeidaaOpen
import Derived.Test.YtnoocdannfeidaaW44
import Derived.Test.YtnoocdannfeidaaW26
import Derived.Test.YtnoocdannfeidaaW22
namespace Go.Proofs.Ytnoocdannfeidaa
open Go.RowKit Pulse

set_option maxRecDepth 100000 in
theorem rSameInts5 (A A' : Option Addr) (k k' c c' : Nat) (l m : List Int) (w : World) (hl : l.length ≤ 100000) (hm : m.length ≤ 100000) (B : Nat) (hB : B ≤ w.heap.size) (hr : Rd w B 1 A k (ints l)) (hr' : Rd w B 1 A' k' (ints m)) :
    Calls Try.prog 39 #[.slice A k c, .slice A' k' c'] w fun e w' => e = .returned (.bool (decide (l = m))) ∧ Below w.heap.size w w' := by
  obtain rfl := hr.int_len
  obtain rfl := hr'.int_len
  by_cases hlm : l.length = m.length
  · have HLM := Lib.hid hlm
    have hd : ((l.length : Int) == (m.length : Int)) = true := by simp [hlm]
    have hd' : ((l.length : Int) != (m.length : Int)) = false := by simp [hlm]
    clear hlm
    go_enter Try.func39, Try.ntmps39
    go_wp2
    go_loopw [5] (fun i wr => ∃ q : Nat, q ≤ l.length ∧ i = .int .i64 q ∧ Below w.heap.size w wr ∧ Hid (l.take q = m.take q)) (fun i _ => l.length - (intOf i).toNat)
    case atStart => exact ⟨0, Nat.zero_le _, rfl, Below.refl _ _, rfl⟩
    case round =>
      obtain ⟨q, hq, rfl, hb, HT⟩ := hrel
      by_cases hlt : q < l.length
      · have hlt' : q < m.length := by have := HLM.out; omega
        obtain ⟨b, off, rfl, _, h0⟩ := (hr.below' hb hB).int hlt
        obtain ⟨b', off', rfl, _, h0'⟩ := (hr'.below' hb hB).int hlt'
        have z0 : (0 : Int) ≤ (q : Int) := Int.natCast_nonneg _
        have z1 : (q : Int) < (l.length : Int) := by omega
        have z2 : (q : Int) < (m.length : Int) := by omega
        have HS := Lib.hid (take_snoc' l q hlt)
        have HS' := Lib.hid (take_snoc' m q hlt')
        by_cases he : l[q] = m[q]
        · have HE := Lib.hid he
          have hd1 : (l[q] != m[q]) = false := by simpa using he
          have hd2 : (l[q] == m[q]) = true := by simpa using he
          clear he
          go_wp2
          go_quiet (fail)
          go_wp2
          go_roundw
          case rel => exact ⟨q + 1, by omega, by go_num, below_drewN hb nq, by show l.take (q + 1) = m.take (q + 1); rw [HS.out, HS'.out, HT.out, HE.out]⟩
          case measure => simp [intOf]; omega
        · have HE := Lib.hid he
          have hd1 : (l[q] != m[q]) = true := by simpa using he
          have hd2 : (l[q] == m[q]) = false := by simpa using he
          clear he
          go_wp2
          go_quiet (fail)
          go_wp2
          go_ret
          exact ⟨ret_bool (by symm; apply decide_eq_false; intro h; subst h; exact HE.out rfl), below_drewN hb nq⟩
      · obtain rfl : q = l.length := by omega
        have HE := Lib.hid (show l = m by have := HT.out; rw [List.take_length, HLM.out, List.take_length] at this; exact this)
        go_wp2
        go_ret
        exact ⟨ret_bool (decide_eq_true HE.out).symm, hb⟩
  · have hd : ((l.length : Int) == (m.length : Int)) = false := by simp; omega
    have hd' : ((l.length : Int) != (m.length : Int)) = true := by simp; omega
    have HLM := Lib.hid hlm
    clear hlm
    go_enter Try.func39, Try.ntmps39
    go_wp2
    go_ret
    exact ⟨ret_bool (by symm; apply decide_eq_false; intro h; subst h; exact HLM.out rfl), Below.refl _ _⟩

theorem zero_hasA {ms : List Int} {F n : Nat} : hasA ms F n 0 = true := by
  unfold hasA
  rw [List.any_eq_true]
  refine ⟨List.replicate n 0, mem_allP.2 ⟨by simp, fun f hf => by rw [(List.mem_replicate.1 hf).2]; omega⟩, ?_⟩
  rw [shut_zeros, areaL_zeros]; rfl
theorem has_zero {ms : List Int} {n f : Int} (h : srchE ms n f = 0) : hasB (areasL ms n f) 0 = true := by
  rw [areasL, if_pos h, hasB_iff, mem_areasTo]
  exact ⟨⟨1000, by omega, by omega⟩, zero_hasA⟩

set_option maxRecDepth 100000 in
set_option maxHeartbeats 4000000 in
theorem lawSearches (A : Option Addr) (k c : Nat) (ms : List Int) (n f : Int) (w : World) (hk : k ≤ c) (hc : c ≤ maxLen) (hr : Rd w w.heap.size 1 A k (ints ms)) (_ : Big ms) (_ : I64 n) (_ : I64 f) :
    Calls Try.prog 15 #[.slice A k c, .agg #[.int .i64 n, .int .i64 f]] w fun e w' => e = .returned (.bool true) ∧ Below w.heap.size w w' := by
  have hkm : k ≤ maxLen := Nat.le_trans hk hc
  obtain rfl := hr.int_len
  have HN0 := Lib.hid (blk_new w 50 #[.int .i64 n, .int .i64 f])
  have HB0 := Lib.hid ((Below.refl w.heap.size w).alloc (Nat.le_refl _) (.cells #[.int .i64 n, .int .i64 f] 50))
  have s0 : (w.alloc (.cells #[.int .i64 n, .int .i64 f] 50)).heap.size = w.heap.size + 1 := by simp
  by_cases hL : 100 < ms.length
  · have hd : decide (100 < ms.length) = true := by simpa using hL
    go_enter Try.func15, Try.ntmps15
    go_wp2_with fail
    refine (long _ _ _ _ hkm).mono ?_
    rw [hd]
    rintro e w1 ⟨rfl, rfl⟩
    go_wp2_with fail
    refine (known _).mono ?_
    rintro e w2 ⟨rfl, hb2⟩
    go_wp2
    go_ret
    exact ⟨rfl, HB0.out.trans (hb2.mono (by omega))⟩
  · have hd : decide (100 < ms.length) = false := by simpa using hL
    have hl : ms.length ≤ 1000 := by omega
    have hal := areasL_len ms n f
    have HHZ := Lib.hid (fun h => has_zero (ms := ms) (n := n) (f := f) h)
    have H1 := Lib.hid (fun w1 B hB h => pAreas A ms.length c ms n f w1 hl B hB h)
    have H2 := Lib.hid (fun w1 B hB h => rAreas A ms.length c ms n f w1 hl B hB h)
    obtain ⟨L, hL2⟩ : ∃ L, L = areasL ms n f := ⟨_, rfl⟩
    obtain ⟨e0, he⟩ : ∃ a, a = srchE ms n f := ⟨_, rfl⟩
    rw [← hL2, ← he] at H1 H2 HHZ
    rw [← hL2] at hal
    clear hL2 he
    go_enter Try.func15, Try.ntmps15
    go_wp2_with fail
    refine (long _ _ _ _ hkm).mono ?_
    rw [hd]
    rintro e w1 ⟨rfl, rfl⟩
    clear hL
    go_wp2_with fail
    refine (H1.out _ w.heap.size (by omega) (hr.below HB0.out)).mono ?_
    rintro e w6 ⟨v6, rfl, hown6, hb6⟩
    obtain ⟨A6, c6, rfl, _, _⟩ := own_cap hown6
    have x6 := blk_below HN0.out hb6 (by omega)
    have s6 := hb6.size
    have B6 := HB0.out.trans (hb6.mono (by omega))
    have r6 := Rd.of_own hown6
    have c1 : w6.cell? ⟨w.heap.size, 0, none⟩ = some (.int .i64 n) := blk_cell x6 0
    have c2 : w6.cell? ⟨w.heap.size, 1, none⟩ = some (.int .i64 f) := blk_cell x6 1
    have HX6 := Lib.hid x6
    clear hown6 hb6 x6
    go_wp2_with fail
    refine (H2.out w6 w.heap.size B6.size (hr.below B6)).mono ?_
    rintro e w7 ⟨v7, rfl, hown7, hb7⟩
    obtain ⟨A7, c7, rfl, _, _⟩ := own_cap hown7
    have s7 := hb7.size
    have r6 := (r6.below hb7).more s7
    have B7 := B6.trans (hb7.mono (by omega))
    have r7 := Rd.of_own hown7
    clear hown7 hb7 B6
    go_wp2_with fail
    refine (rSameInts5 A6 A7 L.length L.length c6 c7 L L w7 (by omega) (by omega) w7.heap.size (Nat.le_refl _) r6 r7).mono ?_
    rw [decide_eq_true rfl]
    rintro e w8 ⟨rfl, hb8⟩
    have s8 := hb8.size
    have r6 := (r6.below hb8).more s8
    have B8 := B7.trans (hb8.mono (by omega))
    clear r7 hb8 B7
    by_cases h0 : e0 = 0
    · subst h0
      have HZ := Lib.hid (HHZ.out rfl)
      clear HHZ
      go_wp2_with fail
      refine (rHas A6 L.length c6 L 0 w8 (by omega) w8.heap.size (Nat.le_refl _) r6).mono ?_
      rw [HZ.out]
      rintro e w9 ⟨rfl, hb9⟩
      have s9 := hb9.size
      have B9 := B8.trans (hb9.mono (by omega))
      go_wp2_with fail
      refine (known _).mono ?_
      rintro e w15 ⟨rfl, hb15⟩
      go_wp2
      go_ret
      exact ⟨rfl, B9.trans (hb15.mono (by omega))⟩
    · have hd0 : (e0 != 0) = true := by simpa using h0
      clear h0
      go_wp2_with fail
      refine (known _).mono ?_
      rintro e w9 ⟨rfl, hb9⟩
      go_wp2
      go_ret
      exact ⟨rfl, B8.trans (hb9.mono (by omega))⟩
end Go.Proofs.Ytnoocdannfeidaa
