/-
  THE WALK of the law PulseFinds.
-/
import Derived.Test.YtnoocdannfeidaaOpen
import Derived.Test.YtnoocdannfeidaaW45
import Derived.Test.YtnoocdannfeidaaLSearches
namespace Go.Proofs.Ytnoocdannfeidaa
open Go.RowKit Pulse

theorem find_has (ms : List Int) (n f a : Int) : findIs ms n f a = hasB (areasL ms n f) a := by
  by_cases h : srchE ms n f = 0
  · obtain ⟨h1, n1, n2, h2, h3⟩ := srchE_ok h
    have e : (findIs ms n f a = true) ↔ (hasB (areasL ms n f) a = true) := by
      rw [findIs, findO, if_pos h, areasL, if_pos h, hasB_iff, mem_areasTo, List.find?_isSome, hasA, List.any_eq_true]
      constructor
      · rintro ⟨p, hp, hq⟩
        have hA : hasA ms f.toNat n.toNat a = true := by rw [hasA, List.any_eq_true]; exact ⟨p, hp, hq⟩
        have := hasA_bd (by omega) (by omega) hA
        exact ⟨⟨(a + 1000).toNat, by omega, by omega⟩, p, hp, hq⟩
      · exact fun h => h.2
    rw [Bool.eq_iff_iff]; exact e
  · rw [findIs, findO, if_neg h, areasL, if_neg h]; rfl
theorem find_ok {ms : List Int} {n f a : Int} (h : findIs ms n f a = true) : (findL ms n f a).length = n ∧ chkE (findL ms n f a) ms a = 0 ∧ Forces f (findL ms n f a) ∧ srchE ms n f = 0 := by
  by_cases hs : srchE ms n f = 0
  · obtain ⟨h1, n1, n2, h2, h3⟩ := srchE_ok hs
    unfold findL
    rw [findIs, findO, if_pos hs] at h
    rw [findO, if_pos hs]
    obtain ⟨p, hp⟩ := Option.isSome_iff_exists.1 h
    rw [hp]
    have hm := mem_allP.1 (List.mem_of_find?_eq_some hp)
    have hk := List.find?_some hp
    rw [okP, Bool.and_eq_true, beq_iff_eq] at hk
    have hF : Forces f p := fun g hg => by have := hm.2 g hg; omega
    refine ⟨by show (p.length : Int) = n; rw [hm.1]; omega, ?_, hF, hs⟩
    have hv : vald p = 0 := by
      rw [vald, if_neg (by rw [hm.1]; omega), if_pos]
      rw [List.all_eq_true]
      intro g hg
      have := hF g hg
      simp [isF]; omega
    show chkE p ms a = 0
    have hne := (areModes_ok h1).1
    simp [chkE, hv, h1, hk.1]
    rw [← hk.2]
    simp [hd0, hne]
  · rw [findIs, findO, if_neg hs] at h
    exact absurd h (by decide)
theorem find_none {ms : List Int} {n f a : Int} (h : findIs ms n f a = false) : findL ms n f a = [] := by
  rw [findIs, Option.isSome_eq_false_iff, Option.isNone_iff_eq_none] at h
  rw [findL, h]; rfl

set_option maxRecDepth 100000 in
set_option maxHeartbeats 4000000 in
theorem lawFinds (A : Option Addr) (k c : Nat) (ms : List Int) (x n f : Int) (w : World) (hk : k ≤ c) (hc : c ≤ maxLen) (hr : Rd w w.heap.size 1 A k (ints ms)) (_ : Big ms) (_ : I64 x) (_ : I64 n) (_ : I64 f) :
    Calls Try.prog 9 #[.slice A k c, .int .i64 x, .agg #[.int .i64 n, .int .i64 f]] w fun e w' => e = .returned (.bool true) ∧ Below w.heap.size w w' := by
  have hkm : k ≤ maxLen := Nat.le_trans hk hc
  obtain rfl := hr.int_len
  have HN0 := Lib.hid (blk_new w 50 #[.int .i64 n, .int .i64 f])
  have HB0 := Lib.hid ((Below.refl w.heap.size w).alloc (Nat.le_refl _) (.cells #[.int .i64 n, .int .i64 f] 50))
  have s0 : (w.alloc (.cells #[.int .i64 n, .int .i64 f] 50)).heap.size = w.heap.size + 1 := by simp
  by_cases hL : 100 < ms.length
  · have hd : decide (100 < ms.length) = true := by simpa using hL
    go_enter Try.func9, Try.ntmps9
    go_wp2_with fail
    refine (long _ _ _ _ hkm).mono ?_
    rw [hd]
    rintro e w1 ⟨rfl, rfl⟩
    go_wp2_with fail
    refine (known _).mono ?_
    rintro e w2 ⟨rfl, hb2⟩
    go_wp2
    go_ret
    exact ⟨rfl, HB0.out.trans (hb2.mono (by omega))⟩
  · have hd : decide (100 < ms.length) = false := by simpa using hL
    have hl : ms.length ≤ 1000 := by omega
    have hal := areasL_len ms n f
    have HFO := Lib.hid (fun h => find_ok (ms := ms) (n := n) (f := f) (a := x) h)
    have HFN := Lib.hid (fun h => find_none (ms := ms) (n := n) (f := f) (a := x) h)
    have HSE := Lib.hid (fun h => srchE_ok (ms := ms) (n := n) (f := f) h)
    have HFH := Lib.hid (find_has ms n f x)
    have H1 := Lib.hid (fun w1 B hB h => pFind A ms.length c ms x n f w1 hl B hB h)
    have H2 := Lib.hid (fun w1 B hB h => rAreas A ms.length c ms n f w1 hl B hB h)
    obtain ⟨L, hL2⟩ : ∃ L, L = areasL ms n f := ⟨_, rfl⟩
    obtain ⟨P, hP⟩ : ∃ P, P = findL ms n f x := ⟨_, rfl⟩
    obtain ⟨e0, he⟩ : ∃ a, a = srchE ms n f := ⟨_, rfl⟩
    obtain ⟨i0, hi⟩ : ∃ a, a = findIs ms n f x := ⟨_, rfl⟩
    rw [← hP, ← hi, ← he] at H1 HFO
    rw [← hP, ← hi] at HFN
    rw [← he] at HSE
    rw [← hL2, ← he] at H2
    rw [← hL2, ← hi] at HFH
    rw [← hL2] at hal
    clear hL2 he hP hi
    go_enter Try.func9, Try.ntmps9
    go_wp2_with fail
    refine (long _ _ _ _ hkm).mono ?_
    rw [hd]
    rintro e w1 ⟨rfl, rfl⟩
    clear hL
    go_wp2_with fail
    refine (H1.out _ w.heap.size (by omega) (hr.below HB0.out)).mono ?_
    rintro e w6 ⟨v6, rfl, hown6, hb6⟩
    obtain ⟨A6, c6, rfl, _, _⟩ := own_cap hown6
    have x6 := blk_below HN0.out hb6 (by omega)
    have s6 := hb6.size
    have B6 := HB0.out.trans (hb6.mono (by omega))
    have r6 := Rd.of_own hown6
    have c1 : w6.cell? ⟨w.heap.size, 0, none⟩ = some (.int .i64 n) := blk_cell x6 0
    have c2 : w6.cell? ⟨w.heap.size, 1, none⟩ = some (.int .i64 f) := blk_cell x6 1
    have HX6 := Lib.hid x6
    clear hown6 hb6 x6
    go_wp2_with fail
    refine (H2.out w6 w.heap.size B6.size (hr.below B6)).mono ?_
    rintro e w7 ⟨v7, rfl, hown7, hb7⟩
    obtain ⟨A7, c7, rfl, _, _⟩ := own_cap hown7
    have s7 := hb7.size
    have x7 := blk_below HX6.out hb7 (by omega)
    have r6 := (r6.below hb7).more s7
    have B7 := B6.trans (hb7.mono (by omega))
    have r7 := Rd.of_own hown7
    have HX7 := Lib.hid x7
    clear hown7 hb7 B6 x7
    go_wp2_with fail
    refine (rHas A7 L.length c7 L x w7 (by omega) w7.heap.size (Nat.le_refl _) r7).mono ?_
    rw [← HFH.out]
    rintro e w8 ⟨rfl, hb8⟩
    have s8 := hb8.size
    have x8 := blk_below HX7.out hb8 (by omega)
    have r6 := (r6.below hb8).more s8
    have B8 := B7.trans (hb8.mono (by omega))
    have d1 : w8.cell? ⟨w.heap.size, 0, none⟩ = some (.int .i64 n) := blk_cell x8 0
    have HX8 := Lib.hid x8
    clear r7 hb8 B7 x8 c1 c2
    cases i0 with
    | false =>
      have hPn := HFN.out rfl
      subst hPn
      go_wp2_with fail
      refine (known _).mono ?_
      rintro e w9 ⟨rfl, hb9⟩
      go_wp2
      go_ret
      exact ⟨rfl, B8.trans (hb9.mono (by omega))⟩
    | true =>
      obtain ⟨p1, p2, p3, p4⟩ := HFO.out rfl
      obtain ⟨_, n1, n2, f1, f2⟩ := HSE.out p4
      have HCK := Lib.hid p2
      have HFF := Lib.hid p3
      have hPl : P.length ≤ 6 := by omega
      have q1 : ((P.length : Int) != n) = false := by simpa using p1
      have q2 : ((P.length : Int) == n) = true := by simpa using p1
      clear p1 p2 p3 HFO HFN
      go_wp2_with fail
      refine (rCheck A6 A P.length c6 ms.length c P ms x w8 (by omega) hl w8.heap.size (Nat.le_refl _) r6 ((hr.below B8).more B8.size)).mono ?_
      rw [HCK.out]
      rintro e w9 ⟨rfl, hb9⟩
      have s9 := hb9.size
      have B9 := Lib.hid (B8.trans (hb9.mono (by omega)))
      have x9 := Lib.hid (blk_below HX8.out hb9 (by omega))
      have r9 := Lib.hid ((r6.below hb9).more s9)
      clear hb9 r6 d1 q1 q2 B8
      go_wp2
      go_loopw [12] (fun i wr => ∃ q : Nat, i = .int .i64 q ∧ q ≤ P.length ∧ Below w9.heap.size w9 wr) (fun i _ => P.length - (intOf i).toNat)
      case atStart => exact ⟨0, rfl, Nat.zero_le _, Below.refl _ _⟩
      case round =>
        obtain ⟨q, rfl, hq, hb⟩ := hrel
        by_cases hlt : q < P.length
        · obtain ⟨b, off, rfl, hbb, h0⟩ := (r9.out.below hb).int hlt
          have hg := HFF.out P[q] (List.getElem_mem hlt)
          have x10 := blk_below x9.out hb (by omega)
          have e1 : wr.cell? ⟨w.heap.size, 1, none⟩ = some (.int .i64 f) := blk_cell x10 1
          obtain ⟨g, hg2⟩ : ∃ g, g = P[q] := ⟨_, rfl⟩
          rw [← hg2] at h0 hg
          have HG := Lib.hid (show (decide (-f ≤ g) && decide (g ≤ f)) = true by simp [hg.1, hg.2])
          clear hg2 x10
          have z0 : (0 : Int) ≤ (q : Int) := by omega
          have z1 : (q : Int) < (P.length : Int) := by omega
          go_wp2
          refine wp_region_qtail 9 (by kernel_rfl) (by kernel_rfl) ?_
          simp only [List.take_succ_cons, List.take_zero, List.drop_succ_cons, List.drop_zero]
          repeat (go_big_quiet_step (fail))
          refine wpQuiet_nil ?_
          go_wp2_with fail
          refine (rwithin g (-f) f _).mono ?_
          rw [HG.out]
          rintro e w10 ⟨rfl, rfl⟩
          go_wp2
          go_roundw
          case rel => exact ⟨q + 1, by go_num, by omega, hb.drew⟩
          case measure => simp [intOf]; omega
        · obtain rfl : q = P.length := by omega
          go_wp2_with fail
          refine (known _).mono ?_
          rintro e w11 ⟨rfl, hb11⟩
          go_wp2
          go_ret
          exact ⟨rfl, (B9.out.trans (hb.mono (by omega))).trans (hb11.mono (by have := hb.size; omega))⟩
end Go.Proofs.Ytnoocdannfeidaa
