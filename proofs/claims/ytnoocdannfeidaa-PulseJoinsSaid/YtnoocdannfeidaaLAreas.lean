/-
  THE WALK of the law PulseAreas.
-/
import Derived.Test.YtnoocdannfeidaaOpen
import Derived.Test.YtnoocdannfeidaaW20
namespace Go.Proofs.Ytnoocdannfeidaa
open Go.RowKit Pulse

theorem areaN_opp {p : List Int} {m : Int} (h : moded p m = 0) : moded p (-m % 4) = 0 ∧ areaN p (-m % 4) = - areaN p m := by
  obtain ⟨h1, h2, h3⟩ := moded_ok h
  have hm : moded p (-m % 4) = 0 := by
    rw [moded, if_pos h1, if_pos]
    rw [isMode, Bool.and_eq_true, decide_eq_true_eq, decide_eq_true_eq]
    omega
  refine ⟨hm, ?_⟩
  rw [areaN, if_pos hm, areaN, if_pos h]
  exact areaL_conj m.toNat _ (by omega) p
theorem areaN_bd {p : List Int} {m : Int} : -200000000 ≤ areaN p m ∧ areaN p m ≤ 200000000 := by
  unfold areaN
  split
  · rename_i h
    obtain ⟨h1, h2, h3⟩ := moded_ok h
    obtain ⟨h4, h5⟩ := vald_ok h1
    have := area_bd h4 h5 p.length (Nat.le_refl _) (m := m)
    rwa [List.take_length] at this
  · omega

set_option maxHeartbeats 2000000 in
theorem lawAreas (A : Option Addr) (k c : Nat) (p : List Int) (m : Int) (w : World) (hk : k ≤ c) (hc : c ≤ maxLen) (hr : Rd w w.heap.size 1 A k (ints p)) (_ : Big p) (hm : I64 m) :
    Calls Try.prog 3 #[.slice A k c, .int .i64 m] w fun e w' => e = .returned (.bool true) ∧ Below w.heap.size w w' := by
  have hkm : k ≤ maxLen := Nat.le_trans hk hc
  obtain rfl := hr.int_len
  obtain ⟨hm1, hm2⟩ := hm
  by_cases hL : 100 < p.length
  · have hd : decide (100 < p.length) = true := by simpa using hL
    go_enter Try.func3, Try.ntmps3
    go_wp2_with fail
    refine (long _ _ _ _ hkm).mono ?_
    rw [hd]
    rintro e w1 ⟨rfl, rfl⟩
    go_wp2_with fail
    refine (known _).mono ?_
    rintro e w2 ⟨rfl, hb2⟩
    go_wp2
    go_ret
    exact ⟨rfl, hb2⟩
  · have hd : decide (100 < p.length) = false := by simpa using hL
    have hl : p.length ≤ 1000 := by omega
    have HO := Lib.hid (fun h => areaN_opp (p := p) (m := m) h)
    have hbd := areaN_bd (p := p) (m := m)
    go_enter Try.func3, Try.ntmps3
    go_wp2_with fail
    refine (long _ _ _ _ hkm).mono ?_
    rw [hd]
    rintro e w1 ⟨rfl, rfl⟩
    go_wp2_with fail
    refine (pAreaF A p.length c p m w hl w.heap.size (Nat.le_refl _) hr).mono ?_
    rintro e w1 ⟨rfl, hb1⟩
    have s1 := hb1.size
    go_wp2_with fail
    refine (rAreaF A p.length c p m w1 hl w.heap.size s1 (hr.below hb1)).mono ?_
    rintro e w2 ⟨rfl, hb2⟩
    have B2 := hb1.trans (hb2.mono s1)
    have s2 := B2.size
    clear hb1 hb2
    go_wp2_with fail
    refine (pSumF A p.length c p m w2 hl w.heap.size s2 (hr.below B2)).mono ?_
    rintro e w3 ⟨rfl, hb3⟩
    have B3 := B2.trans (hb3.mono s2)
    have s3 := B3.size
    clear hb3
    obtain ⟨u, hu⟩ : ∃ u, u = sumV p m := ⟨_, rfl⟩
    rw [← hu]
    have HU := Lib.hid hu
    clear hu
    have B3' := B3.alloc s3 (.cells #[.int .i64 u.x, .int .i64 u.y] 29)
    have HN := Lib.hid (blk_new w3 29 #[.int .i64 u.x, .int .i64 u.y])
    go_wp2_with fail
    refine (rSumF A p.length c p m (w3.alloc (.cells #[.int .i64 u.x, .int .i64 u.y] 29)) hl w.heap.size (by simp; omega) (hr.below B3')).mono ?_
    rw [← HU.out]
    rintro e w4 ⟨rfl, hb4⟩
    have s4 := hb4.size
    rw [World.size_alloc] at s4
    have B4 := B3'.trans (hb4.mono (by simp; omega))
    have n4 := blk_below HN.out hb4 (by simp)
    have z1 := blk_alloc n4 (.cells #[.int .i64 u.x, .int .i64 u.y] 29)
    have z2 := blk_new w4 29 #[.int .i64 u.x, .int .i64 u.y]
    have B5 := B4.alloc B4.size (.cells #[.int .i64 u.x, .int .i64 u.y] 29)
    have c1 : (w4.alloc (.cells #[.int .i64 u.x, .int .i64 u.y] 29)).cell? ⟨w3.heap.size, 0, none⟩ = some (.int .i64 u.x) := blk_cell z1 0
    have c2 : (w4.alloc (.cells #[.int .i64 u.x, .int .i64 u.y] 29)).cell? ⟨w3.heap.size, 1, none⟩ = some (.int .i64 u.y) := blk_cell z1 1
    have e1 : w4.cell? ⟨w3.heap.size, 0, none⟩ = some (.int .i64 u.x) := blk_cell n4 0
    have e2 : w4.cell? ⟨w3.heap.size, 1, none⟩ = some (.int .i64 u.y) := blk_cell n4 1
    have L3 : w3.heap.size < w4.heap.size := by omega
    have HB5 := Lib.hid B5
    have sz5 := B5.size
    clear hb4 n4 z1 z2 B5 B4 B3' B3 B2
    by_cases h0 : moded p m = 0
    · obtain ⟨o1, o2⟩ := HO.out h0
      obtain ⟨_, g1, g2⟩ := moded_ok h0
      have HM := Lib.hid h0
      rw [h0]
      clear h0
      have HA := Lib.hid (pAreaF A p.length c p (-m % 4) (w4.alloc (.cells #[.int .i64 u.x, .int .i64 u.y] 29)) hl w.heap.size sz5 (hr.below HB5.out))
      rw [o1, o2] at HA
      clear o1 o2
      generalize areaN p m = a at *
      go_wp2_with fail
      refine HA.out.mono ?_
      rintro e w5 ⟨rfl, hb5⟩
      go_wp2_with fail
      refine (known _).mono ?_
      rintro e w6 ⟨rfl, hb6⟩
      go_wp2
      go_ret
      exact ⟨rfl, HB5.out.trans ((hb5.mono sz5).trans (hb6.mono (by have := hb5.size; omega)))⟩
    · have hd0 : (moded p m != 0) = true := by simpa using h0
      have hd1 : (moded p m == 0) = false := by simpa using h0
      clear h0 HO
      go_wp2_with fail
      refine (known _).mono ?_
      rintro e w6 ⟨rfl, hb6⟩
      go_wp2
      go_ret
      exact ⟨rfl, HB5.out.trans (hb6.mono sz5)⟩
end Go.Proofs.Ytnoocdannfeidaa
