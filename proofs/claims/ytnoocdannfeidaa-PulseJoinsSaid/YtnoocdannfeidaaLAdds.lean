/-
  THE WALK of the law PulseAdds.
-/
import Derived.Test.YtnoocdannfeidaaOpen
import Derived.Test.YtnoocdannfeidaaW33
import Derived.Test.YtnoocdannfeidaaLBacks
namespace Go.Proofs.Ytnoocdannfeidaa
open Go.RowKit Pulse

theorem addE_ok {p r : List Int} (h : addE p r = 0) : vald p = 0 ∧ vald r = 0 ∧ p.length = r.length ∧ vald (addS p r) = 0 ∧ addL p r = addS p r := by
  unfold addE at h
  split at h
  · rename_i h0
    split at h
    · rename_i h1
      split at h
      · rename_i h2
        exact ⟨(bothE_ok h0).1, (bothE_ok h0).2, h1, h2, by rw [addL, if_pos ⟨h0, h1, h2⟩]⟩
      · omega
    · omega
  · exact absurd h (by assumption)
theorem addS_comm (p r : List Int) : addS r p = addS p r := by
  unfold addS
  rw [List.zipWith_comm]
  congr 1
  funext a b
  omega
theorem addE_comm {p r : List Int} (h : addE p r = 0) : addE r p = 0 ∧ addL r p = addS p r := by
  obtain ⟨h1, h2, h3, h4, _⟩ := addE_ok h
  have hb : bothE r p = 0 := by rw [bothE, if_pos h2]; exact h1
  have hs : vald (addS r p) = 0 := by rw [addS_comm]; exact h4
  exact ⟨by rw [addE, if_pos hb, if_pos h3.symm, if_pos hs], by rw [addL, if_pos ⟨hb, h3.symm, hs⟩, addS_comm]⟩
theorem moded_same {p r : List Int} (h : vald p = 0) (h' : vald r = 0) (m : Int) : moded r m = moded p m := by rw [moded, if_pos h', moded, if_pos h]
theorem endV_add {p r : List Int} {m : Int} (hp : moded p m = 0) (h1 : vald r = 0) (h2 : p.length = r.length) (h3 : vald (addS p r) = 0) : endV (addS p r) m = (endV p m).add (endV r m) := by
  have h0 := (moded_ok hp).1
  rw [endV, if_pos (by rw [moded_same h0 h3]; exact hp), endV, if_pos hp, endV, if_pos (by rw [moded_same h0 h1]; exact hp)]
  exact endL_add m.toNat p r h2
theorem endV_wi (p : List Int) (m : Int) : Wi 2000 (endV p m) := by
  unfold endV
  split
  · rename_i h
    obtain ⟨h1, _, _⟩ := moded_ok h
    obtain ⟨h4, h5⟩ := vald_ok h1
    exact (endL_wi (F := 99) (by decide) m.toNat p h5).mono (by omega)
  · unfold Wi V.zero; decide

set_option maxRecDepth 100000 in
set_option maxHeartbeats 4000000 in
theorem lawAdds (A : Option Addr) (k c : Nat) (p : List Int) (A' : Option Addr) (k' c' : Nat) (r : List Int) (m : Int) (w : World) (hk : k ≤ c) (hc : c ≤ maxLen) (hr : Rd w w.heap.size 1 A k (ints p)) (_ : Big p)
    (hk' : k' ≤ c') (hc' : c' ≤ maxLen) (hr' : Rd w w.heap.size 1 A' k' (ints r)) (_ : Big r) (_ : I64 m) :
    Calls Try.prog 12 #[.slice A k c, .slice A' k' c', .int .i64 m] w fun e w' => e = .returned (.bool true) ∧ Below w.heap.size w w' := by
  have hkm : k ≤ maxLen := Nat.le_trans hk hc
  have hkm' : k' ≤ maxLen := Nat.le_trans hk' hc'
  obtain rfl := hr.int_len
  obtain rfl := hr'.int_len
  by_cases hL : 100 < p.length
  · have HD := Lib.hid (show decide (100 < p.length) = true by simpa using hL)
    clear hL
    go_enter Try.func12, Try.ntmps12
    go_wp2_with fail
    refine (long _ _ _ _ hkm).mono ?_
    rw [HD.out]
    rintro e w1 ⟨rfl, rfl⟩
    go_wp2_with fail
    refine (known _).mono ?_
    rintro e w2 ⟨rfl, hb2⟩
    go_wp2
    go_ret
    exact ⟨rfl, hb2⟩
  · have HD := Lib.hid (show decide (100 < p.length) = false by simpa using hL)
    by_cases hL' : 100 < r.length
    · have HD' := Lib.hid (show decide (100 < r.length) = true by simpa using hL')
      go_enter Try.func12, Try.ntmps12
      go_wp2_with fail
      refine (long _ _ _ _ hkm).mono ?_
      rw [HD.out]
      rintro e w1 ⟨rfl, rfl⟩
      go_wp2_with fail
      refine (long _ _ _ _ hkm').mono ?_
      rw [HD'.out]
      rintro e w1 ⟨rfl, rfl⟩
      go_wp2_with fail
      refine (known _).mono ?_
      rintro e w2 ⟨rfl, hb2⟩
      go_wp2
      go_ret
      exact ⟨rfl, hb2⟩
    · have HD' := Lib.hid (show decide (100 < r.length) = false by simpa using hL')
      have hl : p.length ≤ 1000 := by omega
      have hl' : r.length ≤ 1000 := by omega
      have hsl : (addL p r).length ≤ 1000 := by unfold addL; split <;> simp [addS]; omega
      have HOK := Lib.hid (fun h => addE_ok (p := p) (r := r) h)
      have HCM := Lib.hid (fun h => addE_comm (p := p) (r := r) h)
      go_enter Try.func12, Try.ntmps12
      go_wp2_with fail
      refine (long _ _ _ _ hkm).mono ?_
      rw [HD.out]
      rintro e w1 ⟨rfl, rfl⟩
      go_wp2_with fail
      refine (long _ _ _ _ hkm').mono ?_
      rw [HD'.out]
      rintro e w1 ⟨rfl, rfl⟩
      clear hL hL'
      go_wp2_with fail
      refine (pAdd A A' p.length c r.length c' p r w hl hl' w.heap.size (Nat.le_refl _) hr hr').mono ?_
      rintro e w1 ⟨v1, rfl, hown1, B1⟩
      obtain ⟨A1, c1, rfl, _, _⟩ := own_cap hown1
      have s1 := B1.size
      have r1 := Rd.of_own hown1
      clear hown1
      go_wp2_with fail
      refine (rAdd A A' p.length c r.length c' p r w1 hl hl' w.heap.size s1 (hr.below B1) (hr'.below B1)).mono ?_
      rintro e w2 ⟨v2, rfl, hown2, hb2⟩
      obtain ⟨A2, c2, rfl, _, _⟩ := own_cap hown2
      have B2 := B1.trans (hb2.mono s1)
      have s2 := hb2.size
      have r1 := (r1.below hb2).more s2
      have r2 := Rd.of_own hown2
      clear hown2 hb2 B1
      go_wp2_with fail
      refine (rSameInts A1 A2 (addL p r).length (addL p r).length c1 c2 (addL p r) (addL p r) w2 hsl hsl w2.heap.size (Nat.le_refl _) r1 r2).mono ?_
      rw [decide_eq_true rfl]
      rintro e w3 ⟨rfl, hb3⟩
      have B3 := B2.trans (hb3.mono (by omega))
      have s3 := hb3.size
      have r1 := (r1.below hb3).more s3
      clear hb3 B2 r2
      by_cases h0 : addE p r = 0
      · obtain ⟨g1, g2, g3, g4, g5⟩ := HOK.out h0
        obtain ⟨g6, g7⟩ := HCM.out h0
        have HX := Lib.hid (And.intro g6 g7)
        have HMA := Lib.hid (moded_same g1 g4 m)
        have HMR := Lib.hid (moded_same g1 g2 m)
        have HEN := Lib.hid (fun hp => endV_add (m := m) (r := r) hp g2 g3 g4)
        rw [h0, g5]
        rw [g5] at r1 hsl
        clear h0 g1 g2 g3 g4 g5 g6 g7 HOK HCM
        go_wp2_with fail
        refine (pAdd A' A r.length c' p.length c r p w3 hl' hl w.heap.size (by omega) (hr'.below B3) (hr.below B3)).mono ?_
        rw [HX.out.1, HX.out.2]
        rintro e w4 ⟨v4, rfl, hown4, hb4⟩
        obtain ⟨A4, c4, rfl, _, _⟩ := own_cap hown4
        have B4 := B3.trans (hb4.mono (by omega))
        have s4 := hb4.size
        have r1 := (r1.below hb4).more s4
        have r4 := Rd.of_own hown4
        clear hown4 hb4 B3
        have hwx := endV_wi p m
        have hwy := endV_wi r m
        have HZ := Lib.hid (fun W B hB h => pEndF A1 (addS p r).length c1 (addS p r) m W hsl B hB h)
        obtain ⟨x, hx⟩ : ∃ x, x = endV p m := ⟨_, rfl⟩
        obtain ⟨y, hy⟩ : ∃ y, y = endV r m := ⟨_, rfl⟩
        obtain ⟨z, hz⟩ : ∃ z, z = endV (addS p r) m := ⟨_, rfl⟩
        rw [← hx] at hwx
        rw [← hy] at hwy
        rw [← hx, ← hy, ← hz] at HEN
        rw [← hz, HMA.out] at HZ
        have HX1 := Lib.hid hx
        have HY1 := Lib.hid hy
        clear hx hy hz
        go_wp2_with fail
        refine (pEndF A p.length c p m w4 hl w.heap.size (by omega) (hr.below B4)).mono ?_
        rw [← HX1.out]
        rintro e w5 ⟨rfl, hb5⟩
        have s5 := hb5.size
        have B5 := B4.trans (hb5.mono (by omega))
        have B5' := B5.alloc B5.size (.cells #[.int .i64 x.x, .int .i64 x.y] 29)
        have r1 := (((r1.below hb5).more s5).alloc (Nat.le_refl _) (.cells #[.int .i64 x.x, .int .i64 x.y] 29))
        have r4 := (((r4.below hb5).more s5).alloc (Nat.le_refl _) (.cells #[.int .i64 x.x, .int .i64 x.y] 29))
        have HNX := Lib.hid (blk_new w5 29 #[.int .i64 x.x, .int .i64 x.y])
        clear hb5 B4 B5
        go_wp2_with fail
        refine (pEndF A' r.length c' r m (w5.alloc (.cells #[.int .i64 x.x, .int .i64 x.y] 29)) hl' w.heap.size (by simp; omega) (hr'.below B5')).mono ?_
        rw [← HY1.out, HMR.out]
        rintro e w6 ⟨rfl, hb6⟩
        have s6 := hb6.size
        rw [World.size_alloc] at s6 hb6
        have B6 := B5'.trans (hb6.mono (by omega))
        have B6' := B6.alloc B6.size (.cells #[.int .i64 y.x, .int .i64 y.y] 29)
        have n6 := blk_alloc (blk_below HNX.out hb6 (by omega)) (.cells #[.int .i64 y.x, .int .i64 y.y] 29)
        have r1 := (((r1.below' hb6 (by omega)).more (B' := w6.heap.size) (by omega)).alloc (Nat.le_refl _) (.cells #[.int .i64 y.x, .int .i64 y.y] 29))
        have r4 := (((r4.below' hb6 (by omega)).more (B' := w6.heap.size) (by omega)).alloc (Nat.le_refl _) (.cells #[.int .i64 y.x, .int .i64 y.y] 29))
        have HNY := Lib.hid (And.intro n6 (blk_new w6 29 #[.int .i64 y.x, .int .i64 y.y]))
        clear hb6 B5' B6 n6
        go_wp2_with fail
        refine (HZ.out (w6.alloc (.cells #[.int .i64 y.x, .int .i64 y.y] 29)) w6.heap.size (by simp) r1).mono ?_
        rintro e w7 ⟨rfl, hb7⟩
        have s7 := hb7.size
        rw [World.size_alloc] at s7 hb7
        have B7 := B6'.trans (hb7.mono (by omega))
        have B7' := B7.alloc B7.size (.cells #[.int .i64 z.x, .int .i64 z.y] 29)
        have n1 := blk_alloc (blk_below HNY.out.1 hb7 (by omega)) (.cells #[.int .i64 z.x, .int .i64 z.y] 29)
        have n2 := blk_alloc (blk_below HNY.out.2 hb7 (by omega)) (.cells #[.int .i64 z.x, .int .i64 z.y] 29)
        have r1 := (((r1.below' hb7 (by omega)).more (B' := w7.heap.size) (by omega)).alloc (Nat.le_refl _) (.cells #[.int .i64 z.x, .int .i64 z.y] 29))
        have r4 := (((r4.below' hb7 (by omega)).more (B' := w7.heap.size) (by omega)).alloc (Nat.le_refl _) (.cells #[.int .i64 z.x, .int .i64 z.y] 29))
        have HN7 := Lib.hid (And.intro n1 (And.intro n2 (blk_new w7 29 #[.int .i64 z.x, .int .i64 z.y])))
        have HB7 := Lib.hid B7'
        have s8 : (w7.alloc (.cells #[.int .i64 z.x, .int .i64 z.y] 29)).heap.size = w7.heap.size + 1 := by simp
        clear hb7 B6' B7 B7' n1 n2
        go_wp2_with fail
        refine (rSameInts A1 A4 (addS p r).length (addS p r).length c1 c4 (addS p r) (addS p r) (w7.alloc (.cells #[.int .i64 z.x, .int .i64 z.y] 29)) hsl hsl w7.heap.size (by omega) r1 r4).mono ?_
        rw [decide_eq_true rfl]
        rintro e w8 ⟨rfl, hb8⟩
        have t8 := hb8.size
        have n1 := blk_below HN7.out.1 hb8 (by omega)
        have n2 := blk_below HN7.out.2.1 hb8 (by omega)
        have n3 := blk_below HN7.out.2.2 hb8 (by omega)
        have HB8 := Lib.hid (HB7.out.trans (hb8.mono (by omega)))
        have c5 : w8.cell? ⟨w5.heap.size, 0, none⟩ = some (.int .i64 x.x) := blk_cell n1 0
        have c6 : w8.cell? ⟨w5.heap.size, 1, none⟩ = some (.int .i64 x.y) := blk_cell n1 1
        have c7 : w8.cell? ⟨w6.heap.size, 0, none⟩ = some (.int .i64 y.x) := blk_cell n2 0
        have c8 : w8.cell? ⟨w6.heap.size, 1, none⟩ = some (.int .i64 y.y) := blk_cell n2 1
        have c9 : w8.cell? ⟨w7.heap.size, 0, none⟩ = some (.int .i64 z.x) := blk_cell n3 0
        have c10 : w8.cell? ⟨w7.heap.size, 1, none⟩ = some (.int .i64 z.y) := blk_cell n3 1
        clear n1 n2 n3 hb8 r1 r4
        by_cases hm0 : moded p m = 0
        · have hz := HEN.out hm0
          rw [hm0]
          clear hm0
          subst hz
          dsimp only [V.add] at c9 c10
          obtain ⟨hw1, hw2, hw3, hw4⟩ := hwx
          obtain ⟨hw5, hw6, hw7, hw8⟩ := hwy
          go_wp2_with fail
          refine (known _).mono ?_
          rintro e w9 ⟨rfl, hb9⟩
          go_wp2
          go_ret
          exact ⟨rfl, HB8.out.trans (hb9.mono (by omega))⟩
        · have d1 : (moded p m != 0) = true := by simpa using hm0
          have d2 : (moded p m == 0) = false := by simpa using hm0
          clear hm0 HEN
          go_wp2_with fail
          refine (known _).mono ?_
          rintro e w9 ⟨rfl, hb9⟩
          go_wp2
          go_ret
          exact ⟨rfl, HB8.out.trans (hb9.mono (by omega))⟩
      · have hd0 : (addE p r != 0) = true := by simpa using h0
        clear h0
        go_wp2_with fail
        refine (known _).mono ?_
        rintro e w9 ⟨rfl, hb9⟩
        go_wp2
        go_ret
        exact ⟨rfl, B3.trans (hb9.mono (by omega))⟩
end Go.Proofs.Ytnoocdannfeidaa
