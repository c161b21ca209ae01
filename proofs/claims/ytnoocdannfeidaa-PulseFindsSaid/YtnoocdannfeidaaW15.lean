/-
  WALK: what each law asks of the program (known), and which lists are long.
-/
import Derived.Test.YtnoocdannfeidaaW14
namespace Go.Proofs.Ytnoocdannfeidaa
open Go.RowKit Pulse

theorem kn1 : areaN [1, 1, 1, 1] 1 = 2 := by decide +kernel
theorem kn2 : moded [1, 1, 1, 1] 1 = 0 := by decide +kernel
theorem kn3 : sumV [1, 1, 1, 1] 1 = ⟨2, 2⟩ := by decide +kernel
theorem kn4 : shortN [1] 1 = 3 := by decide +kernel
theorem kn5 : shortIs [1] 1 = true := by decide +kernel
theorem kn6 : srchE [1] 0 1 = 0 := by decide +kernel

set_option maxHeartbeats 1000000 in
theorem known (w : World) : Calls Try.prog 18 #[] w fun e w' => e = .returned (.bool true) ∧ Below w.heap.size w w' := by
  have H1 := Lib.hid (pAreaF (some ⟨w.heap.size, 0, none⟩) 4 4 [1, 1, 1, 1] 1 (w.alloc (.cells #[.int .i64 1, .int .i64 1, .int .i64 1, .int .i64 1] 3)) (by decide) (w.heap.size + 1) (by simp) (rd_lit (blk_new w 3 #[.int .i64 1, .int .i64 1, .int .i64 1, .int .i64 1]) rfl))
  have HB := Lib.hid ((Below.refl w.heap.size w).alloc (Nat.le_refl _) (.cells #[.int .i64 1, .int .i64 1, .int .i64 1, .int .i64 1] 3))
  go_enter Try.func18, Try.ntmps18
  go_wp2_with fail
  refine H1.out.mono ?_
  rw [kn1, kn2]
  rintro e w1 ⟨rfl, hb1⟩
  have B1 := HB.out.trans (hb1.mono (by simp))
  have s1 := B1.size
  clear hb1
  go_wp2_with fail
  refine (pSumF (some ⟨w1.heap.size, 0, none⟩) 4 4 [1, 1, 1, 1] 1 (w1.alloc (.cells #[.int .i64 1, .int .i64 1, .int .i64 1, .int .i64 1] 3)) (by decide) (w1.heap.size + 1) (by simp) (rd_lit (blk_new w1 3 #[.int .i64 1, .int .i64 1, .int .i64 1, .int .i64 1]) rfl)).mono ?_
  rw [kn2, kn3]
  rintro e w2 ⟨rfl, hb2⟩
  have B2 := (B1.alloc s1 _).trans (hb2.mono (by simp; omega))
  have s2 := B2.size
  clear hb2
  go_wp2_with fail
  have hx := blk_new w2 29 #[.int .i64 2, .int .i64 2]
  have hx1 := blk_alloc hx (.cells #[.int .i64 1] 3)
  have hy := blk_new (w2.alloc (.cells #[.int .i64 2, .int .i64 2] 29)) 3 #[.int .i64 1]
  rw [World.size_alloc] at hy
  have HX := Lib.hid hx1
  have B3 := (B2.alloc s2 (.cells #[.int .i64 2, .int .i64 2] 29)).alloc (by simp; omega) (.cells #[.int .i64 1] 3)
  refine (pShortest (some ⟨w2.heap.size + 1, 0, none⟩) 1 1 [1] 1 ((w2.alloc (.cells #[.int .i64 2, .int .i64 2] 29)).alloc (.cells #[.int .i64 1] 3)) (by decide) (w2.heap.size + 1 + 1) (by simp) (rd_lit hy rfl)).mono ?_
  rw [kn4, kn5, kn6]
  rintro e w3 ⟨rfl, hb3⟩
  have z3 := blk_below HX.out hb3 (by simp; omega)
  have B4 := B3.trans (hb3.mono (by simp; omega))
  have c1 : w3.cell? ⟨w2.heap.size, 0, none⟩ = some (.int .i64 2) := blk_cell z3 0
  have c2 : w3.cell? ⟨w2.heap.size, 1, none⟩ = some (.int .i64 2) := blk_cell z3 1
  clear hx hx1 hy z3 hb3 B3 B2 B1
  go_wp2
  go_ret
  exact ⟨rfl, B4⟩
theorem long (A : Option Addr) (k c : Nat) (w : World) (hk : k ≤ maxLen) : Calls Try.prog 17 #[.slice A k c] w fun e w' => e = .returned (.bool (decide (100 < k))) ∧ w = w' := by
  by_cases h : 100 < k
  · have hd : decide (100 < k) = true := by simpa using h
    go_enter Try.func17, Try.ntmps17
    go_wp2
    go_ret
    exact ⟨ret_bool (by simp; omega), rfl⟩
  · have hd : decide (100 < k) = false := by simpa using h
    go_enter Try.func17, Try.ntmps17
    go_wp2
    go_ret
    exact ⟨ret_bool (by simp; omega), rfl⟩
end Go.Proofs.Ytnoocdannfeidaa
