/-
  THE WALK of the law PulsePaths.
-/
import Derived.Test.YtnoocdannfeidaaOpen
import Derived.Test.YtnoocdannfeidaaW38
namespace Go.Proofs.Ytnoocdannfeidaa
open Go.RowKit Pulse

theorem pathN_len (p : List Int) (m : Int) : (pathN p m).length ≤ p.length + 1 := by
  unfold pathN
  split
  · rw [ptsTo_len]; exact Nat.le_refl _
  · simp

set_option maxRecDepth 100000 in
set_option maxHeartbeats 4000000 in
theorem lawPaths (A : Option Addr) (k c : Nat) (p : List Int) (m : Int) (w : World) (hk : k ≤ c) (hc : c ≤ maxLen) (hr : Rd w w.heap.size 1 A k (ints p)) (_ : Big p) (_ : I64 m) :
    Calls Try.prog 7 #[.slice A k c, .int .i64 m] w fun e w' => e = .returned (.bool true) ∧ Below w.heap.size w w' := by
  have hkm : k ≤ maxLen := Nat.le_trans hk hc
  obtain rfl := hr.int_len
  by_cases hL : 100 < p.length
  · have hd : decide (100 < p.length) = true := by simpa using hL
    go_enter Try.func7, Try.ntmps7
    go_wp2_with fail
    refine (long _ _ _ _ hkm).mono ?_
    rw [hd]
    rintro e w1 ⟨rfl, rfl⟩
    go_wp2_with fail
    refine (known _).mono ?_
    rintro e w2 ⟨rfl, hb2⟩
    go_wp2
    go_ret
    exact ⟨rfl, hb2⟩
  · have hd : decide (100 < p.length) = false := by simpa using hL
    have hl : p.length ≤ 1000 := by omega
    have hpl : (pathN p m).length ≤ 1000 := by have := pathN_len p m; omega
    have H1 := Lib.hid (pPath A p.length c p m w hl w.heap.size (Nat.le_refl _) hr)
    have H2 := Lib.hid (fun w1 B hB h => rPath A p.length c p m w1 hl hk hc B hB h)
    obtain ⟨S, hS⟩ : ∃ S, S = pathN p m := ⟨_, rfl⟩
    rw [← hS] at hpl H1 H2
    clear hS
    go_enter Try.func7, Try.ntmps7
    go_wp2_with fail
    refine (long _ _ _ _ hkm).mono ?_
    rw [hd]
    rintro e w1 ⟨rfl, rfl⟩
    clear hL
    go_wp2_with fail
    refine H1.out.mono ?_
    rintro e w6 ⟨v6, rfl, hown6, hb6⟩
    obtain ⟨A6, c6, rfl, _, _⟩ := own_cap hown6
    have s6 := hb6.size
    have r6 := Rd.of_own hown6
    clear hown6
    go_wp2_with fail
    refine (H2.out w6 w.heap.size s6 (hr.below hb6)).mono ?_
    rintro e w7 ⟨v7, rfl, hown7, hb7⟩
    obtain ⟨A7, c7, rfl, _, _⟩ := own_cap hown7
    have s7 := hb7.size
    have r6 := (r6.below hb7).more s7
    have B7 := hb6.trans (hb7.mono (by omega))
    have r7 := Rd.of_own hown7
    clear hown7 hb6 hb7
    obtain ⟨x, hx⟩ : ∃ x, x = endV p m := ⟨_, rfl⟩
    have HX := Lib.hid hx
    clear hx
    go_wp2_with fail
    refine (pEndF A p.length c p m w7 hl w.heap.size (by omega) (hr.below B7)).mono ?_
    rw [← HX.out]
    rintro e w8 ⟨rfl, hb8⟩
    have s8 := hb8.size
    have B8 := B7.trans (hb8.mono (by omega))
    have B8' := B8.alloc B8.size (.cells #[.int .i64 x.x, .int .i64 x.y] 29)
    have r6 := (((r6.below hb8).more s8).alloc (Nat.le_refl _) (.cells #[.int .i64 x.x, .int .i64 x.y] 29))
    have r7 := (((r7.below hb8).more s8).alloc (Nat.le_refl _) (.cells #[.int .i64 x.x, .int .i64 x.y] 29))
    have HNX := Lib.hid (blk_new w8 29 #[.int .i64 x.x, .int .i64 x.y])
    clear hb8 B7 B8
    go_wp2_with fail
    refine (rEndF A p.length c p m (w8.alloc (.cells #[.int .i64 x.x, .int .i64 x.y] 29)) hl w.heap.size (by simp; omega) (hr.below B8')).mono ?_
    rw [← HX.out]
    rintro e w9 ⟨rfl, hb9⟩
    have s9 := hb9.size
    rw [World.size_alloc] at s9 hb9
    have B9 := B8'.trans (hb9.mono (by omega))
    have B9' := B9.alloc B9.size (.cells #[.int .i64 x.x, .int .i64 x.y] 29)
    have n9 := blk_alloc (blk_below HNX.out hb9 (by omega)) (.cells #[.int .i64 x.x, .int .i64 x.y] 29)
    have HNY := Lib.hid (And.intro n9 (blk_new w9 29 #[.int .i64 x.x, .int .i64 x.y]))
    have r6 := ((r6.below' hb9 (by omega)).more (B' := w9.heap.size) (by omega)).alloc (Nat.le_refl _) (.cells #[.int .i64 x.x, .int .i64 x.y] 29)
    have r7 := ((r7.below' hb9 (by omega)).more (B' := w9.heap.size) (by omega)).alloc (Nat.le_refl _) (.cells #[.int .i64 x.x, .int .i64 x.y] 29)
    clear hb9 B8' B9 n9
    have HB9 := Lib.hid B9'
    have t9 : (w9.alloc (.cells #[.int .i64 x.x, .int .i64 x.y] 29)).heap.size = w9.heap.size + 1 := by simp
    clear B9'
    go_wp2_with fail
    refine (pValidate A p.length c p (w9.alloc (.cells #[.int .i64 x.x, .int .i64 x.y] 29)) hl w.heap.size (by omega) (hr.below HB9.out)).mono ?_
    rintro e w10 ⟨rfl, hb10⟩
    have s10 := hb10.size
    have n1 := blk_below HNY.out.1 hb10 (by omega)
    have n2 := blk_below HNY.out.2 hb10 (by omega)
    have HB10 := Lib.hid (HB9.out.trans (hb10.mono (by omega)))
    have r6 := r6.below' hb10 (by omega)
    have r7 := r7.below' hb10 (by omega)
    have HN10 := Lib.hid (And.intro n1 n2)
    clear hb10 n1 n2
    go_wp2_with fail
    refine (rValidate A p.length c p w10 hl w.heap.size (by omega) (hr.below HB10.out)).mono ?_
    rintro e w11 ⟨rfl, hb11⟩
    have s11 := hb11.size
    have n1 := blk_below HN10.out.1 hb11 (by omega)
    have n2 := blk_below HN10.out.2 hb11 (by omega)
    have HB11 := Lib.hid (HB10.out.trans (hb11.mono (by omega)))
    have r6 := r6.below' hb11 (by omega)
    have r7 := r7.below' hb11 (by omega)
    have HN11 := Lib.hid (And.intro n1 n2)
    clear hb11 n1 n2
    generalize vald p = vp at *
    generalize moded p m = e at *
    go_wp2_with fail
    refine (rSamePoints A6 A7 S.length c6 c7 S w11 hpl w9.heap.size (by omega) r6 r7).mono ?_
    rintro e w12 ⟨rfl, hb12⟩
    have s12 := hb12.size
    have n1 := blk_below HN11.out.1 hb12 (by omega)
    have n2 := blk_below HN11.out.2 hb12 (by omega)
    have HB12 := Lib.hid (HB11.out.trans (hb12.mono (by omega)))
    have c1 : w12.cell? ⟨w8.heap.size, 0, none⟩ = some (.int .i64 x.x) := blk_cell n1 0
    have c2 : w12.cell? ⟨w8.heap.size, 1, none⟩ = some (.int .i64 x.y) := blk_cell n1 1
    have c3 : w12.cell? ⟨w9.heap.size, 0, none⟩ = some (.int .i64 x.x) := blk_cell n2 0
    have c4 : w12.cell? ⟨w9.heap.size, 1, none⟩ = some (.int .i64 x.y) := blk_cell n2 1
    clear hb12 n1 n2 r6 r7
    go_wp2_with fail
    refine (known _).mono ?_
    rintro e w13 ⟨rfl, hb13⟩
    go_wp2
    go_ret
    exact ⟨rfl, HB12.out.trans (hb13.mono (by omega))⟩
end Go.Proofs.Ytnoocdannfeidaa
