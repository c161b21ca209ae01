/-
  WALK: Area, Sum, End of the reference. (Printed by gensum.py.)
-/
import Derived.Test.YtnoocdannfeidaaW19
namespace Go.Proofs.Ytnoocdannfeidaa
open Go.RowKit Pulse

theorem rAreaF (A : Option Addr) (k c : Nat) (p : List Int) (m : Int) (w : World) (hl : p.length ≤ 1000) (B : Nat) (hB : B ≤ w.heap.size) (hr : Rd w B 1 A k (ints p)) :
    Calls Try.prog 20 #[.slice A k c, .int .i64 m] w fun e w' => e = .returned (.tuple #[.int .i64 (areaN p m), .int .i64 (moded p m)]) ∧ Below w.heap.size w w' := by
  obtain rfl := hr.int_len
  have H := Lib.hid (rmoded A p.length c p m w hl B hB hr)
  by_cases h : moded p m = 0
  · obtain ⟨h1, h2, h3⟩ := moded_ok h
    obtain ⟨h4, h5⟩ := vald_ok h1
    have HA := Lib.hid (show areaN p m = areaL m.toNat p by rw [areaN, if_pos h])
    have HM := Lib.hid h
    clear h
    go_enter Try.func20, Try.ntmps20
    go_wp2_with fail
    refine H.out.mono ?_
    rw [HM.out]
    rintro e w1 ⟨rfl, hb1⟩
    go_wp2_with fail
    refine (rarea p m h4 h5 h2 h3 A c w1 B (by have := hb1.size; omega) (hr.below' hb1 hB)).mono ?_
    rintro e w2 ⟨rfl, hb2⟩
    go_wp2
    go_ret2
    exact ⟨ret_two (by rw [HA.out]; rfl) (by rw [HM.out]; rfl), hb1.trans (hb2.mono hb1.size)⟩
  · have HA := Lib.hid (show areaN p m = 0 by rw [areaN, if_neg h])
    have hd : (moded p m != 0) = true := by simpa using h
    clear h
    go_enter Try.func20, Try.ntmps20
    go_wp2_with fail
    refine H.out.mono ?_
    rintro e w1 ⟨rfl, hb1⟩
    go_wp2
    go_ret2
    exact ⟨ret_two (by rw [HA.out]; rfl) rfl, hb1⟩

set_option maxHeartbeats 400000 in
theorem rSumF (A : Option Addr) (k c : Nat) (p : List Int) (m : Int) (w : World) (hl : p.length ≤ 1000) (B : Nat) (hB : B ≤ w.heap.size) (hr : Rd w B 1 A k (ints p)) :
    Calls Try.prog 22 #[.slice A k c, .int .i64 m] w fun e w' => e = .returned (.tuple #[vV (sumV p m), .int .i64 (moded p m)]) ∧ Below w.heap.size w w' := by
  obtain rfl := hr.int_len
  have H := Lib.hid (rmoded A p.length c p m (w.alloc (.cells #[.int .i64 0, .int .i64 0] 29)) hl B (by simp; omega) (hr.alloc hB _))
  have hn := blk_new w 29 #[.int .i64 0, .int .i64 0]
  have HB := Lib.hid ((Below.refl w.heap.size w).alloc (Nat.le_refl _) (.cells #[.int .i64 0, .int .i64 0] 29))
  have hr1 := hr.alloc hB (.cells #[.int .i64 0, .int .i64 0] 29)
  by_cases h : moded p m = 0
  · obtain ⟨h1, h2, h3⟩ := moded_ok h
    obtain ⟨h4, h5⟩ := vald_ok h1
    have HA := Lib.hid (show sumV p m = sumL m.toNat p by rw [sumV, if_pos h])
    have HM := Lib.hid h
    have HN := Lib.hid hn
    have HR := Lib.hid hr1
    clear h hn hr1
    go_enter Try.func22, Try.ntmps22
    go_wp2_with fail
    refine H.out.mono ?_
    rw [HM.out]
    rintro e w1 ⟨rfl, hb1⟩
    have s1 := hb1.size
    rw [World.size_alloc] at s1
    have n1 := blk_below HN.out hb1 (by simp)
    have r1 := HR.out.below' hb1 (by simp; omega)
    have HN1 := Lib.hid n1
    have HR1 := Lib.hid r1
    have HB1 := Lib.hid (HB.out.trans (hb1.mono (by simp)))
    clear n1 r1 hb1
    go_wp2_with fail
    refine (rsum p m h4 h5 h2 h3 A c w1 B (by omega) HR1.out).mono ?_
    rintro e w2 ⟨rfl, hb2⟩
    obtain ⟨u, hu⟩ : ∃ u, u = sumL m.toNat p := ⟨_, rfl⟩
    rw [← hu]
    have HU := Lib.hid hu
    clear hu
    have n2 := blk_below HN1.out hb2 (by omega)
    have s2 := hb2.size
    have hbx := (HB1.out.trans (hb2.mono (by omega))).setCell (p := ⟨w.heap.size, 0, none⟩) (Nat.le_refl _) (.int .i64 u.x)
    have HBX := Lib.hid (hbx.setCell (p := ⟨w.heap.size, 1, none⟩) (Nat.le_refl _) (.int .i64 u.y))
    clear hb2 hbx
    have c1 : w2.cell? ⟨w.heap.size, 0, none⟩ = some (.int .i64 0) := blk_cell n2 0
    have c2 : w2.cell? ⟨w.heap.size, 1, none⟩ = some (.int .i64 0) := blk_cell n2 1
    have f1 := blk_frozen n2 0
    have f2 := blk_frozen n2 1
    have v2 := blk_set (blk_set n2 0 (.int .i64 u.x)) 1 (.int .i64 u.y)
    have HV2 := Lib.hid v2
    clear n2 v2
    go_wp2
    have r0 := blk_cell HV2.out 0
    have r1 := blk_cell HV2.out 1
    exact bodyPost_ret (v := .tuple #[vV u, .int .i64 0]) (by simp [results, Try.results22, go_sem, r0, r1]) rfl ⟨ret_two (by rw [HA.out, HU.out]) (by rw [HM.out]), HBX.out⟩
  · have HA := Lib.hid (show sumV p m = V.zero by rw [sumV, if_neg h])
    have hd : (moded p m != 0) = true := by simpa using h
    clear h
    have HN := Lib.hid hn
    clear hn hr1
    go_enter Try.func22, Try.ntmps22
    go_wp2_with fail
    refine H.out.mono ?_
    rintro e w1 ⟨rfl, hb1⟩
    have s1 := hb1.size
    rw [World.size_alloc] at s1
    have n2 := blk_below HN.out hb1 (by simp)
    have hbx := (HB.out.trans (hb1.mono (by simp))).setCell (p := ⟨w.heap.size, 0, none⟩) (Nat.le_refl _) (.int .i64 0)
    have HBX := Lib.hid (hbx.setCell (p := ⟨w.heap.size, 1, none⟩) (Nat.le_refl _) (.int .i64 0))
    clear hbx hb1
    have c1 : w1.cell? ⟨w.heap.size, 0, none⟩ = some (.int .i64 0) := blk_cell n2 0
    have c2 : w1.cell? ⟨w.heap.size, 1, none⟩ = some (.int .i64 0) := blk_cell n2 1
    have f1 := blk_frozen n2 0
    have f2 := blk_frozen n2 1
    have v2 := blk_set (blk_set n2 0 (.int .i64 0)) 1 (.int .i64 0)
    have HV2 := Lib.hid v2
    clear n2 v2
    go_wp2
    have r0 := blk_cell HV2.out 0
    have r1 := blk_cell HV2.out 1
    exact bodyPost_ret (v := .tuple #[vV V.zero, .int .i64 (moded p m)]) (by simp [results, Try.results22, go_sem, r0, r1, V.zero]) rfl ⟨ret_two (by rw [HA.out]) rfl, HBX.out⟩
set_option maxHeartbeats 400000 in
theorem rEndF (A : Option Addr) (k c : Nat) (p : List Int) (m : Int) (w : World) (hl : p.length ≤ 1000) (B : Nat) (hB : B ≤ w.heap.size) (hr : Rd w B 1 A k (ints p)) :
    Calls Try.prog 33 #[.slice A k c, .int .i64 m] w fun e w' => e = .returned (.tuple #[vV (endV p m), .int .i64 (moded p m)]) ∧ Below w.heap.size w w' := by
  obtain rfl := hr.int_len
  have H := Lib.hid (rmoded A p.length c p m (w.alloc (.cells #[.int .i64 0, .int .i64 0] 29)) hl B (by simp; omega) (hr.alloc hB _))
  have hn := blk_new w 29 #[.int .i64 0, .int .i64 0]
  have HB := Lib.hid ((Below.refl w.heap.size w).alloc (Nat.le_refl _) (.cells #[.int .i64 0, .int .i64 0] 29))
  have hr1 := hr.alloc hB (.cells #[.int .i64 0, .int .i64 0] 29)
  by_cases h : moded p m = 0
  · obtain ⟨h1, h2, h3⟩ := moded_ok h
    obtain ⟨h4, h5⟩ := vald_ok h1
    have HA := Lib.hid (show endV p m = endL m.toNat p by rw [endV, if_pos h])
    have HM := Lib.hid h
    have HN := Lib.hid hn
    have HR := Lib.hid hr1
    clear h hn hr1
    go_enter Try.func33, Try.ntmps33
    go_wp2_with fail
    refine H.out.mono ?_
    rw [HM.out]
    rintro e w1 ⟨rfl, hb1⟩
    have s1 := hb1.size
    rw [World.size_alloc] at s1
    have n1 := blk_below HN.out hb1 (by simp)
    have r1 := HR.out.below' hb1 (by simp; omega)
    have HN1 := Lib.hid n1
    have HR1 := Lib.hid r1
    have HB1 := Lib.hid (HB.out.trans (hb1.mono (by simp)))
    clear n1 r1 hb1
    go_wp2_with fail
    refine (rend p m h4 h5 h2 h3 A c w1 B (by omega) HR1.out).mono ?_
    rintro e w2 ⟨rfl, hb2⟩
    obtain ⟨u, hu⟩ : ∃ u, u = endL m.toNat p := ⟨_, rfl⟩
    rw [← hu]
    have HU := Lib.hid hu
    clear hu
    have n2 := blk_below HN1.out hb2 (by omega)
    have s2 := hb2.size
    have hbx := (HB1.out.trans (hb2.mono (by omega))).setCell (p := ⟨w.heap.size, 0, none⟩) (Nat.le_refl _) (.int .i64 u.x)
    have HBX := Lib.hid (hbx.setCell (p := ⟨w.heap.size, 1, none⟩) (Nat.le_refl _) (.int .i64 u.y))
    clear hb2 hbx
    have c1 : w2.cell? ⟨w.heap.size, 0, none⟩ = some (.int .i64 0) := blk_cell n2 0
    have c2 : w2.cell? ⟨w.heap.size, 1, none⟩ = some (.int .i64 0) := blk_cell n2 1
    have f1 := blk_frozen n2 0
    have f2 := blk_frozen n2 1
    have v2 := blk_set (blk_set n2 0 (.int .i64 u.x)) 1 (.int .i64 u.y)
    have HV2 := Lib.hid v2
    clear n2 v2
    go_wp2
    have r0 := blk_cell HV2.out 0
    have r1 := blk_cell HV2.out 1
    exact bodyPost_ret (v := .tuple #[vV u, .int .i64 0]) (by simp [results, Try.results33, go_sem, r0, r1]) rfl ⟨ret_two (by rw [HA.out, HU.out]) (by rw [HM.out]), HBX.out⟩
  · have HA := Lib.hid (show endV p m = V.zero by rw [endV, if_neg h])
    have hd : (moded p m != 0) = true := by simpa using h
    clear h
    have HN := Lib.hid hn
    clear hn hr1
    go_enter Try.func33, Try.ntmps33
    go_wp2_with fail
    refine H.out.mono ?_
    rintro e w1 ⟨rfl, hb1⟩
    have s1 := hb1.size
    rw [World.size_alloc] at s1
    have n2 := blk_below HN.out hb1 (by simp)
    have hbx := (HB.out.trans (hb1.mono (by simp))).setCell (p := ⟨w.heap.size, 0, none⟩) (Nat.le_refl _) (.int .i64 0)
    have HBX := Lib.hid (hbx.setCell (p := ⟨w.heap.size, 1, none⟩) (Nat.le_refl _) (.int .i64 0))
    clear hbx hb1
    have c1 : w1.cell? ⟨w.heap.size, 0, none⟩ = some (.int .i64 0) := blk_cell n2 0
    have c2 : w1.cell? ⟨w.heap.size, 1, none⟩ = some (.int .i64 0) := blk_cell n2 1
    have f1 := blk_frozen n2 0
    have f2 := blk_frozen n2 1
    have v2 := blk_set (blk_set n2 0 (.int .i64 0)) 1 (.int .i64 0)
    have HV2 := Lib.hid v2
    clear n2 v2
    go_wp2
    have r0 := blk_cell HV2.out 0
    have r1 := blk_cell HV2.out 1
    exact bodyPost_ret (v := .tuple #[vV V.zero, .int .i64 (moded p m)]) (by simp [results, Try.results33, go_sem, r0, r1, V.zero]) rfl ⟨ret_two (by rw [HA.out]) rfl, HBX.out⟩
end Go.Proofs.Ytnoocdannfeidaa
