/-
  THE WALK of TopZones: what is long, what is refused. (Printed by gen_ltop.py.)
-/
import Derived.Test.YtlhbmfaoldajdaaP10
namespace Go.Proofs.Ytlhbmfaoldajdaa
open Go.RowKit Go.Maps

set_option maxRecDepth 100000 in
set_option maxHeartbeats 400000 in
theorem topLong0 (Z : Int) (A : Option Addr) (k c : Nat) (L : List (Int × Int)) (A' : Option Addr) (k' c' : Nat) (s : List Int) (A'' : Option Addr) (k'' c'' : Nat) (t : List Int) (Ap : Option Addr) (kp cp : Nat) (p : List (Int × Int)) (w : World) (hk : k ≤ c) (hc : c ≤ maxLen) (hr : Rd w w.heap.size 2 A k (prs L)) (hk' : k' ≤ c') (hc' : c' ≤ maxLen) (hr' : Rd w w.heap.size 1 A' k' (ints s)) (hk'' : k'' ≤ c'') (hc'' : c'' ≤ maxLen) (hr'' : Rd w w.heap.size 1 A'' k'' (ints t)) (hkp : kp ≤ cp) (hcp : cp ≤ maxLen) (hrp : Rd w w.heap.size 2 Ap kp (prs p)) (h : decide (60 < L.length) = true) :
    Calls Try.prog 3 #[.agg #[.int .i64 Z, .slice A k c], .agg #[.slice A' k' c', .slice A'' k'' c''], .slice Ap kp cp] w fun e w' => e = .returned (.bool true) ∧ Below w.heap.size w w' := by
  have hm : k ≤ maxLen := Nat.le_trans hk hc
  have hm' : k' ≤ maxLen := Nat.le_trans hk' hc'
  have hm'' : k'' ≤ maxLen := Nat.le_trans hk'' hc''
  have hmp : kp ≤ maxLen := Nat.le_trans hkp hcp
  obtain rfl := hr.pr_len
  obtain rfl := hr'.int_len
  obtain rfl := hr''.int_len
  obtain rfl := hrp.pr_len
  have s1 : (w.alloc (.cells #[.int .i64 Z, .slice A L.length c] 24)).heap.size = w.heap.size + 1 := by simp
  have hr := (hr.alloc (Nat.le_refl _) (.cells #[.int .i64 Z, .slice A L.length c] 24)).more (B' := (w.alloc (.cells #[.int .i64 Z, .slice A L.length c] 24)).heap.size) (by omega)
  have hr' := (hr'.alloc (Nat.le_refl _) (.cells #[.int .i64 Z, .slice A L.length c] 24)).more (B' := (w.alloc (.cells #[.int .i64 Z, .slice A L.length c] 24)).heap.size) (by omega)
  have hr'' := (hr''.alloc (Nat.le_refl _) (.cells #[.int .i64 Z, .slice A L.length c] 24)).more (B' := (w.alloc (.cells #[.int .i64 Z, .slice A L.length c] 24)).heap.size) (by omega)
  have hrp := (hrp.alloc (Nat.le_refl _) (.cells #[.int .i64 Z, .slice A L.length c] 24)).more (B' := (w.alloc (.cells #[.int .i64 Z, .slice A L.length c] 24)).heap.size) (by omega)
  have HX := Lib.hid (blk_new w 24 #[.int .i64 Z, .slice A L.length c])
  have HB1 := Lib.hid ((Below.refl w.heap.size w).alloc (Nat.le_refl _) (.cells #[.int .i64 Z, .slice A L.length c] 24))
  have s2 : ((w.alloc (.cells #[.int .i64 Z, .slice A L.length c] 24)).alloc (.cells #[.slice A' s.length c', .slice A'' t.length c''] 27)).heap.size = (w.alloc (.cells #[.int .i64 Z, .slice A L.length c] 24)).heap.size + 1 := by simp
  have hr := (hr.alloc (Nat.le_refl _) (.cells #[.slice A' s.length c', .slice A'' t.length c''] 27)).more (B' := ((w.alloc (.cells #[.int .i64 Z, .slice A L.length c] 24)).alloc (.cells #[.slice A' s.length c', .slice A'' t.length c''] 27)).heap.size) (by omega)
  have hr' := (hr'.alloc (Nat.le_refl _) (.cells #[.slice A' s.length c', .slice A'' t.length c''] 27)).more (B' := ((w.alloc (.cells #[.int .i64 Z, .slice A L.length c] 24)).alloc (.cells #[.slice A' s.length c', .slice A'' t.length c''] 27)).heap.size) (by omega)
  have hr'' := (hr''.alloc (Nat.le_refl _) (.cells #[.slice A' s.length c', .slice A'' t.length c''] 27)).more (B' := ((w.alloc (.cells #[.int .i64 Z, .slice A L.length c] 24)).alloc (.cells #[.slice A' s.length c', .slice A'' t.length c''] 27)).heap.size) (by omega)
  have hrp := (hrp.alloc (Nat.le_refl _) (.cells #[.slice A' s.length c', .slice A'' t.length c''] 27)).more (B' := ((w.alloc (.cells #[.int .i64 Z, .slice A L.length c] 24)).alloc (.cells #[.slice A' s.length c', .slice A'' t.length c''] 27)).heap.size) (by omega)
  have HX := Lib.hid (blk_alloc HX.out (.cells #[.slice A' s.length c', .slice A'' t.length c''] 27))
  have HY := Lib.hid (blk_new (w.alloc (.cells #[.int .i64 Z, .slice A L.length c] 24)) 27 #[.slice A' s.length c', .slice A'' t.length c''])
  have HB2 := Lib.hid (HB1.out.alloc (HB1.out.size) (.cells #[.slice A' s.length c', .slice A'' t.length c''] 27))
  rw [s1] at HY
  have s3 : (((w.alloc (.cells #[.int .i64 Z, .slice A L.length c] 24)).alloc (.cells #[.slice A' s.length c', .slice A'' t.length c''] 27)).alloc (.cells #[.int .i64 0, .int .i64 1, .int .i64 1, .int .i64 2, .int .i64 2, .int .i64 3, .int .i64 0, .int .i64 3] 33)).heap.size = ((w.alloc (.cells #[.int .i64 Z, .slice A L.length c] 24)).alloc (.cells #[.slice A' s.length c', .slice A'' t.length c''] 27)).heap.size + 1 := by simp
  have hr := (hr.alloc (Nat.le_refl _) (.cells #[.int .i64 0, .int .i64 1, .int .i64 1, .int .i64 2, .int .i64 2, .int .i64 3, .int .i64 0, .int .i64 3] 33)).more (B' := (((w.alloc (.cells #[.int .i64 Z, .slice A L.length c] 24)).alloc (.cells #[.slice A' s.length c', .slice A'' t.length c''] 27)).alloc (.cells #[.int .i64 0, .int .i64 1, .int .i64 1, .int .i64 2, .int .i64 2, .int .i64 3, .int .i64 0, .int .i64 3] 33)).heap.size) (by omega)
  have hr' := (hr'.alloc (Nat.le_refl _) (.cells #[.int .i64 0, .int .i64 1, .int .i64 1, .int .i64 2, .int .i64 2, .int .i64 3, .int .i64 0, .int .i64 3] 33)).more (B' := (((w.alloc (.cells #[.int .i64 Z, .slice A L.length c] 24)).alloc (.cells #[.slice A' s.length c', .slice A'' t.length c''] 27)).alloc (.cells #[.int .i64 0, .int .i64 1, .int .i64 1, .int .i64 2, .int .i64 2, .int .i64 3, .int .i64 0, .int .i64 3] 33)).heap.size) (by omega)
  have hr'' := (hr''.alloc (Nat.le_refl _) (.cells #[.int .i64 0, .int .i64 1, .int .i64 1, .int .i64 2, .int .i64 2, .int .i64 3, .int .i64 0, .int .i64 3] 33)).more (B' := (((w.alloc (.cells #[.int .i64 Z, .slice A L.length c] 24)).alloc (.cells #[.slice A' s.length c', .slice A'' t.length c''] 27)).alloc (.cells #[.int .i64 0, .int .i64 1, .int .i64 1, .int .i64 2, .int .i64 2, .int .i64 3, .int .i64 0, .int .i64 3] 33)).heap.size) (by omega)
  have hrp := (hrp.alloc (Nat.le_refl _) (.cells #[.int .i64 0, .int .i64 1, .int .i64 1, .int .i64 2, .int .i64 2, .int .i64 3, .int .i64 0, .int .i64 3] 33)).more (B' := (((w.alloc (.cells #[.int .i64 Z, .slice A L.length c] 24)).alloc (.cells #[.slice A' s.length c', .slice A'' t.length c''] 27)).alloc (.cells #[.int .i64 0, .int .i64 1, .int .i64 1, .int .i64 2, .int .i64 2, .int .i64 3, .int .i64 0, .int .i64 3] 33)).heap.size) (by omega)
  have HX := Lib.hid (blk_alloc HX.out (.cells #[.int .i64 0, .int .i64 1, .int .i64 1, .int .i64 2, .int .i64 2, .int .i64 3, .int .i64 0, .int .i64 3] 33))
  have HY := Lib.hid (blk_alloc HY.out (.cells #[.int .i64 0, .int .i64 1, .int .i64 1, .int .i64 2, .int .i64 2, .int .i64 3, .int .i64 0, .int .i64 3] 33))
  have HL := Lib.hid (blk_new ((w.alloc (.cells #[.int .i64 Z, .slice A L.length c] 24)).alloc (.cells #[.slice A' s.length c', .slice A'' t.length c''] 27)) 33 #[.int .i64 0, .int .i64 1, .int .i64 1, .int .i64 2, .int .i64 2, .int .i64 3, .int .i64 0, .int .i64 3])
  have HB3 := Lib.hid (HB2.out.alloc (HB2.out.size) (.cells #[.int .i64 0, .int .i64 1, .int .i64 1, .int .i64 2, .int .i64 2, .int .i64 3, .int .i64 0, .int .i64 3] 33))
  rw [s2, s1] at HL
  have s4 : ((((w.alloc (.cells #[.int .i64 Z, .slice A L.length c] 24)).alloc (.cells #[.slice A' s.length c', .slice A'' t.length c''] 27)).alloc (.cells #[.int .i64 0, .int .i64 1, .int .i64 1, .int .i64 2, .int .i64 2, .int .i64 3, .int .i64 0, .int .i64 3] 33)).alloc (.cells #[.int .i64 0, .int .i64 2] 3)).heap.size = (((w.alloc (.cells #[.int .i64 Z, .slice A L.length c] 24)).alloc (.cells #[.slice A' s.length c', .slice A'' t.length c''] 27)).alloc (.cells #[.int .i64 0, .int .i64 1, .int .i64 1, .int .i64 2, .int .i64 2, .int .i64 3, .int .i64 0, .int .i64 3] 33)).heap.size + 1 := by simp
  have hr := (hr.alloc (Nat.le_refl _) (.cells #[.int .i64 0, .int .i64 2] 3)).more (B' := ((((w.alloc (.cells #[.int .i64 Z, .slice A L.length c] 24)).alloc (.cells #[.slice A' s.length c', .slice A'' t.length c''] 27)).alloc (.cells #[.int .i64 0, .int .i64 1, .int .i64 1, .int .i64 2, .int .i64 2, .int .i64 3, .int .i64 0, .int .i64 3] 33)).alloc (.cells #[.int .i64 0, .int .i64 2] 3)).heap.size) (by omega)
  have hr' := (hr'.alloc (Nat.le_refl _) (.cells #[.int .i64 0, .int .i64 2] 3)).more (B' := ((((w.alloc (.cells #[.int .i64 Z, .slice A L.length c] 24)).alloc (.cells #[.slice A' s.length c', .slice A'' t.length c''] 27)).alloc (.cells #[.int .i64 0, .int .i64 1, .int .i64 1, .int .i64 2, .int .i64 2, .int .i64 3, .int .i64 0, .int .i64 3] 33)).alloc (.cells #[.int .i64 0, .int .i64 2] 3)).heap.size) (by omega)
  have hr'' := (hr''.alloc (Nat.le_refl _) (.cells #[.int .i64 0, .int .i64 2] 3)).more (B' := ((((w.alloc (.cells #[.int .i64 Z, .slice A L.length c] 24)).alloc (.cells #[.slice A' s.length c', .slice A'' t.length c''] 27)).alloc (.cells #[.int .i64 0, .int .i64 1, .int .i64 1, .int .i64 2, .int .i64 2, .int .i64 3, .int .i64 0, .int .i64 3] 33)).alloc (.cells #[.int .i64 0, .int .i64 2] 3)).heap.size) (by omega)
  have hrp := (hrp.alloc (Nat.le_refl _) (.cells #[.int .i64 0, .int .i64 2] 3)).more (B' := ((((w.alloc (.cells #[.int .i64 Z, .slice A L.length c] 24)).alloc (.cells #[.slice A' s.length c', .slice A'' t.length c''] 27)).alloc (.cells #[.int .i64 0, .int .i64 1, .int .i64 1, .int .i64 2, .int .i64 2, .int .i64 3, .int .i64 0, .int .i64 3] 33)).alloc (.cells #[.int .i64 0, .int .i64 2] 3)).heap.size) (by omega)
  have HX := Lib.hid (blk_alloc HX.out (.cells #[.int .i64 0, .int .i64 2] 3))
  have HY := Lib.hid (blk_alloc HY.out (.cells #[.int .i64 0, .int .i64 2] 3))
  have HL := Lib.hid (blk_alloc HL.out (.cells #[.int .i64 0, .int .i64 2] 3))
  have HM := Lib.hid (blk_new (((w.alloc (.cells #[.int .i64 Z, .slice A L.length c] 24)).alloc (.cells #[.slice A' s.length c', .slice A'' t.length c''] 27)).alloc (.cells #[.int .i64 0, .int .i64 1, .int .i64 1, .int .i64 2, .int .i64 2, .int .i64 3, .int .i64 0, .int .i64 3] 33)) 3 #[.int .i64 0, .int .i64 2])
  have HB4 := Lib.hid (HB3.out.alloc (HB3.out.size) (.cells #[.int .i64 0, .int .i64 2] 3))
  rw [s3, s2, s1] at HM
  have rl : Rd ((((w.alloc (.cells #[.int .i64 Z, .slice A L.length c] 24)).alloc (.cells #[.slice A' s.length c', .slice A'' t.length c''] 27)).alloc (.cells #[.int .i64 0, .int .i64 1, .int .i64 1, .int .i64 2, .int .i64 2, .int .i64 3, .int .i64 0, .int .i64 3] 33)).alloc (.cells #[.int .i64 0, .int .i64 2] 3)) ((((w.alloc (.cells #[.int .i64 Z, .slice A L.length c] 24)).alloc (.cells #[.slice A' s.length c', .slice A'' t.length c''] 27)).alloc (.cells #[.int .i64 0, .int .i64 1, .int .i64 1, .int .i64 2, .int .i64 2, .int .i64 3, .int .i64 0, .int .i64 3] 33)).alloc (.cells #[.int .i64 0, .int .i64 2] 3)).heap.size 2 (some ⟨w.heap.size + 1 + 1, 0, none⟩) 4 (prs [(0, 1), (1, 2), (2, 3), (0, 3)]) := (rd_lit HL.out rfl).more (by simp)
  have rm : Rd ((((w.alloc (.cells #[.int .i64 Z, .slice A L.length c] 24)).alloc (.cells #[.slice A' s.length c', .slice A'' t.length c''] 27)).alloc (.cells #[.int .i64 0, .int .i64 1, .int .i64 1, .int .i64 2, .int .i64 2, .int .i64 3, .int .i64 0, .int .i64 3] 33)).alloc (.cells #[.int .i64 0, .int .i64 2] 3)) ((((w.alloc (.cells #[.int .i64 Z, .slice A L.length c] 24)).alloc (.cells #[.slice A' s.length c', .slice A'' t.length c''] 27)).alloc (.cells #[.int .i64 0, .int .i64 1, .int .i64 1, .int .i64 2, .int .i64 2, .int .i64 3, .int .i64 0, .int .i64 3] 33)).alloc (.cells #[.int .i64 0, .int .i64 2] 3)).heap.size 1 (some ⟨w.heap.size + 1 + 1 + 1, 0, none⟩) 2 (ints [0, 2]) := (rd_lit HM.out rfl).more (by simp)
  go_enter Try.func3, Try.ntmps3
  go_wp2_with fail
  refine (pReach 4 _ _ 4 4 2 2 [(0, 1), (1, 2), (2, 3), (0, 3)] [0, 2] ((((w.alloc (.cells #[.int .i64 Z, .slice A L.length c] 24)).alloc (.cells #[.slice A' s.length c', .slice A'' t.length c''] 27)).alloc (.cells #[.int .i64 0, .int .i64 1, .int .i64 1, .int .i64 2, .int .i64 2, .int .i64 3, .int .i64 0, .int .i64 3] 33)).alloc (.cells #[.int .i64 0, .int .i64 2] 3)) (by simp) (by omega) (by simp) (by omega) ((((w.alloc (.cells #[.int .i64 Z, .slice A L.length c] 24)).alloc (.cells #[.slice A' s.length c', .slice A'' t.length c''] 27)).alloc (.cells #[.int .i64 0, .int .i64 1, .int .i64 1, .int .i64 2, .int .i64 2, .int .i64 3, .int .i64 0, .int .i64 3] 33)).alloc (.cells #[.int .i64 0, .int .i64 2] 3)).heap.size (Nat.le_refl _) rl rm).mono ?_
  rw [reach_known, place_known]
  rintro e w5 ⟨rfl, hb5⟩
  have s5 := hb5.size
  have HB5 := Lib.hid (HB4.out.trans (hb5.mono (by have := HB4.out.size; omega)))
  have hr := (hr.below hb5).more s5
  have hr' := (hr'.below hb5).more s5
  have hr'' := (hr''.below hb5).more s5
  have hrp := (hrp.below hb5).more s5
  have HX := Lib.hid (blk_below HX.out hb5 (blk_lt HX.out))
  have HY := Lib.hid (blk_below HY.out hb5 (blk_lt HY.out))
  have HL := Lib.hid (blk_below HL.out hb5 (blk_lt HL.out))
  have HM := Lib.hid (blk_below HM.out hb5 (blk_lt HM.out))
  clear hb5
  clear HL HM
  clear rl rm
  have x0 : w5.cell? ⟨w.heap.size, 0, none⟩ = some (.int .i64 Z) := blk_cell HX.out 0
  have x1 : w5.cell? ⟨w.heap.size, 1, none⟩ = some (.slice A L.length c) := blk_cell HX.out 1
  have y0 : w5.cell? ⟨w.heap.size + 1, 0, none⟩ = some (.slice A' s.length c') := blk_cell HY.out 0
  have y1 : w5.cell? ⟨w.heap.size + 1, 1, none⟩ = some (.slice A'' t.length c'') := blk_cell HY.out 1
  go_wp2_with fail
  refine (pLong true Z A L.length c h w5 hm).mono ?_
  rintro e w' ⟨rfl, hb⟩
  obtain ⟨w6, hw6⟩ : ∃ z, z = w' := ⟨_, rfl⟩
  rw [← hw6] at hb ⊢
  clear hw6
  have s6 := hb.size
  have HB6 := Lib.hid (HB5.out.trans (hb.mono (by have := HB5.out.size; omega)))
  have hr := (hr.below hb).more s6
  have hr' := (hr'.below hb).more s6
  have hr'' := (hr''.below hb).more s6
  have hrp := (hrp.below hb).more s6
  have HX := Lib.hid (blk_below HX.out hb (blk_lt HX.out))
  have HY := Lib.hid (blk_below HY.out hb (blk_lt HY.out))
  clear hb
  clear x0 x1 y0 y1
  have x0 : w6.cell? ⟨w.heap.size, 0, none⟩ = some (.int .i64 Z) := blk_cell HX.out 0
  have x1 : w6.cell? ⟨w.heap.size, 1, none⟩ = some (.slice A L.length c) := blk_cell HX.out 1
  have y0 : w6.cell? ⟨w.heap.size + 1, 0, none⟩ = some (.slice A' s.length c') := blk_cell HY.out 0
  have y1 : w6.cell? ⟨w.heap.size + 1, 1, none⟩ = some (.slice A'' t.length c'') := blk_cell HY.out 1
  go_wp2
  go_ret
  exact ⟨rfl, HB6.out⟩

set_option maxRecDepth 100000 in
set_option maxHeartbeats 400000 in
theorem topLong1 (Z : Int) (A : Option Addr) (k c : Nat) (L : List (Int × Int)) (A' : Option Addr) (k' c' : Nat) (s : List Int) (A'' : Option Addr) (k'' c'' : Nat) (t : List Int) (Ap : Option Addr) (kp cp : Nat) (p : List (Int × Int)) (w : World) (hk : k ≤ c) (hc : c ≤ maxLen) (hr : Rd w w.heap.size 2 A k (prs L)) (hk' : k' ≤ c') (hc' : c' ≤ maxLen) (hr' : Rd w w.heap.size 1 A' k' (ints s)) (hk'' : k'' ≤ c'') (hc'' : c'' ≤ maxLen) (hr'' : Rd w w.heap.size 1 A'' k'' (ints t)) (hkp : kp ≤ cp) (hcp : cp ≤ maxLen) (hrp : Rd w w.heap.size 2 Ap kp (prs p)) (h : decide (60 < L.length) = false) (h1 : decide (40 < s.length) = true) :
    Calls Try.prog 3 #[.agg #[.int .i64 Z, .slice A k c], .agg #[.slice A' k' c', .slice A'' k'' c''], .slice Ap kp cp] w fun e w' => e = .returned (.bool true) ∧ Below w.heap.size w w' := by
  have hm : k ≤ maxLen := Nat.le_trans hk hc
  have hm' : k' ≤ maxLen := Nat.le_trans hk' hc'
  have hm'' : k'' ≤ maxLen := Nat.le_trans hk'' hc''
  have hmp : kp ≤ maxLen := Nat.le_trans hkp hcp
  obtain rfl := hr.pr_len
  obtain rfl := hr'.int_len
  obtain rfl := hr''.int_len
  obtain rfl := hrp.pr_len
  have e1 : decide (40 < (s.length : Int)) = true := by rw [← h1]; exact decide_eq_decide.2 (by omega)
  have s1 : (w.alloc (.cells #[.int .i64 Z, .slice A L.length c] 24)).heap.size = w.heap.size + 1 := by simp
  have hr := (hr.alloc (Nat.le_refl _) (.cells #[.int .i64 Z, .slice A L.length c] 24)).more (B' := (w.alloc (.cells #[.int .i64 Z, .slice A L.length c] 24)).heap.size) (by omega)
  have hr' := (hr'.alloc (Nat.le_refl _) (.cells #[.int .i64 Z, .slice A L.length c] 24)).more (B' := (w.alloc (.cells #[.int .i64 Z, .slice A L.length c] 24)).heap.size) (by omega)
  have hr'' := (hr''.alloc (Nat.le_refl _) (.cells #[.int .i64 Z, .slice A L.length c] 24)).more (B' := (w.alloc (.cells #[.int .i64 Z, .slice A L.length c] 24)).heap.size) (by omega)
  have hrp := (hrp.alloc (Nat.le_refl _) (.cells #[.int .i64 Z, .slice A L.length c] 24)).more (B' := (w.alloc (.cells #[.int .i64 Z, .slice A L.length c] 24)).heap.size) (by omega)
  have HX := Lib.hid (blk_new w 24 #[.int .i64 Z, .slice A L.length c])
  have HB1 := Lib.hid ((Below.refl w.heap.size w).alloc (Nat.le_refl _) (.cells #[.int .i64 Z, .slice A L.length c] 24))
  have s2 : ((w.alloc (.cells #[.int .i64 Z, .slice A L.length c] 24)).alloc (.cells #[.slice A' s.length c', .slice A'' t.length c''] 27)).heap.size = (w.alloc (.cells #[.int .i64 Z, .slice A L.length c] 24)).heap.size + 1 := by simp
  have hr := (hr.alloc (Nat.le_refl _) (.cells #[.slice A' s.length c', .slice A'' t.length c''] 27)).more (B' := ((w.alloc (.cells #[.int .i64 Z, .slice A L.length c] 24)).alloc (.cells #[.slice A' s.length c', .slice A'' t.length c''] 27)).heap.size) (by omega)
  have hr' := (hr'.alloc (Nat.le_refl _) (.cells #[.slice A' s.length c', .slice A'' t.length c''] 27)).more (B' := ((w.alloc (.cells #[.int .i64 Z, .slice A L.length c] 24)).alloc (.cells #[.slice A' s.length c', .slice A'' t.length c''] 27)).heap.size) (by omega)
  have hr'' := (hr''.alloc (Nat.le_refl _) (.cells #[.slice A' s.length c', .slice A'' t.length c''] 27)).more (B' := ((w.alloc (.cells #[.int .i64 Z, .slice A L.length c] 24)).alloc (.cells #[.slice A' s.length c', .slice A'' t.length c''] 27)).heap.size) (by omega)
  have hrp := (hrp.alloc (Nat.le_refl _) (.cells #[.slice A' s.length c', .slice A'' t.length c''] 27)).more (B' := ((w.alloc (.cells #[.int .i64 Z, .slice A L.length c] 24)).alloc (.cells #[.slice A' s.length c', .slice A'' t.length c''] 27)).heap.size) (by omega)
  have HX := Lib.hid (blk_alloc HX.out (.cells #[.slice A' s.length c', .slice A'' t.length c''] 27))
  have HY := Lib.hid (blk_new (w.alloc (.cells #[.int .i64 Z, .slice A L.length c] 24)) 27 #[.slice A' s.length c', .slice A'' t.length c''])
  have HB2 := Lib.hid (HB1.out.alloc (HB1.out.size) (.cells #[.slice A' s.length c', .slice A'' t.length c''] 27))
  rw [s1] at HY
  have s3 : (((w.alloc (.cells #[.int .i64 Z, .slice A L.length c] 24)).alloc (.cells #[.slice A' s.length c', .slice A'' t.length c''] 27)).alloc (.cells #[.int .i64 0, .int .i64 1, .int .i64 1, .int .i64 2, .int .i64 2, .int .i64 3, .int .i64 0, .int .i64 3] 33)).heap.size = ((w.alloc (.cells #[.int .i64 Z, .slice A L.length c] 24)).alloc (.cells #[.slice A' s.length c', .slice A'' t.length c''] 27)).heap.size + 1 := by simp
  have hr := (hr.alloc (Nat.le_refl _) (.cells #[.int .i64 0, .int .i64 1, .int .i64 1, .int .i64 2, .int .i64 2, .int .i64 3, .int .i64 0, .int .i64 3] 33)).more (B' := (((w.alloc (.cells #[.int .i64 Z, .slice A L.length c] 24)).alloc (.cells #[.slice A' s.length c', .slice A'' t.length c''] 27)).alloc (.cells #[.int .i64 0, .int .i64 1, .int .i64 1, .int .i64 2, .int .i64 2, .int .i64 3, .int .i64 0, .int .i64 3] 33)).heap.size) (by omega)
  have hr' := (hr'.alloc (Nat.le_refl _) (.cells #[.int .i64 0, .int .i64 1, .int .i64 1, .int .i64 2, .int .i64 2, .int .i64 3, .int .i64 0, .int .i64 3] 33)).more (B' := (((w.alloc (.cells #[.int .i64 Z, .slice A L.length c] 24)).alloc (.cells #[.slice A' s.length c', .slice A'' t.length c''] 27)).alloc (.cells #[.int .i64 0, .int .i64 1, .int .i64 1, .int .i64 2, .int .i64 2, .int .i64 3, .int .i64 0, .int .i64 3] 33)).heap.size) (by omega)
  have hr'' := (hr''.alloc (Nat.le_refl _) (.cells #[.int .i64 0, .int .i64 1, .int .i64 1, .int .i64 2, .int .i64 2, .int .i64 3, .int .i64 0, .int .i64 3] 33)).more (B' := (((w.alloc (.cells #[.int .i64 Z, .slice A L.length c] 24)).alloc (.cells #[.slice A' s.length c', .slice A'' t.length c''] 27)).alloc (.cells #[.int .i64 0, .int .i64 1, .int .i64 1, .int .i64 2, .int .i64 2, .int .i64 3, .int .i64 0, .int .i64 3] 33)).heap.size) (by omega)
  have hrp := (hrp.alloc (Nat.le_refl _) (.cells #[.int .i64 0, .int .i64 1, .int .i64 1, .int .i64 2, .int .i64 2, .int .i64 3, .int .i64 0, .int .i64 3] 33)).more (B' := (((w.alloc (.cells #[.int .i64 Z, .slice A L.length c] 24)).alloc (.cells #[.slice A' s.length c', .slice A'' t.length c''] 27)).alloc (.cells #[.int .i64 0, .int .i64 1, .int .i64 1, .int .i64 2, .int .i64 2, .int .i64 3, .int .i64 0, .int .i64 3] 33)).heap.size) (by omega)
  have HX := Lib.hid (blk_alloc HX.out (.cells #[.int .i64 0, .int .i64 1, .int .i64 1, .int .i64 2, .int .i64 2, .int .i64 3, .int .i64 0, .int .i64 3] 33))
  have HY := Lib.hid (blk_alloc HY.out (.cells #[.int .i64 0, .int .i64 1, .int .i64 1, .int .i64 2, .int .i64 2, .int .i64 3, .int .i64 0, .int .i64 3] 33))
  have HL := Lib.hid (blk_new ((w.alloc (.cells #[.int .i64 Z, .slice A L.length c] 24)).alloc (.cells #[.slice A' s.length c', .slice A'' t.length c''] 27)) 33 #[.int .i64 0, .int .i64 1, .int .i64 1, .int .i64 2, .int .i64 2, .int .i64 3, .int .i64 0, .int .i64 3])
  have HB3 := Lib.hid (HB2.out.alloc (HB2.out.size) (.cells #[.int .i64 0, .int .i64 1, .int .i64 1, .int .i64 2, .int .i64 2, .int .i64 3, .int .i64 0, .int .i64 3] 33))
  rw [s2, s1] at HL
  have s4 : ((((w.alloc (.cells #[.int .i64 Z, .slice A L.length c] 24)).alloc (.cells #[.slice A' s.length c', .slice A'' t.length c''] 27)).alloc (.cells #[.int .i64 0, .int .i64 1, .int .i64 1, .int .i64 2, .int .i64 2, .int .i64 3, .int .i64 0, .int .i64 3] 33)).alloc (.cells #[.int .i64 0, .int .i64 2] 3)).heap.size = (((w.alloc (.cells #[.int .i64 Z, .slice A L.length c] 24)).alloc (.cells #[.slice A' s.length c', .slice A'' t.length c''] 27)).alloc (.cells #[.int .i64 0, .int .i64 1, .int .i64 1, .int .i64 2, .int .i64 2, .int .i64 3, .int .i64 0, .int .i64 3] 33)).heap.size + 1 := by simp
  have hr := (hr.alloc (Nat.le_refl _) (.cells #[.int .i64 0, .int .i64 2] 3)).more (B' := ((((w.alloc (.cells #[.int .i64 Z, .slice A L.length c] 24)).alloc (.cells #[.slice A' s.length c', .slice A'' t.length c''] 27)).alloc (.cells #[.int .i64 0, .int .i64 1, .int .i64 1, .int .i64 2, .int .i64 2, .int .i64 3, .int .i64 0, .int .i64 3] 33)).alloc (.cells #[.int .i64 0, .int .i64 2] 3)).heap.size) (by omega)
  have hr' := (hr'.alloc (Nat.le_refl _) (.cells #[.int .i64 0, .int .i64 2] 3)).more (B' := ((((w.alloc (.cells #[.int .i64 Z, .slice A L.length c] 24)).alloc (.cells #[.slice A' s.length c', .slice A'' t.length c''] 27)).alloc (.cells #[.int .i64 0, .int .i64 1, .int .i64 1, .int .i64 2, .int .i64 2, .int .i64 3, .int .i64 0, .int .i64 3] 33)).alloc (.cells #[.int .i64 0, .int .i64 2] 3)).heap.size) (by omega)
  have hr'' := (hr''.alloc (Nat.le_refl _) (.cells #[.int .i64 0, .int .i64 2] 3)).more (B' := ((((w.alloc (.cells #[.int .i64 Z, .slice A L.length c] 24)).alloc (.cells #[.slice A' s.length c', .slice A'' t.length c''] 27)).alloc (.cells #[.int .i64 0, .int .i64 1, .int .i64 1, .int .i64 2, .int .i64 2, .int .i64 3, .int .i64 0, .int .i64 3] 33)).alloc (.cells #[.int .i64 0, .int .i64 2] 3)).heap.size) (by omega)
  have hrp := (hrp.alloc (Nat.le_refl _) (.cells #[.int .i64 0, .int .i64 2] 3)).more (B' := ((((w.alloc (.cells #[.int .i64 Z, .slice A L.length c] 24)).alloc (.cells #[.slice A' s.length c', .slice A'' t.length c''] 27)).alloc (.cells #[.int .i64 0, .int .i64 1, .int .i64 1, .int .i64 2, .int .i64 2, .int .i64 3, .int .i64 0, .int .i64 3] 33)).alloc (.cells #[.int .i64 0, .int .i64 2] 3)).heap.size) (by omega)
  have HX := Lib.hid (blk_alloc HX.out (.cells #[.int .i64 0, .int .i64 2] 3))
  have HY := Lib.hid (blk_alloc HY.out (.cells #[.int .i64 0, .int .i64 2] 3))
  have HL := Lib.hid (blk_alloc HL.out (.cells #[.int .i64 0, .int .i64 2] 3))
  have HM := Lib.hid (blk_new (((w.alloc (.cells #[.int .i64 Z, .slice A L.length c] 24)).alloc (.cells #[.slice A' s.length c', .slice A'' t.length c''] 27)).alloc (.cells #[.int .i64 0, .int .i64 1, .int .i64 1, .int .i64 2, .int .i64 2, .int .i64 3, .int .i64 0, .int .i64 3] 33)) 3 #[.int .i64 0, .int .i64 2])
  have HB4 := Lib.hid (HB3.out.alloc (HB3.out.size) (.cells #[.int .i64 0, .int .i64 2] 3))
  rw [s3, s2, s1] at HM
  have rl : Rd ((((w.alloc (.cells #[.int .i64 Z, .slice A L.length c] 24)).alloc (.cells #[.slice A' s.length c', .slice A'' t.length c''] 27)).alloc (.cells #[.int .i64 0, .int .i64 1, .int .i64 1, .int .i64 2, .int .i64 2, .int .i64 3, .int .i64 0, .int .i64 3] 33)).alloc (.cells #[.int .i64 0, .int .i64 2] 3)) ((((w.alloc (.cells #[.int .i64 Z, .slice A L.length c] 24)).alloc (.cells #[.slice A' s.length c', .slice A'' t.length c''] 27)).alloc (.cells #[.int .i64 0, .int .i64 1, .int .i64 1, .int .i64 2, .int .i64 2, .int .i64 3, .int .i64 0, .int .i64 3] 33)).alloc (.cells #[.int .i64 0, .int .i64 2] 3)).heap.size 2 (some ⟨w.heap.size + 1 + 1, 0, none⟩) 4 (prs [(0, 1), (1, 2), (2, 3), (0, 3)]) := (rd_lit HL.out rfl).more (by simp)
  have rm : Rd ((((w.alloc (.cells #[.int .i64 Z, .slice A L.length c] 24)).alloc (.cells #[.slice A' s.length c', .slice A'' t.length c''] 27)).alloc (.cells #[.int .i64 0, .int .i64 1, .int .i64 1, .int .i64 2, .int .i64 2, .int .i64 3, .int .i64 0, .int .i64 3] 33)).alloc (.cells #[.int .i64 0, .int .i64 2] 3)) ((((w.alloc (.cells #[.int .i64 Z, .slice A L.length c] 24)).alloc (.cells #[.slice A' s.length c', .slice A'' t.length c''] 27)).alloc (.cells #[.int .i64 0, .int .i64 1, .int .i64 1, .int .i64 2, .int .i64 2, .int .i64 3, .int .i64 0, .int .i64 3] 33)).alloc (.cells #[.int .i64 0, .int .i64 2] 3)).heap.size 1 (some ⟨w.heap.size + 1 + 1 + 1, 0, none⟩) 2 (ints [0, 2]) := (rd_lit HM.out rfl).more (by simp)
  go_enter Try.func3, Try.ntmps3
  go_wp2_with fail
  refine (pReach 4 _ _ 4 4 2 2 [(0, 1), (1, 2), (2, 3), (0, 3)] [0, 2] ((((w.alloc (.cells #[.int .i64 Z, .slice A L.length c] 24)).alloc (.cells #[.slice A' s.length c', .slice A'' t.length c''] 27)).alloc (.cells #[.int .i64 0, .int .i64 1, .int .i64 1, .int .i64 2, .int .i64 2, .int .i64 3, .int .i64 0, .int .i64 3] 33)).alloc (.cells #[.int .i64 0, .int .i64 2] 3)) (by simp) (by omega) (by simp) (by omega) ((((w.alloc (.cells #[.int .i64 Z, .slice A L.length c] 24)).alloc (.cells #[.slice A' s.length c', .slice A'' t.length c''] 27)).alloc (.cells #[.int .i64 0, .int .i64 1, .int .i64 1, .int .i64 2, .int .i64 2, .int .i64 3, .int .i64 0, .int .i64 3] 33)).alloc (.cells #[.int .i64 0, .int .i64 2] 3)).heap.size (Nat.le_refl _) rl rm).mono ?_
  rw [reach_known, place_known]
  rintro e w5 ⟨rfl, hb5⟩
  have s5 := hb5.size
  have HB5 := Lib.hid (HB4.out.trans (hb5.mono (by have := HB4.out.size; omega)))
  have hr := (hr.below hb5).more s5
  have hr' := (hr'.below hb5).more s5
  have hr'' := (hr''.below hb5).more s5
  have hrp := (hrp.below hb5).more s5
  have HX := Lib.hid (blk_below HX.out hb5 (blk_lt HX.out))
  have HY := Lib.hid (blk_below HY.out hb5 (blk_lt HY.out))
  have HL := Lib.hid (blk_below HL.out hb5 (blk_lt HL.out))
  have HM := Lib.hid (blk_below HM.out hb5 (blk_lt HM.out))
  clear hb5
  clear HL HM
  clear rl rm
  have x0 : w5.cell? ⟨w.heap.size, 0, none⟩ = some (.int .i64 Z) := blk_cell HX.out 0
  have x1 : w5.cell? ⟨w.heap.size, 1, none⟩ = some (.slice A L.length c) := blk_cell HX.out 1
  have y0 : w5.cell? ⟨w.heap.size + 1, 0, none⟩ = some (.slice A' s.length c') := blk_cell HY.out 0
  have y1 : w5.cell? ⟨w.heap.size + 1, 1, none⟩ = some (.slice A'' t.length c'') := blk_cell HY.out 1
  go_wp2_with fail
  refine (pLong false Z A L.length c h w5 hm).mono ?_
  rintro e w' ⟨rfl, hb⟩
  obtain ⟨w6, hw6⟩ : ∃ z, z = w' := ⟨_, rfl⟩
  rw [← hw6] at hb ⊢
  clear hw6
  have s6 := hb.size
  have HB6 := Lib.hid (HB5.out.trans (hb.mono (by have := HB5.out.size; omega)))
  have hr := (hr.below hb).more s6
  have hr' := (hr'.below hb).more s6
  have hr'' := (hr''.below hb).more s6
  have hrp := (hrp.below hb).more s6
  have HX := Lib.hid (blk_below HX.out hb (blk_lt HX.out))
  have HY := Lib.hid (blk_below HY.out hb (blk_lt HY.out))
  clear hb
  clear x0 x1 y0 y1
  have x0 : w6.cell? ⟨w.heap.size, 0, none⟩ = some (.int .i64 Z) := blk_cell HX.out 0
  have x1 : w6.cell? ⟨w.heap.size, 1, none⟩ = some (.slice A L.length c) := blk_cell HX.out 1
  have y0 : w6.cell? ⟨w.heap.size + 1, 0, none⟩ = some (.slice A' s.length c') := blk_cell HY.out 0
  have y1 : w6.cell? ⟨w.heap.size + 1, 1, none⟩ = some (.slice A'' t.length c'') := blk_cell HY.out 1
  go_wp2
  go_ret
  exact ⟨rfl, HB6.out⟩

set_option maxRecDepth 100000 in
set_option maxHeartbeats 400000 in
theorem topLong2 (Z : Int) (A : Option Addr) (k c : Nat) (L : List (Int × Int)) (A' : Option Addr) (k' c' : Nat) (s : List Int) (A'' : Option Addr) (k'' c'' : Nat) (t : List Int) (Ap : Option Addr) (kp cp : Nat) (p : List (Int × Int)) (w : World) (hk : k ≤ c) (hc : c ≤ maxLen) (hr : Rd w w.heap.size 2 A k (prs L)) (hk' : k' ≤ c') (hc' : c' ≤ maxLen) (hr' : Rd w w.heap.size 1 A' k' (ints s)) (hk'' : k'' ≤ c'') (hc'' : c'' ≤ maxLen) (hr'' : Rd w w.heap.size 1 A'' k'' (ints t)) (hkp : kp ≤ cp) (hcp : cp ≤ maxLen) (hrp : Rd w w.heap.size 2 Ap kp (prs p)) (h : decide (60 < L.length) = false) (h1 : decide (40 < s.length) = false) (h2 : decide (40 < t.length) = true) :
    Calls Try.prog 3 #[.agg #[.int .i64 Z, .slice A k c], .agg #[.slice A' k' c', .slice A'' k'' c''], .slice Ap kp cp] w fun e w' => e = .returned (.bool true) ∧ Below w.heap.size w w' := by
  have hm : k ≤ maxLen := Nat.le_trans hk hc
  have hm' : k' ≤ maxLen := Nat.le_trans hk' hc'
  have hm'' : k'' ≤ maxLen := Nat.le_trans hk'' hc''
  have hmp : kp ≤ maxLen := Nat.le_trans hkp hcp
  obtain rfl := hr.pr_len
  obtain rfl := hr'.int_len
  obtain rfl := hr''.int_len
  obtain rfl := hrp.pr_len
  have e1 : decide (40 < (s.length : Int)) = false := by rw [← h1]; exact decide_eq_decide.2 (by omega)
  have e2 : decide (40 < (t.length : Int)) = true := by rw [← h2]; exact decide_eq_decide.2 (by omega)
  have s1 : (w.alloc (.cells #[.int .i64 Z, .slice A L.length c] 24)).heap.size = w.heap.size + 1 := by simp
  have hr := (hr.alloc (Nat.le_refl _) (.cells #[.int .i64 Z, .slice A L.length c] 24)).more (B' := (w.alloc (.cells #[.int .i64 Z, .slice A L.length c] 24)).heap.size) (by omega)
  have hr' := (hr'.alloc (Nat.le_refl _) (.cells #[.int .i64 Z, .slice A L.length c] 24)).more (B' := (w.alloc (.cells #[.int .i64 Z, .slice A L.length c] 24)).heap.size) (by omega)
  have hr'' := (hr''.alloc (Nat.le_refl _) (.cells #[.int .i64 Z, .slice A L.length c] 24)).more (B' := (w.alloc (.cells #[.int .i64 Z, .slice A L.length c] 24)).heap.size) (by omega)
  have hrp := (hrp.alloc (Nat.le_refl _) (.cells #[.int .i64 Z, .slice A L.length c] 24)).more (B' := (w.alloc (.cells #[.int .i64 Z, .slice A L.length c] 24)).heap.size) (by omega)
  have HX := Lib.hid (blk_new w 24 #[.int .i64 Z, .slice A L.length c])
  have HB1 := Lib.hid ((Below.refl w.heap.size w).alloc (Nat.le_refl _) (.cells #[.int .i64 Z, .slice A L.length c] 24))
  have s2 : ((w.alloc (.cells #[.int .i64 Z, .slice A L.length c] 24)).alloc (.cells #[.slice A' s.length c', .slice A'' t.length c''] 27)).heap.size = (w.alloc (.cells #[.int .i64 Z, .slice A L.length c] 24)).heap.size + 1 := by simp
  have hr := (hr.alloc (Nat.le_refl _) (.cells #[.slice A' s.length c', .slice A'' t.length c''] 27)).more (B' := ((w.alloc (.cells #[.int .i64 Z, .slice A L.length c] 24)).alloc (.cells #[.slice A' s.length c', .slice A'' t.length c''] 27)).heap.size) (by omega)
  have hr' := (hr'.alloc (Nat.le_refl _) (.cells #[.slice A' s.length c', .slice A'' t.length c''] 27)).more (B' := ((w.alloc (.cells #[.int .i64 Z, .slice A L.length c] 24)).alloc (.cells #[.slice A' s.length c', .slice A'' t.length c''] 27)).heap.size) (by omega)
  have hr'' := (hr''.alloc (Nat.le_refl _) (.cells #[.slice A' s.length c', .slice A'' t.length c''] 27)).more (B' := ((w.alloc (.cells #[.int .i64 Z, .slice A L.length c] 24)).alloc (.cells #[.slice A' s.length c', .slice A'' t.length c''] 27)).heap.size) (by omega)
  have hrp := (hrp.alloc (Nat.le_refl _) (.cells #[.slice A' s.length c', .slice A'' t.length c''] 27)).more (B' := ((w.alloc (.cells #[.int .i64 Z, .slice A L.length c] 24)).alloc (.cells #[.slice A' s.length c', .slice A'' t.length c''] 27)).heap.size) (by omega)
  have HX := Lib.hid (blk_alloc HX.out (.cells #[.slice A' s.length c', .slice A'' t.length c''] 27))
  have HY := Lib.hid (blk_new (w.alloc (.cells #[.int .i64 Z, .slice A L.length c] 24)) 27 #[.slice A' s.length c', .slice A'' t.length c''])
  have HB2 := Lib.hid (HB1.out.alloc (HB1.out.size) (.cells #[.slice A' s.length c', .slice A'' t.length c''] 27))
  rw [s1] at HY
  have s3 : (((w.alloc (.cells #[.int .i64 Z, .slice A L.length c] 24)).alloc (.cells #[.slice A' s.length c', .slice A'' t.length c''] 27)).alloc (.cells #[.int .i64 0, .int .i64 1, .int .i64 1, .int .i64 2, .int .i64 2, .int .i64 3, .int .i64 0, .int .i64 3] 33)).heap.size = ((w.alloc (.cells #[.int .i64 Z, .slice A L.length c] 24)).alloc (.cells #[.slice A' s.length c', .slice A'' t.length c''] 27)).heap.size + 1 := by simp
  have hr := (hr.alloc (Nat.le_refl _) (.cells #[.int .i64 0, .int .i64 1, .int .i64 1, .int .i64 2, .int .i64 2, .int .i64 3, .int .i64 0, .int .i64 3] 33)).more (B' := (((w.alloc (.cells #[.int .i64 Z, .slice A L.length c] 24)).alloc (.cells #[.slice A' s.length c', .slice A'' t.length c''] 27)).alloc (.cells #[.int .i64 0, .int .i64 1, .int .i64 1, .int .i64 2, .int .i64 2, .int .i64 3, .int .i64 0, .int .i64 3] 33)).heap.size) (by omega)
  have hr' := (hr'.alloc (Nat.le_refl _) (.cells #[.int .i64 0, .int .i64 1, .int .i64 1, .int .i64 2, .int .i64 2, .int .i64 3, .int .i64 0, .int .i64 3] 33)).more (B' := (((w.alloc (.cells #[.int .i64 Z, .slice A L.length c] 24)).alloc (.cells #[.slice A' s.length c', .slice A'' t.length c''] 27)).alloc (.cells #[.int .i64 0, .int .i64 1, .int .i64 1, .int .i64 2, .int .i64 2, .int .i64 3, .int .i64 0, .int .i64 3] 33)).heap.size) (by omega)
  have hr'' := (hr''.alloc (Nat.le_refl _) (.cells #[.int .i64 0, .int .i64 1, .int .i64 1, .int .i64 2, .int .i64 2, .int .i64 3, .int .i64 0, .int .i64 3] 33)).more (B' := (((w.alloc (.cells #[.int .i64 Z, .slice A L.length c] 24)).alloc (.cells #[.slice A' s.length c', .slice A'' t.length c''] 27)).alloc (.cells #[.int .i64 0, .int .i64 1, .int .i64 1, .int .i64 2, .int .i64 2, .int .i64 3, .int .i64 0, .int .i64 3] 33)).heap.size) (by omega)
  have hrp := (hrp.alloc (Nat.le_refl _) (.cells #[.int .i64 0, .int .i64 1, .int .i64 1, .int .i64 2, .int .i64 2, .int .i64 3, .int .i64 0, .int .i64 3] 33)).more (B' := (((w.alloc (.cells #[.int .i64 Z, .slice A L.length c] 24)).alloc (.cells #[.slice A' s.length c', .slice A'' t.length c''] 27)).alloc (.cells #[.int .i64 0, .int .i64 1, .int .i64 1, .int .i64 2, .int .i64 2, .int .i64 3, .int .i64 0, .int .i64 3] 33)).heap.size) (by omega)
  have HX := Lib.hid (blk_alloc HX.out (.cells #[.int .i64 0, .int .i64 1, .int .i64 1, .int .i64 2, .int .i64 2, .int .i64 3, .int .i64 0, .int .i64 3] 33))
  have HY := Lib.hid (blk_alloc HY.out (.cells #[.int .i64 0, .int .i64 1, .int .i64 1, .int .i64 2, .int .i64 2, .int .i64 3, .int .i64 0, .int .i64 3] 33))
  have HL := Lib.hid (blk_new ((w.alloc (.cells #[.int .i64 Z, .slice A L.length c] 24)).alloc (.cells #[.slice A' s.length c', .slice A'' t.length c''] 27)) 33 #[.int .i64 0, .int .i64 1, .int .i64 1, .int .i64 2, .int .i64 2, .int .i64 3, .int .i64 0, .int .i64 3])
  have HB3 := Lib.hid (HB2.out.alloc (HB2.out.size) (.cells #[.int .i64 0, .int .i64 1, .int .i64 1, .int .i64 2, .int .i64 2, .int .i64 3, .int .i64 0, .int .i64 3] 33))
  rw [s2, s1] at HL
  have s4 : ((((w.alloc (.cells #[.int .i64 Z, .slice A L.length c] 24)).alloc (.cells #[.slice A' s.length c', .slice A'' t.length c''] 27)).alloc (.cells #[.int .i64 0, .int .i64 1, .int .i64 1, .int .i64 2, .int .i64 2, .int .i64 3, .int .i64 0, .int .i64 3] 33)).alloc (.cells #[.int .i64 0, .int .i64 2] 3)).heap.size = (((w.alloc (.cells #[.int .i64 Z, .slice A L.length c] 24)).alloc (.cells #[.slice A' s.length c', .slice A'' t.length c''] 27)).alloc (.cells #[.int .i64 0, .int .i64 1, .int .i64 1, .int .i64 2, .int .i64 2, .int .i64 3, .int .i64 0, .int .i64 3] 33)).heap.size + 1 := by simp
  have hr := (hr.alloc (Nat.le_refl _) (.cells #[.int .i64 0, .int .i64 2] 3)).more (B' := ((((w.alloc (.cells #[.int .i64 Z, .slice A L.length c] 24)).alloc (.cells #[.slice A' s.length c', .slice A'' t.length c''] 27)).alloc (.cells #[.int .i64 0, .int .i64 1, .int .i64 1, .int .i64 2, .int .i64 2, .int .i64 3, .int .i64 0, .int .i64 3] 33)).alloc (.cells #[.int .i64 0, .int .i64 2] 3)).heap.size) (by omega)
  have hr' := (hr'.alloc (Nat.le_refl _) (.cells #[.int .i64 0, .int .i64 2] 3)).more (B' := ((((w.alloc (.cells #[.int .i64 Z, .slice A L.length c] 24)).alloc (.cells #[.slice A' s.length c', .slice A'' t.length c''] 27)).alloc (.cells #[.int .i64 0, .int .i64 1, .int .i64 1, .int .i64 2, .int .i64 2, .int .i64 3, .int .i64 0, .int .i64 3] 33)).alloc (.cells #[.int .i64 0, .int .i64 2] 3)).heap.size) (by omega)
  have hr'' := (hr''.alloc (Nat.le_refl _) (.cells #[.int .i64 0, .int .i64 2] 3)).more (B' := ((((w.alloc (.cells #[.int .i64 Z, .slice A L.length c] 24)).alloc (.cells #[.slice A' s.length c', .slice A'' t.length c''] 27)).alloc (.cells #[.int .i64 0, .int .i64 1, .int .i64 1, .int .i64 2, .int .i64 2, .int .i64 3, .int .i64 0, .int .i64 3] 33)).alloc (.cells #[.int .i64 0, .int .i64 2] 3)).heap.size) (by omega)
  have hrp := (hrp.alloc (Nat.le_refl _) (.cells #[.int .i64 0, .int .i64 2] 3)).more (B' := ((((w.alloc (.cells #[.int .i64 Z, .slice A L.length c] 24)).alloc (.cells #[.slice A' s.length c', .slice A'' t.length c''] 27)).alloc (.cells #[.int .i64 0, .int .i64 1, .int .i64 1, .int .i64 2, .int .i64 2, .int .i64 3, .int .i64 0, .int .i64 3] 33)).alloc (.cells #[.int .i64 0, .int .i64 2] 3)).heap.size) (by omega)
  have HX := Lib.hid (blk_alloc HX.out (.cells #[.int .i64 0, .int .i64 2] 3))
  have HY := Lib.hid (blk_alloc HY.out (.cells #[.int .i64 0, .int .i64 2] 3))
  have HL := Lib.hid (blk_alloc HL.out (.cells #[.int .i64 0, .int .i64 2] 3))
  have HM := Lib.hid (blk_new (((w.alloc (.cells #[.int .i64 Z, .slice A L.length c] 24)).alloc (.cells #[.slice A' s.length c', .slice A'' t.length c''] 27)).alloc (.cells #[.int .i64 0, .int .i64 1, .int .i64 1, .int .i64 2, .int .i64 2, .int .i64 3, .int .i64 0, .int .i64 3] 33)) 3 #[.int .i64 0, .int .i64 2])
  have HB4 := Lib.hid (HB3.out.alloc (HB3.out.size) (.cells #[.int .i64 0, .int .i64 2] 3))
  rw [s3, s2, s1] at HM
  have rl : Rd ((((w.alloc (.cells #[.int .i64 Z, .slice A L.length c] 24)).alloc (.cells #[.slice A' s.length c', .slice A'' t.length c''] 27)).alloc (.cells #[.int .i64 0, .int .i64 1, .int .i64 1, .int .i64 2, .int .i64 2, .int .i64 3, .int .i64 0, .int .i64 3] 33)).alloc (.cells #[.int .i64 0, .int .i64 2] 3)) ((((w.alloc (.cells #[.int .i64 Z, .slice A L.length c] 24)).alloc (.cells #[.slice A' s.length c', .slice A'' t.length c''] 27)).alloc (.cells #[.int .i64 0, .int .i64 1, .int .i64 1, .int .i64 2, .int .i64 2, .int .i64 3, .int .i64 0, .int .i64 3] 33)).alloc (.cells #[.int .i64 0, .int .i64 2] 3)).heap.size 2 (some ⟨w.heap.size + 1 + 1, 0, none⟩) 4 (prs [(0, 1), (1, 2), (2, 3), (0, 3)]) := (rd_lit HL.out rfl).more (by simp)
  have rm : Rd ((((w.alloc (.cells #[.int .i64 Z, .slice A L.length c] 24)).alloc (.cells #[.slice A' s.length c', .slice A'' t.length c''] 27)).alloc (.cells #[.int .i64 0, .int .i64 1, .int .i64 1, .int .i64 2, .int .i64 2, .int .i64 3, .int .i64 0, .int .i64 3] 33)).alloc (.cells #[.int .i64 0, .int .i64 2] 3)) ((((w.alloc (.cells #[.int .i64 Z, .slice A L.length c] 24)).alloc (.cells #[.slice A' s.length c', .slice A'' t.length c''] 27)).alloc (.cells #[.int .i64 0, .int .i64 1, .int .i64 1, .int .i64 2, .int .i64 2, .int .i64 3, .int .i64 0, .int .i64 3] 33)).alloc (.cells #[.int .i64 0, .int .i64 2] 3)).heap.size 1 (some ⟨w.heap.size + 1 + 1 + 1, 0, none⟩) 2 (ints [0, 2]) := (rd_lit HM.out rfl).more (by simp)
  go_enter Try.func3, Try.ntmps3
  go_wp2_with fail
  refine (pReach 4 _ _ 4 4 2 2 [(0, 1), (1, 2), (2, 3), (0, 3)] [0, 2] ((((w.alloc (.cells #[.int .i64 Z, .slice A L.length c] 24)).alloc (.cells #[.slice A' s.length c', .slice A'' t.length c''] 27)).alloc (.cells #[.int .i64 0, .int .i64 1, .int .i64 1, .int .i64 2, .int .i64 2, .int .i64 3, .int .i64 0, .int .i64 3] 33)).alloc (.cells #[.int .i64 0, .int .i64 2] 3)) (by simp) (by omega) (by simp) (by omega) ((((w.alloc (.cells #[.int .i64 Z, .slice A L.length c] 24)).alloc (.cells #[.slice A' s.length c', .slice A'' t.length c''] 27)).alloc (.cells #[.int .i64 0, .int .i64 1, .int .i64 1, .int .i64 2, .int .i64 2, .int .i64 3, .int .i64 0, .int .i64 3] 33)).alloc (.cells #[.int .i64 0, .int .i64 2] 3)).heap.size (Nat.le_refl _) rl rm).mono ?_
  rw [reach_known, place_known]
  rintro e w5 ⟨rfl, hb5⟩
  have s5 := hb5.size
  have HB5 := Lib.hid (HB4.out.trans (hb5.mono (by have := HB4.out.size; omega)))
  have hr := (hr.below hb5).more s5
  have hr' := (hr'.below hb5).more s5
  have hr'' := (hr''.below hb5).more s5
  have hrp := (hrp.below hb5).more s5
  have HX := Lib.hid (blk_below HX.out hb5 (blk_lt HX.out))
  have HY := Lib.hid (blk_below HY.out hb5 (blk_lt HY.out))
  have HL := Lib.hid (blk_below HL.out hb5 (blk_lt HL.out))
  have HM := Lib.hid (blk_below HM.out hb5 (blk_lt HM.out))
  clear hb5
  clear HL HM
  clear rl rm
  have x0 : w5.cell? ⟨w.heap.size, 0, none⟩ = some (.int .i64 Z) := blk_cell HX.out 0
  have x1 : w5.cell? ⟨w.heap.size, 1, none⟩ = some (.slice A L.length c) := blk_cell HX.out 1
  have y0 : w5.cell? ⟨w.heap.size + 1, 0, none⟩ = some (.slice A' s.length c') := blk_cell HY.out 0
  have y1 : w5.cell? ⟨w.heap.size + 1, 1, none⟩ = some (.slice A'' t.length c'') := blk_cell HY.out 1
  go_wp2_with fail
  refine (pLong false Z A L.length c h w5 hm).mono ?_
  rintro e w' ⟨rfl, hb⟩
  obtain ⟨w6, hw6⟩ : ∃ z, z = w' := ⟨_, rfl⟩
  rw [← hw6] at hb ⊢
  clear hw6
  have s6 := hb.size
  have HB6 := Lib.hid (HB5.out.trans (hb.mono (by have := HB5.out.size; omega)))
  have hr := (hr.below hb).more s6
  have hr' := (hr'.below hb).more s6
  have hr'' := (hr''.below hb).more s6
  have hrp := (hrp.below hb).more s6
  have HX := Lib.hid (blk_below HX.out hb (blk_lt HX.out))
  have HY := Lib.hid (blk_below HY.out hb (blk_lt HY.out))
  clear hb
  clear x0 x1 y0 y1
  have x0 : w6.cell? ⟨w.heap.size, 0, none⟩ = some (.int .i64 Z) := blk_cell HX.out 0
  have x1 : w6.cell? ⟨w.heap.size, 1, none⟩ = some (.slice A L.length c) := blk_cell HX.out 1
  have y0 : w6.cell? ⟨w.heap.size + 1, 0, none⟩ = some (.slice A' s.length c') := blk_cell HY.out 0
  have y1 : w6.cell? ⟨w.heap.size + 1, 1, none⟩ = some (.slice A'' t.length c'') := blk_cell HY.out 1
  go_wp2
  go_ret
  exact ⟨rfl, HB6.out⟩

set_option maxRecDepth 100000 in
set_option maxHeartbeats 400000 in
theorem topLong3 (Z : Int) (A : Option Addr) (k c : Nat) (L : List (Int × Int)) (A' : Option Addr) (k' c' : Nat) (s : List Int) (A'' : Option Addr) (k'' c'' : Nat) (t : List Int) (Ap : Option Addr) (kp cp : Nat) (p : List (Int × Int)) (w : World) (hk : k ≤ c) (hc : c ≤ maxLen) (hr : Rd w w.heap.size 2 A k (prs L)) (hk' : k' ≤ c') (hc' : c' ≤ maxLen) (hr' : Rd w w.heap.size 1 A' k' (ints s)) (hk'' : k'' ≤ c'') (hc'' : c'' ≤ maxLen) (hr'' : Rd w w.heap.size 1 A'' k'' (ints t)) (hkp : kp ≤ cp) (hcp : cp ≤ maxLen) (hrp : Rd w w.heap.size 2 Ap kp (prs p)) (h : decide (60 < L.length) = false) (h1 : decide (40 < s.length) = false) (h2 : decide (40 < t.length) = false) (h3 : decide (1000 < p.length) = true) :
    Calls Try.prog 3 #[.agg #[.int .i64 Z, .slice A k c], .agg #[.slice A' k' c', .slice A'' k'' c''], .slice Ap kp cp] w fun e w' => e = .returned (.bool true) ∧ Below w.heap.size w w' := by
  have hm : k ≤ maxLen := Nat.le_trans hk hc
  have hm' : k' ≤ maxLen := Nat.le_trans hk' hc'
  have hm'' : k'' ≤ maxLen := Nat.le_trans hk'' hc''
  have hmp : kp ≤ maxLen := Nat.le_trans hkp hcp
  obtain rfl := hr.pr_len
  obtain rfl := hr'.int_len
  obtain rfl := hr''.int_len
  obtain rfl := hrp.pr_len
  have e1 : decide (40 < (s.length : Int)) = false := by rw [← h1]; exact decide_eq_decide.2 (by omega)
  have e2 : decide (40 < (t.length : Int)) = false := by rw [← h2]; exact decide_eq_decide.2 (by omega)
  have e3 : decide (1000 < (p.length : Int)) = true := by rw [← h3]; exact decide_eq_decide.2 (by omega)
  have s1 : (w.alloc (.cells #[.int .i64 Z, .slice A L.length c] 24)).heap.size = w.heap.size + 1 := by simp
  have hr := (hr.alloc (Nat.le_refl _) (.cells #[.int .i64 Z, .slice A L.length c] 24)).more (B' := (w.alloc (.cells #[.int .i64 Z, .slice A L.length c] 24)).heap.size) (by omega)
  have hr' := (hr'.alloc (Nat.le_refl _) (.cells #[.int .i64 Z, .slice A L.length c] 24)).more (B' := (w.alloc (.cells #[.int .i64 Z, .slice A L.length c] 24)).heap.size) (by omega)
  have hr'' := (hr''.alloc (Nat.le_refl _) (.cells #[.int .i64 Z, .slice A L.length c] 24)).more (B' := (w.alloc (.cells #[.int .i64 Z, .slice A L.length c] 24)).heap.size) (by omega)
  have hrp := (hrp.alloc (Nat.le_refl _) (.cells #[.int .i64 Z, .slice A L.length c] 24)).more (B' := (w.alloc (.cells #[.int .i64 Z, .slice A L.length c] 24)).heap.size) (by omega)
  have HX := Lib.hid (blk_new w 24 #[.int .i64 Z, .slice A L.length c])
  have HB1 := Lib.hid ((Below.refl w.heap.size w).alloc (Nat.le_refl _) (.cells #[.int .i64 Z, .slice A L.length c] 24))
  have s2 : ((w.alloc (.cells #[.int .i64 Z, .slice A L.length c] 24)).alloc (.cells #[.slice A' s.length c', .slice A'' t.length c''] 27)).heap.size = (w.alloc (.cells #[.int .i64 Z, .slice A L.length c] 24)).heap.size + 1 := by simp
  have hr := (hr.alloc (Nat.le_refl _) (.cells #[.slice A' s.length c', .slice A'' t.length c''] 27)).more (B' := ((w.alloc (.cells #[.int .i64 Z, .slice A L.length c] 24)).alloc (.cells #[.slice A' s.length c', .slice A'' t.length c''] 27)).heap.size) (by omega)
  have hr' := (hr'.alloc (Nat.le_refl _) (.cells #[.slice A' s.length c', .slice A'' t.length c''] 27)).more (B' := ((w.alloc (.cells #[.int .i64 Z, .slice A L.length c] 24)).alloc (.cells #[.slice A' s.length c', .slice A'' t.length c''] 27)).heap.size) (by omega)
  have hr'' := (hr''.alloc (Nat.le_refl _) (.cells #[.slice A' s.length c', .slice A'' t.length c''] 27)).more (B' := ((w.alloc (.cells #[.int .i64 Z, .slice A L.length c] 24)).alloc (.cells #[.slice A' s.length c', .slice A'' t.length c''] 27)).heap.size) (by omega)
  have hrp := (hrp.alloc (Nat.le_refl _) (.cells #[.slice A' s.length c', .slice A'' t.length c''] 27)).more (B' := ((w.alloc (.cells #[.int .i64 Z, .slice A L.length c] 24)).alloc (.cells #[.slice A' s.length c', .slice A'' t.length c''] 27)).heap.size) (by omega)
  have HX := Lib.hid (blk_alloc HX.out (.cells #[.slice A' s.length c', .slice A'' t.length c''] 27))
  have HY := Lib.hid (blk_new (w.alloc (.cells #[.int .i64 Z, .slice A L.length c] 24)) 27 #[.slice A' s.length c', .slice A'' t.length c''])
  have HB2 := Lib.hid (HB1.out.alloc (HB1.out.size) (.cells #[.slice A' s.length c', .slice A'' t.length c''] 27))
  rw [s1] at HY
  have s3 : (((w.alloc (.cells #[.int .i64 Z, .slice A L.length c] 24)).alloc (.cells #[.slice A' s.length c', .slice A'' t.length c''] 27)).alloc (.cells #[.int .i64 0, .int .i64 1, .int .i64 1, .int .i64 2, .int .i64 2, .int .i64 3, .int .i64 0, .int .i64 3] 33)).heap.size = ((w.alloc (.cells #[.int .i64 Z, .slice A L.length c] 24)).alloc (.cells #[.slice A' s.length c', .slice A'' t.length c''] 27)).heap.size + 1 := by simp
  have hr := (hr.alloc (Nat.le_refl _) (.cells #[.int .i64 0, .int .i64 1, .int .i64 1, .int .i64 2, .int .i64 2, .int .i64 3, .int .i64 0, .int .i64 3] 33)).more (B' := (((w.alloc (.cells #[.int .i64 Z, .slice A L.length c] 24)).alloc (.cells #[.slice A' s.length c', .slice A'' t.length c''] 27)).alloc (.cells #[.int .i64 0, .int .i64 1, .int .i64 1, .int .i64 2, .int .i64 2, .int .i64 3, .int .i64 0, .int .i64 3] 33)).heap.size) (by omega)
  have hr' := (hr'.alloc (Nat.le_refl _) (.cells #[.int .i64 0, .int .i64 1, .int .i64 1, .int .i64 2, .int .i64 2, .int .i64 3, .int .i64 0, .int .i64 3] 33)).more (B' := (((w.alloc (.cells #[.int .i64 Z, .slice A L.length c] 24)).alloc (.cells #[.slice A' s.length c', .slice A'' t.length c''] 27)).alloc (.cells #[.int .i64 0, .int .i64 1, .int .i64 1, .int .i64 2, .int .i64 2, .int .i64 3, .int .i64 0, .int .i64 3] 33)).heap.size) (by omega)
  have hr'' := (hr''.alloc (Nat.le_refl _) (.cells #[.int .i64 0, .int .i64 1, .int .i64 1, .int .i64 2, .int .i64 2, .int .i64 3, .int .i64 0, .int .i64 3] 33)).more (B' := (((w.alloc (.cells #[.int .i64 Z, .slice A L.length c] 24)).alloc (.cells #[.slice A' s.length c', .slice A'' t.length c''] 27)).alloc (.cells #[.int .i64 0, .int .i64 1, .int .i64 1, .int .i64 2, .int .i64 2, .int .i64 3, .int .i64 0, .int .i64 3] 33)).heap.size) (by omega)
  have hrp := (hrp.alloc (Nat.le_refl _) (.cells #[.int .i64 0, .int .i64 1, .int .i64 1, .int .i64 2, .int .i64 2, .int .i64 3, .int .i64 0, .int .i64 3] 33)).more (B' := (((w.alloc (.cells #[.int .i64 Z, .slice A L.length c] 24)).alloc (.cells #[.slice A' s.length c', .slice A'' t.length c''] 27)).alloc (.cells #[.int .i64 0, .int .i64 1, .int .i64 1, .int .i64 2, .int .i64 2, .int .i64 3, .int .i64 0, .int .i64 3] 33)).heap.size) (by omega)
  have HX := Lib.hid (blk_alloc HX.out (.cells #[.int .i64 0, .int .i64 1, .int .i64 1, .int .i64 2, .int .i64 2, .int .i64 3, .int .i64 0, .int .i64 3] 33))
  have HY := Lib.hid (blk_alloc HY.out (.cells #[.int .i64 0, .int .i64 1, .int .i64 1, .int .i64 2, .int .i64 2, .int .i64 3, .int .i64 0, .int .i64 3] 33))
  have HL := Lib.hid (blk_new ((w.alloc (.cells #[.int .i64 Z, .slice A L.length c] 24)).alloc (.cells #[.slice A' s.length c', .slice A'' t.length c''] 27)) 33 #[.int .i64 0, .int .i64 1, .int .i64 1, .int .i64 2, .int .i64 2, .int .i64 3, .int .i64 0, .int .i64 3])
  have HB3 := Lib.hid (HB2.out.alloc (HB2.out.size) (.cells #[.int .i64 0, .int .i64 1, .int .i64 1, .int .i64 2, .int .i64 2, .int .i64 3, .int .i64 0, .int .i64 3] 33))
  rw [s2, s1] at HL
  have s4 : ((((w.alloc (.cells #[.int .i64 Z, .slice A L.length c] 24)).alloc (.cells #[.slice A' s.length c', .slice A'' t.length c''] 27)).alloc (.cells #[.int .i64 0, .int .i64 1, .int .i64 1, .int .i64 2, .int .i64 2, .int .i64 3, .int .i64 0, .int .i64 3] 33)).alloc (.cells #[.int .i64 0, .int .i64 2] 3)).heap.size = (((w.alloc (.cells #[.int .i64 Z, .slice A L.length c] 24)).alloc (.cells #[.slice A' s.length c', .slice A'' t.length c''] 27)).alloc (.cells #[.int .i64 0, .int .i64 1, .int .i64 1, .int .i64 2, .int .i64 2, .int .i64 3, .int .i64 0, .int .i64 3] 33)).heap.size + 1 := by simp
  have hr := (hr.alloc (Nat.le_refl _) (.cells #[.int .i64 0, .int .i64 2] 3)).more (B' := ((((w.alloc (.cells #[.int .i64 Z, .slice A L.length c] 24)).alloc (.cells #[.slice A' s.length c', .slice A'' t.length c''] 27)).alloc (.cells #[.int .i64 0, .int .i64 1, .int .i64 1, .int .i64 2, .int .i64 2, .int .i64 3, .int .i64 0, .int .i64 3] 33)).alloc (.cells #[.int .i64 0, .int .i64 2] 3)).heap.size) (by omega)
  have hr' := (hr'.alloc (Nat.le_refl _) (.cells #[.int .i64 0, .int .i64 2] 3)).more (B' := ((((w.alloc (.cells #[.int .i64 Z, .slice A L.length c] 24)).alloc (.cells #[.slice A' s.length c', .slice A'' t.length c''] 27)).alloc (.cells #[.int .i64 0, .int .i64 1, .int .i64 1, .int .i64 2, .int .i64 2, .int .i64 3, .int .i64 0, .int .i64 3] 33)).alloc (.cells #[.int .i64 0, .int .i64 2] 3)).heap.size) (by omega)
  have hr'' := (hr''.alloc (Nat.le_refl _) (.cells #[.int .i64 0, .int .i64 2] 3)).more (B' := ((((w.alloc (.cells #[.int .i64 Z, .slice A L.length c] 24)).alloc (.cells #[.slice A' s.length c', .slice A'' t.length c''] 27)).alloc (.cells #[.int .i64 0, .int .i64 1, .int .i64 1, .int .i64 2, .int .i64 2, .int .i64 3, .int .i64 0, .int .i64 3] 33)).alloc (.cells #[.int .i64 0, .int .i64 2] 3)).heap.size) (by omega)
  have hrp := (hrp.alloc (Nat.le_refl _) (.cells #[.int .i64 0, .int .i64 2] 3)).more (B' := ((((w.alloc (.cells #[.int .i64 Z, .slice A L.length c] 24)).alloc (.cells #[.slice A' s.length c', .slice A'' t.length c''] 27)).alloc (.cells #[.int .i64 0, .int .i64 1, .int .i64 1, .int .i64 2, .int .i64 2, .int .i64 3, .int .i64 0, .int .i64 3] 33)).alloc (.cells #[.int .i64 0, .int .i64 2] 3)).heap.size) (by omega)
  have HX := Lib.hid (blk_alloc HX.out (.cells #[.int .i64 0, .int .i64 2] 3))
  have HY := Lib.hid (blk_alloc HY.out (.cells #[.int .i64 0, .int .i64 2] 3))
  have HL := Lib.hid (blk_alloc HL.out (.cells #[.int .i64 0, .int .i64 2] 3))
  have HM := Lib.hid (blk_new (((w.alloc (.cells #[.int .i64 Z, .slice A L.length c] 24)).alloc (.cells #[.slice A' s.length c', .slice A'' t.length c''] 27)).alloc (.cells #[.int .i64 0, .int .i64 1, .int .i64 1, .int .i64 2, .int .i64 2, .int .i64 3, .int .i64 0, .int .i64 3] 33)) 3 #[.int .i64 0, .int .i64 2])
  have HB4 := Lib.hid (HB3.out.alloc (HB3.out.size) (.cells #[.int .i64 0, .int .i64 2] 3))
  rw [s3, s2, s1] at HM
  have rl : Rd ((((w.alloc (.cells #[.int .i64 Z, .slice A L.length c] 24)).alloc (.cells #[.slice A' s.length c', .slice A'' t.length c''] 27)).alloc (.cells #[.int .i64 0, .int .i64 1, .int .i64 1, .int .i64 2, .int .i64 2, .int .i64 3, .int .i64 0, .int .i64 3] 33)).alloc (.cells #[.int .i64 0, .int .i64 2] 3)) ((((w.alloc (.cells #[.int .i64 Z, .slice A L.length c] 24)).alloc (.cells #[.slice A' s.length c', .slice A'' t.length c''] 27)).alloc (.cells #[.int .i64 0, .int .i64 1, .int .i64 1, .int .i64 2, .int .i64 2, .int .i64 3, .int .i64 0, .int .i64 3] 33)).alloc (.cells #[.int .i64 0, .int .i64 2] 3)).heap.size 2 (some ⟨w.heap.size + 1 + 1, 0, none⟩) 4 (prs [(0, 1), (1, 2), (2, 3), (0, 3)]) := (rd_lit HL.out rfl).more (by simp)
  have rm : Rd ((((w.alloc (.cells #[.int .i64 Z, .slice A L.length c] 24)).alloc (.cells #[.slice A' s.length c', .slice A'' t.length c''] 27)).alloc (.cells #[.int .i64 0, .int .i64 1, .int .i64 1, .int .i64 2, .int .i64 2, .int .i64 3, .int .i64 0, .int .i64 3] 33)).alloc (.cells #[.int .i64 0, .int .i64 2] 3)) ((((w.alloc (.cells #[.int .i64 Z, .slice A L.length c] 24)).alloc (.cells #[.slice A' s.length c', .slice A'' t.length c''] 27)).alloc (.cells #[.int .i64 0, .int .i64 1, .int .i64 1, .int .i64 2, .int .i64 2, .int .i64 3, .int .i64 0, .int .i64 3] 33)).alloc (.cells #[.int .i64 0, .int .i64 2] 3)).heap.size 1 (some ⟨w.heap.size + 1 + 1 + 1, 0, none⟩) 2 (ints [0, 2]) := (rd_lit HM.out rfl).more (by simp)
  go_enter Try.func3, Try.ntmps3
  go_wp2_with fail
  refine (pReach 4 _ _ 4 4 2 2 [(0, 1), (1, 2), (2, 3), (0, 3)] [0, 2] ((((w.alloc (.cells #[.int .i64 Z, .slice A L.length c] 24)).alloc (.cells #[.slice A' s.length c', .slice A'' t.length c''] 27)).alloc (.cells #[.int .i64 0, .int .i64 1, .int .i64 1, .int .i64 2, .int .i64 2, .int .i64 3, .int .i64 0, .int .i64 3] 33)).alloc (.cells #[.int .i64 0, .int .i64 2] 3)) (by simp) (by omega) (by simp) (by omega) ((((w.alloc (.cells #[.int .i64 Z, .slice A L.length c] 24)).alloc (.cells #[.slice A' s.length c', .slice A'' t.length c''] 27)).alloc (.cells #[.int .i64 0, .int .i64 1, .int .i64 1, .int .i64 2, .int .i64 2, .int .i64 3, .int .i64 0, .int .i64 3] 33)).alloc (.cells #[.int .i64 0, .int .i64 2] 3)).heap.size (Nat.le_refl _) rl rm).mono ?_
  rw [reach_known, place_known]
  rintro e w5 ⟨rfl, hb5⟩
  have s5 := hb5.size
  have HB5 := Lib.hid (HB4.out.trans (hb5.mono (by have := HB4.out.size; omega)))
  have hr := (hr.below hb5).more s5
  have hr' := (hr'.below hb5).more s5
  have hr'' := (hr''.below hb5).more s5
  have hrp := (hrp.below hb5).more s5
  have HX := Lib.hid (blk_below HX.out hb5 (blk_lt HX.out))
  have HY := Lib.hid (blk_below HY.out hb5 (blk_lt HY.out))
  have HL := Lib.hid (blk_below HL.out hb5 (blk_lt HL.out))
  have HM := Lib.hid (blk_below HM.out hb5 (blk_lt HM.out))
  clear hb5
  clear HL HM
  clear rl rm
  have x0 : w5.cell? ⟨w.heap.size, 0, none⟩ = some (.int .i64 Z) := blk_cell HX.out 0
  have x1 : w5.cell? ⟨w.heap.size, 1, none⟩ = some (.slice A L.length c) := blk_cell HX.out 1
  have y0 : w5.cell? ⟨w.heap.size + 1, 0, none⟩ = some (.slice A' s.length c') := blk_cell HY.out 0
  have y1 : w5.cell? ⟨w.heap.size + 1, 1, none⟩ = some (.slice A'' t.length c'') := blk_cell HY.out 1
  go_wp2_with fail
  refine (pLong false Z A L.length c h w5 hm).mono ?_
  rintro e w' ⟨rfl, hb⟩
  obtain ⟨w6, hw6⟩ : ∃ z, z = w' := ⟨_, rfl⟩
  rw [← hw6] at hb ⊢
  clear hw6
  have s6 := hb.size
  have HB6 := Lib.hid (HB5.out.trans (hb.mono (by have := HB5.out.size; omega)))
  have hr := (hr.below hb).more s6
  have hr' := (hr'.below hb).more s6
  have hr'' := (hr''.below hb).more s6
  have hrp := (hrp.below hb).more s6
  have HX := Lib.hid (blk_below HX.out hb (blk_lt HX.out))
  have HY := Lib.hid (blk_below HY.out hb (blk_lt HY.out))
  clear hb
  clear x0 x1 y0 y1
  have x0 : w6.cell? ⟨w.heap.size, 0, none⟩ = some (.int .i64 Z) := blk_cell HX.out 0
  have x1 : w6.cell? ⟨w.heap.size, 1, none⟩ = some (.slice A L.length c) := blk_cell HX.out 1
  have y0 : w6.cell? ⟨w.heap.size + 1, 0, none⟩ = some (.slice A' s.length c') := blk_cell HY.out 0
  have y1 : w6.cell? ⟨w.heap.size + 1, 1, none⟩ = some (.slice A'' t.length c'') := blk_cell HY.out 1
  go_wp2
  go_ret
  exact ⟨rfl, HB6.out⟩

set_option maxRecDepth 100000 in
set_option maxHeartbeats 400000 in
theorem topBad (Z : Int) (A : Option Addr) (k c : Nat) (L : List (Int × Int)) (A' : Option Addr) (k' c' : Nat) (s : List Int) (A'' : Option Addr) (k'' c'' : Nat) (t : List Int) (Ap : Option Addr) (kp cp : Nat) (p : List (Int × Int)) (w : World) (hk : k ≤ c) (hc : c ≤ maxLen) (hr : Rd w w.heap.size 2 A k (prs L)) (hk' : k' ≤ c') (hc' : c' ≤ maxLen) (hr' : Rd w w.heap.size 1 A' k' (ints s)) (hk'' : k'' ≤ c'') (hc'' : c'' ≤ maxLen) (hr'' : Rd w w.heap.size 1 A'' k'' (ints t)) (hkp : kp ≤ cp) (hcp : cp ≤ maxLen) (hrp : Rd w w.heap.size 2 Ap kp (prs p)) (h : decide (60 < L.length) = false) (h1 : decide (40 < s.length) = false) (h2 : decide (40 < t.length) = false) (h3 : decide (1000 < p.length) = false) (hv : placeE Z L s ≠ 0) :
    Calls Try.prog 3 #[.agg #[.int .i64 Z, .slice A k c], .agg #[.slice A' k' c', .slice A'' k'' c''], .slice Ap kp cp] w fun e w' => e = .returned (.bool true) ∧ Below w.heap.size w w' := by
  have hm : k ≤ maxLen := Nat.le_trans hk hc
  have hm' : k' ≤ maxLen := Nat.le_trans hk' hc'
  have hm'' : k'' ≤ maxLen := Nat.le_trans hk'' hc''
  have hmp : kp ≤ maxLen := Nat.le_trans hkp hcp
  obtain rfl := hr.pr_len
  obtain rfl := hr'.int_len
  obtain rfl := hr''.int_len
  obtain rfl := hrp.pr_len
  have e1 : decide (40 < (s.length : Int)) = false := by rw [← h1]; exact decide_eq_decide.2 (by omega)
  have e2 : decide (40 < (t.length : Int)) = false := by rw [← h2]; exact decide_eq_decide.2 (by omega)
  have e3 : decide (1000 < (p.length : Int)) = false := by rw [← h3]; exact decide_eq_decide.2 (by omega)
  have hl : L.length ≤ 1000 := by have := of_decide_eq_false h; omega
  have hl1 : s.length ≤ 1000 := by have := of_decide_eq_false h1; omega
  have hl2 : t.length ≤ 1000 := by have := of_decide_eq_false h2; omega
  have hl3 : p.length ≤ 1000 := by have := of_decide_eq_false h3; omega
  have hd : (placeE Z L s != 0) = true := by simpa using hv
  have hfb : reachN Z L s = 0 := by rw [reachN, if_neg hv]
  have s1 : (w.alloc (.cells #[.int .i64 Z, .slice A L.length c] 24)).heap.size = w.heap.size + 1 := by simp
  have hr := (hr.alloc (Nat.le_refl _) (.cells #[.int .i64 Z, .slice A L.length c] 24)).more (B' := (w.alloc (.cells #[.int .i64 Z, .slice A L.length c] 24)).heap.size) (by omega)
  have hr' := (hr'.alloc (Nat.le_refl _) (.cells #[.int .i64 Z, .slice A L.length c] 24)).more (B' := (w.alloc (.cells #[.int .i64 Z, .slice A L.length c] 24)).heap.size) (by omega)
  have hr'' := (hr''.alloc (Nat.le_refl _) (.cells #[.int .i64 Z, .slice A L.length c] 24)).more (B' := (w.alloc (.cells #[.int .i64 Z, .slice A L.length c] 24)).heap.size) (by omega)
  have hrp := (hrp.alloc (Nat.le_refl _) (.cells #[.int .i64 Z, .slice A L.length c] 24)).more (B' := (w.alloc (.cells #[.int .i64 Z, .slice A L.length c] 24)).heap.size) (by omega)
  have HX := Lib.hid (blk_new w 24 #[.int .i64 Z, .slice A L.length c])
  have HB1 := Lib.hid ((Below.refl w.heap.size w).alloc (Nat.le_refl _) (.cells #[.int .i64 Z, .slice A L.length c] 24))
  have s2 : ((w.alloc (.cells #[.int .i64 Z, .slice A L.length c] 24)).alloc (.cells #[.slice A' s.length c', .slice A'' t.length c''] 27)).heap.size = (w.alloc (.cells #[.int .i64 Z, .slice A L.length c] 24)).heap.size + 1 := by simp
  have hr := (hr.alloc (Nat.le_refl _) (.cells #[.slice A' s.length c', .slice A'' t.length c''] 27)).more (B' := ((w.alloc (.cells #[.int .i64 Z, .slice A L.length c] 24)).alloc (.cells #[.slice A' s.length c', .slice A'' t.length c''] 27)).heap.size) (by omega)
  have hr' := (hr'.alloc (Nat.le_refl _) (.cells #[.slice A' s.length c', .slice A'' t.length c''] 27)).more (B' := ((w.alloc (.cells #[.int .i64 Z, .slice A L.length c] 24)).alloc (.cells #[.slice A' s.length c', .slice A'' t.length c''] 27)).heap.size) (by omega)
  have hr'' := (hr''.alloc (Nat.le_refl _) (.cells #[.slice A' s.length c', .slice A'' t.length c''] 27)).more (B' := ((w.alloc (.cells #[.int .i64 Z, .slice A L.length c] 24)).alloc (.cells #[.slice A' s.length c', .slice A'' t.length c''] 27)).heap.size) (by omega)
  have hrp := (hrp.alloc (Nat.le_refl _) (.cells #[.slice A' s.length c', .slice A'' t.length c''] 27)).more (B' := ((w.alloc (.cells #[.int .i64 Z, .slice A L.length c] 24)).alloc (.cells #[.slice A' s.length c', .slice A'' t.length c''] 27)).heap.size) (by omega)
  have HX := Lib.hid (blk_alloc HX.out (.cells #[.slice A' s.length c', .slice A'' t.length c''] 27))
  have HY := Lib.hid (blk_new (w.alloc (.cells #[.int .i64 Z, .slice A L.length c] 24)) 27 #[.slice A' s.length c', .slice A'' t.length c''])
  have HB2 := Lib.hid (HB1.out.alloc (HB1.out.size) (.cells #[.slice A' s.length c', .slice A'' t.length c''] 27))
  rw [s1] at HY
  have s3 : (((w.alloc (.cells #[.int .i64 Z, .slice A L.length c] 24)).alloc (.cells #[.slice A' s.length c', .slice A'' t.length c''] 27)).alloc (.cells #[.int .i64 0, .int .i64 1, .int .i64 1, .int .i64 2, .int .i64 2, .int .i64 3, .int .i64 0, .int .i64 3] 33)).heap.size = ((w.alloc (.cells #[.int .i64 Z, .slice A L.length c] 24)).alloc (.cells #[.slice A' s.length c', .slice A'' t.length c''] 27)).heap.size + 1 := by simp
  have hr := (hr.alloc (Nat.le_refl _) (.cells #[.int .i64 0, .int .i64 1, .int .i64 1, .int .i64 2, .int .i64 2, .int .i64 3, .int .i64 0, .int .i64 3] 33)).more (B' := (((w.alloc (.cells #[.int .i64 Z, .slice A L.length c] 24)).alloc (.cells #[.slice A' s.length c', .slice A'' t.length c''] 27)).alloc (.cells #[.int .i64 0, .int .i64 1, .int .i64 1, .int .i64 2, .int .i64 2, .int .i64 3, .int .i64 0, .int .i64 3] 33)).heap.size) (by omega)
  have hr' := (hr'.alloc (Nat.le_refl _) (.cells #[.int .i64 0, .int .i64 1, .int .i64 1, .int .i64 2, .int .i64 2, .int .i64 3, .int .i64 0, .int .i64 3] 33)).more (B' := (((w.alloc (.cells #[.int .i64 Z, .slice A L.length c] 24)).alloc (.cells #[.slice A' s.length c', .slice A'' t.length c''] 27)).alloc (.cells #[.int .i64 0, .int .i64 1, .int .i64 1, .int .i64 2, .int .i64 2, .int .i64 3, .int .i64 0, .int .i64 3] 33)).heap.size) (by omega)
  have hr'' := (hr''.alloc (Nat.le_refl _) (.cells #[.int .i64 0, .int .i64 1, .int .i64 1, .int .i64 2, .int .i64 2, .int .i64 3, .int .i64 0, .int .i64 3] 33)).more (B' := (((w.alloc (.cells #[.int .i64 Z, .slice A L.length c] 24)).alloc (.cells #[.slice A' s.length c', .slice A'' t.length c''] 27)).alloc (.cells #[.int .i64 0, .int .i64 1, .int .i64 1, .int .i64 2, .int .i64 2, .int .i64 3, .int .i64 0, .int .i64 3] 33)).heap.size) (by omega)
  have hrp := (hrp.alloc (Nat.le_refl _) (.cells #[.int .i64 0, .int .i64 1, .int .i64 1, .int .i64 2, .int .i64 2, .int .i64 3, .int .i64 0, .int .i64 3] 33)).more (B' := (((w.alloc (.cells #[.int .i64 Z, .slice A L.length c] 24)).alloc (.cells #[.slice A' s.length c', .slice A'' t.length c''] 27)).alloc (.cells #[.int .i64 0, .int .i64 1, .int .i64 1, .int .i64 2, .int .i64 2, .int .i64 3, .int .i64 0, .int .i64 3] 33)).heap.size) (by omega)
  have HX := Lib.hid (blk_alloc HX.out (.cells #[.int .i64 0, .int .i64 1, .int .i64 1, .int .i64 2, .int .i64 2, .int .i64 3, .int .i64 0, .int .i64 3] 33))
  have HY := Lib.hid (blk_alloc HY.out (.cells #[.int .i64 0, .int .i64 1, .int .i64 1, .int .i64 2, .int .i64 2, .int .i64 3, .int .i64 0, .int .i64 3] 33))
  have HL := Lib.hid (blk_new ((w.alloc (.cells #[.int .i64 Z, .slice A L.length c] 24)).alloc (.cells #[.slice A' s.length c', .slice A'' t.length c''] 27)) 33 #[.int .i64 0, .int .i64 1, .int .i64 1, .int .i64 2, .int .i64 2, .int .i64 3, .int .i64 0, .int .i64 3])
  have HB3 := Lib.hid (HB2.out.alloc (HB2.out.size) (.cells #[.int .i64 0, .int .i64 1, .int .i64 1, .int .i64 2, .int .i64 2, .int .i64 3, .int .i64 0, .int .i64 3] 33))
  rw [s2, s1] at HL
  have s4 : ((((w.alloc (.cells #[.int .i64 Z, .slice A L.length c] 24)).alloc (.cells #[.slice A' s.length c', .slice A'' t.length c''] 27)).alloc (.cells #[.int .i64 0, .int .i64 1, .int .i64 1, .int .i64 2, .int .i64 2, .int .i64 3, .int .i64 0, .int .i64 3] 33)).alloc (.cells #[.int .i64 0, .int .i64 2] 3)).heap.size = (((w.alloc (.cells #[.int .i64 Z, .slice A L.length c] 24)).alloc (.cells #[.slice A' s.length c', .slice A'' t.length c''] 27)).alloc (.cells #[.int .i64 0, .int .i64 1, .int .i64 1, .int .i64 2, .int .i64 2, .int .i64 3, .int .i64 0, .int .i64 3] 33)).heap.size + 1 := by simp
  have hr := (hr.alloc (Nat.le_refl _) (.cells #[.int .i64 0, .int .i64 2] 3)).more (B' := ((((w.alloc (.cells #[.int .i64 Z, .slice A L.length c] 24)).alloc (.cells #[.slice A' s.length c', .slice A'' t.length c''] 27)).alloc (.cells #[.int .i64 0, .int .i64 1, .int .i64 1, .int .i64 2, .int .i64 2, .int .i64 3, .int .i64 0, .int .i64 3] 33)).alloc (.cells #[.int .i64 0, .int .i64 2] 3)).heap.size) (by omega)
  have hr' := (hr'.alloc (Nat.le_refl _) (.cells #[.int .i64 0, .int .i64 2] 3)).more (B' := ((((w.alloc (.cells #[.int .i64 Z, .slice A L.length c] 24)).alloc (.cells #[.slice A' s.length c', .slice A'' t.length c''] 27)).alloc (.cells #[.int .i64 0, .int .i64 1, .int .i64 1, .int .i64 2, .int .i64 2, .int .i64 3, .int .i64 0, .int .i64 3] 33)).alloc (.cells #[.int .i64 0, .int .i64 2] 3)).heap.size) (by omega)
  have hr'' := (hr''.alloc (Nat.le_refl _) (.cells #[.int .i64 0, .int .i64 2] 3)).more (B' := ((((w.alloc (.cells #[.int .i64 Z, .slice A L.length c] 24)).alloc (.cells #[.slice A' s.length c', .slice A'' t.length c''] 27)).alloc (.cells #[.int .i64 0, .int .i64 1, .int .i64 1, .int .i64 2, .int .i64 2, .int .i64 3, .int .i64 0, .int .i64 3] 33)).alloc (.cells #[.int .i64 0, .int .i64 2] 3)).heap.size) (by omega)
  have hrp := (hrp.alloc (Nat.le_refl _) (.cells #[.int .i64 0, .int .i64 2] 3)).more (B' := ((((w.alloc (.cells #[.int .i64 Z, .slice A L.length c] 24)).alloc (.cells #[.slice A' s.length c', .slice A'' t.length c''] 27)).alloc (.cells #[.int .i64 0, .int .i64 1, .int .i64 1, .int .i64 2, .int .i64 2, .int .i64 3, .int .i64 0, .int .i64 3] 33)).alloc (.cells #[.int .i64 0, .int .i64 2] 3)).heap.size) (by omega)
  have HX := Lib.hid (blk_alloc HX.out (.cells #[.int .i64 0, .int .i64 2] 3))
  have HY := Lib.hid (blk_alloc HY.out (.cells #[.int .i64 0, .int .i64 2] 3))
  have HL := Lib.hid (blk_alloc HL.out (.cells #[.int .i64 0, .int .i64 2] 3))
  have HM := Lib.hid (blk_new (((w.alloc (.cells #[.int .i64 Z, .slice A L.length c] 24)).alloc (.cells #[.slice A' s.length c', .slice A'' t.length c''] 27)).alloc (.cells #[.int .i64 0, .int .i64 1, .int .i64 1, .int .i64 2, .int .i64 2, .int .i64 3, .int .i64 0, .int .i64 3] 33)) 3 #[.int .i64 0, .int .i64 2])
  have HB4 := Lib.hid (HB3.out.alloc (HB3.out.size) (.cells #[.int .i64 0, .int .i64 2] 3))
  rw [s3, s2, s1] at HM
  have rl : Rd ((((w.alloc (.cells #[.int .i64 Z, .slice A L.length c] 24)).alloc (.cells #[.slice A' s.length c', .slice A'' t.length c''] 27)).alloc (.cells #[.int .i64 0, .int .i64 1, .int .i64 1, .int .i64 2, .int .i64 2, .int .i64 3, .int .i64 0, .int .i64 3] 33)).alloc (.cells #[.int .i64 0, .int .i64 2] 3)) ((((w.alloc (.cells #[.int .i64 Z, .slice A L.length c] 24)).alloc (.cells #[.slice A' s.length c', .slice A'' t.length c''] 27)).alloc (.cells #[.int .i64 0, .int .i64 1, .int .i64 1, .int .i64 2, .int .i64 2, .int .i64 3, .int .i64 0, .int .i64 3] 33)).alloc (.cells #[.int .i64 0, .int .i64 2] 3)).heap.size 2 (some ⟨w.heap.size + 1 + 1, 0, none⟩) 4 (prs [(0, 1), (1, 2), (2, 3), (0, 3)]) := (rd_lit HL.out rfl).more (by simp)
  have rm : Rd ((((w.alloc (.cells #[.int .i64 Z, .slice A L.length c] 24)).alloc (.cells #[.slice A' s.length c', .slice A'' t.length c''] 27)).alloc (.cells #[.int .i64 0, .int .i64 1, .int .i64 1, .int .i64 2, .int .i64 2, .int .i64 3, .int .i64 0, .int .i64 3] 33)).alloc (.cells #[.int .i64 0, .int .i64 2] 3)) ((((w.alloc (.cells #[.int .i64 Z, .slice A L.length c] 24)).alloc (.cells #[.slice A' s.length c', .slice A'' t.length c''] 27)).alloc (.cells #[.int .i64 0, .int .i64 1, .int .i64 1, .int .i64 2, .int .i64 2, .int .i64 3, .int .i64 0, .int .i64 3] 33)).alloc (.cells #[.int .i64 0, .int .i64 2] 3)).heap.size 1 (some ⟨w.heap.size + 1 + 1 + 1, 0, none⟩) 2 (ints [0, 2]) := (rd_lit HM.out rfl).more (by simp)
  go_enter Try.func3, Try.ntmps3
  go_wp2_with fail
  refine (pReach 4 _ _ 4 4 2 2 [(0, 1), (1, 2), (2, 3), (0, 3)] [0, 2] ((((w.alloc (.cells #[.int .i64 Z, .slice A L.length c] 24)).alloc (.cells #[.slice A' s.length c', .slice A'' t.length c''] 27)).alloc (.cells #[.int .i64 0, .int .i64 1, .int .i64 1, .int .i64 2, .int .i64 2, .int .i64 3, .int .i64 0, .int .i64 3] 33)).alloc (.cells #[.int .i64 0, .int .i64 2] 3)) (by simp) (by omega) (by simp) (by omega) ((((w.alloc (.cells #[.int .i64 Z, .slice A L.length c] 24)).alloc (.cells #[.slice A' s.length c', .slice A'' t.length c''] 27)).alloc (.cells #[.int .i64 0, .int .i64 1, .int .i64 1, .int .i64 2, .int .i64 2, .int .i64 3, .int .i64 0, .int .i64 3] 33)).alloc (.cells #[.int .i64 0, .int .i64 2] 3)).heap.size (Nat.le_refl _) rl rm).mono ?_
  rw [reach_known, place_known]
  rintro e w5 ⟨rfl, hb5⟩
  have s5 := hb5.size
  have HB5 := Lib.hid (HB4.out.trans (hb5.mono (by have := HB4.out.size; omega)))
  have hr := (hr.below hb5).more s5
  have hr' := (hr'.below hb5).more s5
  have hr'' := (hr''.below hb5).more s5
  have hrp := (hrp.below hb5).more s5
  have HX := Lib.hid (blk_below HX.out hb5 (blk_lt HX.out))
  have HY := Lib.hid (blk_below HY.out hb5 (blk_lt HY.out))
  have HL := Lib.hid (blk_below HL.out hb5 (blk_lt HL.out))
  have HM := Lib.hid (blk_below HM.out hb5 (blk_lt HM.out))
  clear hb5
  clear HL HM
  clear rl rm
  have x0 : w5.cell? ⟨w.heap.size, 0, none⟩ = some (.int .i64 Z) := blk_cell HX.out 0
  have x1 : w5.cell? ⟨w.heap.size, 1, none⟩ = some (.slice A L.length c) := blk_cell HX.out 1
  have y0 : w5.cell? ⟨w.heap.size + 1, 0, none⟩ = some (.slice A' s.length c') := blk_cell HY.out 0
  have y1 : w5.cell? ⟨w.heap.size + 1, 1, none⟩ = some (.slice A'' t.length c'') := blk_cell HY.out 1
  go_wp2_with fail
  refine (pLong false Z A L.length c h w5 hm).mono ?_
  rintro e w' ⟨rfl, hb⟩
  obtain ⟨w6, hw6⟩ : ∃ z, z = w' := ⟨_, rfl⟩
  rw [← hw6] at hb ⊢
  clear hw6
  have s6 := hb.size
  have HB6 := Lib.hid (HB5.out.trans (hb.mono (by have := HB5.out.size; omega)))
  have hr := (hr.below hb).more s6
  have hr' := (hr'.below hb).more s6
  have hr'' := (hr''.below hb).more s6
  have hrp := (hrp.below hb).more s6
  have HX := Lib.hid (blk_below HX.out hb (blk_lt HX.out))
  have HY := Lib.hid (blk_below HY.out hb (blk_lt HY.out))
  clear hb
  clear x0 x1 y0 y1
  have x0 : w6.cell? ⟨w.heap.size, 0, none⟩ = some (.int .i64 Z) := blk_cell HX.out 0
  have x1 : w6.cell? ⟨w.heap.size, 1, none⟩ = some (.slice A L.length c) := blk_cell HX.out 1
  have y0 : w6.cell? ⟨w.heap.size + 1, 0, none⟩ = some (.slice A' s.length c') := blk_cell HY.out 0
  have y1 : w6.cell? ⟨w.heap.size + 1, 1, none⟩ = some (.slice A'' t.length c'') := blk_cell HY.out 1
  go_wp2_with fail
  refine (pReach Z A A' _ c _ c' L s w6 hl hk hl1 hk' w6.heap.size (Nat.le_refl _) hr hr').mono ?_
  rw [hfb]
  rintro e w7 ⟨rfl, hb7⟩
  have s7 := hb7.size
  have HB7 := Lib.hid (HB6.out.trans (hb7.mono (by have := HB6.out.size; omega)))
  have hr := (hr.below hb7).more s7
  have hr' := (hr'.below hb7).more s7
  have hr'' := (hr''.below hb7).more s7
  have hrp := (hrp.below hb7).more s7
  have HX := Lib.hid (blk_below HX.out hb7 (blk_lt HX.out))
  have HY := Lib.hid (blk_below HY.out hb7 (blk_lt HY.out))
  clear hb7
  clear x0 x1 y0 y1
  have x0 : w7.cell? ⟨w.heap.size, 0, none⟩ = some (.int .i64 Z) := blk_cell HX.out 0
  have x1 : w7.cell? ⟨w.heap.size, 1, none⟩ = some (.slice A L.length c) := blk_cell HX.out 1
  have y0 : w7.cell? ⟨w.heap.size + 1, 0, none⟩ = some (.slice A' s.length c') := blk_cell HY.out 0
  have y1 : w7.cell? ⟨w.heap.size + 1, 1, none⟩ = some (.slice A'' t.length c'') := blk_cell HY.out 1
  clear hfb hv
  have HVL := Lib.hid (pValidatePlace Z A A' _ c _ c' L s w7 hl hk hl1 hk' w7.heap.size (Nat.le_refl _) hr hr')
  generalize placeE Z L s = e0 at *
  go_wp2_with fail
  refine (HVL.out).mono ?_
  rintro e w8 ⟨rfl, hb8⟩
  have s8 := hb8.size
  have HB8 := Lib.hid (HB7.out.trans (hb8.mono (by have := HB7.out.size; omega)))
  have hr := (hr.below hb8).more s8
  have hr' := (hr'.below hb8).more s8
  have hr'' := (hr''.below hb8).more s8
  have hrp := (hrp.below hb8).more s8
  have HX := Lib.hid (blk_below HX.out hb8 (blk_lt HX.out))
  have HY := Lib.hid (blk_below HY.out hb8 (blk_lt HY.out))
  clear hb8
  go_wp2
  go_ret
  exact ⟨rfl, HB8.out⟩
end Go.Proofs.Ytlhbmfaoldajdaa
