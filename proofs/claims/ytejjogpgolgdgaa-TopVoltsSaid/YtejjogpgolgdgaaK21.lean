/-
  MERGED: LTopV0.
-/
import Derived.Test.YtejjogpgolgdgaaK1
import Derived.Test.YtejjogpgolgdgaaK20
/-
  THE WALK of TopVolts. (Printed by gen_ltopv.py.)
-/
namespace Go.Proofs.Ytejjogpgolgdgaa
open Go.RowKit Pulse

set_option maxRecDepth 100000 in
set_option maxHeartbeats 400000 in
theorem topLong0 (A : Option Addr) (k c : Nat) (g : List (List Int)) (A' : Option Addr) (k' c' : Nat) (row : List (List Int)) (Aa : Option Addr) (ka ca : Nat) (xa : List Int) (Ab : Option Addr) (kb cb : Nat) (xb : List Int) (w : World) (hk : k ≤ c) (hc : c ≤ maxLen) (hr : TRd w w.heap.size A k g) (hb : ∀ l ∈ g, l.length ≤ maxLen) (hk' : k' ≤ c') (hc' : c' ≤ maxLen) (hr' : TRd w w.heap.size A' k' row) (hb' : ∀ l ∈ row, l.length ≤ maxLen) (hka : ka ≤ ca) (hca : ca ≤ maxLen) (hra : Rd w w.heap.size 1 Aa ka (ints xa)) (hba : Big xa) (hkb : kb ≤ cb) (hcb : cb ≤ maxLen) (hrb : Rd w w.heap.size 1 Ab kb (ints xb)) (hbb : Big xb) (h : longT g = true) :
    Calls Try.prog 15 #[.slice A k c, .slice A' k' c', .agg #[.slice Aa ka ca, .slice Ab kb cb]] w fun e w' => e = .returned (.bool true) ∧ Below w.heap.size w w' := by
  have hm : k ≤ maxLen := Nat.le_trans hk hc
  have hm' : k' ≤ maxLen := Nat.le_trans hk' hc'
  have hma : ka ≤ maxLen := Nat.le_trans hka hca
  have hmb : kb ≤ maxLen := Nat.le_trans hkb hcb
  obtain rfl := hr.len
  obtain rfl := hr'.len
  obtain rfl := hra.int_len
  obtain rfl := hrb.int_len
  go_enter Try.func15, Try.ntmps15
  have s1 : (w.alloc (.cells #[.slice Aa xa.length ca, .slice Ab xb.length cb] 61)).heap.size = w.heap.size + 1 := by simp
  have hr := (hr.alloc (Nat.le_refl _) (.cells #[.slice Aa xa.length ca, .slice Ab xb.length cb] 61)).more (B' := (w.alloc (.cells #[.slice Aa xa.length ca, .slice Ab xb.length cb] 61)).heap.size) (by omega)
  have hr' := (hr'.alloc (Nat.le_refl _) (.cells #[.slice Aa xa.length ca, .slice Ab xb.length cb] 61)).more (B' := (w.alloc (.cells #[.slice Aa xa.length ca, .slice Ab xb.length cb] 61)).heap.size) (by omega)
  have hra := (hra.alloc (Nat.le_refl _) (.cells #[.slice Aa xa.length ca, .slice Ab xb.length cb] 61)).more (B' := (w.alloc (.cells #[.slice Aa xa.length ca, .slice Ab xb.length cb] 61)).heap.size) (by omega)
  have hrb := (hrb.alloc (Nat.le_refl _) (.cells #[.slice Aa xa.length ca, .slice Ab xb.length cb] 61)).more (B' := (w.alloc (.cells #[.slice Aa xa.length ca, .slice Ab xb.length cb] 61)).heap.size) (by omega)
  have HX := Lib.hid (blk_new w 61 #[.slice Aa xa.length ca, .slice Ab xb.length cb])
  have HB1 := Lib.hid ((Below.refl w.heap.size w).alloc (Nat.le_refl _) (.cells #[.slice Aa xa.length ca, .slice Ab xb.length cb] 61))
  have s2 : ((w.alloc (.cells #[.slice Aa xa.length ca, .slice Ab xb.length cb] 61)).alloc (.cells #[.int .i64 (-3), .int .i64 0] 3)).heap.size = (w.alloc (.cells #[.slice Aa xa.length ca, .slice Ab xb.length cb] 61)).heap.size + 1 := by simp
  have hr := (hr.alloc (Nat.le_refl _) (.cells #[.int .i64 (-3), .int .i64 0] 3)).more (B' := ((w.alloc (.cells #[.slice Aa xa.length ca, .slice Ab xb.length cb] 61)).alloc (.cells #[.int .i64 (-3), .int .i64 0] 3)).heap.size) (by omega)
  have hr' := (hr'.alloc (Nat.le_refl _) (.cells #[.int .i64 (-3), .int .i64 0] 3)).more (B' := ((w.alloc (.cells #[.slice Aa xa.length ca, .slice Ab xb.length cb] 61)).alloc (.cells #[.int .i64 (-3), .int .i64 0] 3)).heap.size) (by omega)
  have hra := (hra.alloc (Nat.le_refl _) (.cells #[.int .i64 (-3), .int .i64 0] 3)).more (B' := ((w.alloc (.cells #[.slice Aa xa.length ca, .slice Ab xb.length cb] 61)).alloc (.cells #[.int .i64 (-3), .int .i64 0] 3)).heap.size) (by omega)
  have hrb := (hrb.alloc (Nat.le_refl _) (.cells #[.int .i64 (-3), .int .i64 0] 3)).more (B' := ((w.alloc (.cells #[.slice Aa xa.length ca, .slice Ab xb.length cb] 61)).alloc (.cells #[.int .i64 (-3), .int .i64 0] 3)).heap.size) (by omega)
  have HX := Lib.hid (blk_alloc HX.out (.cells #[.int .i64 (-3), .int .i64 0] 3))
  have HL := Lib.hid (blk_new (w.alloc (.cells #[.slice Aa xa.length ca, .slice Ab xb.length cb] 61)) 3 #[.int .i64 (-3), .int .i64 0])
  have HB2 := Lib.hid (HB1.out.alloc (HB1.out.size) (.cells #[.int .i64 (-3), .int .i64 0] 3))
  have s3 : (((w.alloc (.cells #[.slice Aa xa.length ca, .slice Ab xb.length cb] 61)).alloc (.cells #[.int .i64 (-3), .int .i64 0] 3)).alloc (.cells #[.int .i64 3, .int .i64 1] 3)).heap.size = ((w.alloc (.cells #[.slice Aa xa.length ca, .slice Ab xb.length cb] 61)).alloc (.cells #[.int .i64 (-3), .int .i64 0] 3)).heap.size + 1 := by simp
  have hr := (hr.alloc (Nat.le_refl _) (.cells #[.int .i64 3, .int .i64 1] 3)).more (B' := (((w.alloc (.cells #[.slice Aa xa.length ca, .slice Ab xb.length cb] 61)).alloc (.cells #[.int .i64 (-3), .int .i64 0] 3)).alloc (.cells #[.int .i64 3, .int .i64 1] 3)).heap.size) (by omega)
  have hr' := (hr'.alloc (Nat.le_refl _) (.cells #[.int .i64 3, .int .i64 1] 3)).more (B' := (((w.alloc (.cells #[.slice Aa xa.length ca, .slice Ab xb.length cb] 61)).alloc (.cells #[.int .i64 (-3), .int .i64 0] 3)).alloc (.cells #[.int .i64 3, .int .i64 1] 3)).heap.size) (by omega)
  have hra := (hra.alloc (Nat.le_refl _) (.cells #[.int .i64 3, .int .i64 1] 3)).more (B' := (((w.alloc (.cells #[.slice Aa xa.length ca, .slice Ab xb.length cb] 61)).alloc (.cells #[.int .i64 (-3), .int .i64 0] 3)).alloc (.cells #[.int .i64 3, .int .i64 1] 3)).heap.size) (by omega)
  have hrb := (hrb.alloc (Nat.le_refl _) (.cells #[.int .i64 3, .int .i64 1] 3)).more (B' := (((w.alloc (.cells #[.slice Aa xa.length ca, .slice Ab xb.length cb] 61)).alloc (.cells #[.int .i64 (-3), .int .i64 0] 3)).alloc (.cells #[.int .i64 3, .int .i64 1] 3)).heap.size) (by omega)
  have HX := Lib.hid (blk_alloc HX.out (.cells #[.int .i64 3, .int .i64 1] 3))
  have HL := Lib.hid (blk_alloc HL.out (.cells #[.int .i64 3, .int .i64 1] 3))
  have HM := Lib.hid (blk_new ((w.alloc (.cells #[.slice Aa xa.length ca, .slice Ab xb.length cb] 61)).alloc (.cells #[.int .i64 (-3), .int .i64 0] 3)) 3 #[.int .i64 3, .int .i64 1])
  have HB3 := Lib.hid (HB2.out.alloc (HB2.out.size) (.cells #[.int .i64 3, .int .i64 1] 3))
  rw [s1] at HL
  rw [s2, s1] at HM
  have rl : Rd (((w.alloc (.cells #[.slice Aa xa.length ca, .slice Ab xb.length cb] 61)).alloc (.cells #[.int .i64 (-3), .int .i64 0] 3)).alloc (.cells #[.int .i64 3, .int .i64 1] 3)) (((w.alloc (.cells #[.slice Aa xa.length ca, .slice Ab xb.length cb] 61)).alloc (.cells #[.int .i64 (-3), .int .i64 0] 3)).alloc (.cells #[.int .i64 3, .int .i64 1] 3)).heap.size 1 (some ⟨w.heap.size + 1, 0, none⟩) 2 (ints [-3, 0]) := (rd_lit HL.out rfl).more (by simp)
  have rm : Rd (((w.alloc (.cells #[.slice Aa xa.length ca, .slice Ab xb.length cb] 61)).alloc (.cells #[.int .i64 (-3), .int .i64 0] 3)).alloc (.cells #[.int .i64 3, .int .i64 1] 3)) (((w.alloc (.cells #[.slice Aa xa.length ca, .slice Ab xb.length cb] 61)).alloc (.cells #[.int .i64 (-3), .int .i64 0] 3)).alloc (.cells #[.int .i64 3, .int .i64 1] 3)).heap.size 1 (some ⟨w.heap.size + 1 + 1, 0, none⟩) 2 (ints [3, 1]) := (rd_lit HM.out rfl).more (by simp)
  go_wp2_with fail
  refine (pSteps _ _ 2 2 2 2 [-3, 0] [3, 1] 2 (((w.alloc (.cells #[.slice Aa xa.length ca, .slice Ab xb.length cb] 61)).alloc (.cells #[.int .i64 (-3), .int .i64 0] 3)).alloc (.cells #[.int .i64 3, .int .i64 1] 3)) (by simp) (by simp) (((w.alloc (.cells #[.slice Aa xa.length ca, .slice Ab xb.length cb] 61)).alloc (.cells #[.int .i64 (-3), .int .i64 0] 3)).alloc (.cells #[.int .i64 3, .int .i64 1] 3)).heap.size (Nat.le_refl _) rl rm).mono ?_
  rw [top_kn1, top_kn2]
  rintro e w4 ⟨rfl, hb4⟩
  have s4 := hb4.size
  have HB4 := Lib.hid (HB3.out.trans (hb4.mono (by have := HB3.out.size; omega)))
  have hr := (hr.below hb4).more s4
  have hr' := (hr'.below hb4).more s4
  have hra := (hra.below hb4).more s4
  have hrb := (hrb.below hb4).more s4
  have HX := Lib.hid (blk_below HX.out hb4 (blk_lt HX.out))
  have HL := Lib.hid (blk_below HL.out hb4 (blk_lt HL.out))
  have HM := Lib.hid (blk_below HM.out hb4 (blk_lt HM.out))
  clear hb4
  clear HL HM
  clear rl rm
  have x0 : w4.cell? ⟨w.heap.size, 0, none⟩ = some (.slice Aa xa.length ca) := blk_cell HX.out 0
  have x1 : w4.cell? ⟨w.heap.size, 1, none⟩ = some (.slice Ab xb.length cb) := blk_cell HX.out 1
  go_wp2_with fail
  refine (long_is true _ _ _ g h w4 hm _ hr hb).mono ?_
  rintro e w' ⟨rfl, rfl⟩
  go_wp2
  go_ret
  exact ⟨rfl, HB4.out⟩

set_option maxRecDepth 100000 in
set_option maxHeartbeats 400000 in
theorem topLong1 (A : Option Addr) (k c : Nat) (g : List (List Int)) (A' : Option Addr) (k' c' : Nat) (row : List (List Int)) (Aa : Option Addr) (ka ca : Nat) (xa : List Int) (Ab : Option Addr) (kb cb : Nat) (xb : List Int) (w : World) (hk : k ≤ c) (hc : c ≤ maxLen) (hr : TRd w w.heap.size A k g) (hb : ∀ l ∈ g, l.length ≤ maxLen) (hk' : k' ≤ c') (hc' : c' ≤ maxLen) (hr' : TRd w w.heap.size A' k' row) (hb' : ∀ l ∈ row, l.length ≤ maxLen) (hka : ka ≤ ca) (hca : ca ≤ maxLen) (hra : Rd w w.heap.size 1 Aa ka (ints xa)) (hba : Big xa) (hkb : kb ≤ cb) (hcb : cb ≤ maxLen) (hrb : Rd w w.heap.size 1 Ab kb (ints xb)) (hbb : Big xb) (h : longT g = false) (h' : longT row = true) :
    Calls Try.prog 15 #[.slice A k c, .slice A' k' c', .agg #[.slice Aa ka ca, .slice Ab kb cb]] w fun e w' => e = .returned (.bool true) ∧ Below w.heap.size w w' := by
  have hm : k ≤ maxLen := Nat.le_trans hk hc
  have hm' : k' ≤ maxLen := Nat.le_trans hk' hc'
  have hma : ka ≤ maxLen := Nat.le_trans hka hca
  have hmb : kb ≤ maxLen := Nat.le_trans hkb hcb
  obtain rfl := hr.len
  obtain rfl := hr'.len
  obtain rfl := hra.int_len
  obtain rfl := hrb.int_len
  go_enter Try.func15, Try.ntmps15
  have s1 : (w.alloc (.cells #[.slice Aa xa.length ca, .slice Ab xb.length cb] 61)).heap.size = w.heap.size + 1 := by simp
  have hr := (hr.alloc (Nat.le_refl _) (.cells #[.slice Aa xa.length ca, .slice Ab xb.length cb] 61)).more (B' := (w.alloc (.cells #[.slice Aa xa.length ca, .slice Ab xb.length cb] 61)).heap.size) (by omega)
  have hr' := (hr'.alloc (Nat.le_refl _) (.cells #[.slice Aa xa.length ca, .slice Ab xb.length cb] 61)).more (B' := (w.alloc (.cells #[.slice Aa xa.length ca, .slice Ab xb.length cb] 61)).heap.size) (by omega)
  have hra := (hra.alloc (Nat.le_refl _) (.cells #[.slice Aa xa.length ca, .slice Ab xb.length cb] 61)).more (B' := (w.alloc (.cells #[.slice Aa xa.length ca, .slice Ab xb.length cb] 61)).heap.size) (by omega)
  have hrb := (hrb.alloc (Nat.le_refl _) (.cells #[.slice Aa xa.length ca, .slice Ab xb.length cb] 61)).more (B' := (w.alloc (.cells #[.slice Aa xa.length ca, .slice Ab xb.length cb] 61)).heap.size) (by omega)
  have HX := Lib.hid (blk_new w 61 #[.slice Aa xa.length ca, .slice Ab xb.length cb])
  have HB1 := Lib.hid ((Below.refl w.heap.size w).alloc (Nat.le_refl _) (.cells #[.slice Aa xa.length ca, .slice Ab xb.length cb] 61))
  have s2 : ((w.alloc (.cells #[.slice Aa xa.length ca, .slice Ab xb.length cb] 61)).alloc (.cells #[.int .i64 (-3), .int .i64 0] 3)).heap.size = (w.alloc (.cells #[.slice Aa xa.length ca, .slice Ab xb.length cb] 61)).heap.size + 1 := by simp
  have hr := (hr.alloc (Nat.le_refl _) (.cells #[.int .i64 (-3), .int .i64 0] 3)).more (B' := ((w.alloc (.cells #[.slice Aa xa.length ca, .slice Ab xb.length cb] 61)).alloc (.cells #[.int .i64 (-3), .int .i64 0] 3)).heap.size) (by omega)
  have hr' := (hr'.alloc (Nat.le_refl _) (.cells #[.int .i64 (-3), .int .i64 0] 3)).more (B' := ((w.alloc (.cells #[.slice Aa xa.length ca, .slice Ab xb.length cb] 61)).alloc (.cells #[.int .i64 (-3), .int .i64 0] 3)).heap.size) (by omega)
  have hra := (hra.alloc (Nat.le_refl _) (.cells #[.int .i64 (-3), .int .i64 0] 3)).more (B' := ((w.alloc (.cells #[.slice Aa xa.length ca, .slice Ab xb.length cb] 61)).alloc (.cells #[.int .i64 (-3), .int .i64 0] 3)).heap.size) (by omega)
  have hrb := (hrb.alloc (Nat.le_refl _) (.cells #[.int .i64 (-3), .int .i64 0] 3)).more (B' := ((w.alloc (.cells #[.slice Aa xa.length ca, .slice Ab xb.length cb] 61)).alloc (.cells #[.int .i64 (-3), .int .i64 0] 3)).heap.size) (by omega)
  have HX := Lib.hid (blk_alloc HX.out (.cells #[.int .i64 (-3), .int .i64 0] 3))
  have HL := Lib.hid (blk_new (w.alloc (.cells #[.slice Aa xa.length ca, .slice Ab xb.length cb] 61)) 3 #[.int .i64 (-3), .int .i64 0])
  have HB2 := Lib.hid (HB1.out.alloc (HB1.out.size) (.cells #[.int .i64 (-3), .int .i64 0] 3))
  have s3 : (((w.alloc (.cells #[.slice Aa xa.length ca, .slice Ab xb.length cb] 61)).alloc (.cells #[.int .i64 (-3), .int .i64 0] 3)).alloc (.cells #[.int .i64 3, .int .i64 1] 3)).heap.size = ((w.alloc (.cells #[.slice Aa xa.length ca, .slice Ab xb.length cb] 61)).alloc (.cells #[.int .i64 (-3), .int .i64 0] 3)).heap.size + 1 := by simp
  have hr := (hr.alloc (Nat.le_refl _) (.cells #[.int .i64 3, .int .i64 1] 3)).more (B' := (((w.alloc (.cells #[.slice Aa xa.length ca, .slice Ab xb.length cb] 61)).alloc (.cells #[.int .i64 (-3), .int .i64 0] 3)).alloc (.cells #[.int .i64 3, .int .i64 1] 3)).heap.size) (by omega)
  have hr' := (hr'.alloc (Nat.le_refl _) (.cells #[.int .i64 3, .int .i64 1] 3)).more (B' := (((w.alloc (.cells #[.slice Aa xa.length ca, .slice Ab xb.length cb] 61)).alloc (.cells #[.int .i64 (-3), .int .i64 0] 3)).alloc (.cells #[.int .i64 3, .int .i64 1] 3)).heap.size) (by omega)
  have hra := (hra.alloc (Nat.le_refl _) (.cells #[.int .i64 3, .int .i64 1] 3)).more (B' := (((w.alloc (.cells #[.slice Aa xa.length ca, .slice Ab xb.length cb] 61)).alloc (.cells #[.int .i64 (-3), .int .i64 0] 3)).alloc (.cells #[.int .i64 3, .int .i64 1] 3)).heap.size) (by omega)
  have hrb := (hrb.alloc (Nat.le_refl _) (.cells #[.int .i64 3, .int .i64 1] 3)).more (B' := (((w.alloc (.cells #[.slice Aa xa.length ca, .slice Ab xb.length cb] 61)).alloc (.cells #[.int .i64 (-3), .int .i64 0] 3)).alloc (.cells #[.int .i64 3, .int .i64 1] 3)).heap.size) (by omega)
  have HX := Lib.hid (blk_alloc HX.out (.cells #[.int .i64 3, .int .i64 1] 3))
  have HL := Lib.hid (blk_alloc HL.out (.cells #[.int .i64 3, .int .i64 1] 3))
  have HM := Lib.hid (blk_new ((w.alloc (.cells #[.slice Aa xa.length ca, .slice Ab xb.length cb] 61)).alloc (.cells #[.int .i64 (-3), .int .i64 0] 3)) 3 #[.int .i64 3, .int .i64 1])
  have HB3 := Lib.hid (HB2.out.alloc (HB2.out.size) (.cells #[.int .i64 3, .int .i64 1] 3))
  rw [s1] at HL
  rw [s2, s1] at HM
  have rl : Rd (((w.alloc (.cells #[.slice Aa xa.length ca, .slice Ab xb.length cb] 61)).alloc (.cells #[.int .i64 (-3), .int .i64 0] 3)).alloc (.cells #[.int .i64 3, .int .i64 1] 3)) (((w.alloc (.cells #[.slice Aa xa.length ca, .slice Ab xb.length cb] 61)).alloc (.cells #[.int .i64 (-3), .int .i64 0] 3)).alloc (.cells #[.int .i64 3, .int .i64 1] 3)).heap.size 1 (some ⟨w.heap.size + 1, 0, none⟩) 2 (ints [-3, 0]) := (rd_lit HL.out rfl).more (by simp)
  have rm : Rd (((w.alloc (.cells #[.slice Aa xa.length ca, .slice Ab xb.length cb] 61)).alloc (.cells #[.int .i64 (-3), .int .i64 0] 3)).alloc (.cells #[.int .i64 3, .int .i64 1] 3)) (((w.alloc (.cells #[.slice Aa xa.length ca, .slice Ab xb.length cb] 61)).alloc (.cells #[.int .i64 (-3), .int .i64 0] 3)).alloc (.cells #[.int .i64 3, .int .i64 1] 3)).heap.size 1 (some ⟨w.heap.size + 1 + 1, 0, none⟩) 2 (ints [3, 1]) := (rd_lit HM.out rfl).more (by simp)
  go_wp2_with fail
  refine (pSteps _ _ 2 2 2 2 [-3, 0] [3, 1] 2 (((w.alloc (.cells #[.slice Aa xa.length ca, .slice Ab xb.length cb] 61)).alloc (.cells #[.int .i64 (-3), .int .i64 0] 3)).alloc (.cells #[.int .i64 3, .int .i64 1] 3)) (by simp) (by simp) (((w.alloc (.cells #[.slice Aa xa.length ca, .slice Ab xb.length cb] 61)).alloc (.cells #[.int .i64 (-3), .int .i64 0] 3)).alloc (.cells #[.int .i64 3, .int .i64 1] 3)).heap.size (Nat.le_refl _) rl rm).mono ?_
  rw [top_kn1, top_kn2]
  rintro e w4 ⟨rfl, hb4⟩
  have s4 := hb4.size
  have HB4 := Lib.hid (HB3.out.trans (hb4.mono (by have := HB3.out.size; omega)))
  have hr := (hr.below hb4).more s4
  have hr' := (hr'.below hb4).more s4
  have hra := (hra.below hb4).more s4
  have hrb := (hrb.below hb4).more s4
  have HX := Lib.hid (blk_below HX.out hb4 (blk_lt HX.out))
  have HL := Lib.hid (blk_below HL.out hb4 (blk_lt HL.out))
  have HM := Lib.hid (blk_below HM.out hb4 (blk_lt HM.out))
  clear hb4
  clear HL HM
  clear rl rm
  have x0 : w4.cell? ⟨w.heap.size, 0, none⟩ = some (.slice Aa xa.length ca) := blk_cell HX.out 0
  have x1 : w4.cell? ⟨w.heap.size, 1, none⟩ = some (.slice Ab xb.length cb) := blk_cell HX.out 1
  go_wp2_with fail
  refine (long_is false _ _ _ g h w4 hm _ hr hb).mono ?_
  rintro e w' ⟨rfl, rfl⟩
  go_wp2_with fail
  refine (long_is true _ _ _ row h' w4 hm' _ hr' hb').mono ?_
  rintro e w' ⟨rfl, rfl⟩
  go_wp2
  go_ret
  exact ⟨rfl, HB4.out⟩

set_option maxRecDepth 100000 in
set_option maxHeartbeats 400000 in
theorem topLong2 (A : Option Addr) (k c : Nat) (g : List (List Int)) (A' : Option Addr) (k' c' : Nat) (row : List (List Int)) (Aa : Option Addr) (ka ca : Nat) (xa : List Int) (Ab : Option Addr) (kb cb : Nat) (xb : List Int) (w : World) (hk : k ≤ c) (hc : c ≤ maxLen) (hr : TRd w w.heap.size A k g) (hb : ∀ l ∈ g, l.length ≤ maxLen) (hk' : k' ≤ c') (hc' : c' ≤ maxLen) (hr' : TRd w w.heap.size A' k' row) (hb' : ∀ l ∈ row, l.length ≤ maxLen) (hka : ka ≤ ca) (hca : ca ≤ maxLen) (hra : Rd w w.heap.size 1 Aa ka (ints xa)) (hba : Big xa) (hkb : kb ≤ cb) (hcb : cb ≤ maxLen) (hrb : Rd w w.heap.size 1 Ab kb (ints xb)) (hbb : Big xb) (h : longT g = false) (h' : longT row = false) (ha : decide (40 < xa.length) = true) :
    Calls Try.prog 15 #[.slice A k c, .slice A' k' c', .agg #[.slice Aa ka ca, .slice Ab kb cb]] w fun e w' => e = .returned (.bool true) ∧ Below w.heap.size w w' := by
  have hm : k ≤ maxLen := Nat.le_trans hk hc
  have hm' : k' ≤ maxLen := Nat.le_trans hk' hc'
  have hma : ka ≤ maxLen := Nat.le_trans hka hca
  have hmb : kb ≤ maxLen := Nat.le_trans hkb hcb
  obtain rfl := hr.len
  obtain rfl := hr'.len
  obtain rfl := hra.int_len
  obtain rfl := hrb.int_len
  have e1 : decide (40 < (xa.length : Int)) = true := by rw [← ha]; exact decide_eq_decide.2 (by omega)
  go_enter Try.func15, Try.ntmps15
  have s1 : (w.alloc (.cells #[.slice Aa xa.length ca, .slice Ab xb.length cb] 61)).heap.size = w.heap.size + 1 := by simp
  have hr := (hr.alloc (Nat.le_refl _) (.cells #[.slice Aa xa.length ca, .slice Ab xb.length cb] 61)).more (B' := (w.alloc (.cells #[.slice Aa xa.length ca, .slice Ab xb.length cb] 61)).heap.size) (by omega)
  have hr' := (hr'.alloc (Nat.le_refl _) (.cells #[.slice Aa xa.length ca, .slice Ab xb.length cb] 61)).more (B' := (w.alloc (.cells #[.slice Aa xa.length ca, .slice Ab xb.length cb] 61)).heap.size) (by omega)
  have hra := (hra.alloc (Nat.le_refl _) (.cells #[.slice Aa xa.length ca, .slice Ab xb.length cb] 61)).more (B' := (w.alloc (.cells #[.slice Aa xa.length ca, .slice Ab xb.length cb] 61)).heap.size) (by omega)
  have hrb := (hrb.alloc (Nat.le_refl _) (.cells #[.slice Aa xa.length ca, .slice Ab xb.length cb] 61)).more (B' := (w.alloc (.cells #[.slice Aa xa.length ca, .slice Ab xb.length cb] 61)).heap.size) (by omega)
  have HX := Lib.hid (blk_new w 61 #[.slice Aa xa.length ca, .slice Ab xb.length cb])
  have HB1 := Lib.hid ((Below.refl w.heap.size w).alloc (Nat.le_refl _) (.cells #[.slice Aa xa.length ca, .slice Ab xb.length cb] 61))
  have s2 : ((w.alloc (.cells #[.slice Aa xa.length ca, .slice Ab xb.length cb] 61)).alloc (.cells #[.int .i64 (-3), .int .i64 0] 3)).heap.size = (w.alloc (.cells #[.slice Aa xa.length ca, .slice Ab xb.length cb] 61)).heap.size + 1 := by simp
  have hr := (hr.alloc (Nat.le_refl _) (.cells #[.int .i64 (-3), .int .i64 0] 3)).more (B' := ((w.alloc (.cells #[.slice Aa xa.length ca, .slice Ab xb.length cb] 61)).alloc (.cells #[.int .i64 (-3), .int .i64 0] 3)).heap.size) (by omega)
  have hr' := (hr'.alloc (Nat.le_refl _) (.cells #[.int .i64 (-3), .int .i64 0] 3)).more (B' := ((w.alloc (.cells #[.slice Aa xa.length ca, .slice Ab xb.length cb] 61)).alloc (.cells #[.int .i64 (-3), .int .i64 0] 3)).heap.size) (by omega)
  have hra := (hra.alloc (Nat.le_refl _) (.cells #[.int .i64 (-3), .int .i64 0] 3)).more (B' := ((w.alloc (.cells #[.slice Aa xa.length ca, .slice Ab xb.length cb] 61)).alloc (.cells #[.int .i64 (-3), .int .i64 0] 3)).heap.size) (by omega)
  have hrb := (hrb.alloc (Nat.le_refl _) (.cells #[.int .i64 (-3), .int .i64 0] 3)).more (B' := ((w.alloc (.cells #[.slice Aa xa.length ca, .slice Ab xb.length cb] 61)).alloc (.cells #[.int .i64 (-3), .int .i64 0] 3)).heap.size) (by omega)
  have HX := Lib.hid (blk_alloc HX.out (.cells #[.int .i64 (-3), .int .i64 0] 3))
  have HL := Lib.hid (blk_new (w.alloc (.cells #[.slice Aa xa.length ca, .slice Ab xb.length cb] 61)) 3 #[.int .i64 (-3), .int .i64 0])
  have HB2 := Lib.hid (HB1.out.alloc (HB1.out.size) (.cells #[.int .i64 (-3), .int .i64 0] 3))
  have s3 : (((w.alloc (.cells #[.slice Aa xa.length ca, .slice Ab xb.length cb] 61)).alloc (.cells #[.int .i64 (-3), .int .i64 0] 3)).alloc (.cells #[.int .i64 3, .int .i64 1] 3)).heap.size = ((w.alloc (.cells #[.slice Aa xa.length ca, .slice Ab xb.length cb] 61)).alloc (.cells #[.int .i64 (-3), .int .i64 0] 3)).heap.size + 1 := by simp
  have hr := (hr.alloc (Nat.le_refl _) (.cells #[.int .i64 3, .int .i64 1] 3)).more (B' := (((w.alloc (.cells #[.slice Aa xa.length ca, .slice Ab xb.length cb] 61)).alloc (.cells #[.int .i64 (-3), .int .i64 0] 3)).alloc (.cells #[.int .i64 3, .int .i64 1] 3)).heap.size) (by omega)
  have hr' := (hr'.alloc (Nat.le_refl _) (.cells #[.int .i64 3, .int .i64 1] 3)).more (B' := (((w.alloc (.cells #[.slice Aa xa.length ca, .slice Ab xb.length cb] 61)).alloc (.cells #[.int .i64 (-3), .int .i64 0] 3)).alloc (.cells #[.int .i64 3, .int .i64 1] 3)).heap.size) (by omega)
  have hra := (hra.alloc (Nat.le_refl _) (.cells #[.int .i64 3, .int .i64 1] 3)).more (B' := (((w.alloc (.cells #[.slice Aa xa.length ca, .slice Ab xb.length cb] 61)).alloc (.cells #[.int .i64 (-3), .int .i64 0] 3)).alloc (.cells #[.int .i64 3, .int .i64 1] 3)).heap.size) (by omega)
  have hrb := (hrb.alloc (Nat.le_refl _) (.cells #[.int .i64 3, .int .i64 1] 3)).more (B' := (((w.alloc (.cells #[.slice Aa xa.length ca, .slice Ab xb.length cb] 61)).alloc (.cells #[.int .i64 (-3), .int .i64 0] 3)).alloc (.cells #[.int .i64 3, .int .i64 1] 3)).heap.size) (by omega)
  have HX := Lib.hid (blk_alloc HX.out (.cells #[.int .i64 3, .int .i64 1] 3))
  have HL := Lib.hid (blk_alloc HL.out (.cells #[.int .i64 3, .int .i64 1] 3))
  have HM := Lib.hid (blk_new ((w.alloc (.cells #[.slice Aa xa.length ca, .slice Ab xb.length cb] 61)).alloc (.cells #[.int .i64 (-3), .int .i64 0] 3)) 3 #[.int .i64 3, .int .i64 1])
  have HB3 := Lib.hid (HB2.out.alloc (HB2.out.size) (.cells #[.int .i64 3, .int .i64 1] 3))
  rw [s1] at HL
  rw [s2, s1] at HM
  have rl : Rd (((w.alloc (.cells #[.slice Aa xa.length ca, .slice Ab xb.length cb] 61)).alloc (.cells #[.int .i64 (-3), .int .i64 0] 3)).alloc (.cells #[.int .i64 3, .int .i64 1] 3)) (((w.alloc (.cells #[.slice Aa xa.length ca, .slice Ab xb.length cb] 61)).alloc (.cells #[.int .i64 (-3), .int .i64 0] 3)).alloc (.cells #[.int .i64 3, .int .i64 1] 3)).heap.size 1 (some ⟨w.heap.size + 1, 0, none⟩) 2 (ints [-3, 0]) := (rd_lit HL.out rfl).more (by simp)
  have rm : Rd (((w.alloc (.cells #[.slice Aa xa.length ca, .slice Ab xb.length cb] 61)).alloc (.cells #[.int .i64 (-3), .int .i64 0] 3)).alloc (.cells #[.int .i64 3, .int .i64 1] 3)) (((w.alloc (.cells #[.slice Aa xa.length ca, .slice Ab xb.length cb] 61)).alloc (.cells #[.int .i64 (-3), .int .i64 0] 3)).alloc (.cells #[.int .i64 3, .int .i64 1] 3)).heap.size 1 (some ⟨w.heap.size + 1 + 1, 0, none⟩) 2 (ints [3, 1]) := (rd_lit HM.out rfl).more (by simp)
  go_wp2_with fail
  refine (pSteps _ _ 2 2 2 2 [-3, 0] [3, 1] 2 (((w.alloc (.cells #[.slice Aa xa.length ca, .slice Ab xb.length cb] 61)).alloc (.cells #[.int .i64 (-3), .int .i64 0] 3)).alloc (.cells #[.int .i64 3, .int .i64 1] 3)) (by simp) (by simp) (((w.alloc (.cells #[.slice Aa xa.length ca, .slice Ab xb.length cb] 61)).alloc (.cells #[.int .i64 (-3), .int .i64 0] 3)).alloc (.cells #[.int .i64 3, .int .i64 1] 3)).heap.size (Nat.le_refl _) rl rm).mono ?_
  rw [top_kn1, top_kn2]
  rintro e w4 ⟨rfl, hb4⟩
  have s4 := hb4.size
  have HB4 := Lib.hid (HB3.out.trans (hb4.mono (by have := HB3.out.size; omega)))
  have hr := (hr.below hb4).more s4
  have hr' := (hr'.below hb4).more s4
  have hra := (hra.below hb4).more s4
  have hrb := (hrb.below hb4).more s4
  have HX := Lib.hid (blk_below HX.out hb4 (blk_lt HX.out))
  have HL := Lib.hid (blk_below HL.out hb4 (blk_lt HL.out))
  have HM := Lib.hid (blk_below HM.out hb4 (blk_lt HM.out))
  clear hb4
  clear HL HM
  clear rl rm
  have x0 : w4.cell? ⟨w.heap.size, 0, none⟩ = some (.slice Aa xa.length ca) := blk_cell HX.out 0
  have x1 : w4.cell? ⟨w.heap.size, 1, none⟩ = some (.slice Ab xb.length cb) := blk_cell HX.out 1
  go_wp2_with fail
  refine (long_is false _ _ _ g h w4 hm _ hr hb).mono ?_
  rintro e w' ⟨rfl, rfl⟩
  go_wp2_with fail
  refine (long_is false _ _ _ row h' w4 hm' _ hr' hb').mono ?_
  rintro e w' ⟨rfl, rfl⟩
  go_wp2
  go_ret
  exact ⟨rfl, HB4.out⟩

set_option maxRecDepth 100000 in
set_option maxHeartbeats 400000 in
theorem topLong3 (A : Option Addr) (k c : Nat) (g : List (List Int)) (A' : Option Addr) (k' c' : Nat) (row : List (List Int)) (Aa : Option Addr) (ka ca : Nat) (xa : List Int) (Ab : Option Addr) (kb cb : Nat) (xb : List Int) (w : World) (hk : k ≤ c) (hc : c ≤ maxLen) (hr : TRd w w.heap.size A k g) (hb : ∀ l ∈ g, l.length ≤ maxLen) (hk' : k' ≤ c') (hc' : c' ≤ maxLen) (hr' : TRd w w.heap.size A' k' row) (hb' : ∀ l ∈ row, l.length ≤ maxLen) (hka : ka ≤ ca) (hca : ca ≤ maxLen) (hra : Rd w w.heap.size 1 Aa ka (ints xa)) (hba : Big xa) (hkb : kb ≤ cb) (hcb : cb ≤ maxLen) (hrb : Rd w w.heap.size 1 Ab kb (ints xb)) (hbb : Big xb) (h : longT g = false) (h' : longT row = false) (ha : decide (40 < xa.length) = false) (hb2 : decide (40 < xb.length) = true) :
    Calls Try.prog 15 #[.slice A k c, .slice A' k' c', .agg #[.slice Aa ka ca, .slice Ab kb cb]] w fun e w' => e = .returned (.bool true) ∧ Below w.heap.size w w' := by
  have hm : k ≤ maxLen := Nat.le_trans hk hc
  have hm' : k' ≤ maxLen := Nat.le_trans hk' hc'
  have hma : ka ≤ maxLen := Nat.le_trans hka hca
  have hmb : kb ≤ maxLen := Nat.le_trans hkb hcb
  obtain rfl := hr.len
  obtain rfl := hr'.len
  obtain rfl := hra.int_len
  obtain rfl := hrb.int_len
  have e1 : decide (40 < (xa.length : Int)) = false := by rw [← ha]; exact decide_eq_decide.2 (by omega)
  have e2 : decide (40 < (xb.length : Int)) = true := by rw [← hb2]; exact decide_eq_decide.2 (by omega)
  go_enter Try.func15, Try.ntmps15
  have s1 : (w.alloc (.cells #[.slice Aa xa.length ca, .slice Ab xb.length cb] 61)).heap.size = w.heap.size + 1 := by simp
  have hr := (hr.alloc (Nat.le_refl _) (.cells #[.slice Aa xa.length ca, .slice Ab xb.length cb] 61)).more (B' := (w.alloc (.cells #[.slice Aa xa.length ca, .slice Ab xb.length cb] 61)).heap.size) (by omega)
  have hr' := (hr'.alloc (Nat.le_refl _) (.cells #[.slice Aa xa.length ca, .slice Ab xb.length cb] 61)).more (B' := (w.alloc (.cells #[.slice Aa xa.length ca, .slice Ab xb.length cb] 61)).heap.size) (by omega)
  have hra := (hra.alloc (Nat.le_refl _) (.cells #[.slice Aa xa.length ca, .slice Ab xb.length cb] 61)).more (B' := (w.alloc (.cells #[.slice Aa xa.length ca, .slice Ab xb.length cb] 61)).heap.size) (by omega)
  have hrb := (hrb.alloc (Nat.le_refl _) (.cells #[.slice Aa xa.length ca, .slice Ab xb.length cb] 61)).more (B' := (w.alloc (.cells #[.slice Aa xa.length ca, .slice Ab xb.length cb] 61)).heap.size) (by omega)
  have HX := Lib.hid (blk_new w 61 #[.slice Aa xa.length ca, .slice Ab xb.length cb])
  have HB1 := Lib.hid ((Below.refl w.heap.size w).alloc (Nat.le_refl _) (.cells #[.slice Aa xa.length ca, .slice Ab xb.length cb] 61))
  have s2 : ((w.alloc (.cells #[.slice Aa xa.length ca, .slice Ab xb.length cb] 61)).alloc (.cells #[.int .i64 (-3), .int .i64 0] 3)).heap.size = (w.alloc (.cells #[.slice Aa xa.length ca, .slice Ab xb.length cb] 61)).heap.size + 1 := by simp
  have hr := (hr.alloc (Nat.le_refl _) (.cells #[.int .i64 (-3), .int .i64 0] 3)).more (B' := ((w.alloc (.cells #[.slice Aa xa.length ca, .slice Ab xb.length cb] 61)).alloc (.cells #[.int .i64 (-3), .int .i64 0] 3)).heap.size) (by omega)
  have hr' := (hr'.alloc (Nat.le_refl _) (.cells #[.int .i64 (-3), .int .i64 0] 3)).more (B' := ((w.alloc (.cells #[.slice Aa xa.length ca, .slice Ab xb.length cb] 61)).alloc (.cells #[.int .i64 (-3), .int .i64 0] 3)).heap.size) (by omega)
  have hra := (hra.alloc (Nat.le_refl _) (.cells #[.int .i64 (-3), .int .i64 0] 3)).more (B' := ((w.alloc (.cells #[.slice Aa xa.length ca, .slice Ab xb.length cb] 61)).alloc (.cells #[.int .i64 (-3), .int .i64 0] 3)).heap.size) (by omega)
  have hrb := (hrb.alloc (Nat.le_refl _) (.cells #[.int .i64 (-3), .int .i64 0] 3)).more (B' := ((w.alloc (.cells #[.slice Aa xa.length ca, .slice Ab xb.length cb] 61)).alloc (.cells #[.int .i64 (-3), .int .i64 0] 3)).heap.size) (by omega)
  have HX := Lib.hid (blk_alloc HX.out (.cells #[.int .i64 (-3), .int .i64 0] 3))
  have HL := Lib.hid (blk_new (w.alloc (.cells #[.slice Aa xa.length ca, .slice Ab xb.length cb] 61)) 3 #[.int .i64 (-3), .int .i64 0])
  have HB2 := Lib.hid (HB1.out.alloc (HB1.out.size) (.cells #[.int .i64 (-3), .int .i64 0] 3))
  have s3 : (((w.alloc (.cells #[.slice Aa xa.length ca, .slice Ab xb.length cb] 61)).alloc (.cells #[.int .i64 (-3), .int .i64 0] 3)).alloc (.cells #[.int .i64 3, .int .i64 1] 3)).heap.size = ((w.alloc (.cells #[.slice Aa xa.length ca, .slice Ab xb.length cb] 61)).alloc (.cells #[.int .i64 (-3), .int .i64 0] 3)).heap.size + 1 := by simp
  have hr := (hr.alloc (Nat.le_refl _) (.cells #[.int .i64 3, .int .i64 1] 3)).more (B' := (((w.alloc (.cells #[.slice Aa xa.length ca, .slice Ab xb.length cb] 61)).alloc (.cells #[.int .i64 (-3), .int .i64 0] 3)).alloc (.cells #[.int .i64 3, .int .i64 1] 3)).heap.size) (by omega)
  have hr' := (hr'.alloc (Nat.le_refl _) (.cells #[.int .i64 3, .int .i64 1] 3)).more (B' := (((w.alloc (.cells #[.slice Aa xa.length ca, .slice Ab xb.length cb] 61)).alloc (.cells #[.int .i64 (-3), .int .i64 0] 3)).alloc (.cells #[.int .i64 3, .int .i64 1] 3)).heap.size) (by omega)
  have hra := (hra.alloc (Nat.le_refl _) (.cells #[.int .i64 3, .int .i64 1] 3)).more (B' := (((w.alloc (.cells #[.slice Aa xa.length ca, .slice Ab xb.length cb] 61)).alloc (.cells #[.int .i64 (-3), .int .i64 0] 3)).alloc (.cells #[.int .i64 3, .int .i64 1] 3)).heap.size) (by omega)
  have hrb := (hrb.alloc (Nat.le_refl _) (.cells #[.int .i64 3, .int .i64 1] 3)).more (B' := (((w.alloc (.cells #[.slice Aa xa.length ca, .slice Ab xb.length cb] 61)).alloc (.cells #[.int .i64 (-3), .int .i64 0] 3)).alloc (.cells #[.int .i64 3, .int .i64 1] 3)).heap.size) (by omega)
  have HX := Lib.hid (blk_alloc HX.out (.cells #[.int .i64 3, .int .i64 1] 3))
  have HL := Lib.hid (blk_alloc HL.out (.cells #[.int .i64 3, .int .i64 1] 3))
  have HM := Lib.hid (blk_new ((w.alloc (.cells #[.slice Aa xa.length ca, .slice Ab xb.length cb] 61)).alloc (.cells #[.int .i64 (-3), .int .i64 0] 3)) 3 #[.int .i64 3, .int .i64 1])
  have HB3 := Lib.hid (HB2.out.alloc (HB2.out.size) (.cells #[.int .i64 3, .int .i64 1] 3))
  rw [s1] at HL
  rw [s2, s1] at HM
  have rl : Rd (((w.alloc (.cells #[.slice Aa xa.length ca, .slice Ab xb.length cb] 61)).alloc (.cells #[.int .i64 (-3), .int .i64 0] 3)).alloc (.cells #[.int .i64 3, .int .i64 1] 3)) (((w.alloc (.cells #[.slice Aa xa.length ca, .slice Ab xb.length cb] 61)).alloc (.cells #[.int .i64 (-3), .int .i64 0] 3)).alloc (.cells #[.int .i64 3, .int .i64 1] 3)).heap.size 1 (some ⟨w.heap.size + 1, 0, none⟩) 2 (ints [-3, 0]) := (rd_lit HL.out rfl).more (by simp)
  have rm : Rd (((w.alloc (.cells #[.slice Aa xa.length ca, .slice Ab xb.length cb] 61)).alloc (.cells #[.int .i64 (-3), .int .i64 0] 3)).alloc (.cells #[.int .i64 3, .int .i64 1] 3)) (((w.alloc (.cells #[.slice Aa xa.length ca, .slice Ab xb.length cb] 61)).alloc (.cells #[.int .i64 (-3), .int .i64 0] 3)).alloc (.cells #[.int .i64 3, .int .i64 1] 3)).heap.size 1 (some ⟨w.heap.size + 1 + 1, 0, none⟩) 2 (ints [3, 1]) := (rd_lit HM.out rfl).more (by simp)
  go_wp2_with fail
  refine (pSteps _ _ 2 2 2 2 [-3, 0] [3, 1] 2 (((w.alloc (.cells #[.slice Aa xa.length ca, .slice Ab xb.length cb] 61)).alloc (.cells #[.int .i64 (-3), .int .i64 0] 3)).alloc (.cells #[.int .i64 3, .int .i64 1] 3)) (by simp) (by simp) (((w.alloc (.cells #[.slice Aa xa.length ca, .slice Ab xb.length cb] 61)).alloc (.cells #[.int .i64 (-3), .int .i64 0] 3)).alloc (.cells #[.int .i64 3, .int .i64 1] 3)).heap.size (Nat.le_refl _) rl rm).mono ?_
  rw [top_kn1, top_kn2]
  rintro e w4 ⟨rfl, hb4⟩
  have s4 := hb4.size
  have HB4 := Lib.hid (HB3.out.trans (hb4.mono (by have := HB3.out.size; omega)))
  have hr := (hr.below hb4).more s4
  have hr' := (hr'.below hb4).more s4
  have hra := (hra.below hb4).more s4
  have hrb := (hrb.below hb4).more s4
  have HX := Lib.hid (blk_below HX.out hb4 (blk_lt HX.out))
  have HL := Lib.hid (blk_below HL.out hb4 (blk_lt HL.out))
  have HM := Lib.hid (blk_below HM.out hb4 (blk_lt HM.out))
  clear hb4
  clear HL HM
  clear rl rm
  have x0 : w4.cell? ⟨w.heap.size, 0, none⟩ = some (.slice Aa xa.length ca) := blk_cell HX.out 0
  have x1 : w4.cell? ⟨w.heap.size, 1, none⟩ = some (.slice Ab xb.length cb) := blk_cell HX.out 1
  go_wp2_with fail
  refine (long_is false _ _ _ g h w4 hm _ hr hb).mono ?_
  rintro e w' ⟨rfl, rfl⟩
  go_wp2_with fail
  refine (long_is false _ _ _ row h' w4 hm' _ hr' hb').mono ?_
  rintro e w' ⟨rfl, rfl⟩
  go_wp2
  go_ret
  exact ⟨rfl, HB4.out⟩

set_option maxRecDepth 100000 in
set_option maxHeartbeats 400000 in
theorem topBad (A : Option Addr) (k c : Nat) (g : List (List Int)) (A' : Option Addr) (k' c' : Nat) (row : List (List Int)) (Aa : Option Addr) (ka ca : Nat) (xa : List Int) (Ab : Option Addr) (kb cb : Nat) (xb : List Int) (w : World) (hk : k ≤ c) (hc : c ≤ maxLen) (hr : TRd w w.heap.size A k g) (hb : ∀ l ∈ g, l.length ≤ maxLen) (hk' : k' ≤ c') (hc' : c' ≤ maxLen) (hr' : TRd w w.heap.size A' k' row) (hb' : ∀ l ∈ row, l.length ≤ maxLen) (hka : ka ≤ ca) (hca : ca ≤ maxLen) (hra : Rd w w.heap.size 1 Aa ka (ints xa)) (hba : Big xa) (hkb : kb ≤ cb) (hcb : cb ≤ maxLen) (hrb : Rd w w.heap.size 1 Ab kb (ints xb)) (hbb : Big xb) (h : longT g = false) (h' : longT row = false) (ha : decide (40 < xa.length) = false) (hb2 : decide (40 < xb.length) = false) (hv : vldG g ≠ 0) :
    Calls Try.prog 15 #[.slice A k c, .slice A' k' c', .agg #[.slice Aa ka ca, .slice Ab kb cb]] w fun e w' => e = .returned (.bool true) ∧ Below w.heap.size w w' := by
  have hm : k ≤ maxLen := Nat.le_trans hk hc
  have hm' : k' ≤ maxLen := Nat.le_trans hk' hc'
  have hma : ka ≤ maxLen := Nat.le_trans hka hca
  have hmb : kb ≤ maxLen := Nat.le_trans hkb hcb
  obtain rfl := hr.len
  obtain rfl := hr'.len
  obtain rfl := hra.int_len
  obtain rfl := hrb.int_len
  have e1 : decide (40 < (xa.length : Int)) = false := by rw [← ha]; exact decide_eq_decide.2 (by omega)
  have e2 : decide (40 < (xb.length : Int)) = false := by rw [← hb2]; exact decide_eq_decide.2 (by omega)
  have hs := longT_sm h
  have hs' := longT_sm h'
  have hla : xa.length ≤ 1000 := by have := of_decide_eq_false ha; omega
  have hlb : xb.length ≤ 1000 := by have := of_decide_eq_false hb2; omega
  have hd : (vldG g != 0) = true := by simpa using hv
  have hfb : fieldsN g = 0 := by rw [fieldsN, if_neg hv]
  go_enter Try.func15, Try.ntmps15
  have s1 : (w.alloc (.cells #[.slice Aa xa.length ca, .slice Ab xb.length cb] 61)).heap.size = w.heap.size + 1 := by simp
  have hr := (hr.alloc (Nat.le_refl _) (.cells #[.slice Aa xa.length ca, .slice Ab xb.length cb] 61)).more (B' := (w.alloc (.cells #[.slice Aa xa.length ca, .slice Ab xb.length cb] 61)).heap.size) (by omega)
  have hr' := (hr'.alloc (Nat.le_refl _) (.cells #[.slice Aa xa.length ca, .slice Ab xb.length cb] 61)).more (B' := (w.alloc (.cells #[.slice Aa xa.length ca, .slice Ab xb.length cb] 61)).heap.size) (by omega)
  have hra := (hra.alloc (Nat.le_refl _) (.cells #[.slice Aa xa.length ca, .slice Ab xb.length cb] 61)).more (B' := (w.alloc (.cells #[.slice Aa xa.length ca, .slice Ab xb.length cb] 61)).heap.size) (by omega)
  have hrb := (hrb.alloc (Nat.le_refl _) (.cells #[.slice Aa xa.length ca, .slice Ab xb.length cb] 61)).more (B' := (w.alloc (.cells #[.slice Aa xa.length ca, .slice Ab xb.length cb] 61)).heap.size) (by omega)
  have HX := Lib.hid (blk_new w 61 #[.slice Aa xa.length ca, .slice Ab xb.length cb])
  have HB1 := Lib.hid ((Below.refl w.heap.size w).alloc (Nat.le_refl _) (.cells #[.slice Aa xa.length ca, .slice Ab xb.length cb] 61))
  have s2 : ((w.alloc (.cells #[.slice Aa xa.length ca, .slice Ab xb.length cb] 61)).alloc (.cells #[.int .i64 (-3), .int .i64 0] 3)).heap.size = (w.alloc (.cells #[.slice Aa xa.length ca, .slice Ab xb.length cb] 61)).heap.size + 1 := by simp
  have hr := (hr.alloc (Nat.le_refl _) (.cells #[.int .i64 (-3), .int .i64 0] 3)).more (B' := ((w.alloc (.cells #[.slice Aa xa.length ca, .slice Ab xb.length cb] 61)).alloc (.cells #[.int .i64 (-3), .int .i64 0] 3)).heap.size) (by omega)
  have hr' := (hr'.alloc (Nat.le_refl _) (.cells #[.int .i64 (-3), .int .i64 0] 3)).more (B' := ((w.alloc (.cells #[.slice Aa xa.length ca, .slice Ab xb.length cb] 61)).alloc (.cells #[.int .i64 (-3), .int .i64 0] 3)).heap.size) (by omega)
  have hra := (hra.alloc (Nat.le_refl _) (.cells #[.int .i64 (-3), .int .i64 0] 3)).more (B' := ((w.alloc (.cells #[.slice Aa xa.length ca, .slice Ab xb.length cb] 61)).alloc (.cells #[.int .i64 (-3), .int .i64 0] 3)).heap.size) (by omega)
  have hrb := (hrb.alloc (Nat.le_refl _) (.cells #[.int .i64 (-3), .int .i64 0] 3)).more (B' := ((w.alloc (.cells #[.slice Aa xa.length ca, .slice Ab xb.length cb] 61)).alloc (.cells #[.int .i64 (-3), .int .i64 0] 3)).heap.size) (by omega)
  have HX := Lib.hid (blk_alloc HX.out (.cells #[.int .i64 (-3), .int .i64 0] 3))
  have HL := Lib.hid (blk_new (w.alloc (.cells #[.slice Aa xa.length ca, .slice Ab xb.length cb] 61)) 3 #[.int .i64 (-3), .int .i64 0])
  have HB2 := Lib.hid (HB1.out.alloc (HB1.out.size) (.cells #[.int .i64 (-3), .int .i64 0] 3))
  have s3 : (((w.alloc (.cells #[.slice Aa xa.length ca, .slice Ab xb.length cb] 61)).alloc (.cells #[.int .i64 (-3), .int .i64 0] 3)).alloc (.cells #[.int .i64 3, .int .i64 1] 3)).heap.size = ((w.alloc (.cells #[.slice Aa xa.length ca, .slice Ab xb.length cb] 61)).alloc (.cells #[.int .i64 (-3), .int .i64 0] 3)).heap.size + 1 := by simp
  have hr := (hr.alloc (Nat.le_refl _) (.cells #[.int .i64 3, .int .i64 1] 3)).more (B' := (((w.alloc (.cells #[.slice Aa xa.length ca, .slice Ab xb.length cb] 61)).alloc (.cells #[.int .i64 (-3), .int .i64 0] 3)).alloc (.cells #[.int .i64 3, .int .i64 1] 3)).heap.size) (by omega)
  have hr' := (hr'.alloc (Nat.le_refl _) (.cells #[.int .i64 3, .int .i64 1] 3)).more (B' := (((w.alloc (.cells #[.slice Aa xa.length ca, .slice Ab xb.length cb] 61)).alloc (.cells #[.int .i64 (-3), .int .i64 0] 3)).alloc (.cells #[.int .i64 3, .int .i64 1] 3)).heap.size) (by omega)
  have hra := (hra.alloc (Nat.le_refl _) (.cells #[.int .i64 3, .int .i64 1] 3)).more (B' := (((w.alloc (.cells #[.slice Aa xa.length ca, .slice Ab xb.length cb] 61)).alloc (.cells #[.int .i64 (-3), .int .i64 0] 3)).alloc (.cells #[.int .i64 3, .int .i64 1] 3)).heap.size) (by omega)
  have hrb := (hrb.alloc (Nat.le_refl _) (.cells #[.int .i64 3, .int .i64 1] 3)).more (B' := (((w.alloc (.cells #[.slice Aa xa.length ca, .slice Ab xb.length cb] 61)).alloc (.cells #[.int .i64 (-3), .int .i64 0] 3)).alloc (.cells #[.int .i64 3, .int .i64 1] 3)).heap.size) (by omega)
  have HX := Lib.hid (blk_alloc HX.out (.cells #[.int .i64 3, .int .i64 1] 3))
  have HL := Lib.hid (blk_alloc HL.out (.cells #[.int .i64 3, .int .i64 1] 3))
  have HM := Lib.hid (blk_new ((w.alloc (.cells #[.slice Aa xa.length ca, .slice Ab xb.length cb] 61)).alloc (.cells #[.int .i64 (-3), .int .i64 0] 3)) 3 #[.int .i64 3, .int .i64 1])
  have HB3 := Lib.hid (HB2.out.alloc (HB2.out.size) (.cells #[.int .i64 3, .int .i64 1] 3))
  rw [s1] at HL
  rw [s2, s1] at HM
  have rl : Rd (((w.alloc (.cells #[.slice Aa xa.length ca, .slice Ab xb.length cb] 61)).alloc (.cells #[.int .i64 (-3), .int .i64 0] 3)).alloc (.cells #[.int .i64 3, .int .i64 1] 3)) (((w.alloc (.cells #[.slice Aa xa.length ca, .slice Ab xb.length cb] 61)).alloc (.cells #[.int .i64 (-3), .int .i64 0] 3)).alloc (.cells #[.int .i64 3, .int .i64 1] 3)).heap.size 1 (some ⟨w.heap.size + 1, 0, none⟩) 2 (ints [-3, 0]) := (rd_lit HL.out rfl).more (by simp)
  have rm : Rd (((w.alloc (.cells #[.slice Aa xa.length ca, .slice Ab xb.length cb] 61)).alloc (.cells #[.int .i64 (-3), .int .i64 0] 3)).alloc (.cells #[.int .i64 3, .int .i64 1] 3)) (((w.alloc (.cells #[.slice Aa xa.length ca, .slice Ab xb.length cb] 61)).alloc (.cells #[.int .i64 (-3), .int .i64 0] 3)).alloc (.cells #[.int .i64 3, .int .i64 1] 3)).heap.size 1 (some ⟨w.heap.size + 1 + 1, 0, none⟩) 2 (ints [3, 1]) := (rd_lit HM.out rfl).more (by simp)
  go_wp2_with fail
  refine (pSteps _ _ 2 2 2 2 [-3, 0] [3, 1] 2 (((w.alloc (.cells #[.slice Aa xa.length ca, .slice Ab xb.length cb] 61)).alloc (.cells #[.int .i64 (-3), .int .i64 0] 3)).alloc (.cells #[.int .i64 3, .int .i64 1] 3)) (by simp) (by simp) (((w.alloc (.cells #[.slice Aa xa.length ca, .slice Ab xb.length cb] 61)).alloc (.cells #[.int .i64 (-3), .int .i64 0] 3)).alloc (.cells #[.int .i64 3, .int .i64 1] 3)).heap.size (Nat.le_refl _) rl rm).mono ?_
  rw [top_kn1, top_kn2]
  rintro e w4 ⟨rfl, hb4⟩
  have s4 := hb4.size
  have HB4 := Lib.hid (HB3.out.trans (hb4.mono (by have := HB3.out.size; omega)))
  have hr := (hr.below hb4).more s4
  have hr' := (hr'.below hb4).more s4
  have hra := (hra.below hb4).more s4
  have hrb := (hrb.below hb4).more s4
  have HX := Lib.hid (blk_below HX.out hb4 (blk_lt HX.out))
  have HL := Lib.hid (blk_below HL.out hb4 (blk_lt HL.out))
  have HM := Lib.hid (blk_below HM.out hb4 (blk_lt HM.out))
  clear hb4
  clear HL HM
  clear rl rm
  have x0 : w4.cell? ⟨w.heap.size, 0, none⟩ = some (.slice Aa xa.length ca) := blk_cell HX.out 0
  have x1 : w4.cell? ⟨w.heap.size, 1, none⟩ = some (.slice Ab xb.length cb) := blk_cell HX.out 1
  go_wp2_with fail
  refine (long_is false _ _ _ g h w4 hm _ hr hb).mono ?_
  rintro e w' ⟨rfl, rfl⟩
  go_wp2_with fail
  refine (long_is false _ _ _ row h' w4 hm' _ hr' hb').mono ?_
  rintro e w' ⟨rfl, rfl⟩
  go_wp2_with fail
  refine (pFields _ _ c g w4 hs w4.heap.size (Nat.le_refl _) hr).mono ?_
  rw [hfb]
  rintro e w5 ⟨rfl, hb5⟩
  have s5 := hb5.size
  have HB5 := Lib.hid (HB4.out.trans (hb5.mono (by have := HB4.out.size; omega)))
  have hr := (hr.below hb5).more s5
  have hr' := (hr'.below hb5).more s5
  have hra := (hra.below hb5).more s5
  have hrb := (hrb.below hb5).more s5
  have HX := Lib.hid (blk_below HX.out hb5 (blk_lt HX.out))
  clear hb5
  clear hfb hv
  have HVL := Lib.hid (pValidate _ _ c g w5 hs w5.heap.size (Nat.le_refl _) hr)
  generalize vldG g = e0 at *
  go_wp2_with fail
  refine (HVL.out).mono ?_
  rintro e w6 ⟨rfl, hb6⟩
  have s6 := hb6.size
  have HB6 := Lib.hid (HB5.out.trans (hb6.mono (by have := HB5.out.size; omega)))
  have hr := (hr.below hb6).more s6
  have hr' := (hr'.below hb6).more s6
  have hra := (hra.below hb6).more s6
  have hrb := (hrb.below hb6).more s6
  have HX := Lib.hid (blk_below HX.out hb6 (blk_lt HX.out))
  clear hb6
  go_wp2
  go_ret
  exact ⟨rfl, HB6.out⟩
end Go.Proofs.Ytejjogpgolgdgaa
