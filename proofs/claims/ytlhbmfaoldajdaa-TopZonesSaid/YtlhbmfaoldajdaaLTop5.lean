/-
  THE WALK of TopZones, way "no plan, offY". (Printed by gen_ltop.py.)
-/
import Derived.Test.YtlhbmfaoldajdaaP10
namespace Go.Proofs.Ytlhbmfaoldajdaa
open Go.RowKit Go.Maps

set_option maxRecDepth 100000 in
set_option maxHeartbeats 4000000 in
theorem topWay0_offY (Z : Int) (A : Option Addr) (k c : Nat) (L : List (Int × Int)) (A' : Option Addr) (k' c' : Nat) (s : List Int) (A'' : Option Addr) (k'' c'' : Nat) (t : List Int) (Ap : Option Addr) (kp cp : Nat) (p : List (Int × Int)) (w : World) (hk : k ≤ c) (hc : c ≤ maxLen) (hr : Rd w w.heap.size 2 A k (prs L)) (hk' : k' ≤ c') (hc' : c' ≤ maxLen) (hr' : Rd w w.heap.size 1 A' k' (ints s)) (hk'' : k'' ≤ c'') (hc'' : c'' ≤ maxLen) (hr'' : Rd w w.heap.size 1 A'' k'' (ints t)) (hkp : kp ≤ cp) (hcp : cp ≤ maxLen) (hrp : Rd w w.heap.size 2 Ap kp (prs p)) (h : decide (60 < L.length) = false) (h1 : decide (40 < s.length) = false) (h2 : decide (40 < t.length) = false) (h3 : decide (1000 < p.length) = false) (hv : placeE Z L s = 0) (hp : ¬ planB Z L s p) (hq : pairZ Z L s t = 0) (hf : farB Z L s t = false) (ho : seqB Z L s = true) :
    Calls Try.prog 3 #[.agg #[.int .i64 Z, .slice A k c], .agg #[.slice A' k' c', .slice A'' k'' c''], .slice Ap kp cp] w fun e w' => e = .returned (.bool true) ∧ Below w.heap.size w w' := by
  have hm : k ≤ maxLen := Nat.le_trans hk hc
  have hm' : k' ≤ maxLen := Nat.le_trans hk' hc'
  have hm'' : k'' ≤ maxLen := Nat.le_trans hk'' hc''
  have hmp : kp ≤ maxLen := Nat.le_trans hkp hcp
  obtain rfl := hr.pr_len
  obtain rfl := hr'.int_len
  obtain rfl := hr''.int_len
  obtain rfl := hrp.pr_len
  have e1 : decide (40 < (s.length : Int)) = false := by rw [← h1]; exact decide_eq_decide.2 (by omega)
  have e2 : decide (40 < (t.length : Int)) = false := by rw [← h2]; exact decide_eq_decide.2 (by omega)
  have e3 : decide (1000 < (p.length : Int)) = false := by rw [← h3]; exact decide_eq_decide.2 (by omega)
  have hl : L.length ≤ 1000 := by have := of_decide_eq_false h; omega
  have hl1 : s.length ≤ 1000 := by have := of_decide_eq_false h1; omega
  have hl2 : t.length ≤ 1000 := by have := of_decide_eq_false h2; omega
  have hl3 : p.length ≤ 1000 := by have := of_decide_eq_false h3; omega
  obtain ⟨_, g_pt, g_len⟩ := pair_to hq
  have g_ot := seqB_other hq ho
  have g_lt := seq_len g_pt
  have g_ls := seq_len hv
  have g_sb := fun hn he => seq_back hq ho hn he
  obtain ⟨nr, g_nr⟩ : ∃ z, reachN Z L s = z := ⟨_, rfl⟩
  obtain ⟨sq, g_sq⟩ : ∃ z, seqF Z L s = z := ⟨_, rfl⟩
  rw [g_sq] at g_ls
  obtain ⟨fa, g_fa⟩ : ∃ z, farN Z L s t = z := ⟨_, rfl⟩
  have hZ := fun (hn : (s.length : Int) ≠ Z) (he : seqF Z L t = sq) => by rw [← g_sq] at he; exact g_sb hn he
  obtain ⟨nx, g_nx⟩ : ∃ z, reachN Z L t = z := ⟨_, rfl⟩
  rw [hf] at hZ
  clear g_sb
  have hZ := Lib.hid hZ
  obtain ⟨sx, g_sx⟩ : ∃ z, seqF Z L t = z := ⟨_, rfl⟩
  rw [g_sx] at hZ g_lt
  have g_od := ho
  have Hg_nr := Lib.hid g_nr
  have Hg_sq := Lib.hid g_sq
  have Hg_od := Lib.hid g_od
  have Hg_fa := Lib.hid g_fa
  clear g_nr g_sq g_od g_fa
  have Hg_pt := Lib.hid g_pt
  have Hhq := Lib.hid hq
  have Hhf := Lib.hid hf
  clear g_pt hq hf
  clear g_len ho
  have Hg_nx := Lib.hid g_nx
  clear g_nx
  have Hg_ot := Lib.hid g_ot
  clear g_ot
  have Hg_sx := Lib.hid g_sx
  clear g_sx
  have Hhv := Lib.hid hv
  have Hhp := Lib.hid hp
  clear hv hp
  have s1 : (w.alloc (.cells #[.int .i64 Z, .slice A L.length c] 24)).heap.size = w.heap.size + 1 := by simp
  have hr := (hr.alloc (Nat.le_refl _) (.cells #[.int .i64 Z, .slice A L.length c] 24)).more (B' := (w.alloc (.cells #[.int .i64 Z, .slice A L.length c] 24)).heap.size) (by omega)
  have hr' := (hr'.alloc (Nat.le_refl _) (.cells #[.int .i64 Z, .slice A L.length c] 24)).more (B' := (w.alloc (.cells #[.int .i64 Z, .slice A L.length c] 24)).heap.size) (by omega)
  have hr'' := (hr''.alloc (Nat.le_refl _) (.cells #[.int .i64 Z, .slice A L.length c] 24)).more (B' := (w.alloc (.cells #[.int .i64 Z, .slice A L.length c] 24)).heap.size) (by omega)
  have hrp := (hrp.alloc (Nat.le_refl _) (.cells #[.int .i64 Z, .slice A L.length c] 24)).more (B' := (w.alloc (.cells #[.int .i64 Z, .slice A L.length c] 24)).heap.size) (by omega)
  have HX := Lib.hid (blk_new w 24 #[.int .i64 Z, .slice A L.length c])
  have HB1 := Lib.hid ((Below.refl w.heap.size w).alloc (Nat.le_refl _) (.cells #[.int .i64 Z, .slice A L.length c] 24))
  have s2 : ((w.alloc (.cells #[.int .i64 Z, .slice A L.length c] 24)).alloc (.cells #[.slice A' s.length c', .slice A'' t.length c''] 27)).heap.size = (w.alloc (.cells #[.int .i64 Z, .slice A L.length c] 24)).heap.size + 1 := by simp
  have hr := (hr.alloc (Nat.le_refl _) (.cells #[.slice A' s.length c', .slice A'' t.length c''] 27)).more (B' := ((w.alloc (.cells #[.int .i64 Z, .slice A L.length c] 24)).alloc (.cells #[.slice A' s.length c', .slice A'' t.length c''] 27)).heap.size) (by omega)
  have hr' := (hr'.alloc (Nat.le_refl _) (.cells #[.slice A' s.length c', .slice A'' t.length c''] 27)).more (B' := ((w.alloc (.cells #[.int .i64 Z, .slice A L.length c] 24)).alloc (.cells #[.slice A' s.length c', .slice A'' t.length c''] 27)).heap.size) (by omega)
  have hr'' := (hr''.alloc (Nat.le_refl _) (.cells #[.slice A' s.length c', .slice A'' t.length c''] 27)).more (B' := ((w.alloc (.cells #[.int .i64 Z, .slice A L.length c] 24)).alloc (.cells #[.slice A' s.length c', .slice A'' t.length c''] 27)).heap.size) (by omega)
  have hrp := (hrp.alloc (Nat.le_refl _) (.cells #[.slice A' s.length c', .slice A'' t.length c''] 27)).more (B' := ((w.alloc (.cells #[.int .i64 Z, .slice A L.length c] 24)).alloc (.cells #[.slice A' s.length c', .slice A'' t.length c''] 27)).heap.size) (by omega)
  have HX := Lib.hid (blk_alloc HX.out (.cells #[.slice A' s.length c', .slice A'' t.length c''] 27))
  have HY := Lib.hid (blk_new (w.alloc (.cells #[.int .i64 Z, .slice A L.length c] 24)) 27 #[.slice A' s.length c', .slice A'' t.length c''])
  have HB2 := Lib.hid (HB1.out.alloc (HB1.out.size) (.cells #[.slice A' s.length c', .slice A'' t.length c''] 27))
  rw [s1] at HY
  have s3 : (((w.alloc (.cells #[.int .i64 Z, .slice A L.length c] 24)).alloc (.cells #[.slice A' s.length c', .slice A'' t.length c''] 27)).alloc (.cells #[.int .i64 0, .int .i64 1, .int .i64 1, .int .i64 2, .int .i64 2, .int .i64 3, .int .i64 0, .int .i64 3] 33)).heap.size = ((w.alloc (.cells #[.int .i64 Z, .slice A L.length c] 24)).alloc (.cells #[.slice A' s.length c', .slice A'' t.length c''] 27)).heap.size + 1 := by simp
  have hr := (hr.alloc (Nat.le_refl _) (.cells #[.int .i64 0, .int .i64 1, .int .i64 1, .int .i64 2, .int .i64 2, .int .i64 3, .int .i64 0, .int .i64 3] 33)).more (B' := (((w.alloc (.cells #[.int .i64 Z, .slice A L.length c] 24)).alloc (.cells #[.slice A' s.length c', .slice A'' t.length c''] 27)).alloc (.cells #[.int .i64 0, .int .i64 1, .int .i64 1, .int .i64 2, .int .i64 2, .int .i64 3, .int .i64 0, .int .i64 3] 33)).heap.size) (by omega)
  have hr' := (hr'.alloc (Nat.le_refl _) (.cells #[.int .i64 0, .int .i64 1, .int .i64 1, .int .i64 2, .int .i64 2, .int .i64 3, .int .i64 0, .int .i64 3] 33)).more (B' := (((w.alloc (.cells #[.int .i64 Z, .slice A L.length c] 24)).alloc (.cells #[.slice A' s.length c', .slice A'' t.length c''] 27)).alloc (.cells #[.int .i64 0, .int .i64 1, .int .i64 1, .int .i64 2, .int .i64 2, .int .i64 3, .int .i64 0, .int .i64 3] 33)).heap.size) (by omega)
  have hr'' := (hr''.alloc (Nat.le_refl _) (.cells #[.int .i64 0, .int .i64 1, .int .i64 1, .int .i64 2, .int .i64 2, .int .i64 3, .int .i64 0, .int .i64 3] 33)).more (B' := (((w.alloc (.cells #[.int .i64 Z, .slice A L.length c] 24)).alloc (.cells #[.slice A' s.length c', .slice A'' t.length c''] 27)).alloc (.cells #[.int .i64 0, .int .i64 1, .int .i64 1, .int .i64 2, .int .i64 2, .int .i64 3, .int .i64 0, .int .i64 3] 33)).heap.size) (by omega)
  have hrp := (hrp.alloc (Nat.le_refl _) (.cells #[.int .i64 0, .int .i64 1, .int .i64 1, .int .i64 2, .int .i64 2, .int .i64 3, .int .i64 0, .int .i64 3] 33)).more (B' := (((w.alloc (.cells #[.int .i64 Z, .slice A L.length c] 24)).alloc (.cells #[.slice A' s.length c', .slice A'' t.length c''] 27)).alloc (.cells #[.int .i64 0, .int .i64 1, .int .i64 1, .int .i64 2, .int .i64 2, .int .i64 3, .int .i64 0, .int .i64 3] 33)).heap.size) (by omega)
  have HX := Lib.hid (blk_alloc HX.out (.cells #[.int .i64 0, .int .i64 1, .int .i64 1, .int .i64 2, .int .i64 2, .int .i64 3, .int .i64 0, .int .i64 3] 33))
  have HY := Lib.hid (blk_alloc HY.out (.cells #[.int .i64 0, .int .i64 1, .int .i64 1, .int .i64 2, .int .i64 2, .int .i64 3, .int .i64 0, .int .i64 3] 33))
  have HL := Lib.hid (blk_new ((w.alloc (.cells #[.int .i64 Z, .slice A L.length c] 24)).alloc (.cells #[.slice A' s.length c', .slice A'' t.length c''] 27)) 33 #[.int .i64 0, .int .i64 1, .int .i64 1, .int .i64 2, .int .i64 2, .int .i64 3, .int .i64 0, .int .i64 3])
  have HB3 := Lib.hid (HB2.out.alloc (HB2.out.size) (.cells #[.int .i64 0, .int .i64 1, .int .i64 1, .int .i64 2, .int .i64 2, .int .i64 3, .int .i64 0, .int .i64 3] 33))
  rw [s2, s1] at HL
  have s4 : ((((w.alloc (.cells #[.int .i64 Z, .slice A L.length c] 24)).alloc (.cells #[.slice A' s.length c', .slice A'' t.length c''] 27)).alloc (.cells #[.int .i64 0, .int .i64 1, .int .i64 1, .int .i64 2, .int .i64 2, .int .i64 3, .int .i64 0, .int .i64 3] 33)).alloc (.cells #[.int .i64 0, .int .i64 2] 3)).heap.size = (((w.alloc (.cells #[.int .i64 Z, .slice A L.length c] 24)).alloc (.cells #[.slice A' s.length c', .slice A'' t.length c''] 27)).alloc (.cells #[.int .i64 0, .int .i64 1, .int .i64 1, .int .i64 2, .int .i64 2, .int .i64 3, .int .i64 0, .int .i64 3] 33)).heap.size + 1 := by simp
  have hr := (hr.alloc (Nat.le_refl _) (.cells #[.int .i64 0, .int .i64 2] 3)).more (B' := ((((w.alloc (.cells #[.int .i64 Z, .slice A L.length c] 24)).alloc (.cells #[.slice A' s.length c', .slice A'' t.length c''] 27)).alloc (.cells #[.int .i64 0, .int .i64 1, .int .i64 1, .int .i64 2, .int .i64 2, .int .i64 3, .int .i64 0, .int .i64 3] 33)).alloc (.cells #[.int .i64 0, .int .i64 2] 3)).heap.size) (by omega)
  have hr' := (hr'.alloc (Nat.le_refl _) (.cells #[.int .i64 0, .int .i64 2] 3)).more (B' := ((((w.alloc (.cells #[.int .i64 Z, .slice A L.length c] 24)).alloc (.cells #[.slice A' s.length c', .slice A'' t.length c''] 27)).alloc (.cells #[.int .i64 0, .int .i64 1, .int .i64 1, .int .i64 2, .int .i64 2, .int .i64 3, .int .i64 0, .int .i64 3] 33)).alloc (.cells #[.int .i64 0, .int .i64 2] 3)).heap.size) (by omega)
  have hr'' := (hr''.alloc (Nat.le_refl _) (.cells #[.int .i64 0, .int .i64 2] 3)).more (B' := ((((w.alloc (.cells #[.int .i64 Z, .slice A L.length c] 24)).alloc (.cells #[.slice A' s.length c', .slice A'' t.length c''] 27)).alloc (.cells #[.int .i64 0, .int .i64 1, .int .i64 1, .int .i64 2, .int .i64 2, .int .i64 3, .int .i64 0, .int .i64 3] 33)).alloc (.cells #[.int .i64 0, .int .i64 2] 3)).heap.size) (by omega)
  have hrp := (hrp.alloc (Nat.le_refl _) (.cells #[.int .i64 0, .int .i64 2] 3)).more (B' := ((((w.alloc (.cells #[.int .i64 Z, .slice A L.length c] 24)).alloc (.cells #[.slice A' s.length c', .slice A'' t.length c''] 27)).alloc (.cells #[.int .i64 0, .int .i64 1, .int .i64 1, .int .i64 2, .int .i64 2, .int .i64 3, .int .i64 0, .int .i64 3] 33)).alloc (.cells #[.int .i64 0, .int .i64 2] 3)).heap.size) (by omega)
  have HX := Lib.hid (blk_alloc HX.out (.cells #[.int .i64 0, .int .i64 2] 3))
  have HY := Lib.hid (blk_alloc HY.out (.cells #[.int .i64 0, .int .i64 2] 3))
  have HL := Lib.hid (blk_alloc HL.out (.cells #[.int .i64 0, .int .i64 2] 3))
  have HM := Lib.hid (blk_new (((w.alloc (.cells #[.int .i64 Z, .slice A L.length c] 24)).alloc (.cells #[.slice A' s.length c', .slice A'' t.length c''] 27)).alloc (.cells #[.int .i64 0, .int .i64 1, .int .i64 1, .int .i64 2, .int .i64 2, .int .i64 3, .int .i64 0, .int .i64 3] 33)) 3 #[.int .i64 0, .int .i64 2])
  have HB4 := Lib.hid (HB3.out.alloc (HB3.out.size) (.cells #[.int .i64 0, .int .i64 2] 3))
  rw [s3, s2, s1] at HM
  have rl : Rd ((((w.alloc (.cells #[.int .i64 Z, .slice A L.length c] 24)).alloc (.cells #[.slice A' s.length c', .slice A'' t.length c''] 27)).alloc (.cells #[.int .i64 0, .int .i64 1, .int .i64 1, .int .i64 2, .int .i64 2, .int .i64 3, .int .i64 0, .int .i64 3] 33)).alloc (.cells #[.int .i64 0, .int .i64 2] 3)) ((((w.alloc (.cells #[.int .i64 Z, .slice A L.length c] 24)).alloc (.cells #[.slice A' s.length c', .slice A'' t.length c''] 27)).alloc (.cells #[.int .i64 0, .int .i64 1, .int .i64 1, .int .i64 2, .int .i64 2, .int .i64 3, .int .i64 0, .int .i64 3] 33)).alloc (.cells #[.int .i64 0, .int .i64 2] 3)).heap.size 2 (some ⟨w.heap.size + 1 + 1, 0, none⟩) 4 (prs [(0, 1), (1, 2), (2, 3), (0, 3)]) := (rd_lit HL.out rfl).more (by simp)
  have rm : Rd ((((w.alloc (.cells #[.int .i64 Z, .slice A L.length c] 24)).alloc (.cells #[.slice A' s.length c', .slice A'' t.length c''] 27)).alloc (.cells #[.int .i64 0, .int .i64 1, .int .i64 1, .int .i64 2, .int .i64 2, .int .i64 3, .int .i64 0, .int .i64 3] 33)).alloc (.cells #[.int .i64 0, .int .i64 2] 3)) ((((w.alloc (.cells #[.int .i64 Z, .slice A L.length c] 24)).alloc (.cells #[.slice A' s.length c', .slice A'' t.length c''] 27)).alloc (.cells #[.int .i64 0, .int .i64 1, .int .i64 1, .int .i64 2, .int .i64 2, .int .i64 3, .int .i64 0, .int .i64 3] 33)).alloc (.cells #[.int .i64 0, .int .i64 2] 3)).heap.size 1 (some ⟨w.heap.size + 1 + 1 + 1, 0, none⟩) 2 (ints [0, 2]) := (rd_lit HM.out rfl).more (by simp)
  go_enter Try.func3, Try.ntmps3
  go_wp2_with fail
  refine (pReach 4 _ _ 4 4 2 2 [(0, 1), (1, 2), (2, 3), (0, 3)] [0, 2] ((((w.alloc (.cells #[.int .i64 Z, .slice A L.length c] 24)).alloc (.cells #[.slice A' s.length c', .slice A'' t.length c''] 27)).alloc (.cells #[.int .i64 0, .int .i64 1, .int .i64 1, .int .i64 2, .int .i64 2, .int .i64 3, .int .i64 0, .int .i64 3] 33)).alloc (.cells #[.int .i64 0, .int .i64 2] 3)) (by simp) (by omega) (by simp) (by omega) ((((w.alloc (.cells #[.int .i64 Z, .slice A L.length c] 24)).alloc (.cells #[.slice A' s.length c', .slice A'' t.length c''] 27)).alloc (.cells #[.int .i64 0, .int .i64 1, .int .i64 1, .int .i64 2, .int .i64 2, .int .i64 3, .int .i64 0, .int .i64 3] 33)).alloc (.cells #[.int .i64 0, .int .i64 2] 3)).heap.size (Nat.le_refl _) rl rm).mono ?_
  rw [reach_known, place_known]
  rintro e w5 ⟨rfl, hb5⟩
  have s5 := hb5.size
  have HB5 := Lib.hid (HB4.out.trans (hb5.mono (by have := HB4.out.size; omega)))
  have hr := (hr.below hb5).more s5
  have hr' := (hr'.below hb5).more s5
  have hr'' := (hr''.below hb5).more s5
  have hrp := (hrp.below hb5).more s5
  have HX := Lib.hid (blk_below HX.out hb5 (blk_lt HX.out))
  have HY := Lib.hid (blk_below HY.out hb5 (blk_lt HY.out))
  have HL := Lib.hid (blk_below HL.out hb5 (blk_lt HL.out))
  have HM := Lib.hid (blk_below HM.out hb5 (blk_lt HM.out))
  clear hb5
  clear HL HM
  clear rl rm
  have x0 : w5.cell? ⟨w.heap.size, 0, none⟩ = some (.int .i64 Z) := blk_cell HX.out 0
  have x1 : w5.cell? ⟨w.heap.size, 1, none⟩ = some (.slice A L.length c) := blk_cell HX.out 1
  have y0 : w5.cell? ⟨w.heap.size + 1, 0, none⟩ = some (.slice A' s.length c') := blk_cell HY.out 0
  have y1 : w5.cell? ⟨w.heap.size + 1, 1, none⟩ = some (.slice A'' t.length c'') := blk_cell HY.out 1
  go_wp2_with fail
  refine (pLong false Z A L.length c h w5 hm).mono ?_
  rintro e w' ⟨rfl, hb⟩
  obtain ⟨w6, hw6⟩ : ∃ z, z = w' := ⟨_, rfl⟩
  rw [← hw6] at hb ⊢
  clear hw6
  have s6 := hb.size
  have HB6 := Lib.hid (HB5.out.trans (hb.mono (by have := HB5.out.size; omega)))
  have hr := (hr.below hb).more s6
  have hr' := (hr'.below hb).more s6
  have hr'' := (hr''.below hb).more s6
  have hrp := (hrp.below hb).more s6
  have HX := Lib.hid (blk_below HX.out hb (blk_lt HX.out))
  have HY := Lib.hid (blk_below HY.out hb (blk_lt HY.out))
  clear hb
  clear x0 x1 y0 y1
  have x0 : w6.cell? ⟨w.heap.size, 0, none⟩ = some (.int .i64 Z) := blk_cell HX.out 0
  have x1 : w6.cell? ⟨w.heap.size, 1, none⟩ = some (.slice A L.length c) := blk_cell HX.out 1
  have y0 : w6.cell? ⟨w.heap.size + 1, 0, none⟩ = some (.slice A' s.length c') := blk_cell HY.out 0
  have y1 : w6.cell? ⟨w.heap.size + 1, 1, none⟩ = some (.slice A'' t.length c'') := blk_cell HY.out 1
  go_wp2_with fail
  refine (pReach Z A A' _ c _ c' L s w6 hl hk hl1 hk' w6.heap.size (Nat.le_refl _) hr hr').mono ?_
  rw [Hg_nr.out, Hhv.out]
  rintro e w7 ⟨rfl, hb7⟩
  have s7 := hb7.size
  have HB7 := Lib.hid (HB6.out.trans (hb7.mono (by have := HB6.out.size; omega)))
  have hr := (hr.below hb7).more s7
  have hr' := (hr'.below hb7).more s7
  have hr'' := (hr''.below hb7).more s7
  have hrp := (hrp.below hb7).more s7
  have HX := Lib.hid (blk_below HX.out hb7 (blk_lt HX.out))
  have HY := Lib.hid (blk_below HY.out hb7 (blk_lt HY.out))
  clear hb7
  clear x0 x1 y0 y1
  have x0 : w7.cell? ⟨w.heap.size, 0, none⟩ = some (.int .i64 Z) := blk_cell HX.out 0
  have x1 : w7.cell? ⟨w.heap.size, 1, none⟩ = some (.slice A L.length c) := blk_cell HX.out 1
  have y0 : w7.cell? ⟨w.heap.size + 1, 0, none⟩ = some (.slice A' s.length c') := blk_cell HY.out 0
  have y1 : w7.cell? ⟨w.heap.size + 1, 1, none⟩ = some (.slice A'' t.length c'') := blk_cell HY.out 1
  go_wp2_with fail
  refine (pSequence Z A A' _ c _ c' L s w7 hl hk hl1 hk' w7.heap.size (Nat.le_refl _) hr hr').mono ?_
  rw [Hg_od.out, Hhv.out, Hg_sq.out]
  rintro e w8 ⟨v8, rfl, hown8, hb8⟩
  have s8 := hb8.size
  have HB8 := Lib.hid (HB7.out.trans (hb8.mono (by have := HB7.out.size; omega)))
  have hr := (hr.below hb8).more s8
  have hr' := (hr'.below hb8).more s8
  have hr'' := (hr''.below hb8).more s8
  have hrp := (hrp.below hb8).more s8
  have HX := Lib.hid (blk_below HX.out hb8 (blk_lt HX.out))
  have HY := Lib.hid (blk_below HY.out hb8 (blk_lt HY.out))
  obtain ⟨A8, c8, rfl, qa8, qb8⟩ := own_cap hown8
  have r8 := Rd.of_own hown8
  clear hb8 hown8
  clear x0 x1 y0 y1
  have x0 : w8.cell? ⟨w.heap.size, 0, none⟩ = some (.int .i64 Z) := blk_cell HX.out 0
  have x1 : w8.cell? ⟨w.heap.size, 1, none⟩ = some (.slice A L.length c) := blk_cell HX.out 1
  have y0 : w8.cell? ⟨w.heap.size + 1, 0, none⟩ = some (.slice A' s.length c') := blk_cell HY.out 0
  have y1 : w8.cell? ⟨w.heap.size + 1, 1, none⟩ = some (.slice A'' t.length c'') := blk_cell HY.out 1
  go_wp2_with fail
  refine (pCheckPlan Z A A' Ap _ c _ c' _ cp L s p w8 hl hk hl1 hk' hl3 w8.heap.size (Nat.le_refl _) hr hr' hrp).mono ?_
  rintro e w9 ⟨v9, n9, e9, rfl, hyes, hno, hb9⟩
  have hd9 : (e9 == 0) = false := by have := hno Hhp.out; simpa using this
  clear hyes hno
  have s9 := hb9.size
  have HB9 := Lib.hid (HB8.out.trans (hb9.mono (by have := HB8.out.size; omega)))
  have hr := (hr.below hb9).more s9
  have hr' := (hr'.below hb9).more s9
  have hr'' := (hr''.below hb9).more s9
  have hrp := (hrp.below hb9).more s9
  have r8 := (r8.below hb9).more s9
  have HX := Lib.hid (blk_below HX.out hb9 (blk_lt HX.out))
  have HY := Lib.hid (blk_below HY.out hb9 (blk_lt HY.out))
  clear hb9
  clear x0 x1 y0 y1
  have x0 : w9.cell? ⟨w.heap.size, 0, none⟩ = some (.int .i64 Z) := blk_cell HX.out 0
  have x1 : w9.cell? ⟨w.heap.size, 1, none⟩ = some (.slice A L.length c) := blk_cell HX.out 1
  have y0 : w9.cell? ⟨w.heap.size + 1, 0, none⟩ = some (.slice A' s.length c') := blk_cell HY.out 0
  have y1 : w9.cell? ⟨w.heap.size + 1, 1, none⟩ = some (.slice A'' t.length c'') := blk_cell HY.out 1
  clear hrp
  go_wp2_with fail
  refine (pFar Z A A' A'' _ c _ c' _ c'' L s t w9 hl hk hl1 hk' hl2 hk'' w9.heap.size (Nat.le_refl _) hr hr' hr'').mono ?_
  rw [Hg_fa.out, Hhf.out, Hhq.out]
  rintro e w10 ⟨rfl, hb10⟩
  have s10 := hb10.size
  have HB10 := Lib.hid (HB9.out.trans (hb10.mono (by have := HB9.out.size; omega)))
  have hr := (hr.below hb10).more s10
  have hr' := (hr'.below hb10).more s10
  have hr'' := (hr''.below hb10).more s10
  have r8 := (r8.below hb10).more s10
  have HX := Lib.hid (blk_below HX.out hb10 (blk_lt HX.out))
  have HY := Lib.hid (blk_below HY.out hb10 (blk_lt HY.out))
  clear hb10
  clear x0 x1 y0 y1
  have x0 : w10.cell? ⟨w.heap.size, 0, none⟩ = some (.int .i64 Z) := blk_cell HX.out 0
  have x1 : w10.cell? ⟨w.heap.size, 1, none⟩ = some (.slice A L.length c) := blk_cell HX.out 1
  have y0 : w10.cell? ⟨w.heap.size + 1, 0, none⟩ = some (.slice A' s.length c') := blk_cell HY.out 0
  have y1 : w10.cell? ⟨w.heap.size + 1, 1, none⟩ = some (.slice A'' t.length c'') := blk_cell HY.out 1
  go_wp2_with fail
  refine (pPlan Z A A' A'' _ c _ c' _ c'' L s t w10 hl hk hl1 hk' hl2 hk'' w10.heap.size (Nat.le_refl _) hr hr' hr'').mono ?_
  rw [Hhf.out, Hhq.out]
  rintro e w11 ⟨v11, way, rfl, hown11, hway, hb11⟩
  have s11 := hb11.size
  have HB11 := Lib.hid (HB10.out.trans (hb11.mono (by have := HB10.out.size; omega)))
  have hr := (hr.below hb11).more s11
  have hr' := (hr'.below hb11).more s11
  have hr'' := (hr''.below hb11).more s11
  have r8 := (r8.below hb11).more s11
  have HX := Lib.hid (blk_below HX.out hb11 (blk_lt HX.out))
  have HY := Lib.hid (blk_below HY.out hb11 (blk_lt HY.out))
  obtain ⟨A11, c11, rfl, qa11, qb11⟩ := own_cap hown11
  have r11 := Rd.of_own hown11
  clear hb11 hown11
  clear r11 hway
  clear x0 x1 y0 y1
  have x0 : w11.cell? ⟨w.heap.size, 0, none⟩ = some (.int .i64 Z) := blk_cell HX.out 0
  have x1 : w11.cell? ⟨w.heap.size, 1, none⟩ = some (.slice A L.length c) := blk_cell HX.out 1
  have y0 : w11.cell? ⟨w.heap.size + 1, 0, none⟩ = some (.slice A' s.length c') := blk_cell HY.out 0
  have y1 : w11.cell? ⟨w.heap.size + 1, 1, none⟩ = some (.slice A'' t.length c'') := blk_cell HY.out 1
  go_wp2_with fail
  refine (pReach Z A A'' _ c _ c'' L t w11 hl hk hl2 hk'' w11.heap.size (Nat.le_refl _) hr hr'').mono ?_
  rw [Hg_nx.out, Hg_pt.out]
  rintro e w12 ⟨rfl, hb12⟩
  have s12 := hb12.size
  have HB12 := Lib.hid (HB11.out.trans (hb12.mono (by have := HB11.out.size; omega)))
  have hr := (hr.below hb12).more s12
  have hr' := (hr'.below hb12).more s12
  have hr'' := (hr''.below hb12).more s12
  have r8 := (r8.below hb12).more s12
  have HX := Lib.hid (blk_below HX.out hb12 (blk_lt HX.out))
  have HY := Lib.hid (blk_below HY.out hb12 (blk_lt HY.out))
  clear hb12
  clear x0 x1 y0 y1
  have x0 : w12.cell? ⟨w.heap.size, 0, none⟩ = some (.int .i64 Z) := blk_cell HX.out 0
  have x1 : w12.cell? ⟨w.heap.size, 1, none⟩ = some (.slice A L.length c) := blk_cell HX.out 1
  have y0 : w12.cell? ⟨w.heap.size + 1, 0, none⟩ = some (.slice A' s.length c') := blk_cell HY.out 0
  have y1 : w12.cell? ⟨w.heap.size + 1, 1, none⟩ = some (.slice A'' t.length c'') := blk_cell HY.out 1
  go_wp2_with fail
  refine (pSequence Z A A'' _ c _ c'' L t w12 hl hk hl2 hk'' w12.heap.size (Nat.le_refl _) hr hr'').mono ?_
  rw [Hg_ot.out, Hg_pt.out, Hg_sx.out]
  rintro e w13 ⟨v13, rfl, hown13, hb13⟩
  have s13 := hb13.size
  have HB13 := Lib.hid (HB12.out.trans (hb13.mono (by have := HB12.out.size; omega)))
  have hr := (hr.below hb13).more s13
  have hr' := (hr'.below hb13).more s13
  have hr'' := (hr''.below hb13).more s13
  have r8 := (r8.below hb13).more s13
  have HX := Lib.hid (blk_below HX.out hb13 (blk_lt HX.out))
  have HY := Lib.hid (blk_below HY.out hb13 (blk_lt HY.out))
  obtain ⟨A13, c13, rfl, qa13, qb13⟩ := own_cap hown13
  have r13 := Rd.of_own hown13
  clear hb13 hown13
  clear x0 x1 y0 y1
  have x0 : w13.cell? ⟨w.heap.size, 0, none⟩ = some (.int .i64 Z) := blk_cell HX.out 0
  have x1 : w13.cell? ⟨w.heap.size, 1, none⟩ = some (.slice A L.length c) := blk_cell HX.out 1
  have y0 : w13.cell? ⟨w.heap.size + 1, 0, none⟩ = some (.slice A' s.length c') := blk_cell HY.out 0
  have y1 : w13.cell? ⟨w.heap.size + 1, 1, none⟩ = some (.slice A'' t.length c'') := blk_cell HY.out 1
  by_cases hsm : sx = sq
  · have hrr : decide (sx = sq) = true := by simpa using hsm
    have dz : ((s.length : Int) == Z) = true := by by_cases hn : (s.length : Int) = Z; exact beq_iff_eq.2 hn; exact absurd (hZ.out hn hsm) (by decide)
    clear hsm
    go_wp2_with fail
    refine (rSameInts_is true A13 A8 _ _ c13 c8 sx sq hrr w13 (by omega) (by omega) w13.heap.size (Nat.le_refl _) r13 r8).mono ?_
    rintro e w14 ⟨rfl, hb14⟩
    have s14 := hb14.size
    have HB14 := Lib.hid (HB13.out.trans (hb14.mono (by have := HB13.out.size; omega)))
    have hr := (hr.below hb14).more s14
    have hr' := (hr'.below hb14).more s14
    have hr'' := (hr''.below hb14).more s14
    have r8 := (r8.below hb14).more s14
    have r13 := (r13.below hb14).more s14
    have HX := Lib.hid (blk_below HX.out hb14 (blk_lt HX.out))
    have HY := Lib.hid (blk_below HY.out hb14 (blk_lt HY.out))
    clear hb14
    clear hrr
    clear r13 r8
    clear x0 x1 y0 y1
    have x0 : w14.cell? ⟨w.heap.size, 0, none⟩ = some (.int .i64 Z) := blk_cell HX.out 0
    have x1 : w14.cell? ⟨w.heap.size, 1, none⟩ = some (.slice A L.length c) := blk_cell HX.out 1
    have y0 : w14.cell? ⟨w.heap.size + 1, 0, none⟩ = some (.slice A' s.length c') := blk_cell HY.out 0
    have y1 : w14.cell? ⟨w.heap.size + 1, 1, none⟩ = some (.slice A'' t.length c'') := blk_cell HY.out 1
    go_wp2
    go_ret
    exact ⟨rfl, HB14.out⟩
  · have hrr : decide (sx = sq) = false := by simpa using hsm
    clear hsm
    go_wp2_with fail
    refine (rSameInts_is false A13 A8 _ _ c13 c8 sx sq hrr w13 (by omega) (by omega) w13.heap.size (Nat.le_refl _) r13 r8).mono ?_
    rintro e w14 ⟨rfl, hb14⟩
    have s14 := hb14.size
    have HB14 := Lib.hid (HB13.out.trans (hb14.mono (by have := HB13.out.size; omega)))
    have hr := (hr.below hb14).more s14
    have hr' := (hr'.below hb14).more s14
    have hr'' := (hr''.below hb14).more s14
    have r8 := (r8.below hb14).more s14
    have r13 := (r13.below hb14).more s14
    have HX := Lib.hid (blk_below HX.out hb14 (blk_lt HX.out))
    have HY := Lib.hid (blk_below HY.out hb14 (blk_lt HY.out))
    clear hb14
    clear hrr
    clear r13 r8
    clear x0 x1 y0 y1
    have x0 : w14.cell? ⟨w.heap.size, 0, none⟩ = some (.int .i64 Z) := blk_cell HX.out 0
    have x1 : w14.cell? ⟨w.heap.size, 1, none⟩ = some (.slice A L.length c) := blk_cell HX.out 1
    have y0 : w14.cell? ⟨w.heap.size + 1, 0, none⟩ = some (.slice A' s.length c') := blk_cell HY.out 0
    have y1 : w14.cell? ⟨w.heap.size + 1, 1, none⟩ = some (.slice A'' t.length c'') := blk_cell HY.out 1
    go_wp2
    go_ret
    exact ⟨rfl, HB14.out⟩
end Go.Proofs.Ytlhbmfaoldajdaa
