/-
  THE WALK of TopZones, way "a plan, farN". (Printed by gen_ltop.py.)
-/
import Derived.Test.YtlhbmfaoldajdaaP10
namespace Go.Proofs.Ytlhbmfaoldajdaa
open Go.RowKit Go.Maps

set_option maxRecDepth 100000 in
set_option maxHeartbeats 4000000 in
theorem topWay1_farN (Z : Int) (A : Option Addr) (k c : Nat) (L : List (Int × Int)) (A' : Option Addr) (k' c' : Nat) (s : List Int) (A'' : Option Addr) (k'' c'' : Nat) (t : List Int) (Ap : Option Addr) (kp cp : Nat) (p : List (Int × Int)) (w : World) (hk : k ≤ c) (hc : c ≤ maxLen) (hr : Rd w w.heap.size 2 A k (prs L)) (hk' : k' ≤ c') (hc' : c' ≤ maxLen) (hr' : Rd w w.heap.size 1 A' k' (ints s)) (hk'' : k'' ≤ c'') (hc'' : c'' ≤ maxLen) (hr'' : Rd w w.heap.size 1 A'' k'' (ints t)) (hkp : kp ≤ cp) (hcp : cp ≤ maxLen) (hrp : Rd w w.heap.size 2 Ap kp (prs p)) (h : decide (60 < L.length) = false) (h1 : decide (40 < s.length) = false) (h2 : decide (40 < t.length) = false) (h3 : decide (1000 < p.length) = false) (hv : placeE Z L s = 0) (hp : planB Z L s p) (hq : pairZ Z L s t = 0) (hf : farB Z L s t = true) (ho : seqB Z L s = false) :
    Calls Try.prog 3 #[.agg #[.int .i64 Z, .slice A k c], .agg #[.slice A' k' c', .slice A'' k'' c''], .slice Ap kp cp] w fun e w' => e = .returned (.bool true) ∧ Below w.heap.size w w' := by
  have hm : k ≤ maxLen := Nat.le_trans hk hc
  have hm' : k' ≤ maxLen := Nat.le_trans hk' hc'
  have hm'' : k'' ≤ maxLen := Nat.le_trans hk'' hc''
  have hmp : kp ≤ maxLen := Nat.le_trans hkp hcp
  obtain rfl := hr.pr_len
  obtain rfl := hr'.int_len
  obtain rfl := hr''.int_len
  obtain rfl := hrp.pr_len
  have e1 : decide (40 < (s.length : Int)) = false := by rw [← h1]; exact decide_eq_decide.2 (by omega)
  have e2 : decide (40 < (t.length : Int)) = false := by rw [← h2]; exact decide_eq_decide.2 (by omega)
  have e3 : decide (1000 < (p.length : Int)) = false := by rw [← h3]; exact decide_eq_decide.2 (by omega)
  have hl : L.length ≤ 1000 := by have := of_decide_eq_false h; omega
  have hl1 : s.length ≤ 1000 := by have := of_decide_eq_false h1; omega
  have hl2 : t.length ≤ 1000 := by have := of_decide_eq_false h2; omega
  have hl3 : p.length ≤ 1000 := by have := of_decide_eq_false h3; omega
  obtain ⟨_, g_pt, g_len⟩ := pair_to hq
  obtain ⟨g_rt, g_pb, g_fb, g_nb, g_st⟩ := far_facts hq hf
  have g_ls := seq_len hv
  obtain ⟨f1, f2, f3, f4, f5, f6, f7, f8, f9, f10⟩ := plan_facts hp
  obtain ⟨t1, g_t1⟩ : ∃ z, nowAt s p p.length = z := ⟨_, rfl⟩
  obtain ⟨bk, g_bk⟩ : ∃ z, backL s p = z := ⟨_, rfl⟩
  rw [g_t1] at f1 f2 f3 f4 f6 f7 f8 f9 f10
  rw [g_bk] at f4 f5 f6
  have hlt1 : t1.length ≤ 1000 := by have := (pair_to f1).2.2; omega
  have hlbk : bk.length ≤ 1000 := by omega
  obtain ⟨fr, g_fr⟩ : ∃ z, farN Z L s t1 = z := ⟨_, rfl⟩
  rw [g_fr] at f3
  have d3 : decide ((p.length : Int) < fr) = false := decide_eq_false (by omega)
  clear f3
  obtain ⟨nr, g_nr⟩ : ∃ z, reachN Z L s = z := ⟨_, rfl⟩
  obtain ⟨sq, g_sq⟩ : ∃ z, seqF Z L s = z := ⟨_, rfl⟩
  rw [g_sq] at g_ls
  obtain ⟨fa, g_fa⟩ : ∃ z, farN Z L s t = z := ⟨_, rfl⟩
  skip
  rw [g_nr] at g_rt
  rw [g_fa] at g_nb
  rw [g_sq] at g_st
  have g_od := ho
  rw [g_nr] at f8
  rw [g_od] at f9
  rw [g_sq] at f10
  have Hf1 := Lib.hid f1
  have Hf2 := Lib.hid f2
  have Hf4 := Lib.hid f4
  have Hf5 := Lib.hid f5
  have Hf6 := Lib.hid f6
  have Hf7 := Lib.hid f7
  have Hf8 := Lib.hid f8
  have Hf9 := Lib.hid f9
  have Hf10 := Lib.hid f10
  have Hg_t1 := Lib.hid g_t1
  have Hg_fr := Lib.hid g_fr
  clear f1 f2 f4 f5 f6 f7 f8 f9 f10 g_t1 g_fr
  have Hg_bk := Lib.hid g_bk
  clear g_bk
  have Hg_nr := Lib.hid g_nr
  have Hg_sq := Lib.hid g_sq
  have Hg_od := Lib.hid g_od
  have Hg_fa := Lib.hid g_fa
  clear g_nr g_sq g_od g_fa
  have Hg_pt := Lib.hid g_pt
  have Hhq := Lib.hid hq
  have Hhf := Lib.hid hf
  clear g_pt hq hf
  clear g_len ho
  have Hg_rt := Lib.hid g_rt
  have Hg_pb := Lib.hid g_pb
  have Hg_fb := Lib.hid g_fb
  have Hg_nb := Lib.hid g_nb
  have Hg_st := Lib.hid g_st
  clear g_rt g_pb g_fb g_nb g_st
  have Hhv := Lib.hid hv
  have Hhp := Lib.hid hp
  clear hv hp
  have s1 : (w.alloc (.cells #[.int .i64 Z, .slice A L.length c] 24)).heap.size = w.heap.size + 1 := by simp
  have hr := (hr.alloc (Nat.le_refl _) (.cells #[.int .i64 Z, .slice A L.length c] 24)).more (B' := (w.alloc (.cells #[.int .i64 Z, .slice A L.length c] 24)).heap.size) (by omega)
  have hr' := (hr'.alloc (Nat.le_refl _) (.cells #[.int .i64 Z, .slice A L.length c] 24)).more (B' := (w.alloc (.cells #[.int .i64 Z, .slice A L.length c] 24)).heap.size) (by omega)
  have hr'' := (hr''.alloc (Nat.le_refl _) (.cells #[.int .i64 Z, .slice A L.length c] 24)).more (B' := (w.alloc (.cells #[.int .i64 Z, .slice A L.length c] 24)).heap.size) (by omega)
  have hrp := (hrp.alloc (Nat.le_refl _) (.cells #[.int .i64 Z, .slice A L.length c] 24)).more (B' := (w.alloc (.cells #[.int .i64 Z, .slice A L.length c] 24)).heap.size) (by omega)
  have HX := Lib.hid (blk_new w 24 #[.int .i64 Z, .slice A L.length c])
  have HB1 := Lib.hid ((Below.refl w.heap.size w).alloc (Nat.le_refl _) (.cells #[.int .i64 Z, .slice A L.length c] 24))
  have s2 : ((w.alloc (.cells #[.int .i64 Z, .slice A L.length c] 24)).alloc (.cells #[.slice A' s.length c', .slice A'' t.length c''] 27)).heap.size = (w.alloc (.cells #[.int .i64 Z, .slice A L.length c] 24)).heap.size + 1 := by simp
  have hr := (hr.alloc (Nat.le_refl _) (.cells #[.slice A' s.length c', .slice A'' t.length c''] 27)).more (B' := ((w.alloc (.cells #[.int .i64 Z, .slice A L.length c] 24)).alloc (.cells #[.slice A' s.length c', .slice A'' t.length c''] 27)).heap.size) (by omega)
  have hr' := (hr'.alloc (Nat.le_refl _) (.cells #[.slice A' s.length c', .slice A'' t.length c''] 27)).more (B' := ((w.alloc (.cells #[.int .i64 Z, .slice A L.length c] 24)).alloc (.cells #[.slice A' s.length c', .slice A'' t.length c''] 27)).heap.size) (by omega)
  have hr'' := (hr''.alloc (Nat.le_refl _) (.cells #[.slice A' s.length c', .slice A'' t.length c''] 27)).more (B' := ((w.alloc (.cells #[.int .i64 Z, .slice A L.length c] 24)).alloc (.cells #[.slice A' s.length c', .slice A'' t.length c''] 27)).heap.size) (by omega)
  have hrp := (hrp.alloc (Nat.le_refl _) (.cells #[.slice A' s.length c', .slice A'' t.length c''] 27)).more (B' := ((w.alloc (.cells #[.int .i64 Z, .slice A L.length c] 24)).alloc (.cells #[.slice A' s.length c', .slice A'' t.length c''] 27)).heap.size) (by omega)
  have HX := Lib.hid (blk_alloc HX.out (.cells #[.slice A' s.length c', .slice A'' t.length c''] 27))
  have HY := Lib.hid (blk_new (w.alloc (.cells #[.int .i64 Z, .slice A L.length c] 24)) 27 #[.slice A' s.length c', .slice A'' t.length c''])
  have HB2 := Lib.hid (HB1.out.alloc (HB1.out.size) (.cells #[.slice A' s.length c', .slice A'' t.length c''] 27))
  rw [s1] at HY
  have s3 : (((w.alloc (.cells #[.int .i64 Z, .slice A L.length c] 24)).alloc (.cells #[.slice A' s.length c', .slice A'' t.length c''] 27)).alloc (.cells #[.int .i64 0, .int .i64 1, .int .i64 1, .int .i64 2, .int .i64 2, .int .i64 3, .int .i64 0, .int .i64 3] 33)).heap.size = ((w.alloc (.cells #[.int .i64 Z, .slice A L.length c] 24)).alloc (.cells #[.slice A' s.length c', .slice A'' t.length c''] 27)).heap.size + 1 := by simp
  have hr := (hr.alloc (Nat.le_refl _) (.cells #[.int .i64 0, .int .i64 1, .int .i64 1, .int .i64 2, .int .i64 2, .int .i64 3, .int .i64 0, .int .i64 3] 33)).more (B' := (((w.alloc (.cells #[.int .i64 Z, .slice A L.length c] 24)).alloc (.cells #[.slice A' s.length c', .slice A'' t.length c''] 27)).alloc (.cells #[.int .i64 0, .int .i64 1, .int .i64 1, .int .i64 2, .int .i64 2, .int .i64 3, .int .i64 0, .int .i64 3] 33)).heap.size) (by omega)
  have hr' := (hr'.alloc (Nat.le_refl _) (.cells #[.int .i64 0, .int .i64 1, .int .i64 1, .int .i64 2, .int .i64 2, .int .i64 3, .int .i64 0, .int .i64 3] 33)).more (B' := (((w.alloc (.cells #[.int .i64 Z, .slice A L.length c] 24)).alloc (.cells #[.slice A' s.length c', .slice A'' t.length c''] 27)).alloc (.cells #[.int .i64 0, .int .i64 1, .int .i64 1, .int .i64 2, .int .i64 2, .int .i64 3, .int .i64 0, .int .i64 3] 33)).heap.size) (by omega)
  have hr'' := (hr''.alloc (Nat.le_refl _) (.cells #[.int .i64 0, .int .i64 1, .int .i64 1, .int .i64 2, .int .i64 2, .int .i64 3, .int .i64 0, .int .i64 3] 33)).more (B' := (((w.alloc (.cells #[.int .i64 Z, .slice A L.length c] 24)).alloc (.cells #[.slice A' s.length c', .slice A'' t.length c''] 27)).alloc (.cells #[.int .i64 0, .int .i64 1, .int .i64 1, .int .i64 2, .int .i64 2, .int .i64 3, .int .i64 0, .int .i64 3] 33)).heap.size) (by omega)
  have hrp := (hrp.alloc (Nat.le_refl _) (.cells #[.int .i64 0, .int .i64 1, .int .i64 1, .int .i64 2, .int .i64 2, .int .i64 3, .int .i64 0, .int .i64 3] 33)).more (B' := (((w.alloc (.cells #[.int .i64 Z, .slice A L.length c] 24)).alloc (.cells #[.slice A' s.length c', .slice A'' t.length c''] 27)).alloc (.cells #[.int .i64 0, .int .i64 1, .int .i64 1, .int .i64 2, .int .i64 2, .int .i64 3, .int .i64 0, .int .i64 3] 33)).heap.size) (by omega)
  have HX := Lib.hid (blk_alloc HX.out (.cells #[.int .i64 0, .int .i64 1, .int .i64 1, .int .i64 2, .int .i64 2, .int .i64 3, .int .i64 0, .int .i64 3] 33))
  have HY := Lib.hid (blk_alloc HY.out (.cells #[.int .i64 0, .int .i64 1, .int .i64 1, .int .i64 2, .int .i64 2, .int .i64 3, .int .i64 0, .int .i64 3] 33))
  have HL := Lib.hid (blk_new ((w.alloc (.cells #[.int .i64 Z, .slice A L.length c] 24)).alloc (.cells #[.slice A' s.length c', .slice A'' t.length c''] 27)) 33 #[.int .i64 0, .int .i64 1, .int .i64 1, .int .i64 2, .int .i64 2, .int .i64 3, .int .i64 0, .int .i64 3])
  have HB3 := Lib.hid (HB2.out.alloc (HB2.out.size) (.cells #[.int .i64 0, .int .i64 1, .int .i64 1, .int .i64 2, .int .i64 2, .int .i64 3, .int .i64 0, .int .i64 3] 33))
  rw [s2, s1] at HL
  have s4 : ((((w.alloc (.cells #[.int .i64 Z, .slice A L.length c] 24)).alloc (.cells #[.slice A' s.length c', .slice A'' t.length c''] 27)).alloc (.cells #[.int .i64 0, .int .i64 1, .int .i64 1, .int .i64 2, .int .i64 2, .int .i64 3, .int .i64 0, .int .i64 3] 33)).alloc (.cells #[.int .i64 0, .int .i64 2] 3)).heap.size = (((w.alloc (.cells #[.int .i64 Z, .slice A L.length c] 24)).alloc (.cells #[.slice A' s.length c', .slice A'' t.length c''] 27)).alloc (.cells #[.int .i64 0, .int .i64 1, .int .i64 1, .int .i64 2, .int .i64 2, .int .i64 3, .int .i64 0, .int .i64 3] 33)).heap.size + 1 := by simp
  have hr := (hr.alloc (Nat.le_refl _) (.cells #[.int .i64 0, .int .i64 2] 3)).more (B' := ((((w.alloc (.cells #[.int .i64 Z, .slice A L.length c] 24)).alloc (.cells #[.slice A' s.length c', .slice A'' t.length c''] 27)).alloc (.cells #[.int .i64 0, .int .i64 1, .int .i64 1, .int .i64 2, .int .i64 2, .int .i64 3, .int .i64 0, .int .i64 3] 33)).alloc (.cells #[.int .i64 0, .int .i64 2] 3)).heap.size) (by omega)
  have hr' := (hr'.alloc (Nat.le_refl _) (.cells #[.int .i64 0, .int .i64 2] 3)).more (B' := ((((w.alloc (.cells #[.int .i64 Z, .slice A L.length c] 24)).alloc (.cells #[.slice A' s.length c', .slice A'' t.length c''] 27)).alloc (.cells #[.int .i64 0, .int .i64 1, .int .i64 1, .int .i64 2, .int .i64 2, .int .i64 3, .int .i64 0, .int .i64 3] 33)).alloc (.cells #[.int .i64 0, .int .i64 2] 3)).heap.size) (by omega)
  have hr'' := (hr''.alloc (Nat.le_refl _) (.cells #[.int .i64 0, .int .i64 2] 3)).more (B' := ((((w.alloc (.cells #[.int .i64 Z, .slice A L.length c] 24)).alloc (.cells #[.slice A' s.length c', .slice A'' t.length c''] 27)).alloc (.cells #[.int .i64 0, .int .i64 1, .int .i64 1, .int .i64 2, .int .i64 2, .int .i64 3, .int .i64 0, .int .i64 3] 33)).alloc (.cells #[.int .i64 0, .int .i64 2] 3)).heap.size) (by omega)
  have hrp := (hrp.alloc (Nat.le_refl _) (.cells #[.int .i64 0, .int .i64 2] 3)).more (B' := ((((w.alloc (.cells #[.int .i64 Z, .slice A L.length c] 24)).alloc (.cells #[.slice A' s.length c', .slice A'' t.length c''] 27)).alloc (.cells #[.int .i64 0, .int .i64 1, .int .i64 1, .int .i64 2, .int .i64 2, .int .i64 3, .int .i64 0, .int .i64 3] 33)).alloc (.cells #[.int .i64 0, .int .i64 2] 3)).heap.size) (by omega)
  have HX := Lib.hid (blk_alloc HX.out (.cells #[.int .i64 0, .int .i64 2] 3))
  have HY := Lib.hid (blk_alloc HY.out (.cells #[.int .i64 0, .int .i64 2] 3))
  have HL := Lib.hid (blk_alloc HL.out (.cells #[.int .i64 0, .int .i64 2] 3))
  have HM := Lib.hid (blk_new (((w.alloc (.cells #[.int .i64 Z, .slice A L.length c] 24)).alloc (.cells #[.slice A' s.length c', .slice A'' t.length c''] 27)).alloc (.cells #[.int .i64 0, .int .i64 1, .int .i64 1, .int .i64 2, .int .i64 2, .int .i64 3, .int .i64 0, .int .i64 3] 33)) 3 #[.int .i64 0, .int .i64 2])
  have HB4 := Lib.hid (HB3.out.alloc (HB3.out.size) (.cells #[.int .i64 0, .int .i64 2] 3))
  rw [s3, s2, s1] at HM
  have rl : Rd ((((w.alloc (.cells #[.int .i64 Z, .slice A L.length c] 24)).alloc (.cells #[.slice A' s.length c', .slice A'' t.length c''] 27)).alloc (.cells #[.int .i64 0, .int .i64 1, .int .i64 1, .int .i64 2, .int .i64 2, .int .i64 3, .int .i64 0, .int .i64 3] 33)).alloc (.cells #[.int .i64 0, .int .i64 2] 3)) ((((w.alloc (.cells #[.int .i64 Z, .slice A L.length c] 24)).alloc (.cells #[.slice A' s.length c', .slice A'' t.length c''] 27)).alloc (.cells #[.int .i64 0, .int .i64 1, .int .i64 1, .int .i64 2, .int .i64 2, .int .i64 3, .int .i64 0, .int .i64 3] 33)).alloc (.cells #[.int .i64 0, .int .i64 2] 3)).heap.size 2 (some ⟨w.heap.size + 1 + 1, 0, none⟩) 4 (prs [(0, 1), (1, 2), (2, 3), (0, 3)]) := (rd_lit HL.out rfl).more (by simp)
  have rm : Rd ((((w.alloc (.cells #[.int .i64 Z, .slice A L.length c] 24)).alloc (.cells #[.slice A' s.length c', .slice A'' t.length c''] 27)).alloc (.cells #[.int .i64 0, .int .i64 1, .int .i64 1, .int .i64 2, .int .i64 2, .int .i64 3, .int .i64 0, .int .i64 3] 33)).alloc (.cells #[.int .i64 0, .int .i64 2] 3)) ((((w.alloc (.cells #[.int .i64 Z, .slice A L.length c] 24)).alloc (.cells #[.slice A' s.length c', .slice A'' t.length c''] 27)).alloc (.cells #[.int .i64 0, .int .i64 1, .int .i64 1, .int .i64 2, .int .i64 2, .int .i64 3, .int .i64 0, .int .i64 3] 33)).alloc (.cells #[.int .i64 0, .int .i64 2] 3)).heap.size 1 (some ⟨w.heap.size + 1 + 1 + 1, 0, none⟩) 2 (ints [0, 2]) := (rd_lit HM.out rfl).more (by simp)
  go_enter Try.func3, Try.ntmps3
  go_wp2_with fail
  refine (pReach 4 _ _ 4 4 2 2 [(0, 1), (1, 2), (2, 3), (0, 3)] [0, 2] ((((w.alloc (.cells #[.int .i64 Z, .slice A L.length c] 24)).alloc (.cells #[.slice A' s.length c', .slice A'' t.length c''] 27)).alloc (.cells #[.int .i64 0, .int .i64 1, .int .i64 1, .int .i64 2, .int .i64 2, .int .i64 3, .int .i64 0, .int .i64 3] 33)).alloc (.cells #[.int .i64 0, .int .i64 2] 3)) (by simp) (by omega) (by simp) (by omega) ((((w.alloc (.cells #[.int .i64 Z, .slice A L.length c] 24)).alloc (.cells #[.slice A' s.length c', .slice A'' t.length c''] 27)).alloc (.cells #[.int .i64 0, .int .i64 1, .int .i64 1, .int .i64 2, .int .i64 2, .int .i64 3, .int .i64 0, .int .i64 3] 33)).alloc (.cells #[.int .i64 0, .int .i64 2] 3)).heap.size (Nat.le_refl _) rl rm).mono ?_
  rw [reach_known, place_known]
  rintro e w5 ⟨rfl, hb5⟩
  have s5 := hb5.size
  have HB5 := Lib.hid (HB4.out.trans (hb5.mono (by have := HB4.out.size; omega)))
  have hr := (hr.below hb5).more s5
  have hr' := (hr'.below hb5).more s5
  have hr'' := (hr''.below hb5).more s5
  have hrp := (hrp.below hb5).more s5
  have HX := Lib.hid (blk_below HX.out hb5 (blk_lt HX.out))
  have HY := Lib.hid (blk_below HY.out hb5 (blk_lt HY.out))
  have HL := Lib.hid (blk_below HL.out hb5 (blk_lt HL.out))
  have HM := Lib.hid (blk_below HM.out hb5 (blk_lt HM.out))
  clear hb5
  clear HL HM
  clear rl rm
  have x0 : w5.cell? ⟨w.heap.size, 0, none⟩ = some (.int .i64 Z) := blk_cell HX.out 0
  have x1 : w5.cell? ⟨w.heap.size, 1, none⟩ = some (.slice A L.length c) := blk_cell HX.out 1
  have y0 : w5.cell? ⟨w.heap.size + 1, 0, none⟩ = some (.slice A' s.length c') := blk_cell HY.out 0
  have y1 : w5.cell? ⟨w.heap.size + 1, 1, none⟩ = some (.slice A'' t.length c'') := blk_cell HY.out 1
  go_wp2_with fail
  refine (pLong false Z A L.length c h w5 hm).mono ?_
  rintro e w' ⟨rfl, hb⟩
  obtain ⟨w6, hw6⟩ : ∃ z, z = w' := ⟨_, rfl⟩
  rw [← hw6] at hb ⊢
  clear hw6
  have s6 := hb.size
  have HB6 := Lib.hid (HB5.out.trans (hb.mono (by have := HB5.out.size; omega)))
  have hr := (hr.below hb).more s6
  have hr' := (hr'.below hb).more s6
  have hr'' := (hr''.below hb).more s6
  have hrp := (hrp.below hb).more s6
  have HX := Lib.hid (blk_below HX.out hb (blk_lt HX.out))
  have HY := Lib.hid (blk_below HY.out hb (blk_lt HY.out))
  clear hb
  clear x0 x1 y0 y1
  have x0 : w6.cell? ⟨w.heap.size, 0, none⟩ = some (.int .i64 Z) := blk_cell HX.out 0
  have x1 : w6.cell? ⟨w.heap.size, 1, none⟩ = some (.slice A L.length c) := blk_cell HX.out 1
  have y0 : w6.cell? ⟨w.heap.size + 1, 0, none⟩ = some (.slice A' s.length c') := blk_cell HY.out 0
  have y1 : w6.cell? ⟨w.heap.size + 1, 1, none⟩ = some (.slice A'' t.length c'') := blk_cell HY.out 1
  go_wp2_with fail
  refine (pReach Z A A' _ c _ c' L s w6 hl hk hl1 hk' w6.heap.size (Nat.le_refl _) hr hr').mono ?_
  rw [Hg_nr.out, Hhv.out]
  rintro e w7 ⟨rfl, hb7⟩
  have s7 := hb7.size
  have HB7 := Lib.hid (HB6.out.trans (hb7.mono (by have := HB6.out.size; omega)))
  have hr := (hr.below hb7).more s7
  have hr' := (hr'.below hb7).more s7
  have hr'' := (hr''.below hb7).more s7
  have hrp := (hrp.below hb7).more s7
  have HX := Lib.hid (blk_below HX.out hb7 (blk_lt HX.out))
  have HY := Lib.hid (blk_below HY.out hb7 (blk_lt HY.out))
  clear hb7
  clear x0 x1 y0 y1
  have x0 : w7.cell? ⟨w.heap.size, 0, none⟩ = some (.int .i64 Z) := blk_cell HX.out 0
  have x1 : w7.cell? ⟨w.heap.size, 1, none⟩ = some (.slice A L.length c) := blk_cell HX.out 1
  have y0 : w7.cell? ⟨w.heap.size + 1, 0, none⟩ = some (.slice A' s.length c') := blk_cell HY.out 0
  have y1 : w7.cell? ⟨w.heap.size + 1, 1, none⟩ = some (.slice A'' t.length c'') := blk_cell HY.out 1
  go_wp2_with fail
  refine (pSequence Z A A' _ c _ c' L s w7 hl hk hl1 hk' w7.heap.size (Nat.le_refl _) hr hr').mono ?_
  rw [Hg_od.out, Hhv.out, Hg_sq.out]
  rintro e w8 ⟨v8, rfl, hown8, hb8⟩
  have s8 := hb8.size
  have HB8 := Lib.hid (HB7.out.trans (hb8.mono (by have := HB7.out.size; omega)))
  have hr := (hr.below hb8).more s8
  have hr' := (hr'.below hb8).more s8
  have hr'' := (hr''.below hb8).more s8
  have hrp := (hrp.below hb8).more s8
  have HX := Lib.hid (blk_below HX.out hb8 (blk_lt HX.out))
  have HY := Lib.hid (blk_below HY.out hb8 (blk_lt HY.out))
  obtain ⟨A8, c8, rfl, qa8, qb8⟩ := own_cap hown8
  have r8 := Rd.of_own hown8
  clear hb8 hown8
  clear x0 x1 y0 y1
  have x0 : w8.cell? ⟨w.heap.size, 0, none⟩ = some (.int .i64 Z) := blk_cell HX.out 0
  have x1 : w8.cell? ⟨w.heap.size, 1, none⟩ = some (.slice A L.length c) := blk_cell HX.out 1
  have y0 : w8.cell? ⟨w.heap.size + 1, 0, none⟩ = some (.slice A' s.length c') := blk_cell HY.out 0
  have y1 : w8.cell? ⟨w.heap.size + 1, 1, none⟩ = some (.slice A'' t.length c'') := blk_cell HY.out 1
  go_wp2_with fail
  refine (pCheckPlan Z A A' Ap _ c _ c' _ cp L s p w8 hl hk hl1 hk' hl3 w8.heap.size (Nat.le_refl _) hr hr' hrp).mono ?_
  rintro e w9 ⟨v9, n9, e9, rfl, hyes, hno, hb9⟩
  obtain ⟨rfl, hn9, hown9⟩ := hyes Hhp.out
  clear hyes hno
  rw [Hg_t1.out] at hown9
  have hn9 := hn9.symm
  subst hn9
  have s9 := hb9.size
  have HB9 := Lib.hid (HB8.out.trans (hb9.mono (by have := HB8.out.size; omega)))
  have hr := (hr.below hb9).more s9
  have hr' := (hr'.below hb9).more s9
  have hr'' := (hr''.below hb9).more s9
  have hrp := (hrp.below hb9).more s9
  have r8 := (r8.below hb9).more s9
  have HX := Lib.hid (blk_below HX.out hb9 (blk_lt HX.out))
  have HY := Lib.hid (blk_below HY.out hb9 (blk_lt HY.out))
  obtain ⟨A9, c9, rfl, qa9, qb9⟩ := own_cap hown9
  have r9 := Rd.of_own hown9
  clear hb9 hown9
  clear x0 x1 y0 y1
  have x0 : w9.cell? ⟨w.heap.size, 0, none⟩ = some (.int .i64 Z) := blk_cell HX.out 0
  have x1 : w9.cell? ⟨w.heap.size, 1, none⟩ = some (.slice A L.length c) := blk_cell HX.out 1
  have y0 : w9.cell? ⟨w.heap.size + 1, 0, none⟩ = some (.slice A' s.length c') := blk_cell HY.out 0
  have y1 : w9.cell? ⟨w.heap.size + 1, 1, none⟩ = some (.slice A'' t.length c'') := blk_cell HY.out 1
  go_wp2_with fail
  refine (pFar Z A A' A9 _ c _ c' _ c9 L s t1 w9 hl hk hl1 hk' hlt1 qa9 w9.heap.size (Nat.le_refl _) hr hr' r9).mono ?_
  rw [Hg_fr.out, Hf2.out, Hf1.out]
  rintro e w10 ⟨rfl, hb10⟩
  have s10 := hb10.size
  have HB10 := Lib.hid (HB9.out.trans (hb10.mono (by have := HB9.out.size; omega)))
  have hr := (hr.below hb10).more s10
  have hr' := (hr'.below hb10).more s10
  have hr'' := (hr''.below hb10).more s10
  have hrp := (hrp.below hb10).more s10
  have r8 := (r8.below hb10).more s10
  have r9 := (r9.below hb10).more s10
  have HX := Lib.hid (blk_below HX.out hb10 (blk_lt HX.out))
  have HY := Lib.hid (blk_below HY.out hb10 (blk_lt HY.out))
  clear hb10
  clear x0 x1 y0 y1
  have x0 : w10.cell? ⟨w.heap.size, 0, none⟩ = some (.int .i64 Z) := blk_cell HX.out 0
  have x1 : w10.cell? ⟨w.heap.size, 1, none⟩ = some (.slice A L.length c) := blk_cell HX.out 1
  have y0 : w10.cell? ⟨w.heap.size + 1, 0, none⟩ = some (.slice A' s.length c') := blk_cell HY.out 0
  have y1 : w10.cell? ⟨w.heap.size + 1, 1, none⟩ = some (.slice A'' t.length c'') := blk_cell HY.out 1
  go_wp2_with fail
  refine (pBack Z A A' Ap _ c _ c' _ cp L s p w10 hl hk hl1 hk' hl3 w10.heap.size (Nat.le_refl _) hr hr' hrp).mono ?_
  rintro e w11 ⟨v11, e11, rfl, hyes, hno, hb11⟩
  obtain ⟨rfl, hown11⟩ := hyes Hhp.out
  clear hyes hno
  rw [Hg_bk.out] at hown11
  have s11 := hb11.size
  have HB11 := Lib.hid (HB10.out.trans (hb11.mono (by have := HB10.out.size; omega)))
  have hr := (hr.below hb11).more s11
  have hr' := (hr'.below hb11).more s11
  have hr'' := (hr''.below hb11).more s11
  have hrp := (hrp.below hb11).more s11
  have r8 := (r8.below hb11).more s11
  have r9 := (r9.below hb11).more s11
  have HX := Lib.hid (blk_below HX.out hb11 (blk_lt HX.out))
  have HY := Lib.hid (blk_below HY.out hb11 (blk_lt HY.out))
  obtain ⟨A11, c11, rfl, qa11, qb11⟩ := own_cap hown11
  have r11 := Rd.of_own hown11
  clear hb11 hown11
  clear x0 x1 y0 y1
  have x0 : w11.cell? ⟨w.heap.size, 0, none⟩ = some (.int .i64 Z) := blk_cell HX.out 0
  have x1 : w11.cell? ⟨w.heap.size, 1, none⟩ = some (.slice A L.length c) := blk_cell HX.out 1
  have y0 : w11.cell? ⟨w.heap.size + 1, 0, none⟩ = some (.slice A' s.length c') := blk_cell HY.out 0
  have y1 : w11.cell? ⟨w.heap.size + 1, 1, none⟩ = some (.slice A'' t.length c'') := blk_cell HY.out 1
  go_wp2_with fail
  refine (pCheckPlan Z A A9 A11 _ c _ c9 _ c11 L t1 bk w11 hl hk hlt1 qa9 hlbk w11.heap.size (Nat.le_refl _) hr r9 r11).mono ?_
  rintro e w12 ⟨v12, n12, e12, rfl, hyes, hno, hb12⟩
  obtain ⟨rfl, hn12, hown12⟩ := hyes Hf4.out
  clear hyes hno
  rw [Hf6.out] at hown12
  rw [Hf5.out] at hn12
  have hn12 := hn12.symm
  subst hn12
  have s12 := hb12.size
  have HB12 := Lib.hid (HB11.out.trans (hb12.mono (by have := HB11.out.size; omega)))
  have hr := (hr.below hb12).more s12
  have hr' := (hr'.below hb12).more s12
  have hr'' := (hr''.below hb12).more s12
  have hrp := (hrp.below hb12).more s12
  have r8 := (r8.below hb12).more s12
  have r9 := (r9.below hb12).more s12
  have r11 := (r11.below hb12).more s12
  have HX := Lib.hid (blk_below HX.out hb12 (blk_lt HX.out))
  have HY := Lib.hid (blk_below HY.out hb12 (blk_lt HY.out))
  obtain ⟨A12, c12, rfl, qa12, qb12⟩ := own_cap hown12
  have r12 := Rd.of_own hown12
  clear hb12 hown12
  clear x0 x1 y0 y1
  have x0 : w12.cell? ⟨w.heap.size, 0, none⟩ = some (.int .i64 Z) := blk_cell HX.out 0
  have x1 : w12.cell? ⟨w.heap.size, 1, none⟩ = some (.slice A L.length c) := blk_cell HX.out 1
  have y0 : w12.cell? ⟨w.heap.size + 1, 0, none⟩ = some (.slice A' s.length c') := blk_cell HY.out 0
  have y1 : w12.cell? ⟨w.heap.size + 1, 1, none⟩ = some (.slice A'' t.length c'') := blk_cell HY.out 1
  clear r11
  go_wp2_with fail
  refine (pReach Z A A9 _ c _ c9 L t1 w12 hl hk hlt1 qa9 w12.heap.size (Nat.le_refl _) hr r9).mono ?_
  rw [Hf8.out, Hf7.out]
  rintro e w13 ⟨rfl, hb13⟩
  have s13 := hb13.size
  have HB13 := Lib.hid (HB12.out.trans (hb13.mono (by have := HB12.out.size; omega)))
  have hr := (hr.below hb13).more s13
  have hr' := (hr'.below hb13).more s13
  have hr'' := (hr''.below hb13).more s13
  have hrp := (hrp.below hb13).more s13
  have r8 := (r8.below hb13).more s13
  have r9 := (r9.below hb13).more s13
  have r12 := (r12.below hb13).more s13
  have HX := Lib.hid (blk_below HX.out hb13 (blk_lt HX.out))
  have HY := Lib.hid (blk_below HY.out hb13 (blk_lt HY.out))
  clear hb13
  clear x0 x1 y0 y1
  have x0 : w13.cell? ⟨w.heap.size, 0, none⟩ = some (.int .i64 Z) := blk_cell HX.out 0
  have x1 : w13.cell? ⟨w.heap.size, 1, none⟩ = some (.slice A L.length c) := blk_cell HX.out 1
  have y0 : w13.cell? ⟨w.heap.size + 1, 0, none⟩ = some (.slice A' s.length c') := blk_cell HY.out 0
  have y1 : w13.cell? ⟨w.heap.size + 1, 1, none⟩ = some (.slice A'' t.length c'') := blk_cell HY.out 1
  go_wp2_with fail
  refine (pSequence Z A A9 _ c _ c9 L t1 w13 hl hk hlt1 qa9 w13.heap.size (Nat.le_refl _) hr r9).mono ?_
  rw [Hf9.out, Hf7.out, Hf10.out]
  rintro e w14 ⟨v14, rfl, hown14, hb14⟩
  have s14 := hb14.size
  have HB14 := Lib.hid (HB13.out.trans (hb14.mono (by have := HB13.out.size; omega)))
  have hr := (hr.below hb14).more s14
  have hr' := (hr'.below hb14).more s14
  have hr'' := (hr''.below hb14).more s14
  have hrp := (hrp.below hb14).more s14
  have r8 := (r8.below hb14).more s14
  have r9 := (r9.below hb14).more s14
  have r12 := (r12.below hb14).more s14
  have HX := Lib.hid (blk_below HX.out hb14 (blk_lt HX.out))
  have HY := Lib.hid (blk_below HY.out hb14 (blk_lt HY.out))
  obtain ⟨A14, c14, rfl, qa14, qb14⟩ := own_cap hown14
  have r14 := Rd.of_own hown14
  clear hb14 hown14
  clear x0 x1 y0 y1
  have x0 : w14.cell? ⟨w.heap.size, 0, none⟩ = some (.int .i64 Z) := blk_cell HX.out 0
  have x1 : w14.cell? ⟨w.heap.size, 1, none⟩ = some (.slice A L.length c) := blk_cell HX.out 1
  have y0 : w14.cell? ⟨w.heap.size + 1, 0, none⟩ = some (.slice A' s.length c') := blk_cell HY.out 0
  have y1 : w14.cell? ⟨w.heap.size + 1, 1, none⟩ = some (.slice A'' t.length c'') := blk_cell HY.out 1
  clear r9
  go_wp2_with fail
  refine (rSameInts_is true A12 A' _ _ c12 c' s s (by simp) w14 hl1 hl1 w14.heap.size (Nat.le_refl _) r12 hr').mono ?_
  rintro e w15 ⟨rfl, hb15⟩
  have s15 := hb15.size
  have HB15 := Lib.hid (HB14.out.trans (hb15.mono (by have := HB14.out.size; omega)))
  have hr := (hr.below hb15).more s15
  have hr' := (hr'.below hb15).more s15
  have hr'' := (hr''.below hb15).more s15
  have hrp := (hrp.below hb15).more s15
  have r8 := (r8.below hb15).more s15
  have r12 := (r12.below hb15).more s15
  have r14 := (r14.below hb15).more s15
  have HX := Lib.hid (blk_below HX.out hb15 (blk_lt HX.out))
  have HY := Lib.hid (blk_below HY.out hb15 (blk_lt HY.out))
  clear hb15
  clear r12
  clear x0 x1 y0 y1
  have x0 : w15.cell? ⟨w.heap.size, 0, none⟩ = some (.int .i64 Z) := blk_cell HX.out 0
  have x1 : w15.cell? ⟨w.heap.size, 1, none⟩ = some (.slice A L.length c) := blk_cell HX.out 1
  have y0 : w15.cell? ⟨w.heap.size + 1, 0, none⟩ = some (.slice A' s.length c') := blk_cell HY.out 0
  have y1 : w15.cell? ⟨w.heap.size + 1, 1, none⟩ = some (.slice A'' t.length c'') := blk_cell HY.out 1
  go_wp2_with fail
  refine (rSameInts_is true A14 A8 _ _ c14 c8 sq sq (by simp) w15 (by omega) (by omega) w15.heap.size (Nat.le_refl _) r14 r8).mono ?_
  rintro e w16 ⟨rfl, hb16⟩
  have s16 := hb16.size
  have HB16 := Lib.hid (HB15.out.trans (hb16.mono (by have := HB15.out.size; omega)))
  have hr := (hr.below hb16).more s16
  have hr' := (hr'.below hb16).more s16
  have hr'' := (hr''.below hb16).more s16
  have hrp := (hrp.below hb16).more s16
  have r8 := (r8.below hb16).more s16
  have r14 := (r14.below hb16).more s16
  have HX := Lib.hid (blk_below HX.out hb16 (blk_lt HX.out))
  have HY := Lib.hid (blk_below HY.out hb16 (blk_lt HY.out))
  clear hb16
  clear r14
  clear x0 x1 y0 y1
  have x0 : w16.cell? ⟨w.heap.size, 0, none⟩ = some (.int .i64 Z) := blk_cell HX.out 0
  have x1 : w16.cell? ⟨w.heap.size, 1, none⟩ = some (.slice A L.length c) := blk_cell HX.out 1
  have y0 : w16.cell? ⟨w.heap.size + 1, 0, none⟩ = some (.slice A' s.length c') := blk_cell HY.out 0
  have y1 : w16.cell? ⟨w.heap.size + 1, 1, none⟩ = some (.slice A'' t.length c'') := blk_cell HY.out 1
  clear hrp
  go_wp2_with fail
  refine (pFar Z A A' A'' _ c _ c' _ c'' L s t w16 hl hk hl1 hk' hl2 hk'' w16.heap.size (Nat.le_refl _) hr hr' hr'').mono ?_
  rw [Hg_fa.out, Hhf.out, Hhq.out]
  rintro e w17 ⟨rfl, hb17⟩
  have s17 := hb17.size
  have HB17 := Lib.hid (HB16.out.trans (hb17.mono (by have := HB16.out.size; omega)))
  have hr := (hr.below hb17).more s17
  have hr' := (hr'.below hb17).more s17
  have hr'' := (hr''.below hb17).more s17
  have r8 := (r8.below hb17).more s17
  have HX := Lib.hid (blk_below HX.out hb17 (blk_lt HX.out))
  have HY := Lib.hid (blk_below HY.out hb17 (blk_lt HY.out))
  clear hb17
  clear x0 x1 y0 y1
  have x0 : w17.cell? ⟨w.heap.size, 0, none⟩ = some (.int .i64 Z) := blk_cell HX.out 0
  have x1 : w17.cell? ⟨w.heap.size, 1, none⟩ = some (.slice A L.length c) := blk_cell HX.out 1
  have y0 : w17.cell? ⟨w.heap.size + 1, 0, none⟩ = some (.slice A' s.length c') := blk_cell HY.out 0
  have y1 : w17.cell? ⟨w.heap.size + 1, 1, none⟩ = some (.slice A'' t.length c'') := blk_cell HY.out 1
  go_wp2_with fail
  refine (pPlan Z A A' A'' _ c _ c' _ c'' L s t w17 hl hk hl1 hk' hl2 hk'' w17.heap.size (Nat.le_refl _) hr hr' hr'').mono ?_
  rw [Hg_fa.out, Hhf.out, Hhq.out]
  rintro e w18 ⟨v18, way, rfl, hown18, hway, hb18⟩
  have s18 := hb18.size
  have HB18 := Lib.hid (HB17.out.trans (hb18.mono (by have := HB17.out.size; omega)))
  have hr := (hr.below hb18).more s18
  have hr' := (hr'.below hb18).more s18
  have hr'' := (hr''.below hb18).more s18
  have r8 := (r8.below hb18).more s18
  have HX := Lib.hid (blk_below HX.out hb18 (blk_lt HX.out))
  have HY := Lib.hid (blk_below HY.out hb18 (blk_lt HY.out))
  obtain ⟨A18, c18, rfl, qa18, qb18⟩ := own_cap hown18
  have r18 := Rd.of_own hown18
  clear hb18 hown18
  obtain ⟨g0, g00⟩ := hway rfl
  clear hway
  obtain ⟨g1, g2⟩ := way_facts Hhq.out Hhf.out g0 (g00.trans Hg_fa.out.symm)
  have hlw : way.length ≤ 1000 := by have := g1.2.1; omega
  have Hg0 := Lib.hid g00
  have Hg1 := Lib.hid g1
  have Hg2 := Lib.hid g2
  clear g0 g00 g1 g2
  clear x0 x1 y0 y1
  have x0 : w18.cell? ⟨w.heap.size, 0, none⟩ = some (.int .i64 Z) := blk_cell HX.out 0
  have x1 : w18.cell? ⟨w.heap.size, 1, none⟩ = some (.slice A L.length c) := blk_cell HX.out 1
  have y0 : w18.cell? ⟨w.heap.size + 1, 0, none⟩ = some (.slice A' s.length c') := blk_cell HY.out 0
  have y1 : w18.cell? ⟨w.heap.size + 1, 1, none⟩ = some (.slice A'' t.length c'') := blk_cell HY.out 1
  go_wp2_with fail
  refine (pReach Z A A'' _ c _ c'' L t w18 hl hk hl2 hk'' w18.heap.size (Nat.le_refl _) hr hr'').mono ?_
  rw [Hg_rt.out, Hg_pt.out]
  rintro e w19 ⟨rfl, hb19⟩
  have s19 := hb19.size
  have HB19 := Lib.hid (HB18.out.trans (hb19.mono (by have := HB18.out.size; omega)))
  have hr := (hr.below hb19).more s19
  have hr' := (hr'.below hb19).more s19
  have hr'' := (hr''.below hb19).more s19
  have r8 := (r8.below hb19).more s19
  have r18 := (r18.below hb19).more s19
  have HX := Lib.hid (blk_below HX.out hb19 (blk_lt HX.out))
  have HY := Lib.hid (blk_below HY.out hb19 (blk_lt HY.out))
  clear hb19
  clear x0 x1 y0 y1
  have x0 : w19.cell? ⟨w.heap.size, 0, none⟩ = some (.int .i64 Z) := blk_cell HX.out 0
  have x1 : w19.cell? ⟨w.heap.size, 1, none⟩ = some (.slice A L.length c) := blk_cell HX.out 1
  have y0 : w19.cell? ⟨w.heap.size + 1, 0, none⟩ = some (.slice A' s.length c') := blk_cell HY.out 0
  have y1 : w19.cell? ⟨w.heap.size + 1, 1, none⟩ = some (.slice A'' t.length c'') := blk_cell HY.out 1
  go_wp2_with fail
  refine (pCheckPlan Z A A' A18 _ c _ c' _ c18 L s way w19 hl hk hl1 hk' hlw w19.heap.size (Nat.le_refl _) hr hr' r18).mono ?_
  rintro e w20 ⟨v20, n20, e20, rfl, hyes, hno, hb20⟩
  obtain ⟨rfl, hn20, hown20⟩ := hyes Hg1.out
  clear hyes hno
  rw [Hg2.out] at hown20
  rw [Hg0.out] at hn20
  have hn20 := hn20.symm
  subst hn20
  have s20 := hb20.size
  have HB20 := Lib.hid (HB19.out.trans (hb20.mono (by have := HB19.out.size; omega)))
  have hr := (hr.below hb20).more s20
  have hr' := (hr'.below hb20).more s20
  have hr'' := (hr''.below hb20).more s20
  have r8 := (r8.below hb20).more s20
  have r18 := (r18.below hb20).more s20
  have HX := Lib.hid (blk_below HX.out hb20 (blk_lt HX.out))
  have HY := Lib.hid (blk_below HY.out hb20 (blk_lt HY.out))
  obtain ⟨A20, c20, rfl, qa20, qb20⟩ := own_cap hown20
  have r20 := Rd.of_own hown20
  clear hb20 hown20
  clear x0 x1 y0 y1
  have x0 : w20.cell? ⟨w.heap.size, 0, none⟩ = some (.int .i64 Z) := blk_cell HX.out 0
  have x1 : w20.cell? ⟨w.heap.size, 1, none⟩ = some (.slice A L.length c) := blk_cell HX.out 1
  have y0 : w20.cell? ⟨w.heap.size + 1, 0, none⟩ = some (.slice A' s.length c') := blk_cell HY.out 0
  have y1 : w20.cell? ⟨w.heap.size + 1, 1, none⟩ = some (.slice A'' t.length c'') := blk_cell HY.out 1
  clear r18
  go_wp2_with fail
  refine (pFar Z A A'' A' _ c _ c'' _ c' L t s w20 hl hk hl2 hk'' hl1 hk' w20.heap.size (Nat.le_refl _) hr hr'' hr').mono ?_
  rw [Hg_nb.out, Hg_fb.out, Hg_pb.out]
  rintro e w21 ⟨rfl, hb21⟩
  have s21 := hb21.size
  have HB21 := Lib.hid (HB20.out.trans (hb21.mono (by have := HB20.out.size; omega)))
  have hr := (hr.below hb21).more s21
  have hr' := (hr'.below hb21).more s21
  have hr'' := (hr''.below hb21).more s21
  have r8 := (r8.below hb21).more s21
  have r20 := (r20.below hb21).more s21
  have HX := Lib.hid (blk_below HX.out hb21 (blk_lt HX.out))
  have HY := Lib.hid (blk_below HY.out hb21 (blk_lt HY.out))
  clear hb21
  clear x0 x1 y0 y1
  have x0 : w21.cell? ⟨w.heap.size, 0, none⟩ = some (.int .i64 Z) := blk_cell HX.out 0
  have x1 : w21.cell? ⟨w.heap.size, 1, none⟩ = some (.slice A L.length c) := blk_cell HX.out 1
  have y0 : w21.cell? ⟨w.heap.size + 1, 0, none⟩ = some (.slice A' s.length c') := blk_cell HY.out 0
  have y1 : w21.cell? ⟨w.heap.size + 1, 1, none⟩ = some (.slice A'' t.length c'') := blk_cell HY.out 1
  go_wp2_with fail
  refine (pFarthest Z A A' _ c _ c' L s w21 hl hk hl1 hk' w21.heap.size (Nat.le_refl _) hr hr').mono ?_
  rw [Hhv.out]
  rintro e w22 ⟨n22, rfl, hall, hb22⟩
  have hfl := far_long Hhq.out Hhf.out (hall rfl)
  rw [Hg_fa.out] at hfl
  have dfl : decide (n22 < fa) = false := decide_eq_false (by omega)
  clear hall hfl
  have s22 := hb22.size
  have HB22 := Lib.hid (HB21.out.trans (hb22.mono (by have := HB21.out.size; omega)))
  have hr := (hr.below hb22).more s22
  have hr' := (hr'.below hb22).more s22
  have hr'' := (hr''.below hb22).more s22
  have r8 := (r8.below hb22).more s22
  have r20 := (r20.below hb22).more s22
  have HX := Lib.hid (blk_below HX.out hb22 (blk_lt HX.out))
  have HY := Lib.hid (blk_below HY.out hb22 (blk_lt HY.out))
  clear hb22
  clear x0 x1 y0 y1
  have x0 : w22.cell? ⟨w.heap.size, 0, none⟩ = some (.int .i64 Z) := blk_cell HX.out 0
  have x1 : w22.cell? ⟨w.heap.size, 1, none⟩ = some (.slice A L.length c) := blk_cell HX.out 1
  have y0 : w22.cell? ⟨w.heap.size + 1, 0, none⟩ = some (.slice A' s.length c') := blk_cell HY.out 0
  have y1 : w22.cell? ⟨w.heap.size + 1, 1, none⟩ = some (.slice A'' t.length c'') := blk_cell HY.out 1
  go_wp2_with fail
  refine (rSameInts_is true A20 A'' _ _ c20 c'' t t (by simp) w22 hl2 hl2 w22.heap.size (Nat.le_refl _) r20 hr'').mono ?_
  rintro e w23 ⟨rfl, hb23⟩
  have s23 := hb23.size
  have HB23 := Lib.hid (HB22.out.trans (hb23.mono (by have := HB22.out.size; omega)))
  have hr := (hr.below hb23).more s23
  have hr' := (hr'.below hb23).more s23
  have hr'' := (hr''.below hb23).more s23
  have r8 := (r8.below hb23).more s23
  have r20 := (r20.below hb23).more s23
  have HX := Lib.hid (blk_below HX.out hb23 (blk_lt HX.out))
  have HY := Lib.hid (blk_below HY.out hb23 (blk_lt HY.out))
  clear hb23
  clear r20
  clear x0 x1 y0 y1
  have x0 : w23.cell? ⟨w.heap.size, 0, none⟩ = some (.int .i64 Z) := blk_cell HX.out 0
  have x1 : w23.cell? ⟨w.heap.size, 1, none⟩ = some (.slice A L.length c) := blk_cell HX.out 1
  have y0 : w23.cell? ⟨w.heap.size + 1, 0, none⟩ = some (.slice A' s.length c') := blk_cell HY.out 0
  have y1 : w23.cell? ⟨w.heap.size + 1, 1, none⟩ = some (.slice A'' t.length c'') := blk_cell HY.out 1
  go_wp2
  go_ret
  exact ⟨rfl, HB23.out⟩
end Go.Proofs.Ytlhbmfaoldajdaa
