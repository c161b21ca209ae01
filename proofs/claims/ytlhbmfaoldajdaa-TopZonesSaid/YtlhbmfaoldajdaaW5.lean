/-
  WALKS: refusal, moves.
-/
import Derived.Test.YtlhbmfaoldajdaaW4
import Derived.Test.YtlhbmfaoldajdaaP1
namespace Go.Proofs.Ytlhbmfaoldajdaa
open Go.RowKit

theorem E28 : EOk Try.prog 28 57 (.agg #[.int .i64 0, .int .i64 0]) 2 16 :=
  ⟨Try.underlying28, by
    obtain ⟨i, h1, h2, h3, h4⟩ := info_parts (show (Try.prog.info? 57).map (fun i => (i.zero, i.size, i.bytes)) = some (some (.agg #[.int .i64 0, .int .i64 0]), 2, 16) by kernel_rfl)
    exact ⟨i, h1, h2, h3, h4⟩, rfl, by decide, by decide⟩

set_option maxRecDepth 100000 in
set_option maxHeartbeats 1000000 in
theorem prefusal (Z : Int) (A A' : Option Addr) (k c k' c' : Nat) (L : List (Int × Int)) (s : List Int) (m1 m2 : Int) (w : World) (hl : L.length ≤ 1000) (hl' : s.length ≤ 1000) (B : Nat) (hB : B ≤ w.heap.size) (hr : Rd w B 2 A k (prs L)) (hr' : Rd w B 1 A' k' (ints s)) :
    Calls Try.prog 22 #[.agg #[.int .i64 Z, .slice A k c], .slice A' k' c', .agg #[.int .i64 m1, .int .i64 m2]] w fun e w' => e = .returned (.int .i64 (refuseE Z L s (m1, m2))) ∧ Below w.heap.size w w' := by
  obtain rfl := hr'.int_len
  have HB1 := Lib.hid (((Below.refl w.heap.size w).alloc (Nat.le_refl _) (.cells #[.int .i64 Z, .slice A k c] 24)).alloc (by simp) (.cells #[.int .i64 m1, .int .i64 m2] 57))
  have sw : ((w.alloc (.cells #[.int .i64 Z, .slice A k c] 24)).alloc (.cells #[.int .i64 m1, .int .i64 m2] 57)).heap.size = w.heap.size + 1 + 1 := by simp
  have hx := blk_alloc (blk_new w 24 #[.int .i64 Z, .slice A k c]) (.cells #[.int .i64 m1, .int .i64 m2] 57)
  have hy := blk_new (w.alloc (.cells #[.int .i64 Z, .slice A k c] 24)) 57 #[.int .i64 m1, .int .i64 m2]
  rw [World.size_alloc] at hy
  obtain ⟨W, hW⟩ : ∃ W, W = (w.alloc (.cells #[.int .i64 Z, .slice A k c] 24)).alloc (.cells #[.int .i64 m1, .int .i64 m2] 57) := ⟨_, rfl⟩
  rw [← hW] at HB1 sw hx hy
  have hr := (hr.more hB).below HB1.out
  have hr' := (hr'.more hB).below HB1.out
  have x0 : W.cell? ⟨w.heap.size, 0, none⟩ = some (.int .i64 Z) := blk_cell hx 0
  have x1 : W.cell? ⟨w.heap.size, 1, none⟩ = some (.slice A k c) := blk_cell hx 1
  have y0 : W.cell? ⟨w.heap.size + 1, 0, none⟩ = some (.int .i64 m1) := blk_cell hy 0
  have y1 : W.cell? ⟨w.heap.size + 1, 1, none⟩ = some (.int .i64 m2) := blk_cell hy 1
  have HV := Lib.hid (show refuseE Z L s (m1, m2) = if 0 ≤ m1 ∧ m1 < s.length ∧ zoneB Z m2 = true then (if lk L (s.getD m1.toNat 0) m2 = true then (if m2 ∈ s then 6 else 0) else 8) else 4 from rfl)
  rw [hW] at x0 x1 y0 y1
  clear hx hy
  by_cases h1 : m1 < 0
  · have HE := Lib.hid (show refuseE Z L s (m1, m2) = 4 by rw [HV.out, if_neg (by omega)])
    have hd : decide (m1 < 0) = true := decide_eq_true h1
    rw [hW] at HB1
    go_enter Try.func22, Try.ntmps22
    go_wp2
    go_ret
    exact ⟨ret_int HE.out.symm, HB1.out⟩
  have hd1 : decide (m1 < 0) = false := decide_eq_false h1
  by_cases h2 : (s.length : Int) ≤ m1
  · have HE := Lib.hid (show refuseE Z L s (m1, m2) = 4 by rw [HV.out, if_neg (by omega)])
    have hd : decide ((s.length : Int) ≤ m1) = true := decide_eq_true h2
    rw [hW] at HB1
    go_enter Try.func22, Try.ntmps22
    go_wp2
    go_ret
    exact ⟨ret_int HE.out.symm, HB1.out⟩
  have hd2 : decide ((s.length : Int) ≤ m1) = false := decide_eq_false h2
  obtain ⟨i, rfl⟩ := Int.eq_ofNat_of_zero_le (show 0 ≤ m1 by omega)
  have hi : i < s.length := by omega
  have HGD := Lib.hid (show s.getD (i : Int).toNat 0 = s[i] by simp [List.getD, List.getElem?_eq_getElem hi])
  obtain ⟨r, hrr⟩ : ∃ r, r = zoneB Z m2 := ⟨_, rfl⟩
  have HR := Lib.hid hrr.symm
  clear hrr
  have HZ := Lib.hid (pisZone r Z m2 HR.out (.slice A k c) W)
  have sB := HB1.out.size
  have hW2 := hW
  rw [hW] at HZ
  cases r with
  | false =>
    have HE := Lib.hid (show refuseE Z L s ((i : Int), m2) = 4 by rw [HV.out, if_neg (by rw [HR.out]; rintro ⟨_, _, h⟩; cases h)])
    rw [hW] at HB1
    clear hW hW2
    go_enter Try.func22, Try.ntmps22
    go_wp2_with fail
    refine HZ.out.mono ?_
    rintro e w2 ⟨rfl, hb2⟩
    go_wp2
    go_ret
    exact ⟨ret_int HE.out.symm, HB1.out.trans (hb2.mono (by simp; omega))⟩
  | true =>
    have HV2 := Lib.hid (show refuseE Z L s ((i : Int), m2) = if lk L s[i] m2 = true then (if m2 ∈ s then 6 else 0) else 8 by rw [HV.out, if_pos ⟨by omega, by omega, HR.out⟩, HGD.out])
    obtain ⟨b, off, rfl, lb, g0⟩ := hr'.int hi
    obtain ⟨y, hyy⟩ : ∃ y, y = s[i] := ⟨_, rfl⟩
    rw [← hyy] at g0 HV2
    clear hyy
    rw [hW] at HB1 hr hr' g0 sw
    clear hW hW2 HGD HV
    have z0 : (0 : Int) ≤ (i : Int) := by omega
    have z1 : (i : Int) < (s.length : Int) := by omega
    go_enter Try.func22, Try.ntmps22
    go_wp2_with fail
    refine HZ.out.mono ?_
    rintro e w2 ⟨rfl, hb2⟩
    have sb2 := hb2.size
    have x0 := (hb2.cell (p := ⟨w.heap.size, 0, none⟩) (by simp; omega)).trans x0
    have x1 := (hb2.cell (p := ⟨w.heap.size, 1, none⟩) (by simp; omega)).trans x1
    have y0 := (hb2.cell (p := ⟨w.heap.size + 1, 0, none⟩) (by simp)).trans y0
    have y1 := (hb2.cell (p := ⟨w.heap.size + 1, 1, none⟩) (by simp)).trans y1
    have g0 := (hb2.cell (p := ⟨b, off + i, none⟩) (show b < _ by simp; omega)).trans g0
    have hr := hr.below (hb2.mono (by omega))
    have hr' := hr'.below (hb2.mono (by omega))
    have HB2 := Lib.hid (HB1.out.trans (hb2.mono (by omega)))
    have s2 := HB2.out.size
    clear hb2 sb2
    obtain ⟨r, hrr⟩ : ∃ r, r = lk L y m2 := ⟨_, rfl⟩
    have HL := Lib.hid (plinked r Z A k c L y m2 hrr.symm w2.drew hl w.heap.size s2 hr)
    have HRL := Lib.hid hrr
    rw [← hrr] at HV2
    clear hrr
    cases r with
    | false =>
      have HE := Lib.hid (show refuseE Z L s ((i : Int), m2) = 8 by rw [HV2.out, if_neg (by decide)])
      go_wp2
      refine wp_region_qtail 8 (by kernel_rfl) (by kernel_rfl) ?_
      simp only [List.take_succ_cons, List.take_zero, List.drop_succ_cons, List.drop_zero]
      repeat (go_big_quiet_step (fail))
      refine wpQuiet_nil ?_
      go_wp2_with fail
      refine HL.out.mono ?_
      rintro e w3 ⟨rfl, hb3⟩
      have HB3 := Lib.hid (HB2.out.drew.trans (hb3.mono s2))
      clear hb3
      go_wp2
      go_ret
      exact ⟨ret_int HE.out.symm, HB3.out⟩
    | true =>
      have HV3 := Lib.hid (show refuseE Z L s ((i : Int), m2) = if m2 ∈ s then 6 else 0 by rw [HV2.out, if_pos rfl])
      go_wp2
      refine wp_region_qtail 8 (by kernel_rfl) (by kernel_rfl) ?_
      simp only [List.take_succ_cons, List.take_zero, List.drop_succ_cons, List.drop_zero]
      repeat (go_big_quiet_step (fail))
      refine wpQuiet_nil ?_
      go_wp2_with fail
      refine HL.out.mono ?_
      rintro e w3 ⟨rfl, hb3⟩
      have HB3 := Lib.hid (HB2.out.drew.trans (hb3.mono s2))
      have s3 := HB3.out.size
      have y1 := (hb3.cell (p := ⟨w.heap.size + 1, 1, none⟩) (show w.heap.size + 1 < w2.heap.size from (cell_lt y1).1)).trans y1
      have hr' := (Rd.drew hr').below (hb3.mono s2)
      clear hb3
      obtain ⟨r, hrr⟩ : ∃ r, r = decide (m2 ∈ s) := ⟨_, rfl⟩
      have HC := Lib.hid (pContains r (some ⟨b, off, none⟩) s.length c' s m2 hrr.symm w3 hl' w.heap.size s3 hr')
      have HRC := Lib.hid hrr
      clear hrr
      cases r with
      | false =>
        have HE := Lib.hid (show refuseE Z L s ((i : Int), m2) = 0 by rw [HV3.out, if_neg (of_decide_eq_false HRC.out.symm)])
        go_wp2_with fail
        refine HC.out.mono ?_
        rintro e w4 ⟨rfl, hb4⟩
        go_wp2
        go_ret
        exact ⟨ret_int HE.out.symm, HB3.out.trans (hb4.mono s3)⟩
      | true =>
        have HE := Lib.hid (show refuseE Z L s ((i : Int), m2) = 6 by rw [HV3.out, if_pos (of_decide_eq_true HRC.out.symm)])
        go_wp2_with fail
        refine HC.out.mono ?_
        rintro e w4 ⟨rfl, hb4⟩
        go_wp2
        go_ret
        exact ⟨ret_int HE.out.symm, HB3.out.trans (hb4.mono s3)⟩
end Go.Proofs.Ytlhbmfaoldajdaa
