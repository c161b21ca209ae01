/-
  WALKS: Long, Validate, placed, ValidatePlace, pair.
-/
import Derived.Test.YtlhbmfaoldajdaaW3
namespace Go.Proofs.Ytlhbmfaoldajdaa
open Go.RowKit

set_option maxRecDepth 100000 in
theorem pLong (r : Bool) (Z : Int) (A : Option Addr) (k c : Nat) (hrr : decide (60 < k) = r) (w : World) (hk : k ≤ maxLen) :
    Calls Try.prog 5 #[.agg #[.int .i64 Z, .slice A k c]] w fun e w' => e = .returned (.bool r) ∧ Below w.heap.size w w' := by
  have HB1 := Lib.hid ((Below.refl w.heap.size w).alloc (Nat.le_refl _) (.cells #[.int .i64 Z, .slice A k c] 24))
  have x1 : (w.alloc (.cells #[.int .i64 Z, .slice A k c] 24)).cell? ⟨w.heap.size, 1, none⟩ = some (.slice A k c) := blk_cell (blk_new w 24 #[.int .i64 Z, .slice A k c]) 1
  have hd : decide (60 < (k : Int)) = r := by rw [← hrr]; exact decide_eq_decide.2 (by omega)
  have HD := Lib.hid hd
  clear hrr hd
  go_enter Try.func5, Try.ntmps5
  go_wp2
  go_ret
  exact ⟨ret_bool HD.out, HB1.out⟩

set_option maxRecDepth 100000 in
set_option maxHeartbeats 2000000 in
theorem pValidate (Z : Int) (A : Option Addr) (k c : Nat) (L : List (Int × Int)) (w : World) (hl : L.length ≤ 1000) (hc : k ≤ c) (B : Nat) (hB : B ≤ w.heap.size) (hr : Rd w B 2 A k (prs L)) :
    Calls Try.prog 15 #[.agg #[.int .i64 Z, .slice A k c]] w fun e w' => e = .returned (.int .i64 (vldT Z L)) ∧ Below w.heap.size w w' := by
  obtain rfl := hr.pr_len
  have HB1 := Lib.hid ((Below.refl w.heap.size w).alloc (Nat.le_refl _) (.cells #[.int .i64 Z, .slice A L.length c] 24))
  have HX := Lib.hid (blk_new w 24 #[.int .i64 Z, .slice A L.length c])
  have hr := hr.more hB
  have HV := Lib.hid (show vldT Z L = if 1 ≤ Z ∧ Z ≤ 6 then (if L.all (okLk Z) = true then (if L.Nodup then 0 else 6) else 1) else 1 from rfl)
  have x0 : (w.alloc (.cells #[.int .i64 Z, .slice A L.length c] 24)).cell? ⟨w.heap.size, 0, none⟩ = some (.int .i64 Z) := blk_cell HX.out 0
  have x1 : (w.alloc (.cells #[.int .i64 Z, .slice A L.length c] 24)).cell? ⟨w.heap.size, 1, none⟩ = some (.slice A L.length c) := blk_cell HX.out 1
  have s1 : (w.alloc (.cells #[.int .i64 Z, .slice A L.length c] 24)).heap.size = w.heap.size + 1 := by simp
  by_cases h1 : Z < 1
  · have HE := Lib.hid (show vldT Z L = 1 by rw [HV.out, if_neg (by omega)])
    have hd : decide (Z < 1) = true := decide_eq_true h1
    go_enter Try.func15, Try.ntmps15
    go_wp2
    go_ret
    exact ⟨ret_int HE.out.symm, HB1.out⟩
  by_cases h6 : 6 < Z
  · have HE := Lib.hid (show vldT Z L = 1 by rw [HV.out, if_neg (by omega)])
    have hd : decide (Z < 1) = false := decide_eq_false h1
    have hd2 : decide (6 < Z) = true := decide_eq_true h6
    go_enter Try.func15, Try.ntmps15
    go_wp2
    go_ret
    exact ⟨ret_int HE.out.symm, HB1.out⟩
  have HV2 := Lib.hid (show vldT Z L = if L.all (okLk Z) = true then (if L.Nodup then 0 else 6) else 1 by rw [HV.out, if_pos (by omega)])
  have hd : decide (Z < 1) = false := decide_eq_false h1
  have hd2 : decide (6 < Z) = false := decide_eq_false h6
  go_enter Try.func15, Try.ntmps15
  go_wp2
  clear x0 x1
  go_loopw [18] (fun i wr => ∃ q : Nat, i = .int .i64 q ∧ q ≤ L.length ∧ Hid ((L.take q).all (okLk Z) = true) ∧ Below w.heap.size w wr ∧ wr.heap[w.heap.size]? = some (.cells #[.int .i64 Z, .slice A L.length c] 24 (0, 0))) (fun i _ => L.length - (intOf i).toNat)
  case atStart => exact ⟨0, rfl, Nat.zero_le _, rfl, HB1.out, HX.out⟩
  case round =>
    obtain ⟨q, rfl, hq, hall, hb, hx⟩ := hrel
    have sb := hb.size
    have lx := blk_lt hx
    by_cases hlt : q < L.length
    · obtain ⟨b, off, rfl, lb, g0, g1⟩ := (hr.below hb).pr hlt
      have ht := all_take (okLk Z) L q hlt
      rw [hall.out, Bool.true_and] at ht
      have HF := Lib.hid (show okLk Z L[q] = false → L.all (okLk Z) = false from fun ha => by
        rw [Bool.eq_false_iff]
        intro hx
        have := List.all_eq_true.1 hx _ (List.getElem_mem hlt)
        rw [ha] at this
        cases this)
      have HT := Lib.hid ht
      obtain ⟨y, hy⟩ : ∃ y, y = L[q] := ⟨_, rfl⟩
      rw [← hy] at g0 g1 HF HT
      clear hy ht
      obtain ⟨y1, y2⟩ := y
      have HK := Lib.hid (show okLk Z (y1, y2) = (decide (0 ≤ y1) && (decide (y2 < Z) && decide (y1 < y2))) from rfl)
      have x0 : (wr.alloc (.cells #[.int .i64 y1, .int .i64 y2] 33)).cell? ⟨w.heap.size, 0, none⟩ = some (.int .i64 Z) := blk_cell (blk_alloc hx _) 0
      have v0 : (wr.alloc (.cells #[.int .i64 y1, .int .i64 y2] 33)).cell? ⟨wr.heap.size, 0, none⟩ = some (.int .i64 y1) := blk_cell (blk_new wr 33 _) 0
      have v1 : (wr.alloc (.cells #[.int .i64 y1, .int .i64 y2] 33)).cell? ⟨wr.heap.size, 1, none⟩ = some (.int .i64 y2) := blk_cell (blk_new wr 33 _) 1
      have z0 : (0 : Int) ≤ (q : Int) := by omega
      have z1 : (q : Int) < (L.length : Int) := by omega
      have HBX := Lib.hid (And.intro (hb.alloc sb (.cells #[.int .i64 y1, .int .i64 y2] 33)) (blk_alloc hx (.cells #[.int .i64 y1, .int .i64 y2] 33)))
      clear hb hx
      by_cases a1 : y1 < 0
      · have HE := Lib.hid (show vldT Z L = 1 by rw [HV2.out, HF.out (by rw [HK.out, decide_eq_false (by omega), Bool.false_and])]; rfl)
        have ha1 : decide (y1 < 0) = true := decide_eq_true a1
        go_wp2
        go_ret
        exact ⟨ret_int HE.out.symm, HBX.out.1⟩
      have ha1 : decide (y1 < 0) = false := decide_eq_false a1
      by_cases a2 : Z ≤ y2
      · have HE := Lib.hid (show vldT Z L = 1 by rw [HV2.out, HF.out (by rw [HK.out, decide_eq_false (show ¬ y2 < Z by omega), Bool.false_and, Bool.and_false])]; rfl)
        have ha2 : decide (Z ≤ y2) = true := decide_eq_true a2
        go_wp2
        go_ret
        exact ⟨ret_int HE.out.symm, HBX.out.1⟩
      have ha2 : decide (Z ≤ y2) = false := decide_eq_false a2
      by_cases a3 : y2 ≤ y1
      · have HE := Lib.hid (show vldT Z L = 1 by rw [HV2.out, HF.out (by rw [HK.out, decide_eq_false (show ¬ y1 < y2 by omega), Bool.and_false, Bool.and_false])]; rfl)
        have ha3 : decide (y2 ≤ y1) = true := decide_eq_true a3
        go_wp2
        go_ret
        exact ⟨ret_int HE.out.symm, HBX.out.1⟩
      have ha3 : decide (y2 ≤ y1) = false := decide_eq_false a3
      have HN := Lib.hid (show (L.take (q + 1)).all (okLk Z) = true by rw [HT.out, HK.out, decide_eq_true (by omega), decide_eq_true (by omega), decide_eq_true (by omega)]; rfl)
      go_wp2
      go_roundw
      case rel => exact ⟨q + 1, by go_num, by omega, HN.out, HBX.out.1, HBX.out.2⟩
      case measure => simp [intOf]; omega
    · obtain rfl : q = L.length := by omega
      have HV3 := Lib.hid (show vldT Z L = if L.Nodup then 0 else 6 by rw [HV2.out, if_pos (by have := hall.out; rwa [List.take_length] at this)])
      have x1 : wr.cell? ⟨w.heap.size, 1, none⟩ = some (.slice A L.length c) := blk_cell hx 1
      have HBX := Lib.hid (And.intro hb hx)
      obtain ⟨wo, hwo⟩ : ∃ z, z = wr := ⟨_, rfl⟩
      rw [← hwo] at x1 HBX sb lx ⊢
      clear hwo hb hx hall
      go_wp2
      go_loopw [43] (fun i wr => ∃ q : Nat, i = .int .i64 q ∧ q ≤ L.length ∧ Hid ((L.take q).Nodup) ∧ Below w.heap.size w wr ∧ wr.heap[w.heap.size]? = some (.cells #[.int .i64 Z, .slice A L.length c] 24 (0, 0))) (fun i _ => L.length - (intOf i).toNat)
      case atStart => exact ⟨0, rfl, Nat.zero_le _, by show (L.take 0).Nodup; simp, HBX.out.1, HBX.out.2⟩
      case round =>
        clear x1 HBX
        obtain ⟨q, rfl, hq, hnd, hb, hx⟩ := hrel
        have sb := hb.size
        have lx := blk_lt hx
        by_cases hlt : q < L.length
        · have hrb := (hr.below hb)
          obtain ⟨b, off, rfl, lb, g0, g1⟩ := hrb.pr hlt
          have HND := Lib.hid (nodup_take hlt)
          have HF := Lib.hid (show ¬ (L.take (q + 1)).Nodup → ¬ L.Nodup from fun h h' => h (h'.sublist (List.take_sublist _ _)))
          obtain ⟨y, hy⟩ : ∃ y, y = L[q] := ⟨_, rfl⟩
          rw [← hy] at g0 g1 HND
          clear hy
          obtain ⟨y1, y2⟩ := y
          have hfr := hrb.front (k := q) (by omega)
          rw [show (prs L).take (q * 2) = prs (L.take q) from prs_take L q] at hfr
          have x1 : (wr.alloc (.cells #[.int .i64 y1, .int .i64 y2] 33)).cell? ⟨w.heap.size, 1, none⟩ = some (.slice (some ⟨b, off, none⟩) L.length c) := blk_cell (blk_alloc hx _) 1
          have v0 : (wr.alloc (.cells #[.int .i64 y1, .int .i64 y2] 33)).cell? ⟨wr.heap.size, 0, none⟩ = some (.int .i64 y1) := blk_cell (blk_new wr 33 _) 0
          have v1 : (wr.alloc (.cells #[.int .i64 y1, .int .i64 y2] 33)).cell? ⟨wr.heap.size, 1, none⟩ = some (.int .i64 y2) := blk_cell (blk_new wr 33 _) 1
          have z0 : (0 : Int) ≤ (q : Int) := by omega
          have z1 : (q : Int) < (L.length : Int) := by omega
          have z3 : q ≤ c := by omega
          have z2 : (q : Int) ≤ (c : Int) := by omega
          have HBX := Lib.hid (And.intro (hb.alloc sb (.cells #[.int .i64 y1, .int .i64 y2] 33)) (blk_alloc hx (.cells #[.int .i64 y1, .int .i64 y2] 33)))
          obtain ⟨r, hrr⟩ : ∃ r, r = decide ((y1, y2) ∈ L.take q) := ⟨_, rfl⟩
          have sa : (wr.alloc (.cells #[.int .i64 y1, .int .i64 y2] 33)).heap.size = wr.heap.size + 1 := by simp
          have HC := Lib.hid (pContainsL r (some ⟨b, off, none⟩) q c (L.take q) y1 y2 hrr.symm ((wr.alloc (.cells #[.int .i64 y1, .int .i64 y2] 33)).drew) (by have := List.length_take_le q L; omega) w.heap.size (by simp; omega) (hfr.alloc sb _))
          have HR := Lib.hid hrr
          clear hb hx hrb hfr hrr
          cases r with
          | true =>
            have HE := Lib.hid (show vldT Z L = 6 by rw [HV3.out, if_neg (HF.out (fun h => (HND.out.1 h).2 (of_decide_eq_true HR.out.symm)))])
            go_wp2
            refine wp_region_qtail 5 (by kernel_rfl) (by kernel_rfl) ?_
            simp only [List.take_succ_cons, List.take_zero, List.drop_succ_cons, List.drop_zero]
            repeat (go_big_quiet_step (fail))
            refine wpQuiet_nil ?_
            go_wp2_with fail
            refine HC.out.mono ?_
            rintro e w2 ⟨rfl, hb2⟩
            have HB2 := Lib.hid (HBX.out.1.drew.trans (hb2.mono (by simp; omega)))
            clear hb2
            go_wp2
            go_ret
            exact ⟨ret_int HE.out.symm, HB2.out⟩
          | false =>
            have HN := Lib.hid (show (L.take (q + 1)).Nodup from HND.out.2 ⟨hnd.out, of_decide_eq_false HR.out.symm⟩)
            go_wp2
            refine wp_region_qtail 5 (by kernel_rfl) (by kernel_rfl) ?_
            simp only [List.take_succ_cons, List.take_zero, List.drop_succ_cons, List.drop_zero]
            repeat (go_big_quiet_step (fail))
            refine wpQuiet_nil ?_
            go_wp2_with fail
            refine HC.out.mono ?_
            rintro e w2 ⟨rfl, hb2⟩
            have HB2 := Lib.hid (And.intro (HBX.out.1.drew.trans (hb2.mono (by simp; omega))) (blk_below (w := (wr.alloc (.cells #[.int .i64 y1, .int .i64 y2] 33)).drew) HBX.out.2 hb2 (by simp; omega)))
            clear hb2
            go_wp2
            go_roundw
            case rel => exact ⟨q + 1, by go_num, by omega, HN.out, HB2.out.1, HB2.out.2⟩
            case measure => simp [intOf]; omega
        · obtain rfl : q = L.length := by omega
          have HE := Lib.hid (show vldT Z L = 0 by rw [HV3.out, if_pos (by have := hnd.out; rwa [List.take_length] at this)])
          go_wp2
          go_ret
          exact ⟨ret_int HE.out.symm, hb⟩

theorem placedFn (Z z : Int) (s : Value) (x : Nat) (W : World) (hg : W.heap[x]? = some (.cells #[.int .i64 Z, s] 24 (0, 0))) :
    Calls Try.prog 30 #[.int .i64 z, .pointer (some ⟨x, 0, none⟩)] W fun e W' => e = .returned (.bool (!zoneB Z z)) ∧ Below W.heap.size W W' := by
  have c0 : W.cell? ⟨x, 0, none⟩ = some (.int .i64 Z) := blk_cell hg 0
  have c1 : W.cell? ⟨x, 1, none⟩ = some s := blk_cell hg 1
  obtain ⟨r, hrr⟩ : ∃ r, r = zoneB Z z := ⟨_, rfl⟩
  have HR := Lib.hid hrr.symm
  rw [← hrr]
  clear hrr hg
  go_enter Try.func30, Try.ntmps30
  go_wp2_with fail
  refine (pisZone r Z z HR.out s W).mono ?_
  rintro e w' ⟨rfl, hb⟩
  go_wp2
  go_ret
  exact ⟨rfl, hb⟩

set_option maxRecDepth 100000 in
set_option maxHeartbeats 2000000 in
theorem pplaced (Z : Int) (T : Value) (A : Option Addr) (k c : Nat) (s : List Int) (w : World) (hs1 : s.length ≤ 1000) (hc : k ≤ c) (B : Nat) (hB : B ≤ w.heap.size) (hr : Rd w B 1 A k (ints s)) :
    Calls Try.prog 16 #[.agg #[.int .i64 Z, T], .slice A k c] w fun e w' => e = .returned (.int .i64 (placedE Z s)) ∧ Below w.heap.size w w' := by
  obtain rfl := hr.int_len
  have HB1 := Lib.hid ((Below.refl w.heap.size w).alloc (Nat.le_refl _) (.cells #[.int .i64 Z, T] 24))
  have HX := Lib.hid (blk_new w 24 #[.int .i64 Z, T])
  have hr := hr.more hB
  have hra := hr.below HB1.out
  have HV := Lib.hid (show placedE Z s = if s.length ≤ 4 then (if s.all (zoneB Z) = true then (if s.Nodup then 0 else 6) else 1) else 3 from rfl)
  have s1 : (w.alloc (.cells #[.int .i64 Z, T] 24)).heap.size = w.heap.size + 1 := by simp
  by_cases h4 : 4 < s.length
  · have HE := Lib.hid (show placedE Z s = 3 by rw [HV.out, if_neg (by omega)])
    have hd : decide (4 < (s.length : Int)) = true := decide_eq_true (by omega)
    go_enter Try.func16, Try.ntmps16
    go_wp2
    go_ret
    exact ⟨ret_int HE.out.symm, HB1.out⟩
  have HV2 := Lib.hid (show placedE Z s = if s.all (zoneB Z) = true then (if s.Nodup then 0 else 6) else 1 by rw [HV.out, if_pos (by omega)])
  have hd : decide (4 < (s.length : Int)) = false := by simp; omega
  have hany : (s.any fun z => !zoneB Z z) = !s.all (zoneB Z) := by simp [List.any_eq_not_all_not]
  have HF := Lib.hid (intContainsFunc 30 Try.call30 #[.pointer (some ⟨w.heap.size, 0, none⟩)] (fun z => !zoneB Z z) A s.length c s (w.alloc (.cells #[.int .i64 Z, T] 24)) (by omega) w.heap.size (by simp) hra (fun z hz W hb => placedFn Z z T w.heap.size W (blk_below HX.out hb (by omega))))
  cases ha : s.all (zoneB Z) with
  | false =>
    rw [ha] at hany
    have HAN := Lib.hid hany
    have HE := Lib.hid (show placedE Z s = 1 by rw [HV2.out, ha]; rfl)
    clear ha hany
    go_enter Try.func16, Try.ntmps16
    go_wp2_with fail
    refine HF.out.mono ?_
    rw [HAN.out]
    rintro e w1 ⟨rfl, hb1⟩
    go_wp2
    go_ret
    exact ⟨ret_int HE.out.symm, HB1.out.trans (hb1.mono (by omega))⟩
  | true =>
    rw [ha] at hany
    have HAN := Lib.hid hany
    have HV3 := Lib.hid (show placedE Z s = if s.Nodup then 0 else 6 by rw [HV2.out, ha]; rfl)
    clear ha hany
    go_enter Try.func16, Try.ntmps16
    go_wp2_with fail
    refine HF.out.mono ?_
    rw [HAN.out]
    rintro e w1 ⟨rfl, hb1⟩
    have HB2 := Lib.hid (HB1.out.trans (hb1.mono (by omega)))
    have sb1 := HB2.out.size
    clear hb1
    go_wp2
    go_loopw [15] (fun i wr => ∃ q : Nat, i = .int .i64 q ∧ q ≤ s.length ∧ Hid ((s.take q).Nodup) ∧ Below w.heap.size w wr) (fun i _ => s.length - (intOf i).toNat)
    case atStart => exact ⟨0, rfl, Nat.zero_le _, by show (s.take 0).Nodup; simp, HB2.out⟩
    case round =>
      obtain ⟨q, rfl, hq, hnd, hb⟩ := hrel
      have sb := hb.size
      by_cases hlt : q < s.length
      · have hrb := (hr.below hb)
        obtain ⟨b, off, rfl, lb, g0⟩ := hrb.int hlt
        have HND := Lib.hid (nodup_take hlt)
        have HN2 := Lib.hid (show ¬ (s.take (q + 1)).Nodup → ¬ s.Nodup from fun h h' => h (h'.sublist (List.take_sublist _ _)))
        obtain ⟨y, hy⟩ : ∃ y, y = s[q] := ⟨_, rfl⟩
        rw [← hy] at g0 HND
        clear hy
        have hfr := hrb.front (k := q) (by omega)
        rw [show (ints s).take (q * 1) = ints (s.take q) by rw [Nat.mul_one]; exact (List.map_take ..).symm] at hfr
        have z0 : (0 : Int) ≤ (q : Int) := by omega
        have z1 : (q : Int) < (s.length : Int) := by omega
        have z2 : (q : Int) ≤ (c : Int) := by omega
        have z3 : q ≤ c := by omega
        obtain ⟨r, hrr⟩ : ∃ r, r = decide (y ∈ s.take q) := ⟨_, rfl⟩
        have HC := Lib.hid (pContains r (some ⟨b, off, none⟩) q c (s.take q) y hrr.symm wr (by have := List.length_take_le q s; omega) w.heap.size sb hfr)
        have HR := Lib.hid hrr
        clear hrb hfr hrr
        cases r with
        | true =>
          have HE := Lib.hid (show placedE Z s = 6 by rw [HV3.out, if_neg (HN2.out (fun h => (HND.out.1 h).2 (of_decide_eq_true HR.out.symm)))])
          go_wp2_with fail
          refine HC.out.mono ?_
          rintro e w2 ⟨rfl, hb2⟩
          go_wp2
          go_ret
          exact ⟨ret_int HE.out.symm, hb.trans (hb2.mono sb)⟩
        | false =>
          have HN := Lib.hid (show (s.take (q + 1)).Nodup from HND.out.2 ⟨hnd.out, of_decide_eq_false HR.out.symm⟩)
          go_wp2_with fail
          refine HC.out.mono ?_
          rintro e w2 ⟨rfl, hb2⟩
          have HB3 := Lib.hid (hb.trans (hb2.mono sb))
          clear hb2
          go_wp2
          go_roundw
          case rel => exact ⟨q + 1, by go_num, by omega, HN.out, HB3.out⟩
          case measure => simp [intOf]; omega
      · obtain rfl : q = s.length := by omega
        have HE := Lib.hid (show placedE Z s = 0 by rw [HV3.out, if_pos (by have := hnd.out; rwa [List.take_length] at this)])
        go_wp2
        go_ret
        exact ⟨ret_int HE.out.symm, hb⟩

set_option maxRecDepth 100000 in
set_option maxHeartbeats 1000000 in
theorem pValidatePlace (Z : Int) (A A' : Option Addr) (k c k' c' : Nat) (L : List (Int × Int)) (s : List Int) (w : World) (hl : L.length ≤ 1000) (hc : k ≤ c) (hl' : s.length ≤ 1000) (hc' : k' ≤ c') (B : Nat) (hB : B ≤ w.heap.size) (hr : Rd w B 2 A k (prs L)) (hr' : Rd w B 1 A' k' (ints s)) :
    Calls Try.prog 6 #[.agg #[.int .i64 Z, .slice A k c], .slice A' k' c'] w fun e w' => e = .returned (.int .i64 (placeE Z L s)) ∧ Below w.heap.size w w' := by
  have HB1 := Lib.hid ((Below.refl w.heap.size w).alloc (Nat.le_refl _) (.cells #[.int .i64 Z, .slice A k c] 24))
  have HX := Lib.hid (blk_new w 24 #[.int .i64 Z, .slice A k c])
  have hr := (hr.more hB).below HB1.out
  have hr' := (hr'.more hB).below HB1.out
  have s1 : (w.alloc (.cells #[.int .i64 Z, .slice A k c] 24)).heap.size = w.heap.size + 1 := by simp
  have x0 : (w.alloc (.cells #[.int .i64 Z, .slice A k c] 24)).cell? ⟨w.heap.size, 0, none⟩ = some (.int .i64 Z) := blk_cell HX.out 0
  have x1 : (w.alloc (.cells #[.int .i64 Z, .slice A k c] 24)).cell? ⟨w.heap.size, 1, none⟩ = some (.slice A k c) := blk_cell HX.out 1
  have HP := Lib.hid (pValidate Z A k c L (w.alloc (.cells #[.int .i64 Z, .slice A k c] 24)) hl hc w.heap.size (by simp) hr)
  have HV := Lib.hid (show placeE Z L s = if vldT Z L = 0 then placedE Z s else vldT Z L from rfl)
  by_cases h : vldT Z L = 0
  · have HE := Lib.hid (show placeE Z L s = placedE Z s by rw [HV.out, if_pos h])
    rw [h] at HP
    clear h
    go_enter Try.func6, Try.ntmps6
    go_wp2_with fail
    refine HP.out.mono ?_
    rintro e w1 ⟨rfl, hb1⟩
    have sb1 := hb1.size
    have x0 : w1.cell? ⟨w.heap.size, 0, none⟩ = some (.int .i64 Z) := (hb1.cell (by simp)).trans x0
    have x1 : w1.cell? ⟨w.heap.size, 1, none⟩ = some (.slice A k c) := (hb1.cell (by simp)).trans x1
    have HB2 := Lib.hid (HB1.out.trans (hb1.mono (by omega)))
    have hr'2 := hr'.below (hb1.mono (by omega))
    clear hb1
    go_wp2_with fail
    refine (pplaced Z (.slice A k c) A' k' c' s w1 hl' hc' w.heap.size (by omega) hr'2).mono ?_
    rintro e w2 ⟨rfl, hb2⟩
    go_wp2
    go_ret
    exact ⟨ret_int HE.out.symm, HB2.out.trans (hb2.mono (by omega))⟩
  · have HE := Lib.hid (show placeE Z L s = vldT Z L by rw [HV.out, if_neg h])
    have hd : (vldT Z L != 0) = true := by simpa using h
    clear h HV
    generalize vldT Z L = y at *
    go_enter Try.func6, Try.ntmps6
    go_wp2_with fail
    refine HP.out.mono ?_
    rintro e w1 ⟨rfl, hb1⟩
    go_wp2
    go_ret
    exact ⟨ret_int HE.out.symm, HB1.out.trans (hb1.mono (by omega))⟩

set_option maxRecDepth 100000 in
set_option maxHeartbeats 1000000 in
theorem ppair (Z : Int) (A A' A'' : Option Addr) (k c k' c' k'' c'' : Nat) (L : List (Int × Int)) (s t : List Int) (w : World) (hl : L.length ≤ 1000) (hc : k ≤ c) (hl' : s.length ≤ 1000) (hc' : k' ≤ c') (hl'' : t.length ≤ 1000) (hc'' : k'' ≤ c'') (B : Nat) (hB : B ≤ w.heap.size) (hr : Rd w B 2 A k (prs L)) (hr' : Rd w B 1 A' k' (ints s)) (hr'' : Rd w B 1 A'' k'' (ints t)) :
    Calls Try.prog 23 #[.agg #[.int .i64 Z, .slice A k c], .slice A' k' c', .slice A'' k'' c''] w fun e w' => e = .returned (.int .i64 (pairZ Z L s t)) ∧ Below w.heap.size w w' := by
  obtain rfl := hr'.int_len
  obtain rfl := hr''.int_len
  have HB1 := Lib.hid ((Below.refl w.heap.size w).alloc (Nat.le_refl _) (.cells #[.int .i64 Z, .slice A k c] 24))
  have HX := Lib.hid (blk_new w 24 #[.int .i64 Z, .slice A k c])
  have hr := (hr.more hB).below HB1.out
  have hr' := (hr'.more hB).below HB1.out
  have hr'' := (hr''.more hB).below HB1.out
  have s1 : (w.alloc (.cells #[.int .i64 Z, .slice A k c] 24)).heap.size = w.heap.size + 1 := by simp
  have x0 : (w.alloc (.cells #[.int .i64 Z, .slice A k c] 24)).cell? ⟨w.heap.size, 0, none⟩ = some (.int .i64 Z) := blk_cell HX.out 0
  have x1 : (w.alloc (.cells #[.int .i64 Z, .slice A k c] 24)).cell? ⟨w.heap.size, 1, none⟩ = some (.slice A k c) := blk_cell HX.out 1
  have HP := Lib.hid (pValidatePlace Z A A' k c s.length c' L s (w.alloc (.cells #[.int .i64 Z, .slice A k c] 24)) hl hc hl' hc' w.heap.size (by simp) hr hr')
  have HV := Lib.hid (show pairZ Z L s t = if placeE Z L s = 0 then (if placedE Z t = 0 then (if s.length = t.length then 0 else 5) else placedE Z t) else placeE Z L s from rfl)
  by_cases h : placeE Z L s = 0
  · have HE := Lib.hid (show pairZ Z L s t = if placedE Z t = 0 then (if s.length = t.length then 0 else 5) else placedE Z t by rw [HV.out, if_pos h])
    rw [h] at HP
    clear h
    go_enter Try.func23, Try.ntmps23
    go_wp2_with fail
    refine HP.out.mono ?_
    rintro e w1 ⟨rfl, hb1⟩
    have sb1 := hb1.size
    have x0 : w1.cell? ⟨w.heap.size, 0, none⟩ = some (.int .i64 Z) := (hb1.cell (by simp)).trans x0
    have x1 : w1.cell? ⟨w.heap.size, 1, none⟩ = some (.slice A k c) := (hb1.cell (by simp)).trans x1
    have HB2 := Lib.hid (HB1.out.trans (hb1.mono (by omega)))
    have hr2 := hr''.below (hb1.mono (by omega))
    clear hb1
    have HQ := Lib.hid (pplaced Z (.slice A k c) A'' t.length c'' t w1 hl'' hc'' w.heap.size (by omega) hr2)
    by_cases h2 : placedE Z t = 0
    · have HE := Lib.hid (show pairZ Z L s t = if s.length = t.length then 0 else 5 by rw [HE.out, if_pos h2])
      rw [h2] at HQ
      clear h2
      by_cases h3 : s.length = t.length
      · have HE := Lib.hid (show pairZ Z L s t = 0 by rw [HE.out, if_pos h3])
        have hd : ((s.length : Int) != (t.length : Int)) = false := by simp [h3]
        clear h3
        go_wp2_with fail
        refine HQ.out.mono ?_
        rintro e w2 ⟨rfl, hb2⟩
        go_wp2
        go_ret
        exact ⟨ret_int HE.out.symm, HB2.out.trans (hb2.mono (by omega))⟩
      · have HE := Lib.hid (show pairZ Z L s t = 5 by rw [HE.out, if_neg h3])
        have hd : ((s.length : Int) != (t.length : Int)) = true := by simp; omega
        clear h3
        go_wp2_with fail
        refine HQ.out.mono ?_
        rintro e w2 ⟨rfl, hb2⟩
        go_wp2
        go_ret
        exact ⟨ret_int HE.out.symm, HB2.out.trans (hb2.mono (by omega))⟩
    · have HE := Lib.hid (show pairZ Z L s t = placedE Z t by rw [HE.out, if_neg h2])
      have hd : (placedE Z t != 0) = true := by simpa using h2
      clear h2 HV
      generalize placedE Z t = y at *
      go_wp2_with fail
      refine HQ.out.mono ?_
      rintro e w2 ⟨rfl, hb2⟩
      go_wp2
      go_ret
      exact ⟨ret_int HE.out.symm, HB2.out.trans (hb2.mono (by omega))⟩
  · have HE := Lib.hid (show pairZ Z L s t = placeE Z L s by rw [HV.out, if_neg h])
    have hd : (placeE Z L s != 0) = true := by simpa using h
    clear h HV
    generalize placeE Z L s = y at *
    go_enter Try.func23, Try.ntmps23
    go_wp2_with fail
    refine HP.out.mono ?_
    rintro e w1 ⟨rfl, hb1⟩
    go_wp2
    go_ret
    exact ⟨ret_int HE.out.symm, HB1.out.trans (hb1.mono (by omega))⟩
end Go.Proofs.Ytlhbmfaoldajdaa
