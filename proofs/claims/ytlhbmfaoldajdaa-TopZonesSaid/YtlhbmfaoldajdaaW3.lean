/-
  WALKS: linked, isZone, near.
-/
import Derived.Test.YtlhbmfaoldajdaaW2
namespace Go.Proofs.Ytlhbmfaoldajdaa
open Go.RowKit

set_option maxRecDepth 100000 in
set_option maxHeartbeats 1000000 in
theorem plinked (r : Bool) (Z : Int) (A : Option Addr) (k c : Nat) (L : List (Int × Int)) (a b : Int) (hrr : lk L a b = r) (w : World) (hl : L.length ≤ 1000) (B : Nat) (hB : B ≤ w.heap.size) (hr : Rd w B 2 A k (prs L)) :
    Calls Try.prog 36 #[.agg #[.int .i64 Z, .slice A k c], .int .i64 a, .int .i64 b] w fun e w' => e = .returned (.bool r) ∧ Below w.heap.size w w' := by
  have HB1 := Lib.hid ((Below.refl w.heap.size w).alloc (Nat.le_refl _) (.cells #[.int .i64 Z, .slice A k c] 24))
  have HX := blk_new w 24 #[.int .i64 Z, .slice A k c]
  have x1 : (w.alloc (.cells #[.int .i64 Z, .slice A k c] 24)).cell? ⟨w.heap.size, 1, none⟩ = some (.slice A k c) := blk_cell HX 1
  have hr := (hr.more hB).below HB1.out
  have H := Lib.hid (pContainsL r A k c L (min a b) (max a b) hrr (w.alloc (.cells #[.int .i64 Z, .slice A k c] 24)) hl w.heap.size (by simp) hr)
  clear hrr HX
  rcases Int.lt_trichotomy a b with h | h | h
  · rw [show min a b = a by omega, show max a b = b by omega] at H
    go_enter Try.func36, Try.ntmps36
    go_wp2_with fail
    refine H.out.mono ?_
    rintro e w1 ⟨rfl, hb1⟩
    go_wp2
    go_ret
    exact ⟨rfl, HB1.out.trans (hb1.mono (by simp))⟩
  · subst h
    rw [Int.min_self, Int.max_self] at H
    go_enter Try.func36, Try.ntmps36
    go_wp2_with fail
    refine H.out.mono ?_
    rintro e w1 ⟨rfl, hb1⟩
    go_wp2
    go_ret
    exact ⟨rfl, HB1.out.trans (hb1.mono (by simp))⟩
  · rw [show min a b = b by omega, show max a b = a by omega] at H
    go_enter Try.func36, Try.ntmps36
    go_wp2_with fail
    refine H.out.mono ?_
    rintro e w1 ⟨rfl, hb1⟩
    go_wp2
    go_ret
    exact ⟨rfl, HB1.out.trans (hb1.mono (by simp))⟩

set_option maxRecDepth 100000 in
set_option maxHeartbeats 1000000 in
theorem pisZone (r : Bool) (Z z : Int) (hrr : zoneB Z z = r) (s : Value) (w : World) :
    Calls Try.prog 31 #[.agg #[.int .i64 Z, s], .int .i64 z] w fun e w' => e = .returned (.bool r) ∧ Below w.heap.size w w' := by
  subst hrr
  have HZ := Lib.hid (show zoneB Z z = (decide (0 ≤ z) && decide (z < Z)) from rfl)
  have HB1 := Lib.hid ((Below.refl w.heap.size w).alloc (Nat.le_refl _) (.cells #[.int .i64 Z, s] 24))
  have x0 : (w.alloc (.cells #[.int .i64 Z, s] 24)).cell? ⟨w.heap.size, 0, none⟩ = some (.int .i64 Z) := blk_cell (blk_new w 24 #[.int .i64 Z, s]) 0
  by_cases h : 0 ≤ z
  · have hd : decide (0 ≤ z) = true := decide_eq_true h
    go_enter Try.func31, Try.ntmps31
    go_wp2
    go_ret
    exact ⟨ret_bool (by rw [HZ.out, hd, Bool.true_and]), HB1.out⟩
  · have hd : decide (0 ≤ z) = false := decide_eq_false h
    go_enter Try.func31, Try.ntmps31
    go_wp2
    go_ret
    exact ⟨ret_bool (by rw [HZ.out, hd, Bool.false_and]), HB1.out⟩

set_option maxRecDepth 100000 in
set_option maxHeartbeats 2000000 in
theorem pnear (Z : Int) (A : Option Addr) (k c : Nat) (L : List (Int × Int)) (z : Int) (w : World) (hZ0 : 0 ≤ Z) (hZ6 : Z ≤ 6) (hl : L.length ≤ 1000) (B : Nat) (hB : B ≤ w.heap.size) (hr : Rd w B 2 A k (prs L)) :
    Calls Try.prog 33 #[.agg #[.int .i64 Z, .slice A k c], .int .i64 z] w fun e w' => ∃ v, e = .returned v ∧ w'.ownsRow w.heap.size 3 1 v (nearL Z L z).length (ints (nearL Z L z)) ∧ Below w.heap.size w w' := by
  have HB1 := Lib.hid ((Below.refl w.heap.size w).alloc (Nat.le_refl _) (.cells #[.int .i64 Z, .slice A k c] 24))
  have HX := Lib.hid (blk_new w 24 #[.int .i64 Z, .slice A k c])
  have HN := Lib.hid (fun q h => nearTo_succ (Z := Z) (L := L) (z := z) (q := q) h)
  have HA := Lib.hid (nearTo_all Z L z)
  have HLN := Lib.hid (fun q => nearTo_len Z L z q)
  have hr := hr.more hB
  obtain ⟨n, rfl⟩ := Int.eq_ofNat_of_zero_le hZ0
  have hn : (n : Int).toNat = n := by omega
  rw [hn] at HA HN HLN
  clear hn
  have s1 : (w.alloc (.cells #[.int .i64 (n : Int), .slice A k c] 24)).heap.size = w.heap.size + 1 := by simp
  have x0 : (w.alloc (.cells #[.int .i64 (n : Int), .slice A k c] 24)).cell? ⟨w.heap.size, 0, none⟩ = some (.int .i64 (n : Int)) := blk_cell HX.out 0
  go_enter Try.func33, Try.ntmps33
  go_wp2
  go_loopw [9, 5] (fun i u wr => ∃ q : Nat, i = .int .i64 q ∧ q ≤ n ∧ wr.ownsRow (w.heap.size + 1) 3 1 u (nearTo n L z q).length (ints (nearTo n L z q)) ∧ Below w.heap.size w wr ∧ wr.heap[w.heap.size]? = some (.cells #[.int .i64 (n : Int), .slice A k c] 24 (0, 0))) (fun i _ _ => n - (intOf i).toNat)
  case atStart => exact ⟨0, rfl, Nat.zero_le _, World.ownsRow_nil .., HB1.out, HX.out⟩
  case round =>
    clear x0
    obtain ⟨q, rfl, hq, hown, hb, hx⟩ := hrel
    have sb := hb.size
    have lx := blk_lt hx
    by_cases hlt : q < n
    · have x0 : wr.cell? ⟨w.heap.size, 0, none⟩ = some (.int .i64 (n : Int)) := blk_cell hx 0
      have x1 : wr.cell? ⟨w.heap.size, 1, none⟩ = some (.slice A k c) := blk_cell hx 1
      have HS := Lib.hid (HN.out q hlt)
      have hln := HLN.out q
      have hrw := hr.below hb
      have z0 : (0 : Int) ≤ (q : Int) := by omega
      have z1 : (q : Int) < (n : Int) := by omega
      have HO := Lib.hid (And.intro hown (And.intro hb hx))
      obtain ⟨Au, cu, rfl, _, _⟩ := own_cap hown
      obtain ⟨m, hm⟩ : ∃ m, m = (nearTo n L z q).length := ⟨_, rfl⟩
      have HM := Lib.hid hm
      rw [← hm] at hln ⊢
      clear hown hb hx hm
      obtain ⟨r, hrr⟩ : ∃ r, r = lk L z (q : Int) := ⟨_, rfl⟩
      have HR := Lib.hid hrr.symm
      rw [← hrr] at HS
      clear hrr
      have HP := Lib.hid (plinked r n A k c L z q HR.out wr hl w.heap.size sb hrw)
      cases r with
      | true =>
        have HS := Lib.hid (show nearTo n L z (q + 1) = nearTo n L z q ++ [(q : Int)] by rw [HS.out]; rfl)
        go_wp2_with fail
        refine HP.out.mono ?_
        rintro e w1 ⟨rfl, hb1⟩
        have u1 : w1.ownsRow (w.heap.size + 1) 3 1 (.slice Au m cu) m (ints (nearTo n L z q)) := by rw [HM.out]; have := own_below HO.out.1 hb1; rwa [← HM.out] at this ⊢
        have sz1 := hb1.size
        have HB2 := Lib.hid (And.intro (HO.out.2.1.trans (hb1.mono sb)) (blk_below HO.out.2.2 hb1 lx))
        clear hb1 x0 x1
        go_wp2_with (at_builtin; go_must (refine app1 rfl (.tmp 16) (.tmp 18) 25 rfl 3 _ 1 8 E25 (w.heap.size + 1) _ _ _ _ rfl u1 _ rfl ?_ ?_ ?_ ?_ ?_ ?_); rfl; rfl; rfl; omega; omega; intro v3 w3 hown3 hg3)
        have B3 := Lib.hid (And.intro (below_own HB2.out.1 (by have := HB2.out.1.size; omega) u1 (by omega) hg3) (blk_grown HB2.out.2 hg3 (fun e => by have := (u1.lt w.heap.size e.symm).1; omega)))
        have HO3 := Lib.hid hown3
        clear hown3 hg3
        go_roundw
        case rel => exact ⟨q + 1, by go_num, by omega, by rw [HS.out, List.length_append, ← HM.out]; simpa using HO3.out, B3.out.1, B3.out.2⟩
        case measure => simp [intOf]; omega
      | false =>
        have HS := Lib.hid (show nearTo n L z (q + 1) = nearTo n L z q by rw [HS.out]; simp)
        go_wp2_with fail
        refine HP.out.mono ?_
        rintro e w1 ⟨rfl, hb1⟩
        have HU := Lib.hid (own_below HO.out.1 hb1)
        have HB2 := Lib.hid (And.intro (HO.out.2.1.trans (hb1.mono sb)) (blk_below HO.out.2.2 hb1 lx))
        clear hb1
        go_wp2
        go_roundw
        case rel => exact ⟨q + 1, by go_num, by omega, by rw [HS.out]; have := HU.out; rwa [← HM.out] at this ⊢, HB2.out.1, HB2.out.2⟩
        case measure => simp [intOf]; omega
    · obtain rfl : q = n := by omega
      rw [HA.out] at hown
      obtain ⟨Au, cu, rfl, _, _⟩ := own_cap hown
      have HO := Lib.hid (And.intro (own_base hown (Nat.le_succ _)) hb)
      clear hown hb
      go_wp2
      go_ret
      exact ⟨_, rfl, HO.out.1, HO.out.2⟩
end Go.Proofs.Ytlhbmfaoldajdaa
