/-
  WALK: Sequence. (Printed by gen_w13.py.)
-/
import Derived.Test.YtlhbmfaoldajdaaW12
namespace Go.Proofs.Ytlhbmfaoldajdaa
open Go.RowKit

def seqB (Z : Int) (L : List (Int × Int)) (s : List Int) : Bool := decide (placeE Z L s = 0) && (ordP Z L).2
def seqF (Z : Int) (L : List (Int × Int)) (s : List Int) : List Int := if placeE Z L s = 0 then seqR Z L s else []
theorem Rd.front1 {w : World} {B n : Nat} {A : Option Addr} {l : List Int} (h : Rd w B 1 A n (ints l)) {k : Nat} (hk : k ≤ n) : Rd w B 1 A k (ints (l.take k)) := by
  have := h.front hk
  rw [Nat.mul_one] at this
  rw [show ints (l.take k) = (ints l).take k from (List.map_take ..)]
  exact this
theorem Rd.back1 {w : World} {B n b off : Nat} {l : List Int} (h : Rd w B 1 (some ⟨b, off, none⟩) n (ints l)) {k c : Nat} (hk : k ≤ n) (hc : n ≤ c) :
    Rd w B 1 (if c = k then some ⟨b, off, none⟩ else some ⟨b, off + k, none⟩) (n - k) (ints (l.drop k)) := by
  by_cases h0 : k < n
  · rw [if_neg (by omega)]
    have := h.backAt hk
    rw [Nat.mul_one] at this
    rw [show ints (l.drop k) = (ints l).drop k from (List.map_drop ..)]
    exact this
  · have hl := h.int_len
    have e : l.drop k = [] := List.drop_of_length_le (by omega)
    rw [e, show n - k = 0 by omega]
    exact Rd.nil

set_option maxRecDepth 100000 in
set_option maxHeartbeats 2000000 in
theorem pSequence (Z : Int) (A A' : Option Addr) (k c k' c' : Nat) (L : List (Int × Int)) (s : List Int) (w : World) (hl : L.length ≤ 1000) (hc : k ≤ c) (hl' : s.length ≤ 1000) (hc' : k' ≤ c') (B : Nat) (hB : B ≤ w.heap.size) (hr : Rd w B 2 A k (prs L)) (hr' : Rd w B 1 A' k' (ints s)) :
    Calls Try.prog 7 #[.agg #[.int .i64 Z, .slice A k c], .slice A' k' c'] w fun e w' => ∃ v, e = .returned (.tuple #[v, .bool (seqB Z L s), .int .i64 (placeE Z L s)]) ∧ w'.ownsRow w.heap.size 3 1 v (seqF Z L s).length (ints (seqF Z L s)) ∧ Below w.heap.size w w' := by
  obtain rfl := hr'.int_len
  have HB1 := Lib.hid ((Below.refl w.heap.size w).alloc (Nat.le_refl _) (.cells #[.int .i64 Z, .slice A k c] 24))
  have HX := Lib.hid (blk_new w 24 #[.int .i64 Z, .slice A k c])
  have hr := (hr.more hB)
  have hr' := (hr'.more hB)
  have s1 : (w.alloc (.cells #[.int .i64 Z, .slice A k c] 24)).heap.size = w.heap.size + 1 := by simp
  have x0 : (w.alloc (.cells #[.int .i64 Z, .slice A k c] 24)).cell? ⟨w.heap.size, 0, none⟩ = some (.int .i64 Z) := blk_cell HX.out 0
  have x1 : (w.alloc (.cells #[.int .i64 Z, .slice A k c] 24)).cell? ⟨w.heap.size, 1, none⟩ = some (.slice A k c) := blk_cell HX.out 1
  have HP := Lib.hid (pValidatePlace Z A A' k c s.length c' L s (w.alloc (.cells #[.int .i64 Z, .slice A k c] 24)) hl hc hl' hc' w.heap.size (by simp) (hr.below HB1.out) (hr'.below HB1.out))
  by_cases h : placeE Z L s = 0
  · have hv := vldT_ok (placeE_ok h).1
    have hZ0 := hv.1
    have hZ6 := hv.2.1
    have hs4 := (placedE_ok (placeE_ok h).2).1
    have HF := Lib.hid (show seqF Z L s = seqR Z L s by rw [seqF, if_pos h])
    have HSB := Lib.hid (show seqB Z L s = (ordP Z L).2 by rw [seqB, decide_eq_true h, Bool.true_and])
    have HSR := Lib.hid (show seqR Z L s = if (ordP Z L).2 = true then (if (lineP Z L).2 = true then seqIn s (ordP Z L).1 else rotZ (seqIn s (ordP Z L).1)) else [] from rfl)
    have HOP := Lib.hid (show ordP Z L = if (lineP Z L).2 = true then lineP Z L else ringP Z L from rfl)
    rw [h] at HP
    have HPE := Lib.hid h
    clear h hv
    have HLN := Lib.hid (fun w1 hB1 hr1 => pline Z A k c L w1 hZ0 hZ6 hl w.heap.size hB1 hr1)
    have HRG := Lib.hid (fun w1 hB1 hr1 => pring Z A k c L w1 hZ0 hZ6 hl w.heap.size hB1 hr1)
    have HLL := Lib.hid (lineP_len (L := L) hZ0 hZ6)
    have HRL := Lib.hid (ringP_len (L := L) hZ0 hZ6)
    generalize lineP Z L = lp at *
    generalize ringP Z L = rp at *
    obtain ⟨ll, lb⟩ := lp
    obtain ⟨rl, rb⟩ := rp
    go_enter Try.func7, Try.ntmps7
    go_wp2_with fail
    refine HP.out.mono ?_
    rintro e w1 ⟨rfl, hb1⟩
    have HB2 := Lib.hid (HB1.out.trans (hb1.mono (by omega)))
    have s2 := HB2.out.size
    have x0 := (hb1.cell (p := ⟨w.heap.size, 0, none⟩) (by simp)).trans x0
    have x1 := (hb1.cell (p := ⟨w.heap.size, 1, none⟩) (by simp)).trans x1
    have lx := (cell_lt x0).1
    clear hb1
    go_wp2_with fail
    refine (HLN.out w1 s2 (hr.below HB2.out)).mono ?_
    rintro e w2 ⟨v2, rfl, hown2, hb2⟩
    have HB3 := Lib.hid (HB2.out.trans (hb2.mono s2))
    have s3 := HB3.out.size
    have x0 := (hb2.cell (p := ⟨w.heap.size, 0, none⟩) lx).trans x0
    have x1 := (hb2.cell (p := ⟨w.heap.size, 1, none⟩) lx).trans x1
    have lx2 := (cell_lt x0).1
    obtain ⟨A2, c2, rfl, _, _⟩ := own_cap hown2
    have r2 := Rd.of_own hown2
    clear hown2 hb2
    cases lb with
    | true =>
      have HO := Lib.hid (show ordP Z L = (ll, true) by rw [HOP.out]; rfl)
      have HRES := Lib.hid (show seqF Z L s = seqIn s ll by rw [HF.out, HSR.out, HO.out]; rfl)
      have HSB2 := Lib.hid (show seqB Z L s = true by rw [HSB.out, HO.out])
      have hzl : ll.length ≤ 6 := HLL.out
      clear HRL HLL
      go_wp2
      go_loopw [42, 11] (fun i u wr => ∃ q : Nat, i = .int .i64 q ∧ q ≤ ll.length ∧ wr.ownsRow w2.heap.size 3 1 u (seqIn s (ll.take q)).length (ints (seqIn s (ll.take q))) ∧ Below w2.heap.size w2 wr) (fun i _ _ => ll.length - (intOf i).toNat)
      case atStart => exact ⟨0, rfl, Nat.zero_le _, World.ownsRow_nil .., Below.refl _ _⟩
      case round =>
        obtain ⟨q, rfl, hq, hown, hb⟩ := hrel
        have sb := hb.size
        by_cases hlt : q < ll.length
        · obtain ⟨b, off, rfl, lb, g0⟩ := (r2.below' hb (Nat.le_refl _)).int hlt
          have HS := Lib.hid (seqIn_snoc (s := s) hlt)
          have hsl := seqIn_len s (ll.take q)
          have hsl2 : (seqIn s (ll.take q)).length ≤ 6 := by have := List.length_take_le q ll; omega
          obtain ⟨z, hz⟩ : ∃ z, z = ll[q] := ⟨_, rfl⟩
          rw [← hz] at g0 HS
          clear hz
          have z0 : (0 : Int) ≤ (q : Int) := by omega
          have z1 : (q : Int) < (ll.length : Int) := by omega
          have hrs := (hr'.below HB3.out).below' hb (show w.heap.size ≤ w2.heap.size from HB3.out.size)
          have HI := Lib.hid (pIndex A' s.length c' s z wr hl' w.heap.size (by have := HB3.out.size; omega) hrs)
          have hig := idxI_ge s z
          have hi1 := hig.1
          have hi2 := hig.2.1
          have HOW := Lib.hid (And.intro hown hb)
          obtain ⟨Au, cu, rfl, _, _⟩ := own_cap hown
          obtain ⟨m, hm⟩ : ∃ m, m = (seqIn s (ll.take q)).length := ⟨_, rfl⟩
          have HM := Lib.hid hm
          rw [← hm] at hsl2 ⊢
          generalize idxI s z = ix at *
          clear hown hb hm hsl hig hrs
          by_cases hix : 0 ≤ ix
          · have hd : decide (0 ≤ ix) = true := decide_eq_true hix
            have HS2 := Lib.hid (show seqIn s (ll.take (q + 1)) = seqIn s (ll.take q) ++ [ix] by rw [HS.out, if_pos hix])
            go_wp2_with fail
            refine HI.out.mono ?_
            rintro e w5 ⟨rfl, hb5⟩
            have u5 : w5.ownsRow w2.heap.size 3 1 (.slice Au m cu) m (ints (seqIn s (ll.take q))) := by rw [HM.out]; have := own_below HOW.out.1 hb5; rwa [← HM.out] at this ⊢
            have HB5 := Lib.hid (HOW.out.2.trans (hb5.mono sb))
            have s5 := HB5.out.size
            clear hb5
            go_wp2_with (at_builtin; go_must (refine app1 rfl (.tmp 51) (.tmp 53) 25 rfl 3 _ 1 8 E25 w2.heap.size _ _ _ _ rfl u5 _ rfl ?_ ?_ ?_ ?_ ?_ ?_); rfl; rfl; rfl; omega; omega; intro v6 w6 hown6 hg6)
            have HB6 := Lib.hid (And.intro hown6 (below_own HB5.out s5 u5 (Nat.le_refl _) hg6))
            clear hown6 hg6
            go_roundw
            case rel => exact ⟨q + 1, by go_num, by omega, by rw [HS2.out, List.length_append, ← HM.out]; simpa using HB6.out.1, HB6.out.2⟩
            case measure => simp [intOf]; omega
          · have hd : decide (0 ≤ ix) = false := decide_eq_false hix
            have HS2 := Lib.hid (show seqIn s (ll.take (q + 1)) = seqIn s (ll.take q) by rw [HS.out, if_neg hix, List.append_nil])
            go_wp2_with fail
            refine HI.out.mono ?_
            rintro e w5 ⟨rfl, hb5⟩
            have HB6 := Lib.hid (And.intro (own_below HOW.out.1 hb5) (HOW.out.2.trans (hb5.mono sb)))
            clear hb5
            go_wp2
            go_roundw
            case rel => exact ⟨q + 1, by go_num, by omega, by rw [HS2.out]; have := HB6.out.1; rwa [← HM.out] at this ⊢, HB6.out.2⟩
            case measure => simp [intOf]; omega
        · obtain rfl : q = ll.length := by omega
          rw [List.take_length] at hown
          have hsl := seqIn_len s ll
          obtain ⟨os, hos⟩ : ∃ os, os = seqIn s ll := ⟨_, rfl⟩
          rw [← hos] at hown hsl HRES
          clear hos
          have HI := Lib.hid (fun Au cu h => pIndex Au os.length cu os 0 wr (by omega) wr.heap.size (Nat.le_refl _) h)
          have hig := idxI_ge os 0
          have hi1 := hig.1
          have hi2 := hig.2.1
          have HOW := Lib.hid (And.intro hown hb)
          obtain ⟨Au, cu, rfl, hcu, _⟩ := own_cap hown
          have HI := Lib.hid (HI.out Au cu (Rd.of_own hown))
          have HBE := Lib.hid (HB3.out.trans (hb.mono HB3.out.size))
          clear hown hb hig
          generalize idxI os 0 = ix at *
          go_wp2_with fail
          refine HI.out.mono ?_
          rintro e w5 ⟨rfl, hb5⟩
          have HFIN := Lib.hid (And.intro (own_base (own_below HOW.out.1 hb5) (show w.heap.size ≤ w2.heap.size from HB3.out.size)) (HBE.out.trans (hb5.mono HBE.out.size)))
          clear hb5
          go_wp2
          refine bodyPost_ret (results_tmp3 rfl _ _ _) rfl ?_
          exact ⟨_, ret_three rfl (by rw [HSB2.out]; rfl) (by rw [HPE.out]; rfl), by rw [HRES.out]; exact HFIN.out.1, HFIN.out.2⟩
    | false =>
      go_wp2_with fail
      refine (HRG.out w2 s3 (hr.below HB3.out)).mono ?_
      rintro e w3 ⟨v3, rfl, hown3, hb3⟩
      have HB4 := Lib.hid (HB3.out.trans (hb3.mono s3))
      have s4 := HB4.out.size
      obtain ⟨A3, c3, rfl, _, _⟩ := own_cap hown3
      have r3 := Rd.of_own hown3
      clear hown3 hb3
      cases rb with
      | false =>
        have HO := Lib.hid (show ordP Z L = (rl, false) by rw [HOP.out]; rfl)
        have HRES := Lib.hid (show seqF Z L s = [] by rw [HF.out, HSR.out, HO.out]; rfl)
        have HSB2 := Lib.hid (show seqB Z L s = false by rw [HSB.out, HO.out])
        go_wp2
        refine bodyPost_ret (results_tmp3 rfl _ _ _) rfl ?_
        exact ⟨_, ret_three rfl (by rw [HSB2.out]; rfl) (by rw [HPE.out]; rfl), by rw [HRES.out]; exact World.ownsRow_nil .., HB4.out⟩
      | true =>
        have HO := Lib.hid (show ordP Z L = (rl, true) by rw [HOP.out]; rfl)
        have HRES := Lib.hid (show seqF Z L s = rotZ (seqIn s rl) by rw [HF.out, HSR.out, HO.out]; rfl)
        have HSB2 := Lib.hid (show seqB Z L s = true by rw [HSB.out, HO.out])
        have hzl : rl.length ≤ 6 := HRL.out
        clear HRL HLL
        go_wp2
        go_loopw [42, 11] (fun i u wr => ∃ q : Nat, i = .int .i64 q ∧ q ≤ rl.length ∧ wr.ownsRow w3.heap.size 3 1 u (seqIn s (rl.take q)).length (ints (seqIn s (rl.take q))) ∧ Below w3.heap.size w3 wr) (fun i _ _ => rl.length - (intOf i).toNat)
        case atStart => exact ⟨0, rfl, Nat.zero_le _, World.ownsRow_nil .., Below.refl _ _⟩
        case round =>
          obtain ⟨q, rfl, hq, hown, hb⟩ := hrel
          have sb := hb.size
          by_cases hlt : q < rl.length
          · obtain ⟨b, off, rfl, lb, g0⟩ := (r3.below' hb (Nat.le_refl _)).int hlt
            have HS := Lib.hid (seqIn_snoc (s := s) hlt)
            have hsl := seqIn_len s (rl.take q)
            have hsl2 : (seqIn s (rl.take q)).length ≤ 6 := by have := List.length_take_le q rl; omega
            obtain ⟨z, hz⟩ : ∃ z, z = rl[q] := ⟨_, rfl⟩
            rw [← hz] at g0 HS
            clear hz
            have z0 : (0 : Int) ≤ (q : Int) := by omega
            have z1 : (q : Int) < (rl.length : Int) := by omega
            have hrs := (hr'.below HB4.out).below' hb (show w.heap.size ≤ w3.heap.size from HB4.out.size)
            have HI := Lib.hid (pIndex A' s.length c' s z wr hl' w.heap.size (by have := HB4.out.size; omega) hrs)
            have hig := idxI_ge s z
            have hi1 := hig.1
            have hi2 := hig.2.1
            have HOW := Lib.hid (And.intro hown hb)
            obtain ⟨Au, cu, rfl, _, _⟩ := own_cap hown
            obtain ⟨m, hm⟩ : ∃ m, m = (seqIn s (rl.take q)).length := ⟨_, rfl⟩
            have HM := Lib.hid hm
            rw [← hm] at hsl2 ⊢
            generalize idxI s z = ix at *
            clear hown hb hm hsl hig hrs
            by_cases hix : 0 ≤ ix
            · have hd : decide (0 ≤ ix) = true := decide_eq_true hix
              have HS2 := Lib.hid (show seqIn s (rl.take (q + 1)) = seqIn s (rl.take q) ++ [ix] by rw [HS.out, if_pos hix])
              go_wp2_with fail
              refine HI.out.mono ?_
              rintro e w5 ⟨rfl, hb5⟩
              have u5 : w5.ownsRow w3.heap.size 3 1 (.slice Au m cu) m (ints (seqIn s (rl.take q))) := by rw [HM.out]; have := own_below HOW.out.1 hb5; rwa [← HM.out] at this ⊢
              have HB5 := Lib.hid (HOW.out.2.trans (hb5.mono sb))
              have s5 := HB5.out.size
              clear hb5
              go_wp2_with (at_builtin; go_must (refine app1 rfl (.tmp 51) (.tmp 53) 25 rfl 3 _ 1 8 E25 w3.heap.size _ _ _ _ rfl u5 _ rfl ?_ ?_ ?_ ?_ ?_ ?_); rfl; rfl; rfl; omega; omega; intro v6 w6 hown6 hg6)
              have HB6 := Lib.hid (And.intro hown6 (below_own HB5.out s5 u5 (Nat.le_refl _) hg6))
              clear hown6 hg6
              go_roundw
              case rel => exact ⟨q + 1, by go_num, by omega, by rw [HS2.out, List.length_append, ← HM.out]; simpa using HB6.out.1, HB6.out.2⟩
              case measure => simp [intOf]; omega
            · have hd : decide (0 ≤ ix) = false := decide_eq_false hix
              have HS2 := Lib.hid (show seqIn s (rl.take (q + 1)) = seqIn s (rl.take q) by rw [HS.out, if_neg hix, List.append_nil])
              go_wp2_with fail
              refine HI.out.mono ?_
              rintro e w5 ⟨rfl, hb5⟩
              have HB6 := Lib.hid (And.intro (own_below HOW.out.1 hb5) (HOW.out.2.trans (hb5.mono sb)))
              clear hb5
              go_wp2
              go_roundw
              case rel => exact ⟨q + 1, by go_num, by omega, by rw [HS2.out]; have := HB6.out.1; rwa [← HM.out] at this ⊢, HB6.out.2⟩
              case measure => simp [intOf]; omega
          · obtain rfl : q = rl.length := by omega
            rw [List.take_length] at hown
            have hsl := seqIn_len s rl
            obtain ⟨os, hos⟩ : ∃ os, os = seqIn s rl := ⟨_, rfl⟩
            rw [← hos] at hown hsl HRES
            clear hos
            have HI := Lib.hid (fun Au cu h => pIndex Au os.length cu os 0 wr (by omega) wr.heap.size (Nat.le_refl _) h)
            have hig := idxI_ge os 0
            have hi1 := hig.1
            have hi2 := hig.2.1
            have HOW := Lib.hid (And.intro hown hb)
            obtain ⟨Au, cu, rfl, hcu, _⟩ := own_cap hown
            have HI := Lib.hid (HI.out Au cu (Rd.of_own hown))
            have HBE := Lib.hid (HB4.out.trans (hb.mono HB4.out.size))
            clear hown hb hig
            have HROT := Lib.hid (show rotZ os = if 0 < idxI os 0 then os.drop (idxI os 0).toNat ++ os.take (idxI os 0).toNat else os from rfl)
            generalize idxI os 0 = ix at *
            by_cases hix : 0 < ix
            · obtain ⟨m, rfl⟩ := Int.eq_ofNat_of_zero_le (show 0 ≤ ix by omega)
              have hm : m < os.length := by omega
              have HR2 := Lib.hid (show seqF Z L s = os.drop m ++ os.take m by rw [HRES.out, HROT.out, if_pos hix]; rfl)
              have hd : decide (0 < (m : Int)) = true := decide_eq_true hix
              have z0 : (0 : Int) ≤ (m : Int) := by omega
              have z1 : (m : Int) ≤ (os.length : Int) := by omega
              have z2 : (m : Int) ≤ (cu : Int) := by omega
              have z3 : m ≤ cu := by omega
              have z4 : m ≤ os.length := by omega
              go_wp2_with fail
              refine HI.out.mono ?_
              rintro e w5 ⟨rfl, hb5⟩
              have ow5 := own_below HOW.out.1 hb5
              have HB5 := Lib.hid (HBE.out.trans (hb5.mono HBE.out.size))
              obtain ⟨g9, cap, hv, hg1, hg2⟩ := ow5.form (by omega)
              injection hv with e1 e2 e3
              subst e1
              have r5 := Rd.of_own ow5
              have rb9 := r5.backAt z4
              rw [Nat.mul_one, Nat.zero_add, show (ints os).drop m = ints (os.drop m) from (List.map_drop ..).symm] at rb9
              have rf9 := r5.front1 z4
              have l1 : (os.drop m).length = os.length - m := by rw [List.length_drop]
              have l2 : (os.take m).length = m := by rw [List.length_take]; omega
              have hbl := blk_new w5 25 #[.slice (some ⟨g9, m, none⟩) (os.length - m) (cu - m), .slice (some ⟨g9, 0, none⟩) m cu]
              have HBA := Lib.hid (((Below.refl w5.heap.size w5).alloc (Nat.le_refl _) (.cells #[.slice (some ⟨g9, m, none⟩) (os.length - m) (cu - m), .slice (some ⟨g9, 0, none⟩) m cu] 25)).drew)
              have sa : ((w5.alloc (.cells #[.slice (some ⟨g9, m, none⟩) (os.length - m) (cu - m), .slice (some ⟨g9, 0, none⟩) m cu] 25)).drew).heap.size = w5.heap.size + 1 := by simp
              have HC := Lib.hid (pConcat w5.heap.size (some ⟨g9, m, none⟩) (some ⟨g9, 0, none⟩) (os.length - m) (cu - m) m cu (os.drop m) (os.take m) ((w5.alloc (.cells #[.slice (some ⟨g9, m, none⟩) (os.length - m) (cu - m), .slice (some ⟨g9, 0, none⟩) m cu] 25)).drew) (by omega) (by omega) w5.heap.size (by omega) (rb9.below HBA.out) (rf9.below HBA.out) hbl)
              clear ow5 hb5 hg1 hg2 e3 hbl
              go_wp2
              refine wp_region_qtail 6 (by kernel_rfl) (by kernel_rfl) ?_
              simp only [List.take_succ_cons, List.take_zero, List.drop_succ_cons, List.drop_zero]
              repeat (go_big_quiet_step (fail))
              refine wpQuiet_nil ?_
              go_wp2_with fail
              refine HC.out.mono ?_
              rintro e w6 ⟨v6, rfl, hown6, hb6⟩
              have HFIN := Lib.hid (And.intro (own_base hown6 (show w.heap.size ≤ _ by have := HB5.out.size; omega)) (HB5.out.trans ((HBA.out.trans (hb6.mono (by omega))).mono HB5.out.size)))
              clear hown6 hb6
              go_wp2
              refine bodyPost_ret (results_tmp3 rfl _ _ _) rfl ?_
              exact ⟨_, ret_three rfl (by rw [HSB2.out]; rfl) (by rw [HPE.out]; rfl), by rw [HR2.out]; exact HFIN.out.1, HFIN.out.2⟩
            · have hd : decide (0 < ix) = false := decide_eq_false hix
              have HR2 := Lib.hid (show seqF Z L s = os by rw [HRES.out, HROT.out, if_neg hix])
              go_wp2_with fail
              refine HI.out.mono ?_
              rintro e w5 ⟨rfl, hb5⟩
              have HFIN := Lib.hid (And.intro (own_base (own_below HOW.out.1 hb5) (show w.heap.size ≤ w3.heap.size from HB4.out.size)) (HBE.out.trans (hb5.mono HBE.out.size)))
              clear hb5
              go_wp2
              refine bodyPost_ret (results_tmp3 rfl _ _ _) rfl ?_
              exact ⟨_, ret_three rfl (by rw [HSB2.out]; rfl) (by rw [HPE.out]; rfl), by rw [HR2.out]; exact HFIN.out.1, HFIN.out.2⟩
  · have hd : (placeE Z L s != 0) = true := by simpa using h
    have HF := Lib.hid (show seqF Z L s = [] by rw [seqF, if_neg h])
    have HSB := Lib.hid (show seqB Z L s = false by rw [seqB, decide_eq_false h, Bool.false_and])
    clear h
    generalize placeE Z L s = y at *
    go_enter Try.func7, Try.ntmps7
    go_wp2_with fail
    refine HP.out.mono ?_
    rintro e w1 ⟨rfl, hb1⟩
    have HB2 := Lib.hid (HB1.out.trans (hb1.mono (by omega)))
    clear hb1
    go_wp2
    refine bodyPost_ret (results_tmp3 rfl _ _ _) rfl ?_
    exact ⟨_, ret_three rfl (by rw [HSB.out]; rfl) rfl, by rw [HF.out]; exact World.ownsRow_nil .., HB2.out⟩
end Go.Proofs.Ytlhbmfaoldajdaa
