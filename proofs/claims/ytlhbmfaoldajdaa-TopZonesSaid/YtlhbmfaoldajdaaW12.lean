/-
  WALKS: line, ring.
-/
import Derived.Test.YtlhbmfaoldajdaaW11
import Derived.Test.YtlhbmfaoldajdaaP3
namespace Go.Proofs.Ytlhbmfaoldajdaa
open Go.RowKit

set_option maxRecDepth 100000 in
set_option maxHeartbeats 600000 in
theorem pline (Z : Int) (A : Option Addr) (k c : Nat) (L : List (Int × Int)) (w : World) (hZ0 : 1 ≤ Z) (hZ6 : Z ≤ 6) (hl : L.length ≤ 1000) (B : Nat) (hB : B ≤ w.heap.size) (hr : Rd w B 2 A k (prs L)) :
    Calls Try.prog 17 #[.agg #[.int .i64 Z, .slice A k c]] w fun e w' => ∃ v, e = .returned (.tuple #[v, .bool (lineP Z L).2]) ∧ w'.ownsRow w.heap.size 3 1 v (lineP Z L).1.length (ints (lineP Z L).1) ∧ Below w.heap.size w w' := by
  obtain rfl := hr.pr_len
  have hr := hr.more hB
  have HB1 := Lib.hid ((Below.refl w.heap.size w).alloc (Nat.le_refl _) (.cells #[.int .i64 Z, .slice A L.length c] 24))
  have HX := Lib.hid (blk_new w 24 #[.int .i64 Z, .slice A L.length c])
  have x0 : (w.alloc (.cells #[.int .i64 Z, .slice A L.length c] 24)).cell? ⟨w.heap.size, 0, none⟩ = some (.int .i64 Z) := blk_cell HX.out 0
  have x1 : (w.alloc (.cells #[.int .i64 Z, .slice A L.length c] 24)).cell? ⟨w.heap.size, 1, none⟩ = some (.slice A L.length c) := blk_cell HX.out 1
  by_cases h : (L.length : Int) = Z - 1
  · have HL := Lib.hid h
    have hd : ((L.length : Int) != Z - 1) = false := by simpa using h
    clear h
    have HE := Lib.hid (fun q (hq : q < Z.toNat) => ends_step (L := L) hq)
    have HN := Lib.hid (fun h => lineP_none (Z := Z) (L := L) h)
    have HA := Lib.hid (fun q hq h he => lineP_at (Z := Z) (L := L) (q := q) HL.out hq h he)
    have HNL := Lib.hid (fun z => nearL_len Z L z)
    obtain ⟨n, hn⟩ := Int.eq_ofNat_of_zero_le (show 0 ≤ Z by omega)
    have hnt : Z.toNat = n := by omega
    rw [hnt] at HE HN HA HNL
    clear hnt
    have HZN := Lib.hid hn
    clear hn
    go_enter Try.func17, Try.ntmps17
    go_wp2
    go_loopw [15] (fun i wr => ∃ q : Nat, i = .int .i64 q ∧ q ≤ n ∧ Hid (((zonesL Z).take q).any (endB Z L) = false) ∧ Below w.heap.size w wr ∧ wr.heap[w.heap.size]? = some (.cells #[.int .i64 Z, .slice A L.length c] 24 (0, 0))) (fun i _ => n - (intOf i).toNat)
    case atStart => exact ⟨0, rfl, Nat.zero_le _, rfl, HB1.out, HX.out⟩
    case round =>
      clear x0 x1
      obtain ⟨q, rfl, hq, hany, hb, hx⟩ := hrel
      have sb := hb.size
      have lx := blk_lt hx
      by_cases hlt : q < n
      · have x0 : wr.cell? ⟨w.heap.size, 0, none⟩ = some (.int .i64 Z) := blk_cell hx 0
        have x1 : wr.cell? ⟨w.heap.size, 1, none⟩ = some (.slice A L.length c) := blk_cell hx 1
        have z0 : (0 : Int) ≤ (q : Int) := by omega
        have z1 : (q : Int) < Z := by have := HZN.out; omega
        have hrw := hr.below hb
        have HP := Lib.hid (pnear Z A L.length c L q wr (by omega) hZ6 hl w.heap.size sb hrw)
        have hnl := HNL.out (q : Int)
        have HST := Lib.hid (HE.out q hlt)
        have HAA := Lib.hid (fun he => HA.out q hlt hany.out he)
        have HEB := Lib.hid (show endB Z L (q : Int) = decide ((nearL Z L (q : Int)).length ≤ 1) from rfl)
        have HCL := Lib.hid (chain_len (L := L) hZ6 (show 0 ≤ (q : Int) ∧ (q : Int) < Z from ⟨z0, z1⟩))
        obtain ⟨N, hN⟩ : ∃ N, N = nearL Z L (q : Int) := ⟨_, rfl⟩
        rw [← hN] at HP hnl HEB
        have HO := Lib.hid (And.intro hb hx)
        clear hN hb hx
        by_cases h1 : N.length ≤ 1
        · have hd1 : decide ((N.length : Int) ≤ 1) = true := decide_eq_true (by omega)
          have HAB := Lib.hid (HAA.out (by rw [HEB.out]; exact decide_eq_true h1))
          have hN1 : N.length ≤ 1 := h1
          go_wp2_with fail
          refine HP.out.mono ?_
          rintro e w1 ⟨v1, rfl, hown1, hb1⟩
          obtain ⟨A1, c1, rfl, _, _⟩ := own_cap hown1
          have hb1s := HO.out.1.trans (hb1.mono sb)
          have x0 := (hb1.cell (p := ⟨w.heap.size, 0, none⟩) lx).trans x0
          have x1 := (hb1.cell (p := ⟨w.heap.size, 1, none⟩) lx).trans x1
          have hx1 := blk_below HO.out.2 hb1 lx
          have s1 := hb1s.size
          have HB1 := Lib.hid hb1s
          have hr1 := hr.below hb1s
          clear hown1 hb1 hb1s
          have HC := Lib.hid (pchain Z A L.length c L q w1 hZ0 hZ6 ⟨z0, z1⟩ hl w.heap.size s1 hr1)
          obtain ⟨C, hC⟩ : ∃ C, C = chainL Z L (q : Int) := ⟨_, rfl⟩
          rw [← hC] at HC HCL HAB
          clear hC
          go_wp2_with fail
          refine HC.out.mono ?_
          rintro e w2 ⟨v2, rfl, hown2, hb2⟩
          obtain ⟨A2, c2, rfl, _, _⟩ := own_cap hown2
          have x0 := (hb2.cell (p := ⟨w.heap.size, 0, none⟩) (show w.heap.size < w1.heap.size from (cell_lt x0).1)).trans x0
          have HF := Lib.hid (And.intro (own_base hown2 s1) (HB1.out.trans (hb2.mono s1)))
          have hcl := HCL.out
          have hdd : (((C.length : Int)) == Z) = decide ((C.length : Int) = Z) := rfl
          clear hown2 hb2
          go_wp2
          go_region
          go_wp2
          go_ret2
          exact ⟨_, ret_pair rfl (by rw [HAB.out]; rfl), by rw [HAB.out]; exact HF.out.1, HF.out.2.drew⟩
        · have hd1 : decide ((N.length : Int) ≤ 1) = false := decide_eq_false (by omega)
          have HN2 := Lib.hid (show ((zonesL Z).take (q + 1)).any (endB Z L) = false by rw [HST.out, hany.out, HEB.out, decide_eq_false h1]; rfl)
          go_wp2_with fail
          refine HP.out.mono ?_
          rintro e w1 ⟨v1, rfl, hown1, hb1⟩
          obtain ⟨A1, c1, rfl, _, _⟩ := own_cap hown1
          have HB2 := Lib.hid (And.intro (HO.out.1.trans (hb1.mono sb)) (blk_below HO.out.2 hb1 lx))
          clear hown1 hb1
          go_wp2
          go_roundw
          case rel => exact ⟨q + 1, by go_num, by omega, HN2.out, HB2.out.1, HB2.out.2⟩
          case measure => simp [intOf]; omega
      · obtain rfl : q = n := by omega
        have HR := Lib.hid (HN.out hany.out)
        have zz : ¬ (q : Int) < Z := by have := HZN.out; omega
        go_wp2
        go_ret2
        exact ⟨_, ret_pair rfl (by rw [HR.out]; rfl), by rw [HR.out]; exact World.ownsRow_nil .., hb⟩
  · have hd : ((L.length : Int) != Z - 1) = true := by simpa using h
    have HR := Lib.hid (lineP_no h)
    clear h
    go_enter Try.func17, Try.ntmps17
    go_wp2
    go_ret2
    exact ⟨_, ret_pair rfl (by rw [HR.out]; rfl), by rw [HR.out]; exact World.ownsRow_nil .., HB1.out⟩

set_option maxRecDepth 100000 in
set_option maxHeartbeats 1000000 in
theorem pring (Z : Int) (A : Option Addr) (k c : Nat) (L : List (Int × Int)) (w : World) (hZ0 : 1 ≤ Z) (hZ6 : Z ≤ 6) (hl : L.length ≤ 1000) (B : Nat) (hB : B ≤ w.heap.size) (hr : Rd w B 2 A k (prs L)) :
    Calls Try.prog 18 #[.agg #[.int .i64 Z, .slice A k c]] w fun e w' => ∃ v, e = .returned (.tuple #[v, .bool (ringP Z L).2]) ∧ w'.ownsRow w.heap.size 3 1 v (ringP Z L).1.length (ints (ringP Z L).1) ∧ Below w.heap.size w w' := by
  obtain rfl := hr.pr_len
  have hr := hr.more hB
  have HB1 := Lib.hid ((Below.refl w.heap.size w).alloc (Nat.le_refl _) (.cells #[.int .i64 Z, .slice A L.length c] 24))
  have HX := Lib.hid (blk_new w 24 #[.int .i64 Z, .slice A L.length c])
  have x0 : (w.alloc (.cells #[.int .i64 Z, .slice A L.length c] 24)).cell? ⟨w.heap.size, 0, none⟩ = some (.int .i64 Z) := blk_cell HX.out 0
  have x1 : (w.alloc (.cells #[.int .i64 Z, .slice A L.length c] 24)).cell? ⟨w.heap.size, 1, none⟩ = some (.slice A L.length c) := blk_cell HX.out 1
  have HK := Lib.hid (show ringOk Z L = (decide (3 ≤ Z) && (decide ((L.length : Int) = Z) && ((zonesL Z).all (twoB Z L) && decide (Z ≤ ((chainL Z L 0).length : Int))))) from rfl)
  have HNO := Lib.hid (show ringOk Z L = false → ringP Z L = ([], false) from fun h => by rw [ringP, if_neg (by rw [h]; decide)])
  have HYES := Lib.hid (show ringOk Z L = true → ringP Z L = (chainL Z L 0, true) from fun h => by rw [ringP, if_pos h])
  by_cases h3 : Z < 3
  · have hd : decide (Z < 3) = true := decide_eq_true h3
    have HR := Lib.hid (HNO.out (by rw [HK.out, decide_eq_false (by omega), Bool.false_and]))
    go_enter Try.func18, Try.ntmps18
    go_wp2
    go_ret2
    exact ⟨_, ret_pair rfl (by rw [HR.out]; rfl), by rw [HR.out]; exact World.ownsRow_nil .., HB1.out⟩
  have hd3 : decide (Z < 3) = false := decide_eq_false h3
  by_cases h : (L.length : Int) = Z
  · have HK2 := Lib.hid (show ringOk Z L = ((zonesL Z).all (twoB Z L) && decide (Z ≤ ((chainL Z L 0).length : Int))) by rw [HK.out, decide_eq_true (by omega), decide_eq_true h]; simp)
    have hd : ((L.length : Int) != Z) = false := by simpa using h
    clear h
    have HE := Lib.hid (fun q (hq : q < Z.toNat) => twos_step (L := L) hq)
    have HNL := Lib.hid (fun z => nearL_len Z L z)
    have HALL := Lib.hid (show ((zonesL Z).take Z.toNat).all (twoB Z L) = true → (zonesL Z).all (twoB Z L) = true from fun h => by rwa [List.take_of_length_le (by rw [zonesL_len]; exact Nat.le_refl _)] at h)
    have HANO := Lib.hid (show ∀ q, q < Z.toNat → twoB Z L (q : Int) = false → (zonesL Z).all (twoB Z L) = false from fun q hq h => by
      rw [Bool.eq_false_iff]
      intro ht
      have := List.all_eq_true.1 ht (q : Int) (mem_zonesL.2 (by omega))
      rw [h] at this
      cases this)
    obtain ⟨n, hn⟩ := Int.eq_ofNat_of_zero_le (show 0 ≤ Z by omega)
    have hnt : Z.toNat = n := by omega
    rw [hnt] at HE HNL HALL HANO
    clear hnt
    have HZN := Lib.hid hn
    clear hn
    go_enter Try.func18, Try.ntmps18
    go_wp2
    go_loopw [19] (fun i wr => ∃ q : Nat, i = .int .i64 q ∧ q ≤ n ∧ Hid (((zonesL Z).take q).all (twoB Z L) = true) ∧ Below w.heap.size w wr ∧ wr.heap[w.heap.size]? = some (.cells #[.int .i64 Z, .slice A L.length c] 24 (0, 0))) (fun i _ => n - (intOf i).toNat)
    case atStart => exact ⟨0, rfl, Nat.zero_le _, rfl, HB1.out, HX.out⟩
    case round =>
      clear x0 x1
      obtain ⟨q, rfl, hq, hall, hb, hx⟩ := hrel
      have sb := hb.size
      have lx := blk_lt hx
      have x0 : wr.cell? ⟨w.heap.size, 0, none⟩ = some (.int .i64 Z) := blk_cell hx 0
      have x1 : wr.cell? ⟨w.heap.size, 1, none⟩ = some (.slice A L.length c) := blk_cell hx 1
      by_cases hlt : q < n
      · have z0 : (0 : Int) ≤ (q : Int) := by omega
        have z1 : (q : Int) < Z := by have := HZN.out; omega
        have hrw := hr.below hb
        have HP := Lib.hid (pnear Z A L.length c L q wr (by omega) hZ6 hl w.heap.size sb hrw)
        have hnl := HNL.out (q : Int)
        have HST := Lib.hid (HE.out q hlt)
        have HAN := Lib.hid (HANO.out q hlt)
        have HEB := Lib.hid (show twoB Z L (q : Int) = decide ((nearL Z L (q : Int)).length = 2) from rfl)
        obtain ⟨N, hN⟩ : ∃ N, N = nearL Z L (q : Int) := ⟨_, rfl⟩
        rw [← hN] at HP hnl HEB
        have HO := Lib.hid (And.intro hb hx)
        clear hN hb hx
        by_cases h1 : N.length = 2
        · have hd1 : ((N.length : Int) != 2) = false := by simp; omega
          have HN2 := Lib.hid (show ((zonesL Z).take (q + 1)).all (twoB Z L) = true by rw [HST.out, hall.out, HEB.out, decide_eq_true h1]; rfl)
          clear h1
          go_wp2_with fail
          refine HP.out.mono ?_
          rintro e w1 ⟨v1, rfl, hown1, hb1⟩
          obtain ⟨A1, c1, rfl, _, _⟩ := own_cap hown1
          have HB2 := Lib.hid (And.intro (HO.out.1.trans (hb1.mono sb)) (blk_below HO.out.2 hb1 lx))
          clear hown1 hb1
          go_wp2
          go_roundw
          case rel => exact ⟨q + 1, by go_num, by omega, HN2.out, HB2.out.1, HB2.out.2⟩
          case measure => simp [intOf]; omega
        · have hd1 : ((N.length : Int) != 2) = true := by simp; omega
          have HR := Lib.hid (HNO.out (by rw [HK2.out, HAN.out (by rw [HEB.out]; exact decide_eq_false h1), Bool.false_and]))
          clear h1
          go_wp2_with fail
          refine HP.out.mono ?_
          rintro e w1 ⟨v1, rfl, hown1, hb1⟩
          obtain ⟨A1, c1, rfl, _, _⟩ := own_cap hown1
          have HB2 := Lib.hid (HO.out.1.trans (hb1.mono sb))
          clear hown1 hb1
          go_wp2
          go_ret2
          exact ⟨_, ret_pair rfl (by rw [HR.out]; rfl), by rw [HR.out]; exact World.ownsRow_nil .., HB2.out⟩
      · obtain rfl : q = n := by omega
        have HK3 := Lib.hid (show ringOk Z L = decide (Z ≤ ((chainL Z L 0).length : Int)) by rw [HK2.out, HALL.out hall.out, Bool.true_and])
        have zz : ¬ (q : Int) < Z := by have := HZN.out; omega
        have HC := Lib.hid (pchain Z A L.length c L 0 wr hZ0 hZ6 ⟨by omega, by omega⟩ hl w.heap.size sb (hr.below hb))
        have HCL := Lib.hid (chain_len (L := L) hZ6 (show 0 ≤ (0 : Int) ∧ (0 : Int) < Z from ⟨by omega, by omega⟩))
        obtain ⟨C, hC⟩ : ∃ C, C = chainL Z L 0 := ⟨_, rfl⟩
        rw [← hC] at HC HCL HK3 HYES
        have hcl := HCL.out
        have HO := Lib.hid hb
        clear hC hb hx
        go_wp2_with fail
        refine HC.out.mono ?_
        rintro e w2 ⟨v2, rfl, hown2, hb2⟩
        obtain ⟨A2, c2, rfl, _, _⟩ := own_cap hown2
        have x0 := (hb2.cell (p := ⟨w.heap.size, 0, none⟩) lx).trans x0
        have HF := Lib.hid (And.intro (own_base hown2 sb) (HO.out.trans (hb2.mono sb)))
        clear hown2 hb2
        by_cases hc : (C.length : Int) < Z
        · have hdc : decide ((C.length : Int) < Z) = true := decide_eq_true hc
          have HR := Lib.hid (HNO.out (by rw [HK3.out]; exact decide_eq_false (by omega)))
          go_wp2
          go_ret2
          exact ⟨_, ret_pair rfl (by rw [HR.out]; rfl), by rw [HR.out]; exact World.ownsRow_nil .., HF.out.2⟩
        · have hdc : decide ((C.length : Int) < Z) = false := decide_eq_false hc
          have HR := Lib.hid (HYES.out (by rw [HK3.out]; exact decide_eq_true (by omega)))
          go_wp2
          go_ret2
          exact ⟨_, ret_pair rfl (by rw [HR.out]; rfl), by rw [HR.out]; exact HF.out.1, HF.out.2⟩
  · have hd : ((L.length : Int) != Z) = true := by simpa using h
    have HR := Lib.hid (HNO.out (by rw [HK.out, decide_eq_false h, Bool.false_and, Bool.and_false]))
    clear h
    go_enter Try.func18, Try.ntmps18
    go_wp2
    go_ret2
    exact ⟨_, ret_pair rfl (by rw [HR.out]; rfl), by rw [HR.out]; exact World.ownsRow_nil .., HB1.out⟩
end Go.Proofs.Ytlhbmfaoldajdaa
