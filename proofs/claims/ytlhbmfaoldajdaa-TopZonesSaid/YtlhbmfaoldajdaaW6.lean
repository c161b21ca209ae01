/-
  WALK: moves.
-/
import Derived.Test.YtlhbmfaoldajdaaW5
namespace Go.Proofs.Ytlhbmfaoldajdaa
open Go.RowKit

theorem own_grown_far {w w' : World} {base n sz : Nat} {e : TypeId} {v : Value} {xs : List Value} {row : Option Nat} (h : w.ownsRow base e sz v n xs) (hg : w.grownBy w' row) (hr : ∀ g, v.ownBlock = some g → row = some g → False) : w'.ownsRow base e sz v n xs :=
  own_keep h fun g hb => hg.block g (h.lt g hb).2 (fun e => hr g hb e.symm)
set_option maxRecDepth 100000 in
set_option maxHeartbeats 2000000 in
theorem pmoves (Z : Int) (A A' : Option Addr) (k c k' c' : Nat) (L : List (Int × Int)) (s : List Int) (w : World) (hZ0 : 0 ≤ Z) (hZ6 : Z ≤ 6) (hl : L.length ≤ 1000) (hl' : s.length ≤ 1000) (B : Nat) (hB : B ≤ w.heap.size) (hr : Rd w B 2 A k (prs L)) (hr' : Rd w B 1 A' k' (ints s)) :
    Calls Try.prog 27 #[.agg #[.int .i64 Z, .slice A k c], .slice A' k' c'] w fun e w' => ∃ v, e = .returned v ∧ w'.ownsRow w.heap.size 57 2 v (movesL Z L s).length (prs (movesL Z L s)) ∧ Below w.heap.size w w' := by
  obtain rfl := hr'.int_len
  have HB1 := Lib.hid ((Below.refl w.heap.size w).alloc (Nat.le_refl _) (.cells #[.int .i64 Z, .slice A k c] 24))
  have HX := Lib.hid (blk_new w 24 #[.int .i64 Z, .slice A k c])
  have HTS := Lib.hid (movesTo_succ Z L s)
  have HTL := Lib.hid (fun q => movesTo_len Z L s q)
  have HIS := Lib.hid (fun i j h => movesIn_succ (Z := Z) (L := L) (s := s) (i := i) (j := j) h)
  have HI0 := Lib.hid (fun i => movesIn_zero Z L s i)
  have HIA := Lib.hid (fun i => movesIn_all Z L s i)
  have HIL := Lib.hid (fun i j => movesIn_len Z L s i j)
  have HNL := Lib.hid (fun z => nearL_len Z L z)
  have hr := hr.more hB
  have hr' := hr'.more hB
  go_enter Try.func27, Try.ntmps27
  go_wp2
  go_loopw [12, 5] (fun i u wr => ∃ q : Nat, i = .int .i64 q ∧ q ≤ s.length ∧ wr.ownsRow (w.heap.size + 1) 57 2 u (movesTo Z L s q).length (prs (movesTo Z L s q)) ∧ Below w.heap.size w wr ∧ wr.heap[w.heap.size]? = some (.cells #[.int .i64 Z, .slice A k c] 24 (0, 0))) (fun i _ _ => s.length - (intOf i).toNat)
  case atStart => exact ⟨0, rfl, Nat.zero_le _, World.ownsRow_nil .., HB1.out, HX.out⟩
  case round =>
    obtain ⟨q, rfl, hq, hown, hb, hx⟩ := hrel
    obtain ⟨wo, hwo⟩ : ∃ z, z = wr := ⟨_, rfl⟩
    rw [← hwo] at hown hb hx ⊢
    clear hwo
    have sb := hb.size
    have lx := blk_lt hx
    by_cases hlt : q < s.length
    · obtain ⟨b, off, rfl, lb, g0⟩ := (hr'.below hb).int hlt
      have HG := Lib.hid (show s.getD q 0 = s[q] by simp [List.getD, List.getElem?_eq_getElem hlt])
      obtain ⟨y, hy⟩ : ∃ y, y = s[q] := ⟨_, rfl⟩
      rw [← hy] at g0 HG
      clear hy
      have x0 : wo.cell? ⟨w.heap.size, 0, none⟩ = some (.int .i64 Z) := blk_cell hx 0
      have x1 : wo.cell? ⟨w.heap.size, 1, none⟩ = some (.slice A k c) := blk_cell hx 1
      have hln := HTL.out q
      have hq6 : (movesTo Z L s q).length ≤ 6000 := by
        have : q * Z.toNat ≤ q * 6 := Nat.mul_le_mul_left _ (by omega)
        omega
      have z0 : (0 : Int) ≤ (q : Int) := by omega
      have z1 : (q : Int) < (s.length : Int) := by omega
      have HO := Lib.hid (And.intro hown (And.intro hb hx))
      have HN := Lib.hid (pnear Z A k c L y wo hZ0 hZ6 hl w.heap.size sb (hr.below hb))
      have HNN := Lib.hid (HNL.out y)
      obtain ⟨N, hN⟩ : ∃ N, N = nearL Z L y := ⟨_, rfl⟩
      have HIS2 := Lib.hid (fun j h => HIS.out q j h)
      have HIA2 := Lib.hid (HIA.out q)
      rw [HG.out, ← hN] at HIS2 HIA2
      rw [← hN] at HN HNN
      clear hN hown hb hx
      obtain ⟨Au, cu, rfl, _, _⟩ := own_cap HO.out.1
      go_wp2_with fail
      refine HN.out.mono ?_
      rintro e w1 ⟨v1, rfl, hown1, hb1⟩
      obtain ⟨A1, c1, rfl, _, _⟩ := own_cap hown1
      have s1 := hb1.size
      have HO1 := Lib.hid hown1
      have HOL := Lib.hid (fun g h => hown1.lt g h)
      have HUL := Lib.hid (fun g h => (HO.out.1.lt g h).2)
      have HS1 := Lib.hid (And.intro (own_below HO.out.1 hb1) (And.intro (HO.out.2.1.trans (hb1.mono sb)) (blk_below HO.out.2.2 hb1 lx)))
      have hN6 : N.length ≤ 6 := by have := HNN.out; omega
      clear hown1 hb1 x0 x1 g0
      go_wp2
      go_loopw [21, 5] (fun i u wr => ∃ j : Nat, i = .int .i64 j ∧ j ≤ N.length ∧ wr.ownsRow (w.heap.size + 1) 57 2 u (movesTo Z L s q ++ movesIn Z L s q j).length (prs (movesTo Z L s q ++ movesIn Z L s q j)) ∧ Below w.heap.size w wr ∧ wr.heap[w.heap.size]? = some (.cells #[.int .i64 Z, .slice A k c] 24 (0, 0)) ∧ wr.ownsRow wo.heap.size 3 1 (.slice A1 N.length c1) N.length (ints N) ∧ (∀ g, u.ownBlock = some g → g < wo.heap.size ∨ w1.heap.size ≤ g) ∧ w1.heap.size ≤ wr.heap.size) (fun i _ _ => N.length - (intOf i).toNat)
      case atStart => exact ⟨0, rfl, Nat.zero_le _, by rw [HI0.out, List.append_nil]; exact HS1.out.1, HS1.out.2.1, HS1.out.2.2, HO1.out, fun g h => .inl (HUL.out g h), Nat.le_refl _⟩
      case round =>
        clear HS1 HO1
        obtain ⟨j, rfl, hj, hown, hb, hx, hN1, hU, hs1⟩ := hrel
        have rN := Rd.of_own hN1
        have sb := hb.size
        have lx := blk_lt hx
        by_cases hltj : j < N.length
        · obtain ⟨b1, off1, rfl, lb1, g1⟩ := rN.int hltj
          have HIS3 := Lib.hid (HIS2.out j hltj)
          obtain ⟨z, hz⟩ : ∃ z, z = N[j] := ⟨_, rfl⟩
          rw [← hz] at g1 HIS3
          clear hz
          have hl3 : (movesTo Z L s q ++ movesIn Z L s q j).length ≤ 7000 := by rw [List.length_append]; have := HIL.out q j; omega
          obtain ⟨M, hM⟩ : ∃ M, M = movesTo Z L s q ++ movesIn Z L s q j := ⟨_, rfl⟩
          have HM := Lib.hid hM
          rw [← hM] at hown hl3
          clear hM
          have zj0 : (0 : Int) ≤ (j : Int) := by omega
          have zj1 : (j : Int) < (N.length : Int) := by omega
          obtain ⟨r, hrr⟩ : ∃ r, r = decide (z ∈ s) := ⟨_, rfl⟩
          have HC := Lib.hid (pContains r _ s.length c' s z hrr.symm wr hl' w.heap.size sb (hr'.below hb))
          have HR := Lib.hid hrr
          have HO := Lib.hid (And.intro hown (And.intro hb (And.intro hx (And.intro hN1 hU))))
          obtain ⟨Au, cu, rfl, _, _⟩ := own_cap hown
          clear hrr hown hb hx rN hN1 hU
          cases r with
          | true =>
            have HE := Lib.hid (show movesTo Z L s q ++ movesIn Z L s q (j + 1) = M by rw [HIS3.out, if_pos (of_decide_eq_true HR.out.symm), List.append_nil, HM.out])
            go_wp2_with fail
            refine HC.out.mono ?_
            rintro e w2 ⟨rfl, hb2⟩
            have HO2 := Lib.hid (And.intro (own_below HO.out.1 hb2) (And.intro (HO.out.2.1.trans (hb2.mono sb)) (And.intro (blk_below HO.out.2.2.1 hb2 lx) (And.intro (own_below HO.out.2.2.2.1 hb2) hb2.size))))
            clear hb2
            go_wp2
            go_roundw
            case rel => exact ⟨j + 1, by go_num, by omega, by rw [HE.out]; exact HO2.out.1, HO2.out.2.1, HO2.out.2.2.1, HO2.out.2.2.2.1, HO.out.2.2.2.2, by have := HO2.out.2.2.2.2; omega⟩
            case measure => simp [intOf]; omega
          | false =>
            have HE := Lib.hid (show movesTo Z L s q ++ movesIn Z L s q (j + 1) = M ++ [((q : Int), z)] by rw [HIS3.out, if_neg (of_decide_eq_false HR.out.symm), ← List.append_assoc, HM.out])
            go_wp2_with fail
            refine HC.out.mono ?_
            rintro e w2 ⟨rfl, hb2⟩
            have s2 := hb2.size
            have u2 := own_below HO.out.1 hb2
            have HO2 := Lib.hid (And.intro (HO.out.2.1.trans (hb2.mono sb)) (And.intro (blk_below HO.out.2.2.1 hb2 lx) (own_below HO.out.2.2.2.1 hb2)))
            clear hb2
            go_wp2_with (at_builtin; go_must (refine app1x rfl (.tmp 29) (.tmp 33) 28 rfl 57 _ 2 16 E28 (w.heap.size + 1) _ _ _ _ rfl u2 _ rfl ?_ ?_ ?_ ?_ ?_ ?_); rfl; rfl; rfl; omega; omega; intro v3 w3 hown3 hg3 hx3)
            have B3 := Lib.hid (And.intro (below_own HO2.out.1 HO2.out.1.size u2 (by omega) hg3) (And.intro (blk_grown HO2.out.2.1 hg3 (fun e => by have := (u2.lt w.heap.size e.symm).1; omega)) hown3))
            have RN := Lib.hid (own_grown_far HO2.out.2.2 hg3 (fun g h h2 => by have h3 := HOL.out g h; have h4 := HO.out.2.2.2.2 g h2; omega))
            have HU3 := Lib.hid (show ∀ g, v3.ownBlock = some g → g < wo.heap.size ∨ w1.heap.size ≤ g from fun g h => by
              rcases hx3 with h3 | ⟨g', h3, h4⟩
              · rw [h3] at h; exact HO.out.2.2.2.2 g h
              · rw [h3] at h; injection h with h; right; omega)
            have s3 := hg3.size
            clear hx3
            clear hown3 hg3
            go_roundw
            case rel => exact ⟨j + 1, by go_num, by omega, by rw [HE.out, prs_append, List.length_append]; exact B3.out.2.2, B3.out.1, B3.out.2.1, RN.out, HU3.out, by omega⟩
            case measure => simp [intOf]; omega
        · obtain rfl : j = N.length := by omega
          rw [HIA2.out, ← HTS.out] at hown
          obtain ⟨Au, cu, rfl, _, _⟩ := own_cap hown
          have HO2 := Lib.hid (And.intro hown (And.intro hb hx))
          clear hown hb hx rN hN1 hU
          go_wp2
          go_roundw
          case rel => exact ⟨q + 1, by go_num, by omega, HO2.out.1, HO2.out.2.1, HO2.out.2.2⟩
          case measure => simp [intOf]; omega
    · obtain rfl : q = s.length := by omega
      obtain ⟨Au, cu, rfl, _, _⟩ := own_cap hown
      have HO := Lib.hid (And.intro (own_base hown (Nat.le_succ _)) hb)
      clear hown hb
      go_wp2
      go_ret
      exact ⟨_, rfl, HO.out.1, HO.out.2⟩
end Go.Proofs.Ytlhbmfaoldajdaa
