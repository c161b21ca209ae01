/-
  WALK: CheckPlan.
-/
import Derived.Test.YtlhbmfaoldajdaaW6
namespace Go.Proofs.Ytlhbmfaoldajdaa
open Go.RowKit

theorem own_frozen {w : World} {base g n c sz : Nat} {e : TypeId} {xs : List Value} (h : w.ownsRow base e sz (.slice (some ⟨g, 0, none⟩) n c) n xs) (i : Nat) : w.frozen? ⟨g, i, none⟩ = false := by
  obtain ⟨h1, h2⟩ := h
  rcases h2 with ⟨h2, _⟩ | ⟨g', cap, cur, hv, hg, hh, _⟩
  · cases h2
  · injection hv with a b d
    injection a with a
    injection a with a
    subst a
    exact blk_frozen hh i
theorem own_int {w : World} {base g n c : Nat} {l : List Int} (h : w.ownsRow base 3 1 (.slice (some ⟨g, 0, none⟩) n c) n (ints l)) {i : Nat} (hi : i < l.length) : w.cell? ⟨g, i, none⟩ = some (.int .i64 l[i]) := by
  have h1 := h.1
  simp at h1
  exact (h.cellAt i (by simp; omega)).trans (by simp [hi])
theorem own_seti {w : World} {base g n c i : Nat} {l : List Int} (h : w.ownsRow base 3 1 (.slice (some ⟨g, 0, none⟩) n c) n (ints l)) (x : Int) : (w.setCell ⟨g, i, none⟩ (.int .i64 x)).ownsRow base 3 1 (.slice (some ⟨g, 0, none⟩) n c) n (ints (l.set i x)) := by
  have := own_set (j := i) h (.int .i64 x)
  rwa [show (ints l).set i (.int .i64 x) = ints (l.set i x) by simp [ints, List.map_set]] at this
theorem own_set_far {w : World} {base n sz : Nat} {e : TypeId} {v : Value} {xs : List Value} (h : w.ownsRow base e sz v n xs) {p : Addr} (hp : p.block < base) (u : Value) : (w.setCell p u).ownsRow base e sz v n xs :=
  own_keep h fun g hg => Below.heap_setCell w p u g (by have := (h.lt g hg).1; omega)
theorem own_far {w w' : World} {base n sz B : Nat} {e : TypeId} {v : Value} {xs : List Value} (h : w.ownsRow base e sz v n xs) (hb : Below B w w') (hB : ∀ g, v.ownBlock = some g → g < B) : w'.ownsRow base e sz v n xs := own_keep h fun g hg => hb.block g (hB g hg)
theorem ret_three {a a' b b' c c' : Value} (h : a = a') (h' : b = b') (h'' : c = c') : Ending.returned (.tuple #[a, b, c]) = .returned (.tuple #[a', b', c']) := by rw [h, h', h'']
theorem ret_pair {a a' b b' : Value} (h : a = a') (h' : b = b') : Ending.returned (.tuple #[a, b]) = .returned (.tuple #[a', b']) := by rw [h, h']

/-- A plan that can be done. -/
def planB (Z : Int) (L : List (Int × Int)) (s : List Int) (p : List (Int × Int)) : Prop := placeE Z L s = 0 ∧ p.length ≤ 400 ∧ good Z L s p

set_option maxRecDepth 100000 in
set_option maxHeartbeats 2000000 in
theorem pCheckPlan (Z : Int) (A A' A'' : Option Addr) (k c k' c' k'' c'' : Nat) (L : List (Int × Int)) (s : List Int) (p : List (Int × Int)) (w : World) (hl : L.length ≤ 1000) (hc : k ≤ c) (hl' : s.length ≤ 1000) (hc' : k' ≤ c') (hl'' : p.length ≤ 1000) (B : Nat) (hB : B ≤ w.heap.size) (hr : Rd w B 2 A k (prs L)) (hr' : Rd w B 1 A' k' (ints s)) (hr'' : Rd w B 2 A'' k'' (prs p)) :
    Calls Try.prog 8 #[.agg #[.int .i64 Z, .slice A k c], .slice A' k' c', .slice A'' k'' c''] w fun e w' => ∃ u n e', e = .returned (.tuple #[u, .int .i64 n, .int .i64 e']) ∧ (planB Z L s p → e' = 0 ∧ n = p.length ∧ w'.ownsRow w.heap.size 3 1 u s.length (ints (nowAt s p p.length))) ∧ (¬ planB Z L s p → e' ≠ 0) ∧ Below w.heap.size w w' := by
  obtain rfl := hr'.int_len
  obtain rfl := hr''.pr_len
  have HB1 := Lib.hid ((Below.refl w.heap.size w).alloc (Nat.le_refl _) (.cells #[.int .i64 Z, .slice A k c] 24))
  have HX := Lib.hid (blk_new w 24 #[.int .i64 Z, .slice A k c])
  have hr := (hr.more hB)
  have hr' := (hr'.more hB)
  have hr'' := (hr''.more hB)
  have s1 : (w.alloc (.cells #[.int .i64 Z, .slice A k c] 24)).heap.size = w.heap.size + 1 := by simp
  have x0 : (w.alloc (.cells #[.int .i64 Z, .slice A k c] 24)).cell? ⟨w.heap.size, 0, none⟩ = some (.int .i64 Z) := blk_cell HX.out 0
  have x1 : (w.alloc (.cells #[.int .i64 Z, .slice A k c] 24)).cell? ⟨w.heap.size, 1, none⟩ = some (.slice A k c) := blk_cell HX.out 1
  have HP := Lib.hid (pValidatePlace Z A A' k c s.length c' L s (w.alloc (.cells #[.int .i64 Z, .slice A k c] 24)) hl hc hl' hc' w.heap.size (by simp) (hr.below HB1.out) (hr'.below HB1.out))
  by_cases h : placeE Z L s = 0
  · rw [h] at HP
    have HPE := Lib.hid h
    clear h
    by_cases h4 : 400 < p.length
    · have hd : decide (400 < (p.length : Int)) = true := decide_eq_true (by omega)
      have HN := Lib.hid (show ¬ planB Z L s p from fun h => by have := h.2.1; omega)
      go_enter Try.func8, Try.ntmps8
      go_wp2_with fail
      refine HP.out.mono ?_
      rintro e w1 ⟨rfl, hb1⟩
      have HB2 := Lib.hid (HB1.out.trans (hb1.mono (by omega)))
      clear hb1
      go_wp2
      refine bodyPost_ret (results_tmp3 rfl _ _ _) rfl ?_
      exact ⟨_, 0, 3, ret_three rfl rfl rfl, fun h => absurd h HN.out, fun _ => by decide, HB2.out⟩
    have hd : decide (400 < (p.length : Int)) = false := decide_eq_false (by omega)
    have HY := Lib.hid (show good Z L s p → planB Z L s p from fun h => ⟨HPE.out, by omega, h⟩)
    have HNY := Lib.hid (show ¬ good Z L s p → ¬ planB Z L s p from fun h h' => h h'.2.2)
    have HS := Lib.hid (fun q h => nowAt_succ (s := s) (p := p) (q := q) h)
    have HL := Lib.hid (fun q => nowAt_len s p q)
    go_enter Try.func8, Try.ntmps8
    go_wp2_with fail
    refine HP.out.mono ?_
    rintro e w1 ⟨rfl, hb1⟩
    have HB2 := Lib.hid (HB1.out.trans (hb1.mono (by omega)))
    have s2 := HB2.out.size
    have HX2 := Lib.hid (blk_below HX.out hb1 (by omega))
    have lx := blk_lt HX2.out
    clear hb1 x0 x1
    go_wp2_with fail
    refine (pClone A' s.length c' s w1 hl' w.heap.size s2 (hr'.below HB2.out)).mono ?_
    rintro e w2 ⟨v2, rfl, hown2, hb2⟩
    have HX3 := Lib.hid (blk_below HX2.out hb2 lx)
    have HB3 := Lib.hid (HB2.out.trans (hb2.mono s2))
    have HO2 := Lib.hid hown2
    have HOL := Lib.hid (fun g h => hown2.lt g h)
    have s3 := hb2.size
    obtain ⟨A9, c9, rfl, _, _⟩ := own_cap hown2
    clear hown2 hb2
    go_wp2
    go_loopw [27] (fun i wr => ∃ q : Nat, i = .int .i64 q ∧ q ≤ p.length ∧ Hid (∀ (j : Nat) (h : j < p.length), j < q → refuseE Z L (nowAt s p j) p[j] = 0) ∧ wr.ownsRow w1.heap.size 3 1 (.slice A9 s.length c9) s.length (ints (nowAt s p q)) ∧ Below w.heap.size w wr ∧ wr.heap[w.heap.size]? = some (.cells #[.int .i64 Z, .slice A k c] 24 (0, 0)) ∧ w2.heap.size ≤ wr.heap.size) (fun i _ => p.length - (intOf i).toNat)
    case atStart => exact ⟨0, rfl, Nat.zero_le _, fun j _ h => absurd h (by omega), by rw [nowAt_zero]; exact HO2.out, HB3.out, HX3.out, Nat.le_refl _⟩
    case round =>
      clear HO2 HB3 HX3 HX2 HB2
      obtain ⟨q, rfl, hq, HG, hown, hb, hx, hs2⟩ := hrel
      have sb := hb.size
      by_cases hlt : q < p.length
      · obtain ⟨b, off, rfl, lb, g0, g1⟩ := (hr''.below hb).pr hlt
        have HS1 := Lib.hid (HS.out q hlt)
        have HGN := Lib.hid (show refuseE Z L (nowAt s p q) p[q] = 0 → ∀ (j : Nat) (h : j < p.length), j < q + 1 → refuseE Z L (nowAt s p j) p[j] = 0 from fun h0 j hj hjq => by
          rcases Nat.lt_or_ge j q with h | h
          · exact HG.out j hj h
          · obtain rfl : j = q := by omega
            exact h0)
        have HGB := Lib.hid (show refuseE Z L (nowAt s p q) p[q] ≠ 0 → ¬ good Z L s p from fun h0 hg => h0 (hg q hlt))
        obtain ⟨y, hy⟩ : ∃ y, y = p[q] := ⟨_, rfl⟩
        rw [← hy] at g0 g1 HS1 HGN HGB
        clear hy
        obtain ⟨y1, y2⟩ := y
        have hnl := HL.out q
        obtain ⟨now, hnow⟩ : ∃ now, now = nowAt s p q := ⟨_, rfl⟩
        rw [← hnow] at hown HS1 HGN HGB hnl
        clear hnow
        have HO := Lib.hid (And.intro hown (And.intro hb hx))
        have z0 : (0 : Int) ≤ (q : Int) := by omega
        have z1 : (q : Int) < (p.length : Int) := by omega
        have lx2 := blk_lt hx
        have x0 : (wr.alloc (.cells #[.int .i64 y1, .int .i64 y2] 57)).cell? ⟨w.heap.size, 0, none⟩ = some (.int .i64 Z) := blk_cell (blk_alloc hx _) 0
        have x1 : (wr.alloc (.cells #[.int .i64 y1, .int .i64 y2] 57)).cell? ⟨w.heap.size, 1, none⟩ = some (.slice A k c) := blk_cell (blk_alloc hx _) 1
        have v0 : (wr.alloc (.cells #[.int .i64 y1, .int .i64 y2] 57)).cell? ⟨wr.heap.size, 0, none⟩ = some (.int .i64 y1) := blk_cell (blk_new wr 57 _) 0
        have v1 : (wr.alloc (.cells #[.int .i64 y1, .int .i64 y2] 57)).cell? ⟨wr.heap.size, 1, none⟩ = some (.int .i64 y2) := blk_cell (blk_new wr 57 _) 1
        have HBA := Lib.hid ((Below.refl wr.heap.size wr).alloc (Nat.le_refl _) (.cells #[.int .i64 y1, .int .i64 y2] 57))
        have sa : (wr.alloc (.cells #[.int .i64 y1, .int .i64 y2] 57)).heap.size = wr.heap.size + 1 := by simp
        have rn := Rd.of_own hown
        rw [← hnl] at rn
        have HRF := Lib.hid (prefusal Z A A9 k c now.length c9 L now y1 y2 (wr.alloc (.cells #[.int .i64 y1, .int .i64 y2] 57)) hl (by omega) wr.heap.size (by simp) (((hr.below hb).more sb).below HBA.out) (rn.below HBA.out))
        rw [hnl] at HRF
        clear hown hb hx rn
        by_cases hre : refuseE Z L now (y1, y2) = 0
        · have HGN2 := Lib.hid (HGN.out hre)
          obtain ⟨i, hi, hil, _, _, _⟩ := refuseE_ok hre
          have hi : y1 = (i : Int) := hi
          subst hi
          rw [hre] at HRF
          clear hre HGB HGN
          have his : i < s.length := by omega
          obtain ⟨g9, cap, hv, hg1, hg2⟩ := HO.out.1.form (by omega)
          simp only [Value.slice.injEq, true_and] at hv
          obtain ⟨rfl, rfl⟩ := hv
          have lg9 : g9 < w2.heap.size := (HOL.out g9 rfl).2
          have zi0 : (0 : Int) ≤ (i : Int) := by omega
          have zi1 : (i : Int) < (s.length : Int) := by omega
          go_wp2_with fail
          refine HRF.out.mono ?_
          rintro e w3 ⟨rfl, hb3⟩
          have v0 := (hb3.cell (p := ⟨wr.heap.size, 0, none⟩) (by simp)).trans v0
          have v1 := (hb3.cell (p := ⟨wr.heap.size, 1, none⟩) (by simp)).trans v1
          have hb3 := HBA.out.trans (hb3.mono (by omega))
          have s3' := hb3.size
          have ow3 := own_below HO.out.1 hb3
          have c1 := own_int ow3 (i := i) (by omega)
          have f1 := own_frozen ow3 i
          have HOX := Lib.hid (show (w3.setCell ⟨g9, i, none⟩ (.int .i64 y2)).ownsRow w1.heap.size 3 1 (.slice (some ⟨g9, 0, none⟩) s.length c9) s.length (ints (nowAt s p (q + 1))) ∧ Below w.heap.size w (w3.setCell ⟨g9, i, none⟩ (.int .i64 y2)) ∧ (w3.setCell ⟨g9, i, none⟩ (.int .i64 y2)).heap[w.heap.size]? = some (.cells #[.int .i64 Z, .slice A k c] 24 (0, 0)) ∧ w2.heap.size ≤ (w3.setCell ⟨g9, i, none⟩ (.int .i64 y2)).heap.size from by
            refine ⟨?_, ((HO.out.2.1.trans (hb3.mono sb)).setCell (p := ⟨g9, i, none⟩) (Nat.le_trans s2 hg1) _), blk_far (blk_below HO.out.2.2 hb3 lx2) (p := ⟨g9, i, none⟩) (by show w.heap.size ≠ g9; omega) _, by rw [World.size_setCell]; omega⟩
            rw [HS1.out]
            exact own_seti (i := i) ow3 y2)
          clear ow3 hb3 HRF
          go_wp2
          go_roundw
          case rel => exact ⟨q + 1, by go_num, by omega, HGN2.out, HOX.out.1, HOX.out.2.1, HOX.out.2.2.1, HOX.out.2.2.2⟩
          case measure => simp [intOf]; omega
        · have HNP := Lib.hid (HNY.out (HGB.out hre))
          have HRE := Lib.hid hre
          have hd5 : (refuseE Z L now (y1, y2) != 0) = true := by simpa using hre
          obtain ⟨r, hrr⟩ : ∃ r, r = refuseE Z L now (y1, y2) := ⟨_, rfl⟩
          rw [← hrr] at HRF HRE hd5
          clear hrr hre HGB HGN
          go_wp2_with fail
          refine HRF.out.mono ?_
          rintro e w3 ⟨rfl, hb3⟩
          have HB4 := Lib.hid (HO.out.2.1.trans ((HBA.out.trans (hb3.mono (by omega))).mono sb))
          clear hb3
          go_wp2
          refine bodyPost_ret (results_tmp3 rfl _ _ _) rfl ?_
          exact ⟨_, q, r, ret_three rfl rfl rfl, fun h => absurd h HNP.out, fun _ => HRE.out, HB4.out⟩
      · obtain rfl : q = p.length := by omega
        have HPL := Lib.hid (HY.out (fun j hj => HG.out j hj hj))
        have HO := Lib.hid (And.intro (own_base hown s2) hb)
        clear hown hb hx
        go_wp2
        refine bodyPost_ret (results_tmp3 rfl _ _ _) rfl ?_
        exact ⟨_, p.length, 0, ret_three rfl rfl rfl, fun _ => ⟨rfl, rfl, HO.out.1⟩, fun h => absurd HPL.out h, HO.out.2⟩
  · have hd : (placeE Z L s != 0) = true := by simpa using h
    have HN := Lib.hid (show ¬ planB Z L s p from fun h' => h h'.1)
    have HNE := Lib.hid h
    clear h
    generalize placeE Z L s = y at *
    go_enter Try.func8, Try.ntmps8
    go_wp2_with fail
    refine HP.out.mono ?_
    rintro e w1 ⟨rfl, hb1⟩
    have HB2 := Lib.hid (HB1.out.trans (hb1.mono (by omega)))
    clear hb1
    go_wp2
    refine bodyPost_ret (results_tmp3 rfl _ _ _) rfl ?_
    exact ⟨_, 0, y, ret_three rfl rfl rfl, fun h => absurd h HN.out, fun _ => HNE.out, HB2.out⟩
end Go.Proofs.Ytlhbmfaoldajdaa
