/-
  WALK: Back.
-/
import Derived.Test.YtlhbmfaoldajdaaW8
namespace Go.Proofs.Ytlhbmfaoldajdaa
open Go.RowKit

set_option maxRecDepth 100000 in
set_option maxHeartbeats 2000000 in
theorem pBack (Z : Int) (A A' A'' : Option Addr) (k c k' c' k'' c'' : Nat) (L : List (Int × Int)) (s : List Int) (p : List (Int × Int)) (w : World) (hl : L.length ≤ 1000) (hc : k ≤ c) (hl' : s.length ≤ 1000) (hc' : k' ≤ c') (hl'' : p.length ≤ 1000) (B : Nat) (hB : B ≤ w.heap.size) (hr : Rd w B 2 A k (prs L)) (hr' : Rd w B 1 A' k' (ints s)) (hr'' : Rd w B 2 A'' k'' (prs p)) :
    Calls Try.prog 10 #[.agg #[.int .i64 Z, .slice A k c], .slice A' k' c', .slice A'' k'' c''] w fun e w' => ∃ u e', e = .returned (.tuple #[u, .int .i64 e']) ∧ (planB Z L s p → e' = 0 ∧ w'.ownsRow w.heap.size 57 2 u (backL s p).length (prs (backL s p))) ∧ (¬ planB Z L s p → e' ≠ 0) ∧ Below w.heap.size w w' := by
  obtain rfl := hr'.int_len
  obtain rfl := hr''.pr_len
  have HB1 := Lib.hid ((Below.refl w.heap.size w).alloc (Nat.le_refl _) (.cells #[.int .i64 Z, .slice A k c] 24))
  have HX := Lib.hid (blk_new w 24 #[.int .i64 Z, .slice A k c])
  have hr := (hr.more hB)
  have hr' := (hr'.more hB)
  have hr'' := (hr''.more hB)
  have s1 : (w.alloc (.cells #[.int .i64 Z, .slice A k c] 24)).heap.size = w.heap.size + 1 := by simp
  have x0 : (w.alloc (.cells #[.int .i64 Z, .slice A k c] 24)).cell? ⟨w.heap.size, 0, none⟩ = some (.int .i64 Z) := blk_cell HX.out 0
  have x1 : (w.alloc (.cells #[.int .i64 Z, .slice A k c] 24)).cell? ⟨w.heap.size, 1, none⟩ = some (.slice A k c) := blk_cell HX.out 1
  have HP := Lib.hid (pCheckPlan Z A A' A'' k c s.length c' p.length c'' L s p (w.alloc (.cells #[.int .i64 Z, .slice A k c] 24)) hl hc hl' hc' hl'' w.heap.size (by simp) (hr.below HB1.out) (hr'.below HB1.out) (hr''.below HB1.out))
  by_cases h : planB Z L s p
  · have HPL := Lib.hid h
    have HGD := Lib.hid (show good Z L s p from h.2.2)
    have HS := Lib.hid (fun q h => nowAt_succ (s := s) (p := p) (q := q) h)
    have HL := Lib.hid (fun q => nowAt_len s p q)
    have HBS := Lib.hid (backTo_succ s p)
    have HBL := Lib.hid (backTo_len s p)
    clear h
    go_enter Try.func10, Try.ntmps10
    go_wp2_with fail
    refine HP.out.mono ?_
    rintro e w1 ⟨u, n, e', rfl, hyes, _, hb1⟩
    obtain ⟨rfl, _, _⟩ := hyes HPL.out
    have HB2 := Lib.hid (HB1.out.trans (hb1.mono (by omega)))
    have s2 := HB2.out.size
    clear hyes hb1 x0 x1 HP
    go_wp2_with fail
    refine (pClone A' s.length c' s w1 hl' w.heap.size s2 (hr'.below HB2.out)).mono ?_
    rintro e w2 ⟨v2, rfl, hown2, hb2⟩
    have HB3 := Lib.hid (HB2.out.trans (hb2.mono s2))
    have HO2 := Lib.hid hown2
    have HOL := Lib.hid (fun g h => hown2.lt g h)
    have s3 := hb2.size
    obtain ⟨A9, c9, rfl, _, _⟩ := own_cap hown2
    clear hown2 hb2
    go_wp2
    go_loopw [30, 12] (fun i u wr => ∃ q : Nat, i = .int .i64 q ∧ q ≤ p.length ∧ wr.ownsRow w2.heap.size 57 2 u q (prs (backTo s p q)) ∧ wr.ownsRow w1.heap.size 3 1 (.slice A9 s.length c9) s.length (ints (nowAt s p q)) ∧ Below w.heap.size w wr ∧ w2.heap.size ≤ wr.heap.size) (fun i _ _ => p.length - (intOf i).toNat)
    case atStart => exact ⟨0, rfl, Nat.zero_le _, World.ownsRow_nil .., by rw [nowAt_zero]; exact HO2.out, HB3.out, Nat.le_refl _⟩
    case round =>
      clear HO2 HB3 HB2
      obtain ⟨q, rfl, hq, hou, hown, hb, hs2⟩ := hrel
      have sb := hb.size
      by_cases hlt : q < p.length
      · obtain ⟨b, off, rfl, lb, g0, g1⟩ := (hr''.below hb).pr hlt
        have HS1 := Lib.hid (HS.out q hlt)
        have HGQ := HGD.out q hlt
        have HBS1 := Lib.hid (show backTo s p (q + 1) = backTo s p q ++ [(p[q].1, (nowAt s p q).getD p[q].1.toNat 0)] by rw [HBS.out, show p.getD q (0, 0) = p[q] by simp [List.getD, List.getElem?_eq_getElem hlt]])
        obtain ⟨y, hy⟩ : ∃ y, y = p[q] := ⟨_, rfl⟩
        rw [← hy] at g0 g1 HS1 HGQ HBS1
        clear hy
        obtain ⟨y1, y2⟩ := y
        have hnl := HL.out q
        obtain ⟨now, hnow⟩ : ∃ now, now = nowAt s p q := ⟨_, rfl⟩
        rw [← hnow] at hown HS1 HGQ HBS1 hnl
        clear hnow
        obtain ⟨i, hi, hil, _, _, _⟩ := refuseE_ok HGQ
        have hi : y1 = (i : Int) := hi
        subst hi
        have HBS2 := Lib.hid (show backTo s p (q + 1) = backTo s p q ++ [((i : Int), now[i])] by rw [HBS1.out]; simp [List.getElem?_eq_getElem hil])
        clear HGQ HBS1
        have his : i < s.length := by omega
        obtain ⟨g9, cap, hv, hg1, hg2⟩ := hown.form (by omega)
        simp only [Value.slice.injEq, true_and] at hv
        obtain ⟨rfl, rfl⟩ := hv
        have lg9 : g9 < w2.heap.size := (HOL.out g9 rfl).2
        have lgw : g9 < wr.heap.size := by omega
        have zi0 : (0 : Int) ≤ (i : Int) := by omega
        have zi1 : (i : Int) < (s.length : Int) := by omega
        have z0 : (0 : Int) ≤ (q : Int) := by omega
        have z1 : (q : Int) < (p.length : Int) := by omega
        have c1 := own_int hown (i := i) (by omega)
        obtain ⟨x, hx⟩ : ∃ x, x = now[i] := ⟨_, rfl⟩
        rw [← hx] at c1 HBS2
        clear hx
        have c1a := (World.cell?_alloc_lt wr (.cells #[.int .i64 (i : Int), .int .i64 y2] 57) ⟨g9, i, none⟩ lgw).trans c1
        have v0 : (wr.alloc (.cells #[.int .i64 (i : Int), .int .i64 y2] 57)).cell? ⟨wr.heap.size, 0, none⟩ = some (.int .i64 (i : Int)) := blk_cell (blk_new wr 57 _) 0
        have v1 : (wr.alloc (.cells #[.int .i64 (i : Int), .int .i64 y2] 57)).cell? ⟨wr.heap.size, 1, none⟩ = some (.int .i64 y2) := blk_cell (blk_new wr 57 _) 1
        have HBA := Lib.hid ((Below.refl wr.heap.size wr).alloc (Nat.le_refl _) (.cells #[.int .i64 (i : Int), .int .i64 y2] 57))
        have sa : (wr.alloc (.cells #[.int .i64 (i : Int), .int .i64 y2] 57)).heap.size = wr.heap.size + 1 := by simp
        have HXB := Lib.hid (blk_new wr 57 #[.int .i64 (i : Int), .int .i64 y2])
        have HO := Lib.hid (And.intro hou (And.intro hown hb))
        obtain ⟨Au, cu, rfl, _, _⟩ := own_cap hou
        have HOA := Lib.hid (show (((wr.alloc (.cells #[.int .i64 (i : Int), .int .i64 y2] 57)).alloc (.cells #[.int .i64 (i : Int), .int .i64 x] 57)).drew).ownsRow w2.heap.size 57 2 (.slice Au q cu) q (prs (backTo s p q)) from (hou.alloc _).alloc _)
        have HRD := Lib.hid (show Rd (((wr.alloc (.cells #[.int .i64 (i : Int), .int .i64 y2] 57)).alloc (.cells #[.int .i64 (i : Int), .int .i64 x] 57)).drew) (wr.heap.size + 1 + 1) 2 (some ⟨wr.heap.size + 1, 0, none⟩) 1 [.int .i64 (i : Int), .int .i64 x] from by
          have := Rd.one (wr.alloc (.cells #[.int .i64 (i : Int), .int .i64 y2] 57)) #[.int .i64 (i : Int), .int .i64 x] 57 2 rfl
          rw [sa] at this
          exact this)
        have HBB := Lib.hid ((((HBA.out.alloc HBA.out.size (.cells #[.int .i64 (i : Int), .int .i64 x] 57))).drew).mono hs2)
        have HXC := Lib.hid (blk_alloc HXB.out (.cells #[.int .i64 (i : Int), .int .i64 x] 57))
        have HFAR := Lib.hid (show some wr.heap.size = (Value.slice Au q cu).ownBlock → False from fun e => by have := (HO.out.1.lt wr.heap.size e.symm).2; omega)
        have HG9 := Lib.hid (show ∀ g, (Value.slice (some ⟨g9, 0, none⟩) s.length c9).ownBlock = some g → g < w2.heap.size from fun g e => HOL.out g e |>.2)
        clear hou hown hb
        go_wp2
        refine wp_region_ftail (fun w' => w' = (wr.alloc (.cells #[.int .i64 (i : Int), .int .i64 y2] 57)).drew) 8 _ (.slice Au q cu) (by kernel_rfl) (by kernel_rfl) rfl rfl rfl (fun _ _ _ _ h => h) rfl ?_
        simp only [List.take_succ_cons, List.take_zero, List.drop_succ_cons, List.drop_zero, Act.put, List.setIfInBounds_toArray, List.set_cons_zero, List.set_cons_succ]
        repeat (go_big_quiet_step (fail))
        refine wpQuiet_nil ?_
        rintro w' rfl
        go_wp2_with (at_builtin; go_must (refine appN rfl (.tmp 34) (.tmp 43) 28 rfl 57 _ 2 16 E28 w2.heap.size _ _ _ rfl HOA.out (wr.heap.size + 1 + 1) (some ⟨wr.heap.size + 1, 0, none⟩) 1 1 [.int .i64 (i : Int), .int .i64 x] rfl HRD.out rfl ?_ ?_ ?_); omega; simp; omega; intro v5 w6 hown6 hg6; have HB6 := Lib.hid (below_own HBB.out (by simp; omega) HOA.out (Nat.le_refl _) hg6); have s6 := HB6.out.size; have k0 := (show w6.cell? ⟨wr.heap.size, 0, none⟩ = some (.int .i64 (i : Int)) from blk_cell (blk_grown (w := ((wr.alloc (.cells #[.int .i64 (i : Int), .int .i64 y2] 57)).alloc (.cells #[.int .i64 (i : Int), .int .i64 x] 57)).drew) HXC.out hg6 (fun e => HFAR.out e)) 0); have k1 := (show w6.cell? ⟨wr.heap.size, 1, none⟩ = some (.int .i64 y2) from blk_cell (blk_grown (w := ((wr.alloc (.cells #[.int .i64 (i : Int), .int .i64 y2] 57)).alloc (.cells #[.int .i64 (i : Int), .int .i64 x] 57)).drew) HXC.out hg6 (fun e => HFAR.out e)) 1); have ow6 := own_far HO.out.2.1 HB6.out HG9.out; have cc := own_int ow6 (i := i) (by omega); have ff := own_frozen ow6 i)
        have HOX := Lib.hid (show (w6.setCell ⟨g9, i, none⟩ (.int .i64 y2)).ownsRow w2.heap.size 57 2 v5 (q + 1) (prs (backTo s p (q + 1))) ∧ (w6.setCell ⟨g9, i, none⟩ (.int .i64 y2)).ownsRow w1.heap.size 3 1 (.slice (some ⟨g9, 0, none⟩) s.length c9) s.length (ints (nowAt s p (q + 1))) ∧ Below w.heap.size w (w6.setCell ⟨g9, i, none⟩ (.int .i64 y2)) ∧ w2.heap.size ≤ (w6.setCell ⟨g9, i, none⟩ (.int .i64 y2)).heap.size from by
          refine ⟨?_, ?_, ((HO.out.2.2.trans (HB6.out.mono (Nat.le_trans s2 s3))).setCell (p := ⟨g9, i, none⟩) (Nat.le_trans s2 hg1) _), by rw [World.size_setCell]; omega⟩
          · rw [HBS2.out, prs_append]
            exact own_set_far hown6 lg9 _
          · rw [HS1.out]
            exact own_seti (i := i) ow6 y2)
        clear ow6 hown6 hg6
        go_roundw
        case rel => exact ⟨q + 1, by go_num, by omega, HOX.out.1, HOX.out.2.1, HOX.out.2.2.1, HOX.out.2.2.2⟩
        case measure => simp [intOf]; omega
      · obtain rfl : q = p.length := by omega
        have hqb := HBL.out p.length
        obtain ⟨Au, cu, rfl, _, _⟩ := own_cap hou
        have HREV := Lib.hid (show backL s p = (backTo s p p.length).reverse from rfl)
        obtain ⟨bt, hbt⟩ : ∃ bt, bt = backTo s p p.length := ⟨_, rfl⟩
        rw [← hbt] at hou hqb HREV
        clear hbt
        have hou2 : wr.ownsRow w2.heap.size 57 2 (.slice Au bt.length cu) bt.length (prs bt) := by rw [hqb]; exact hou
        have HR := Lib.hid (pReverse Au cu bt wr (by omega) w2.heap.size (by omega) hou2)
        rw [hqb] at HR
        have HB4 := Lib.hid hb
        have HQB := Lib.hid hqb
        clear hou hou2 hown hb hqb
        go_wp2_with fail
        refine HR.out.mono ?_
        rintro e w3 ⟨⟨v, rfl⟩, hown3, hb3⟩
        have HF := Lib.hid (show w3.ownsRow w.heap.size 57 2 (.slice Au p.length cu) (backL s p).length (prs (backL s p)) from by
          rw [HREV.out, List.length_reverse, HQB.out]
          exact own_base hown3 (by omega))
        have HB5 := Lib.hid (HB4.out.trans (hb3.mono (by omega)))
        clear hown3 hb3
        go_wp2
        go_ret2
        exact ⟨_, 0, ret_pair rfl rfl, fun _ => ⟨rfl, HF.out⟩, fun h => absurd HPL.out h, HB5.out⟩
  · have HN := Lib.hid h
    go_enter Try.func10, Try.ntmps10
    go_wp2_with fail
    refine HP.out.mono ?_
    rintro e w1 ⟨u, n, e', rfl, _, hno, hb1⟩
    have hne := hno HN.out
    have hd : (e' != 0) = true := by simpa using hne
    have HB2 := Lib.hid (HB1.out.trans (hb1.mono (by omega)))
    clear hb1 hno
    go_wp2
    go_ret2
    exact ⟨_, e', ret_pair rfl rfl, fun h => absurd h HN.out, fun _ => hne, HB2.out⟩
end Go.Proofs.Ytlhbmfaoldajdaa
