/-
  THE WALK of the law PulseBacks.
-/
import Derived.Test.YtnoocdannfeidaaOpen
import Derived.Test.YtnoocdannfeidaaW30
import Derived.Test.YtnoocdannfeidaaLAreas
namespace Go.Proofs.Ytnoocdannfeidaa
open Go.RowKit Pulse

theorem vald_reverse (p : List Int) : vald p.reverse = vald p := by
  rw [vald, vald, List.length_reverse, List.all_reverse]
theorem moded_reverse (p : List Int) (m : Int) : moded p.reverse m = moded p m := by rw [moded, moded, vald_reverse]
theorem v_zero {u : V} : (decide (u.x = 0) && decide (u.y = 0)) = decide (u = V.zero) := by
  by_cases h : u = V.zero
  · subst h; rfl
  · rw [decide_eq_false h]
    by_cases hx : u.x = 0
    · have hy : ¬ u.y = 0 := fun hy => h (by ext; exact hx; exact hy)
      simp [hx, hy]
    · simp [hx]
theorem away_eq (p : List Int) (m : Int) : away p m = !decide (endL m.toNat p = V.zero) := by rw [away, v_zero]
theorem away_congr {p q : List Int} {m : Int} (h : endL m.toNat p = V.zero ↔ endL m.toNat q = V.zero) : away p m = away q m := by
  rw [away_eq, away_eq]
  congr 1
  exact decide_eq_decide.2 h
theorem clTo_congr {p q : List Int} (h : ∀ m : Int, away p m = away q m) (k : Nat) : clTo p k = clTo q k := by
  induction k with
  | zero => rfl
  | succ k ih => rw [clTo, clTo, ih, h]
theorem closedN_reverse (p : List Int) : closedN p.reverse = closedN p := by
  rw [closedN, closedN, vald_reverse, clTo_congr fun m => away_congr (endL_reverse_zero m.toNat p)]
theorem areaN_reverse (p : List Int) (m : Int) : areaN p.reverse m = areaN p m := by
  rw [areaN, areaN, moded_reverse, areaL_reverse]
theorem closedN_len (p : List Int) : (closedN p).length ≤ 4 := by
  unfold closedN
  split
  · exact clTo_len p 4
  · exact Nat.zero_le _

set_option maxRecDepth 100000 in
set_option maxHeartbeats 4000000 in
theorem lawBacks (A : Option Addr) (k c : Nat) (p : List Int) (m : Int) (w : World) (hk : k ≤ c) (hc : c ≤ maxLen) (hr : Rd w w.heap.size 1 A k (ints p)) (_ : Big p) (_ : I64 m) :
    Calls Try.prog 10 #[.slice A k c, .int .i64 m] w fun e w' => e = .returned (.bool true) ∧ Below w.heap.size w w' := by
  have hkm : k ≤ maxLen := Nat.le_trans hk hc
  obtain rfl := hr.int_len
  by_cases hL : 100 < p.length
  · have hd : decide (100 < p.length) = true := by simpa using hL
    go_enter Try.func10, Try.ntmps10
    go_wp2_with fail
    refine (long _ _ _ _ hkm).mono ?_
    rw [hd]
    rintro e w1 ⟨rfl, rfl⟩
    go_wp2_with fail
    refine (known _).mono ?_
    rintro e w2 ⟨rfl, hb2⟩
    go_wp2
    go_ret
    exact ⟨rfl, hb2⟩
  · have hd : decide (100 < p.length) = false := by simpa using hL
    have hl : p.length ≤ 1000 := by omega
    have HO := Lib.hid (show (w.alloc (.cells #[] 3)).ownsRow w.heap.size 3 1 (.slice (some ⟨w.heap.size, 0, none⟩) 0 0) 0 [] from own_empty (blk_new w 3 #[]) (Nat.le_refl _))
    have HB := Lib.hid ((Below.refl w.heap.size w).alloc (Nat.le_refl _) (.cells #[] 3))
    have HR := hr.alloc (Nat.le_refl _) (.cells #[] 3)
    have HBL := Lib.hid (show backL p = if vald p = 0 then p.reverse else [] from rfl)
    have hbl : (backL p).length ≤ 1000 := by unfold backL; split <;> simp; omega
    go_enter Try.func10, Try.ntmps10
    go_wp2_with fail
    refine (long _ _ _ _ hkm).mono ?_
    rw [hd]
    rintro e w1 ⟨rfl, rfl⟩
    clear hL
    go_wp2_with (at_builtin; go_must (refine appN rfl (.tmp 22) (.tmp 23) 22 rfl 3 _ 1 8 E22 w.heap.size _ _ _ rfl HO.out w.heap.size A p.length c (ints p) rfl HR (ints_one _) (by omega) (by simp) ?_); intro v5 w5 hown5 hg5)
    have B5 := below_own HB.out (by simp) HO.out (Nat.le_refl _) hg5
    rw [Nat.zero_add, List.nil_append] at hown5
    obtain ⟨A5, c5, rfl, _, _⟩ := own_cap hown5
    have r5 := Rd.of_own hown5
    have s5 := B5.size
    clear hg5 hown5
    go_wp2_with fail
    refine (pBack A5 p.length c5 p w5 hl w5.heap.size (Nat.le_refl _) r5).mono ?_
    rintro e w6 ⟨v6, rfl, hown6, hb6⟩
    obtain ⟨A6, c6, rfl, _, _⟩ := own_cap hown6
    have B6 := B5.trans (hb6.mono s5)
    have s6 := hb6.size
    have r5 := r5.below hb6
    go_wp2_with fail
    refine (rBack A p.length c p w6 hl w.heap.size (by omega) (hr.below B6)).mono ?_
    rintro e w7 ⟨v7, rfl, hown7, hb7⟩
    obtain ⟨A7, c7, rfl, _, _⟩ := own_cap hown7
    have hown6 := own_below hown6 hb7
    have r5 := r5.below' hb7 s6
    have B7 := B6.trans (hb7.mono (by omega))
    have s7 := hb7.size
    have r7 := Rd.of_own hown7
    clear hown7 hb6 hb7 B5 B6 HO HB
    go_wp2_with fail
    refine (rSameInts A6 A7 (backL p).length (backL p).length c6 c7 (backL p) (backL p) w7 hbl hbl w7.heap.size (Nat.le_refl _) (Rd.of_own hown6) r7).mono ?_
    rw [decide_eq_true rfl]
    rintro e w8 ⟨rfl, hb8⟩
    have hown6 := own_below hown6 hb8
    have r5 := r5.below' hb8 (by omega)
    have B8 := B7.trans (hb8.mono (by omega))
    have s8 := hb8.size
    clear r7 hb8 B7
    by_cases h0 : vald p = 0
    · have HV := Lib.hid h0
      have hbr : backL p = p.reverse := by rw [HBL.out, if_pos h0]
      rw [hbr] at hown6 hbl
      rw [hbr, h0]
      have hml : p.reverse.length = p.length := List.length_reverse
      rw [hml] at hown6
      rw [hml]
      have HML := Lib.hid hml
      have b6 : ∀ g, (Value.slice A6 p.length c6).ownBlock = some g → g < w8.heap.size := fun g hg => (hown6.lt g hg).2
      clear h0 hbr hml
      go_wp2_with fail
      refine (pClosed A6 p.length c6 p.reverse w8 (by simpa using hl) w8.heap.size (Nat.le_refl _) (by have := Rd.of_own hown6; exact this)).mono ?_
      rw [closedN_reverse, vald_reverse, HV.out]
      rintro e w9 ⟨v9, rfl, hown9, hb9⟩
      obtain ⟨A9, c9, rfl, _, _⟩ := own_cap hown9
      have hown6 := own_below hown6 hb9
      have r5 := r5.below' hb9 (by omega)
      have B9 := B8.trans (hb9.mono (by omega))
      have s9 := hb9.size
      clear hb9 B8
      go_wp2_with fail
      refine (pClosed A p.length c p w9 hl w.heap.size (by omega) (hr.below B9)).mono ?_
      rw [HV.out]
      rintro e w10 ⟨v10, rfl, hown10, hb10⟩
      obtain ⟨A10, c10, rfl, _, _⟩ := own_cap hown10
      have hown6 := own_below hown6 hb10
      have hown9 := own_below hown9 hb10
      have r5 := r5.below' hb10 (by omega)
      have B10 := B9.trans (hb10.mono (by omega))
      have s10 := hb10.size
      clear hb10 B9
      go_wp2_with fail
      refine (pAreaF A6 p.length c6 p.reverse m w10 (by simpa using hl) w10.heap.size (Nat.le_refl _) (by have := Rd.of_own hown6; exact this)).mono ?_
      rw [areaN_reverse, moded_reverse]
      rintro e w11 ⟨rfl, hb11⟩
      have hown6 := own_below hown6 hb11
      have hown9 := own_below hown9 hb11
      have hown10 := own_below hown10 hb11
      have r5 := r5.below' hb11 (by omega)
      have B11 := B10.trans (hb11.mono (by omega))
      have s11 := hb11.size
      clear hb11 B10
      go_wp2_with fail
      refine (pAreaF A p.length c p m w11 hl w.heap.size (by omega) (hr.below B11)).mono ?_
      rintro e w12 ⟨rfl, hb12⟩
      have hown6 := own_below hown6 hb12
      have hown9 := own_below hown9 hb12
      have hown10 := own_below hown10 hb12
      have r5 := r5.below' hb12 (by omega)
      have B12 := B11.trans (hb12.mono (by omega))
      have s12 := hb12.size
      clear hb12 B11
      generalize areaN p m = a at *
      generalize moded p m = e at *
      go_wp2
      go_loopw [18] (fun i wr => ∃ (q : Nat) (l : List Int), i = .int .i64 q ∧ q ≤ p.length ∧ l.length = p.length ∧ wr.ownsRow w5.heap.size 3 1 (.slice A6 p.length c6) p.length (ints l) ∧ wr.ownsRow w8.heap.size 3 1 (.slice A9 (closedN p).length c9) (closedN p).length (ints (closedN p)) ∧ wr.ownsRow w9.heap.size 3 1 (.slice A10 (closedN p).length c10) (closedN p).length (ints (closedN p)) ∧ Rd wr w5.heap.size 1 A5 p.length (ints p) ∧ Below w.heap.size w wr ∧ w12.heap.size ≤ wr.heap.size) (fun i _ => p.length - (intOf i).toNat)
      case atStart => exact ⟨0, p.reverse, rfl, Nat.zero_le _, HML.out, hown6, hown9, hown10, r5, B12, Nat.le_refl _⟩
      case round =>
        clear hown6 hown9 hown10 r5 B12
        obtain ⟨q, l, rfl, hq, hll, h6, h9, h10, h5, hb, hsz⟩ := hrel
        by_cases hlt : q < p.length
        · obtain ⟨g, cap, hv, hg1, hg2⟩ := h6.form (by omega)
          simp only [Value.slice.injEq, true_and] at hv
          obtain ⟨rfl, rfl⟩ := hv
          have hg8 := b6 g rfl
          have k1 := own_int h6 (i := q) (by omega)
          have f1 := own_frozen h6 q
          have HO := Lib.hid (And.intro (own_seti (i := q) h6 1000) (And.intro (own_set_far (p := ⟨g, q, none⟩) h9 hg8 (.int .i64 1000)) (And.intro (own_set_far (p := ⟨g, q, none⟩) h10 (by simp only []; omega) (.int .i64 1000)) (And.intro (h5.setCell (p := ⟨g, q, none⟩) hg1 (.int .i64 1000)) (hb.setCell (p := ⟨g, q, none⟩) (by simp only []; omega) (.int .i64 1000)))))) 
          have HSZ := Lib.hid (show w12.heap.size ≤ (wr.setCell ⟨g, q, none⟩ (.int .i64 1000)).heap.size by simpa using hsz)
          clear h6 h9 h10 h5 hb
          go_wp2
          go_roundw
          case rel => exact ⟨q + 1, l.set q 1000, by go_num, by omega, by simpa using hll, HO.out.1, HO.out.2.1, HO.out.2.2.1, HO.out.2.2.2.1, HO.out.2.2.2.2, HSZ.out⟩
          case measure => simp [intOf]; omega
        · obtain rfl : q = p.length := by omega
          have hcl := closedN_len p
          have sz := hb.size
          have R9 := Rd.of_own h9
          have R10 := Rd.of_own h10
          have HH := Lib.hid (And.intro h5 hb)
          clear h6 h9 h10 h5 hb
          go_wp2_with fail
          refine (rSameInts A9 A10 (closedN p).length (closedN p).length c9 c10 (closedN p) (closedN p) wr (by omega) (by omega) wr.heap.size (Nat.le_refl _) R9 R10).mono ?_
          rw [decide_eq_true rfl]
          rintro e w13 ⟨rfl, hb13⟩
          have s13 := hb13.size
          have B13 := HH.out.2.trans (hb13.mono sz)
          have r5 := HH.out.1.below' hb13 (by omega)
          clear hb13
          go_wp2_with fail
          refine (rSameInts A5 A p.length p.length c5 c p p w13 hl hl w13.heap.size (Nat.le_refl _) (r5.more (by omega)) ((hr.below B13).more (by omega))).mono ?_
          rw [decide_eq_true rfl]
          rintro e w14 ⟨rfl, hb14⟩
          have s14 := hb14.size
          have B14 := B13.trans (hb14.mono (by omega))
          clear hb14
          go_wp2_with fail
          refine (known _).mono ?_
          rintro e w15 ⟨rfl, hb15⟩
          go_wp2
          go_ret
          exact ⟨rfl, B14.trans (hb15.mono (by omega))⟩
    · have hd0 : (vald p != 0) = true := by simpa using h0
      clear h0
      go_wp2_with fail
      refine (known _).mono ?_
      rintro e w9 ⟨rfl, hb9⟩
      go_wp2
      go_ret
      exact ⟨rfl, B8.trans (hb9.mono (by omega))⟩
end Go.Proofs.Ytnoocdannfeidaa
