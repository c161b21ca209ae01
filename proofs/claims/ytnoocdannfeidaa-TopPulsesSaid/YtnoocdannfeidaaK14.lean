/-
  MERGED: W29, W30, LAreas, LBacks.
-/
import Derived.Test.YtnoocdannfeidaaK13
import Derived.BigRegion
import Derived.ChangeAlike
import Derived.Test.YtnoocdannfeidaaK1
import Derived.Test.YtnoocdannfeidaaK11
/-
  WALK: Reverse of ints; Back of the program.
-/
namespace Go.Proofs.Ytnoocdannfeidaa
open Go.RowKit Pulse

theorem own_frozen {w : World} {base g n c sz : Nat} {e : TypeId} {xs : List Value} (h : w.ownsRow base e sz (.slice (some ⟨g, 0, none⟩) n c) n xs) (i : Nat) : w.frozen? ⟨g, i, none⟩ = false := by
  obtain ⟨h1, h2⟩ := h
  rcases h2 with ⟨h2, _⟩ | ⟨g', cap, cur, hv, hg, hh, _⟩
  · cases h2
  · injection hv with a b d
    injection a with a
    injection a with a
    subst a
    exact blk_frozen hh i
theorem own_int {w : World} {base g n c : Nat} {l : List Int} (h : w.ownsRow base 3 1 (.slice (some ⟨g, 0, none⟩) n c) n (ints l)) {i : Nat} (hi : i < l.length) : w.cell? ⟨g, i, none⟩ = some (.int .i64 l[i]) := by
  have h1 := h.1
  simp at h1
  exact (h.cellAt i (by simp; omega)).trans (by simp [hi])
theorem own_seti {w : World} {base g n c i : Nat} {l : List Int} (h : w.ownsRow base 3 1 (.slice (some ⟨g, 0, none⟩) n c) n (ints l)) (x : Int) : (w.setCell ⟨g, i, none⟩ (.int .i64 x)).ownsRow base 3 1 (.slice (some ⟨g, 0, none⟩) n c) n (ints (l.set i x)) := by
  have := own_set (j := i) h (.int .i64 x)
  rwa [show (ints l).set i (.int .i64 x) = ints (l.set i x) by simp [ints, List.map_set]] at this
/-- The first q and the last q turned around. -/
def RevTo (l m : List Int) (q : Nat) : Prop := m.length = l.length ∧ ∀ j, j < l.length → m.getD j 0 = if j < q ∨ l.length - q ≤ j then l.getD (l.length - 1 - j) 0 else l.getD j 0
theorem revTo_zero (l : List Int) : RevTo l l 0 := ⟨rfl, fun j hj => by rw [if_neg (by omega)]⟩
theorem getD_set (m : List Int) (i j : Nat) (x : Int) (hi : i < m.length) : (m.set i x).getD j 0 = if i = j then x else m.getD j 0 := by
  simp only [List.getD_eq_getElem?_getD, List.getElem?_set]
  split
  · simp [hi]
  · rfl
theorem revTo_succ {l m : List Int} {q : Nat} (h : RevTo l m q) (hq : q + q + 1 < l.length) (x y : Int) (hx : x = m.getD (l.length - 1 - q) 0) (hy : y = m.getD q 0) : RevTo l ((m.set q x).set (l.length - 1 - q) y) (q + 1) := by
  obtain ⟨h1, h2⟩ := h
  refine ⟨by simpa using h1, fun j hj => ?_⟩
  rw [getD_set _ _ _ _ (by simp; omega), getD_set _ _ _ _ (by omega)]
  have e1 := h2 q (by omega)
  have e2 := h2 (l.length - 1 - q) (by omega)
  rw [if_neg (by omega)] at e1 e2
  by_cases a : l.length - 1 - q = j
  · subst a
    rw [if_pos rfl, if_pos (by omega), hy, e1]
    congr 1
    omega
  · rw [if_neg a]
    by_cases b : q = j
    · subst b
      rw [if_pos rfl, if_pos (by omega), hx, e2]
    · rw [if_neg b, h2 j hj]
      by_cases c : j < q ∨ l.length - q ≤ j
      · rw [if_pos c, if_pos (by omega)]
      · rw [if_neg c, if_neg (by omega)]
theorem revTo_end {l m : List Int} {q : Nat} (h : RevTo l m q) (hq : l.length ≤ q + q + 1) : m = l.reverse := by
  obtain ⟨h1, h2⟩ := h
  refine List.ext_getElem (by simpa using h1) fun j hj hj' => ?_
  have := h2 j (by omega)
  rw [List.getElem_reverse]
  have e1 : m.getD j 0 = m[j] := by simp [hj]
  have e2 : l.getD (l.length - 1 - j) 0 = l[l.length - 1 - j]'(by omega) := by simp [show l.length - 1 - j < l.length by omega]
  rw [e1] at this
  rw [this]
  by_cases c : j < q ∨ l.length - q ≤ j
  · rw [if_pos c, e2]
  · rw [if_neg c]
    have : j = l.length - 1 - j := by omega
    rw [← e2, ← this]

set_option maxRecDepth 100000 in
set_option maxHeartbeats 2000000 in
theorem pReverse (A : Option Addr) (c : Nat) (l : List Int) (w : World) (hl : l.length ≤ 1000) (base : Nat) (hB : base ≤ w.heap.size) (hown : w.ownsRow base 3 1 (.slice A l.length c) l.length (ints l)) :
    Calls Try.prog 82 #[.slice A l.length c] w fun e w' => (∃ v, e = .returned v) ∧ w'.ownsRow base 3 1 (.slice A l.length c) l.length (ints l.reverse) ∧ Below base w w' := by
  go_enter Try.func82, Try.ntmps82
  go_wp2
  go_loopw [2, 3] (fun a b wr => ∃ (q : Nat) (m : List Int), a = .int .i64 q ∧ b = .int .i64 ((l.length : Int) - 1 - q) ∧ q + q ≤ l.length ∧ m.length = l.length ∧ Hid (RevTo l m q) ∧ wr.ownsRow base 3 1 (.slice A l.length c) l.length (ints m) ∧ Below base w wr) (fun a _ _ => l.length - (intOf a).toNat)
  case atStart => exact ⟨0, l, rfl, by go_num, by omega, rfl, revTo_zero l, hown, Below.refl _ _⟩
  case round =>
    clear hown
    obtain ⟨q, m, rfl, rfl, hq, hml, HT, hown, hb⟩ := hrel
    by_cases hlt : q + q + 1 < l.length
    · obtain ⟨g, cap, hv, hg1, hg2⟩ := hown.form (by omega)
      simp only [Value.slice.injEq, true_and] at hv
      obtain ⟨rfl, rfl⟩ := hv
      obtain ⟨r, hr⟩ : ∃ r : Nat, r = l.length - 1 - q := ⟨_, rfl⟩
      rw [show (l.length : Int) - 1 - q = (r : Int) by omega]
      have hqr : q < r := by omega
      have hrl : r < l.length := by omega
      have c1 := own_int hown (i := q) (by omega)
      have c2 := own_int hown (i := r) (by omega)
      have f1 := own_frozen hown q
      have f2 := own_frozen hown r
      have HS := Lib.hid (revTo_succ HT.out hlt m[r] m[q] (by rw [← hr]; simp [show r < m.length by omega]) (by simp [show q < m.length by omega]))
      rw [← hr] at HS
      have HO := Lib.hid (own_seti (i := r) (own_seti (i := q) hown m[r]) m[q])
      have HB := Lib.hid ((hb.setCell (p := ⟨g, q, none⟩) hg1 (.int .i64 m[r])).setCell (p := ⟨g, r, none⟩) hg1 (.int .i64 m[q]))
      have HR := Lib.hid hr
      have HML := Lib.hid hml
      clear hown hb HT
      generalize m[q] = x at *
      generalize m[r] = y at *
      clear hr
      have d1 : decide ((q : Int) < (r : Int)) = true := by simp; omega
      have n1 : ¬ q = r := by omega
      go_wp2
      go_region
      go_wp2
      go_roundw
      case rel => exact ⟨q + 1, (m.set q y).set r x, by go_num, by have := HR.out; go_num, by omega, by simpa using HML.out, HS.out, HO.out, HB.out.drew⟩
      case measure => simp [intOf]; omega
    · have d1 : decide ((q : Int) < (l.length : Int) - 1 - q) = false := by simp; omega
      have HM := Lib.hid (revTo_end HT.out (by omega))
      have HO := Lib.hid hown
      clear hown
      go_wp2
      go_end0
      exact ⟨⟨_, rfl⟩, by rw [← HM.out]; exact HO.out, hb⟩
end Go.Proofs.Ytnoocdannfeidaa

/-
  WALK: Back of the program.
-/
namespace Go.Proofs.Ytnoocdannfeidaa
open Go.RowKit Pulse

set_option maxHeartbeats 1000000 in
theorem pBack (A : Option Addr) (k c : Nat) (p : List Int) (w : World) (hl : p.length ≤ 1000) (B : Nat) (hB : B ≤ w.heap.size) (hr : Rd w B 1 A k (ints p)) :
    Calls Try.prog 43 #[.slice A k c] w fun e w' => ∃ v, e = .returned (.tuple #[v, .int .i64 (vald p)]) ∧ w'.ownsRow w.heap.size 3 1 v (backL p).length (ints (backL p)) ∧ Below w.heap.size w w' := by
  obtain rfl := hr.int_len
  have H := Lib.hid (pValidate A p.length c p w hl B hB hr)
  have HL := Lib.hid (show backL p = if vald p = 0 then p.reverse else [] from rfl)
  by_cases h : vald p = 0
  · have HV := Lib.hid h
    rw [h] at H
    rw [if_pos h] at HL
    clear h
    go_enter Try.func43, Try.ntmps43
    go_wp2_with fail
    refine H.out.mono ?_
    rintro e w1 ⟨rfl, hb1⟩
    have s1 := hb1.size
    go_wp2_with fail
    refine (pClone A p.length c p w1 hl B (by omega) (hr.below' hb1 hB)).mono ?_
    rintro e w2 ⟨v2, rfl, hown2, hb2⟩
    obtain ⟨A2, c2, rfl, _, _⟩ := own_cap hown2
    have B2 := hb1.trans (hb2.mono s1)
    have s2 := B2.size
    have hown2 := own_base hown2 s1
    have HO := Lib.hid hown2
    clear hown2 hb1 hb2
    go_wp2_with fail
    refine (pReverse A2 c2 p w2 hl w.heap.size s2 HO.out).mono ?_
    rintro e w3 ⟨⟨v3, rfl⟩, hown3, hb3⟩
    go_wp2
    go_ret2
    exact ⟨_, ret_two rfl (by rw [HV.out]; rfl), by rw [HL.out, List.length_reverse]; exact hown3, B2.trans hb3⟩
  · have hd : (vald p != 0) = true := by simpa using h
    rw [if_neg h] at HL
    clear h
    go_enter Try.func43, Try.ntmps43
    go_wp2_with fail
    refine H.out.mono ?_
    rintro e w1 ⟨rfl, hb1⟩
    go_wp2
    go_ret2
    exact ⟨_, ret_two rfl rfl, by rw [HL.out]; exact World.ownsRow_nil .., hb1⟩
end Go.Proofs.Ytnoocdannfeidaa

/-
  THE WALK of the law PulseAreas.
-/
namespace Go.Proofs.Ytnoocdannfeidaa
open Go.RowKit Pulse

theorem areaN_opp {p : List Int} {m : Int} (h : moded p m = 0) : moded p (-m % 4) = 0 ∧ areaN p (-m % 4) = - areaN p m := by
  obtain ⟨h1, h2, h3⟩ := moded_ok h
  have hm : moded p (-m % 4) = 0 := by
    rw [moded, if_pos h1, if_pos]
    rw [isMode, Bool.and_eq_true, decide_eq_true_eq, decide_eq_true_eq]
    omega
  refine ⟨hm, ?_⟩
  rw [areaN, if_pos hm, areaN, if_pos h]
  exact areaL_conj m.toNat _ (by omega) p
theorem areaN_bd {p : List Int} {m : Int} : -200000000 ≤ areaN p m ∧ areaN p m ≤ 200000000 := by
  unfold areaN
  split
  · rename_i h
    obtain ⟨h1, h2, h3⟩ := moded_ok h
    obtain ⟨h4, h5⟩ := vald_ok h1
    have := area_bd h4 h5 p.length (Nat.le_refl _) (m := m)
    rwa [List.take_length] at this
  · omega

set_option maxHeartbeats 2000000 in
theorem lawAreas (A : Option Addr) (k c : Nat) (p : List Int) (m : Int) (w : World) (hk : k ≤ c) (hc : c ≤ maxLen) (hr : Rd w w.heap.size 1 A k (ints p)) (_ : Big p) (hm : I64 m) :
    Calls Try.prog 3 #[.slice A k c, .int .i64 m] w fun e w' => e = .returned (.bool true) ∧ Below w.heap.size w w' := by
  have hkm : k ≤ maxLen := Nat.le_trans hk hc
  obtain rfl := hr.int_len
  obtain ⟨hm1, hm2⟩ := hm
  by_cases hL : 100 < p.length
  · have hd : decide (100 < p.length) = true := by simpa using hL
    go_enter Try.func3, Try.ntmps3
    go_wp2_with fail
    refine (long _ _ _ _ hkm).mono ?_
    rw [hd]
    rintro e w1 ⟨rfl, rfl⟩
    go_wp2_with fail
    refine (known _).mono ?_
    rintro e w2 ⟨rfl, hb2⟩
    go_wp2
    go_ret
    exact ⟨rfl, hb2⟩
  · have hd : decide (100 < p.length) = false := by simpa using hL
    have hl : p.length ≤ 1000 := by omega
    have HO := Lib.hid (fun h => areaN_opp (p := p) (m := m) h)
    have hbd := areaN_bd (p := p) (m := m)
    go_enter Try.func3, Try.ntmps3
    go_wp2_with fail
    refine (long _ _ _ _ hkm).mono ?_
    rw [hd]
    rintro e w1 ⟨rfl, rfl⟩
    go_wp2_with fail
    refine (pAreaF A p.length c p m w hl w.heap.size (Nat.le_refl _) hr).mono ?_
    rintro e w1 ⟨rfl, hb1⟩
    have s1 := hb1.size
    go_wp2_with fail
    refine (rAreaF A p.length c p m w1 hl w.heap.size s1 (hr.below hb1)).mono ?_
    rintro e w2 ⟨rfl, hb2⟩
    have B2 := hb1.trans (hb2.mono s1)
    have s2 := B2.size
    clear hb1 hb2
    go_wp2_with fail
    refine (pSumF A p.length c p m w2 hl w.heap.size s2 (hr.below B2)).mono ?_
    rintro e w3 ⟨rfl, hb3⟩
    have B3 := B2.trans (hb3.mono s2)
    have s3 := B3.size
    clear hb3
    obtain ⟨u, hu⟩ : ∃ u, u = sumV p m := ⟨_, rfl⟩
    rw [← hu]
    have HU := Lib.hid hu
    clear hu
    have B3' := B3.alloc s3 (.cells #[.int .i64 u.x, .int .i64 u.y] 29)
    have HN := Lib.hid (blk_new w3 29 #[.int .i64 u.x, .int .i64 u.y])
    go_wp2_with fail
    refine (rSumF A p.length c p m (w3.alloc (.cells #[.int .i64 u.x, .int .i64 u.y] 29)) hl w.heap.size (by simp; omega) (hr.below B3')).mono ?_
    rw [← HU.out]
    rintro e w4 ⟨rfl, hb4⟩
    have s4 := hb4.size
    rw [World.size_alloc] at s4
    have B4 := B3'.trans (hb4.mono (by simp; omega))
    have n4 := blk_below HN.out hb4 (by simp)
    have z1 := blk_alloc n4 (.cells #[.int .i64 u.x, .int .i64 u.y] 29)
    have z2 := blk_new w4 29 #[.int .i64 u.x, .int .i64 u.y]
    have B5 := B4.alloc B4.size (.cells #[.int .i64 u.x, .int .i64 u.y] 29)
    have c1 : (w4.alloc (.cells #[.int .i64 u.x, .int .i64 u.y] 29)).cell? ⟨w3.heap.size, 0, none⟩ = some (.int .i64 u.x) := blk_cell z1 0
    have c2 : (w4.alloc (.cells #[.int .i64 u.x, .int .i64 u.y] 29)).cell? ⟨w3.heap.size, 1, none⟩ = some (.int .i64 u.y) := blk_cell z1 1
    have e1 : w4.cell? ⟨w3.heap.size, 0, none⟩ = some (.int .i64 u.x) := blk_cell n4 0
    have e2 : w4.cell? ⟨w3.heap.size, 1, none⟩ = some (.int .i64 u.y) := blk_cell n4 1
    have L3 : w3.heap.size < w4.heap.size := by omega
    have HB5 := Lib.hid B5
    have sz5 := B5.size
    clear hb4 n4 z1 z2 B5 B4 B3' B3 B2
    by_cases h0 : moded p m = 0
    · obtain ⟨o1, o2⟩ := HO.out h0
      obtain ⟨_, g1, g2⟩ := moded_ok h0
      have HM := Lib.hid h0
      rw [h0]
      clear h0
      have HA := Lib.hid (pAreaF A p.length c p (-m % 4) (w4.alloc (.cells #[.int .i64 u.x, .int .i64 u.y] 29)) hl w.heap.size sz5 (hr.below HB5.out))
      rw [o1, o2] at HA
      clear o1 o2
      generalize areaN p m = a at *
      go_wp2_with fail
      refine HA.out.mono ?_
      rintro e w5 ⟨rfl, hb5⟩
      go_wp2_with fail
      refine (known _).mono ?_
      rintro e w6 ⟨rfl, hb6⟩
      go_wp2
      go_ret
      exact ⟨rfl, HB5.out.trans ((hb5.mono sz5).trans (hb6.mono (by have := hb5.size; omega)))⟩
    · have hd0 : (moded p m != 0) = true := by simpa using h0
      have hd1 : (moded p m == 0) = false := by simpa using h0
      clear h0 HO
      go_wp2_with fail
      refine (known _).mono ?_
      rintro e w6 ⟨rfl, hb6⟩
      go_wp2
      go_ret
      exact ⟨rfl, HB5.out.trans (hb6.mono sz5)⟩
end Go.Proofs.Ytnoocdannfeidaa

/-
  THE WALK of the law PulseBacks.
-/
namespace Go.Proofs.Ytnoocdannfeidaa
open Go.RowKit Pulse

theorem vald_reverse (p : List Int) : vald p.reverse = vald p := by
  rw [vald, vald, List.length_reverse, List.all_reverse]
theorem moded_reverse (p : List Int) (m : Int) : moded p.reverse m = moded p m := by rw [moded, moded, vald_reverse]
theorem v_zero {u : V} : (decide (u.x = 0) && decide (u.y = 0)) = decide (u = V.zero) := by
  by_cases h : u = V.zero
  · subst h; rfl
  · rw [decide_eq_false h]
    by_cases hx : u.x = 0
    · have hy : ¬ u.y = 0 := fun hy => h (by ext; exact hx; exact hy)
      simp [hx, hy]
    · simp [hx]
theorem away_eq (p : List Int) (m : Int) : away p m = !decide (endL m.toNat p = V.zero) := by rw [away, v_zero]
theorem away_congr {p q : List Int} {m : Int} (h : endL m.toNat p = V.zero ↔ endL m.toNat q = V.zero) : away p m = away q m := by
  rw [away_eq, away_eq]
  congr 1
  exact decide_eq_decide.2 h
theorem clTo_congr {p q : List Int} (h : ∀ m : Int, away p m = away q m) (k : Nat) : clTo p k = clTo q k := by
  induction k with
  | zero => rfl
  | succ k ih => rw [clTo, clTo, ih, h]
theorem closedN_reverse (p : List Int) : closedN p.reverse = closedN p := by
  rw [closedN, closedN, vald_reverse, clTo_congr fun m => away_congr (endL_reverse_zero m.toNat p)]
theorem areaN_reverse (p : List Int) (m : Int) : areaN p.reverse m = areaN p m := by
  rw [areaN, areaN, moded_reverse, areaL_reverse]
theorem closedN_len (p : List Int) : (closedN p).length ≤ 4 := by
  unfold closedN
  split
  · exact clTo_len p 4
  · exact Nat.zero_le _

set_option maxRecDepth 100000 in
set_option maxHeartbeats 4000000 in
theorem lawBacks (A : Option Addr) (k c : Nat) (p : List Int) (m : Int) (w : World) (hk : k ≤ c) (hc : c ≤ maxLen) (hr : Rd w w.heap.size 1 A k (ints p)) (_ : Big p) (_ : I64 m) :
    Calls Try.prog 10 #[.slice A k c, .int .i64 m] w fun e w' => e = .returned (.bool true) ∧ Below w.heap.size w w' := by
  have hkm : k ≤ maxLen := Nat.le_trans hk hc
  obtain rfl := hr.int_len
  by_cases hL : 100 < p.length
  · have hd : decide (100 < p.length) = true := by simpa using hL
    go_enter Try.func10, Try.ntmps10
    go_wp2_with fail
    refine (long _ _ _ _ hkm).mono ?_
    rw [hd]
    rintro e w1 ⟨rfl, rfl⟩
    go_wp2_with fail
    refine (known _).mono ?_
    rintro e w2 ⟨rfl, hb2⟩
    go_wp2
    go_ret
    exact ⟨rfl, hb2⟩
  · have hd : decide (100 < p.length) = false := by simpa using hL
    have hl : p.length ≤ 1000 := by omega
    have HO := Lib.hid (show (w.alloc (.cells #[] 3)).ownsRow w.heap.size 3 1 (.slice (some ⟨w.heap.size, 0, none⟩) 0 0) 0 [] from own_empty (blk_new w 3 #[]) (Nat.le_refl _))
    have HB := Lib.hid ((Below.refl w.heap.size w).alloc (Nat.le_refl _) (.cells #[] 3))
    have HR := hr.alloc (Nat.le_refl _) (.cells #[] 3)
    have HBL := Lib.hid (show backL p = if vald p = 0 then p.reverse else [] from rfl)
    have hbl : (backL p).length ≤ 1000 := by unfold backL; split <;> simp; omega
    go_enter Try.func10, Try.ntmps10
    go_wp2_with fail
    refine (long _ _ _ _ hkm).mono ?_
    rw [hd]
    rintro e w1 ⟨rfl, rfl⟩
    clear hL
    go_wp2_with (at_builtin; go_must (refine appN rfl (.tmp 22) (.tmp 23) 22 rfl 3 _ 1 8 E22 w.heap.size _ _ _ rfl HO.out w.heap.size A p.length c (ints p) rfl HR (ints_one _) (by omega) (by simp) ?_); intro v5 w5 hown5 hg5)
    have B5 := below_own HB.out (by simp) HO.out (Nat.le_refl _) hg5
    rw [Nat.zero_add, List.nil_append] at hown5
    obtain ⟨A5, c5, rfl, _, _⟩ := own_cap hown5
    have r5 := Rd.of_own hown5
    have s5 := B5.size
    clear hg5 hown5
    go_wp2_with fail
    refine (pBack A5 p.length c5 p w5 hl w5.heap.size (Nat.le_refl _) r5).mono ?_
    rintro e w6 ⟨v6, rfl, hown6, hb6⟩
    obtain ⟨A6, c6, rfl, _, _⟩ := own_cap hown6
    have B6 := B5.trans (hb6.mono s5)
    have s6 := hb6.size
    have r5 := r5.below hb6
    go_wp2_with fail
    refine (rBack A p.length c p w6 hl w.heap.size (by omega) (hr.below B6)).mono ?_
    rintro e w7 ⟨v7, rfl, hown7, hb7⟩
    obtain ⟨A7, c7, rfl, _, _⟩ := own_cap hown7
    have hown6 := own_below hown6 hb7
    have r5 := r5.below' hb7 s6
    have B7 := B6.trans (hb7.mono (by omega))
    have s7 := hb7.size
    have r7 := Rd.of_own hown7
    clear hown7 hb6 hb7 B5 B6 HO HB
    go_wp2_with fail
    refine (rSameInts A6 A7 (backL p).length (backL p).length c6 c7 (backL p) (backL p) w7 hbl hbl w7.heap.size (Nat.le_refl _) (Rd.of_own hown6) r7).mono ?_
    rw [decide_eq_true rfl]
    rintro e w8 ⟨rfl, hb8⟩
    have hown6 := own_below hown6 hb8
    have r5 := r5.below' hb8 (by omega)
    have B8 := B7.trans (hb8.mono (by omega))
    have s8 := hb8.size
    clear r7 hb8 B7
    by_cases h0 : vald p = 0
    · have HV := Lib.hid h0
      have hbr : backL p = p.reverse := by rw [HBL.out, if_pos h0]
      rw [hbr] at hown6 hbl
      rw [hbr, h0]
      have hml : p.reverse.length = p.length := List.length_reverse
      rw [hml] at hown6
      rw [hml]
      have HML := Lib.hid hml
      have b6 : ∀ g, (Value.slice A6 p.length c6).ownBlock = some g → g < w8.heap.size := fun g hg => (hown6.lt g hg).2
      clear h0 hbr hml
      go_wp2_with fail
      refine (pClosed A6 p.length c6 p.reverse w8 (by simpa using hl) w8.heap.size (Nat.le_refl _) (by have := Rd.of_own hown6; exact this)).mono ?_
      rw [closedN_reverse, vald_reverse, HV.out]
      rintro e w9 ⟨v9, rfl, hown9, hb9⟩
      obtain ⟨A9, c9, rfl, _, _⟩ := own_cap hown9
      have hown6 := own_below hown6 hb9
      have r5 := r5.below' hb9 (by omega)
      have B9 := B8.trans (hb9.mono (by omega))
      have s9 := hb9.size
      clear hb9 B8
      go_wp2_with fail
      refine (pClosed A p.length c p w9 hl w.heap.size (by omega) (hr.below B9)).mono ?_
      rw [HV.out]
      rintro e w10 ⟨v10, rfl, hown10, hb10⟩
      obtain ⟨A10, c10, rfl, _, _⟩ := own_cap hown10
      have hown6 := own_below hown6 hb10
      have hown9 := own_below hown9 hb10
      have r5 := r5.below' hb10 (by omega)
      have B10 := B9.trans (hb10.mono (by omega))
      have s10 := hb10.size
      clear hb10 B9
      go_wp2_with fail
      refine (pAreaF A6 p.length c6 p.reverse m w10 (by simpa using hl) w10.heap.size (Nat.le_refl _) (by have := Rd.of_own hown6; exact this)).mono ?_
      rw [areaN_reverse, moded_reverse]
      rintro e w11 ⟨rfl, hb11⟩
      have hown6 := own_below hown6 hb11
      have hown9 := own_below hown9 hb11
      have hown10 := own_below hown10 hb11
      have r5 := r5.below' hb11 (by omega)
      have B11 := B10.trans (hb11.mono (by omega))
      have s11 := hb11.size
      clear hb11 B10
      go_wp2_with fail
      refine (pAreaF A p.length c p m w11 hl w.heap.size (by omega) (hr.below B11)).mono ?_
      rintro e w12 ⟨rfl, hb12⟩
      have hown6 := own_below hown6 hb12
      have hown9 := own_below hown9 hb12
      have hown10 := own_below hown10 hb12
      have r5 := r5.below' hb12 (by omega)
      have B12 := B11.trans (hb12.mono (by omega))
      have s12 := hb12.size
      clear hb12 B11
      generalize areaN p m = a at *
      generalize moded p m = e at *
      go_wp2
      go_loopw [18] (fun i wr => ∃ (q : Nat) (l : List Int), i = .int .i64 q ∧ q ≤ p.length ∧ l.length = p.length ∧ wr.ownsRow w5.heap.size 3 1 (.slice A6 p.length c6) p.length (ints l) ∧ wr.ownsRow w8.heap.size 3 1 (.slice A9 (closedN p).length c9) (closedN p).length (ints (closedN p)) ∧ wr.ownsRow w9.heap.size 3 1 (.slice A10 (closedN p).length c10) (closedN p).length (ints (closedN p)) ∧ Rd wr w5.heap.size 1 A5 p.length (ints p) ∧ Below w.heap.size w wr ∧ w12.heap.size ≤ wr.heap.size) (fun i _ => p.length - (intOf i).toNat)
      case atStart => exact ⟨0, p.reverse, rfl, Nat.zero_le _, HML.out, hown6, hown9, hown10, r5, B12, Nat.le_refl _⟩
      case round =>
        clear hown6 hown9 hown10 r5 B12
        obtain ⟨q, l, rfl, hq, hll, h6, h9, h10, h5, hb, hsz⟩ := hrel
        by_cases hlt : q < p.length
        · obtain ⟨g, cap, hv, hg1, hg2⟩ := h6.form (by omega)
          simp only [Value.slice.injEq, true_and] at hv
          obtain ⟨rfl, rfl⟩ := hv
          have hg8 := b6 g rfl
          have k1 := own_int h6 (i := q) (by omega)
          have f1 := own_frozen h6 q
          have HO := Lib.hid (And.intro (own_seti (i := q) h6 1000) (And.intro (own_set_far (p := ⟨g, q, none⟩) h9 hg8 (.int .i64 1000)) (And.intro (own_set_far (p := ⟨g, q, none⟩) h10 (by simp only []; omega) (.int .i64 1000)) (And.intro (h5.setCell (p := ⟨g, q, none⟩) hg1 (.int .i64 1000)) (hb.setCell (p := ⟨g, q, none⟩) (by simp only []; omega) (.int .i64 1000)))))) 
          have HSZ := Lib.hid (show w12.heap.size ≤ (wr.setCell ⟨g, q, none⟩ (.int .i64 1000)).heap.size by simpa using hsz)
          clear h6 h9 h10 h5 hb
          go_wp2
          go_roundw
          case rel => exact ⟨q + 1, l.set q 1000, by go_num, by omega, by simpa using hll, HO.out.1, HO.out.2.1, HO.out.2.2.1, HO.out.2.2.2.1, HO.out.2.2.2.2, HSZ.out⟩
          case measure => simp [intOf]; omega
        · obtain rfl : q = p.length := by omega
          have hcl := closedN_len p
          have sz := hb.size
          have R9 := Rd.of_own h9
          have R10 := Rd.of_own h10
          have HH := Lib.hid (And.intro h5 hb)
          clear h6 h9 h10 h5 hb
          go_wp2_with fail
          refine (rSameInts A9 A10 (closedN p).length (closedN p).length c9 c10 (closedN p) (closedN p) wr (by omega) (by omega) wr.heap.size (Nat.le_refl _) R9 R10).mono ?_
          rw [decide_eq_true rfl]
          rintro e w13 ⟨rfl, hb13⟩
          have s13 := hb13.size
          have B13 := HH.out.2.trans (hb13.mono sz)
          have r5 := HH.out.1.below' hb13 (by omega)
          clear hb13
          go_wp2_with fail
          refine (rSameInts A5 A p.length p.length c5 c p p w13 hl hl w13.heap.size (Nat.le_refl _) (r5.more (by omega)) ((hr.below B13).more (by omega))).mono ?_
          rw [decide_eq_true rfl]
          rintro e w14 ⟨rfl, hb14⟩
          have s14 := hb14.size
          have B14 := B13.trans (hb14.mono (by omega))
          clear hb14
          go_wp2_with fail
          refine (known _).mono ?_
          rintro e w15 ⟨rfl, hb15⟩
          go_wp2
          go_ret
          exact ⟨rfl, B14.trans (hb15.mono (by omega))⟩
    · have hd0 : (vald p != 0) = true := by simpa using h0
      clear h0
      go_wp2_with fail
      refine (known _).mono ?_
      rintro e w9 ⟨rfl, hb9⟩
      go_wp2
      go_ret
      exact ⟨rfl, B8.trans (hb9.mono (by omega))⟩
end Go.Proofs.Ytnoocdannfeidaa
