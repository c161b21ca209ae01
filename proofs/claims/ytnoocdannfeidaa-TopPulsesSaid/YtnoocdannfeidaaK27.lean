/-
  MERGED: LFinds, W38, LTopP.
-/
import Derived.Test.YtnoocdannfeidaaK1
import Derived.Test.YtnoocdannfeidaaK23
import Derived.Test.YtnoocdannfeidaaK26
import Derived.Test.YtnoocdannfeidaaK21
import Derived.Test.YtnoocdannfeidaaK14
import Derived.Test.YtnoocdannfeidaaK16
import Derived.Test.YtnoocdannfeidaaK20
/-
  THE WALK of the law PulseFinds.
-/
namespace Go.Proofs.Ytnoocdannfeidaa
open Go.RowKit Pulse

theorem find_has (ms : List Int) (n f a : Int) : findIs ms n f a = hasB (areasL ms n f) a := by
  by_cases h : srchE ms n f = 0
  · obtain ⟨h1, n1, n2, h2, h3⟩ := srchE_ok h
    have e : (findIs ms n f a = true) ↔ (hasB (areasL ms n f) a = true) := by
      rw [findIs, findO, if_pos h, areasL, if_pos h, hasB_iff, mem_areasTo, List.find?_isSome, hasA, List.any_eq_true]
      constructor
      · rintro ⟨p, hp, hq⟩
        have hA : hasA ms f.toNat n.toNat a = true := by rw [hasA, List.any_eq_true]; exact ⟨p, hp, hq⟩
        have := hasA_bd (by omega) (by omega) hA
        exact ⟨⟨(a + 1000).toNat, by omega, by omega⟩, p, hp, hq⟩
      · exact fun h => h.2
    rw [Bool.eq_iff_iff]; exact e
  · rw [findIs, findO, if_neg h, areasL, if_neg h]; rfl
theorem find_ok {ms : List Int} {n f a : Int} (h : findIs ms n f a = true) : (findL ms n f a).length = n ∧ chkE (findL ms n f a) ms a = 0 ∧ Forces f (findL ms n f a) ∧ srchE ms n f = 0 := by
  by_cases hs : srchE ms n f = 0
  · obtain ⟨h1, n1, n2, h2, h3⟩ := srchE_ok hs
    unfold findL
    rw [findIs, findO, if_pos hs] at h
    rw [findO, if_pos hs]
    obtain ⟨p, hp⟩ := Option.isSome_iff_exists.1 h
    rw [hp]
    have hm := mem_allP.1 (List.mem_of_find?_eq_some hp)
    have hk := List.find?_some hp
    rw [okP, Bool.and_eq_true, beq_iff_eq] at hk
    have hF : Forces f p := fun g hg => by have := hm.2 g hg; omega
    refine ⟨by show (p.length : Int) = n; rw [hm.1]; omega, ?_, hF, hs⟩
    have hv : vald p = 0 := by
      rw [vald, if_neg (by rw [hm.1]; omega), if_pos]
      rw [List.all_eq_true]
      intro g hg
      have := hF g hg
      simp [isF]; omega
    show chkE p ms a = 0
    have hne := (areModes_ok h1).1
    simp [chkE, hv, h1, hk.1]
    rw [← hk.2]
    simp [hd0, hne]
  · rw [findIs, findO, if_neg hs] at h
    exact absurd h (by decide)
theorem find_none {ms : List Int} {n f a : Int} (h : findIs ms n f a = false) : findL ms n f a = [] := by
  rw [findIs, Option.isSome_eq_false_iff, Option.isNone_iff_eq_none] at h
  rw [findL, h]; rfl

set_option maxRecDepth 100000 in
set_option maxHeartbeats 4000000 in
theorem lawFinds (A : Option Addr) (k c : Nat) (ms : List Int) (x n f : Int) (w : World) (hk : k ≤ c) (hc : c ≤ maxLen) (hr : Rd w w.heap.size 1 A k (ints ms)) (_ : Big ms) (_ : I64 x) (_ : I64 n) (_ : I64 f) :
    Calls Try.prog 9 #[.slice A k c, .int .i64 x, .agg #[.int .i64 n, .int .i64 f]] w fun e w' => e = .returned (.bool true) ∧ Below w.heap.size w w' := by
  have hkm : k ≤ maxLen := Nat.le_trans hk hc
  obtain rfl := hr.int_len
  have HN0 := Lib.hid (blk_new w 50 #[.int .i64 n, .int .i64 f])
  have HB0 := Lib.hid ((Below.refl w.heap.size w).alloc (Nat.le_refl _) (.cells #[.int .i64 n, .int .i64 f] 50))
  have s0 : (w.alloc (.cells #[.int .i64 n, .int .i64 f] 50)).heap.size = w.heap.size + 1 := by simp
  by_cases hL : 100 < ms.length
  · have hd : decide (100 < ms.length) = true := by simpa using hL
    go_enter Try.func9, Try.ntmps9
    go_wp2_with fail
    refine (long _ _ _ _ hkm).mono ?_
    rw [hd]
    rintro e w1 ⟨rfl, rfl⟩
    go_wp2_with fail
    refine (known _).mono ?_
    rintro e w2 ⟨rfl, hb2⟩
    go_wp2
    go_ret
    exact ⟨rfl, HB0.out.trans (hb2.mono (by omega))⟩
  · have hd : decide (100 < ms.length) = false := by simpa using hL
    have hl : ms.length ≤ 1000 := by omega
    have hal := areasL_len ms n f
    have HFO := Lib.hid (fun h => find_ok (ms := ms) (n := n) (f := f) (a := x) h)
    have HFN := Lib.hid (fun h => find_none (ms := ms) (n := n) (f := f) (a := x) h)
    have HSE := Lib.hid (fun h => srchE_ok (ms := ms) (n := n) (f := f) h)
    have HFH := Lib.hid (find_has ms n f x)
    have H1 := Lib.hid (fun w1 B hB h => pFind A ms.length c ms x n f w1 hl B hB h)
    have H2 := Lib.hid (fun w1 B hB h => rAreas A ms.length c ms n f w1 hl B hB h)
    obtain ⟨L, hL2⟩ : ∃ L, L = areasL ms n f := ⟨_, rfl⟩
    obtain ⟨P, hP⟩ : ∃ P, P = findL ms n f x := ⟨_, rfl⟩
    obtain ⟨e0, he⟩ : ∃ a, a = srchE ms n f := ⟨_, rfl⟩
    obtain ⟨i0, hi⟩ : ∃ a, a = findIs ms n f x := ⟨_, rfl⟩
    rw [← hP, ← hi, ← he] at H1 HFO
    rw [← hP, ← hi] at HFN
    rw [← he] at HSE
    rw [← hL2, ← he] at H2
    rw [← hL2, ← hi] at HFH
    rw [← hL2] at hal
    clear hL2 he hP hi
    go_enter Try.func9, Try.ntmps9
    go_wp2_with fail
    refine (long _ _ _ _ hkm).mono ?_
    rw [hd]
    rintro e w1 ⟨rfl, rfl⟩
    clear hL
    go_wp2_with fail
    refine (H1.out _ w.heap.size (by omega) (hr.below HB0.out)).mono ?_
    rintro e w6 ⟨v6, rfl, hown6, hb6⟩
    obtain ⟨A6, c6, rfl, _, _⟩ := own_cap hown6
    have x6 := blk_below HN0.out hb6 (by omega)
    have s6 := hb6.size
    have B6 := HB0.out.trans (hb6.mono (by omega))
    have r6 := Rd.of_own hown6
    have c1 : w6.cell? ⟨w.heap.size, 0, none⟩ = some (.int .i64 n) := blk_cell x6 0
    have c2 : w6.cell? ⟨w.heap.size, 1, none⟩ = some (.int .i64 f) := blk_cell x6 1
    have HX6 := Lib.hid x6
    clear hown6 hb6 x6
    go_wp2_with fail
    refine (H2.out w6 w.heap.size B6.size (hr.below B6)).mono ?_
    rintro e w7 ⟨v7, rfl, hown7, hb7⟩
    obtain ⟨A7, c7, rfl, _, _⟩ := own_cap hown7
    have s7 := hb7.size
    have x7 := blk_below HX6.out hb7 (by omega)
    have r6 := (r6.below hb7).more s7
    have B7 := B6.trans (hb7.mono (by omega))
    have r7 := Rd.of_own hown7
    have HX7 := Lib.hid x7
    clear hown7 hb7 B6 x7
    go_wp2_with fail
    refine (rHas A7 L.length c7 L x w7 (by omega) w7.heap.size (Nat.le_refl _) r7).mono ?_
    rw [← HFH.out]
    rintro e w8 ⟨rfl, hb8⟩
    have s8 := hb8.size
    have x8 := blk_below HX7.out hb8 (by omega)
    have r6 := (r6.below hb8).more s8
    have B8 := B7.trans (hb8.mono (by omega))
    have d1 : w8.cell? ⟨w.heap.size, 0, none⟩ = some (.int .i64 n) := blk_cell x8 0
    have HX8 := Lib.hid x8
    clear r7 hb8 B7 x8 c1 c2
    cases i0 with
    | false =>
      have hPn := HFN.out rfl
      subst hPn
      go_wp2_with fail
      refine (known _).mono ?_
      rintro e w9 ⟨rfl, hb9⟩
      go_wp2
      go_ret
      exact ⟨rfl, B8.trans (hb9.mono (by omega))⟩
    | true =>
      obtain ⟨p1, p2, p3, p4⟩ := HFO.out rfl
      obtain ⟨_, n1, n2, f1, f2⟩ := HSE.out p4
      have HCK := Lib.hid p2
      have HFF := Lib.hid p3
      have hPl : P.length ≤ 6 := by omega
      have q1 : ((P.length : Int) != n) = false := by simpa using p1
      have q2 : ((P.length : Int) == n) = true := by simpa using p1
      clear p1 p2 p3 HFO HFN
      go_wp2_with fail
      refine (rCheck A6 A P.length c6 ms.length c P ms x w8 (by omega) hl w8.heap.size (Nat.le_refl _) r6 ((hr.below B8).more B8.size)).mono ?_
      rw [HCK.out]
      rintro e w9 ⟨rfl, hb9⟩
      have s9 := hb9.size
      have B9 := Lib.hid (B8.trans (hb9.mono (by omega)))
      have x9 := Lib.hid (blk_below HX8.out hb9 (by omega))
      have r9 := Lib.hid ((r6.below hb9).more s9)
      clear hb9 r6 d1 q1 q2 B8
      go_wp2
      go_loopw [12] (fun i wr => ∃ q : Nat, i = .int .i64 q ∧ q ≤ P.length ∧ Below w9.heap.size w9 wr) (fun i _ => P.length - (intOf i).toNat)
      case atStart => exact ⟨0, rfl, Nat.zero_le _, Below.refl _ _⟩
      case round =>
        obtain ⟨q, rfl, hq, hb⟩ := hrel
        by_cases hlt : q < P.length
        · obtain ⟨b, off, rfl, hbb, h0⟩ := (r9.out.below hb).int hlt
          have hg := HFF.out P[q] (List.getElem_mem hlt)
          have x10 := blk_below x9.out hb (by omega)
          have e1 : wr.cell? ⟨w.heap.size, 1, none⟩ = some (.int .i64 f) := blk_cell x10 1
          obtain ⟨g, hg2⟩ : ∃ g, g = P[q] := ⟨_, rfl⟩
          rw [← hg2] at h0 hg
          have HG := Lib.hid (show (decide (-f ≤ g) && decide (g ≤ f)) = true by simp [hg.1, hg.2])
          clear hg2 x10
          have z0 : (0 : Int) ≤ (q : Int) := by omega
          have z1 : (q : Int) < (P.length : Int) := by omega
          go_wp2
          refine wp_region_qtail 9 (by kernel_rfl) (by kernel_rfl) ?_
          simp only [List.take_succ_cons, List.take_zero, List.drop_succ_cons, List.drop_zero]
          repeat (go_big_quiet_step (fail))
          refine wpQuiet_nil ?_
          go_wp2_with fail
          refine (rwithin g (-f) f _).mono ?_
          rw [HG.out]
          rintro e w10 ⟨rfl, rfl⟩
          go_wp2
          go_roundw
          case rel => exact ⟨q + 1, by go_num, by omega, hb.drew⟩
          case measure => simp [intOf]; omega
        · obtain rfl : q = P.length := by omega
          go_wp2_with fail
          refine (known _).mono ?_
          rintro e w11 ⟨rfl, hb11⟩
          go_wp2
          go_ret
          exact ⟨rfl, (B9.out.trans (hb.mono (by omega))).trans (hb11.mono (by have := hb.size; omega))⟩
end Go.Proofs.Ytnoocdannfeidaa

/-
  WALK: the reference's Path, SamePoints.
-/
namespace Go.Proofs.Ytnoocdannfeidaa
open Go.RowKit Pulse

theorem pt_take {m : Int} {p : List Int} {q : Nat} : endL m.toNat (p.take q) = pt m p q := rfl

set_option maxRecDepth 100000 in
set_option maxHeartbeats 2000000 in
theorem rPath (A : Option Addr) (k c : Nat) (p : List Int) (m : Int) (w : World) (hl : p.length ≤ 1000) (hkc : k ≤ c) (hcm : c ≤ maxLen) (B : Nat) (hB : B ≤ w.heap.size) (hr : Rd w B 1 A k (ints p)) :
    Calls Try.prog 31 #[.slice A k c, .int .i64 m] w fun e w' => ∃ v, e = .returned (.tuple #[v, .int .i64 (moded p m)]) ∧ w'.ownsRow w.heap.size 29 2 v (pathN p m).length (ptCells (pathN p m)) ∧ Below w.heap.size w w' := by
  obtain rfl := hr.int_len
  have H := Lib.hid (rmoded A p.length c p m w hl B hB hr)
  have HC := Lib.hid (show pathN p m = if moded p m = 0 then ptsTo m p (p.length + 1) else [] from rfl)
  by_cases h : moded p m = 0
  · obtain ⟨hv0, hm, hm'⟩ := moded_ok h
    obtain ⟨hl12, hF⟩ := vald_ok hv0
    have HV := Lib.hid h
    rw [h] at H
    rw [if_pos h] at HC
    have HFF := Lib.hid hF
    clear h hv0 hF
    go_enter Try.func31, Try.ntmps31
    go_wp2_with fail
    refine H.out.mono ?_
    rintro e w1 ⟨rfl, hb1⟩
    go_wp2
    go_loopw [7, 8] (fun v j wr => ∃ q : Nat, j = .int .i64 q ∧ q ≤ p.length + 1 ∧ wr.ownsRow w.heap.size 29 2 v q (ptCells (ptsTo m p q)) ∧ Below w.heap.size w wr) (fun _ j _ => p.length + 1 - (intOf j).toNat)
    case atStart => exact ⟨0, rfl, Nat.zero_le _, World.ownsRow_nil .., hb1⟩
    case round =>
      clear hb1
      obtain ⟨q, rfl, hq, hown, hb⟩ := hrel
      have hsz := hb.size
      by_cases hlt : q ≤ p.length
      · have HSU := Lib.hid (ptsTo_succ m p q)
        have HE := Lib.hid (rend (p.take q) m (by rw [List.length_take]; omega) (HFF.out.take q) hm hm' A c wr B (by omega) (by
          have := (hr.below' hb hB).front hlt
          rw [List.length_take, Nat.min_eq_left hlt]
          rw [Nat.mul_one] at this
          rw [ints, List.map_take]; exact this))
        rw [pt_take, List.length_take, Nat.min_eq_left hlt] at HE
        obtain ⟨u, hu⟩ : ∃ u, u = pt m p q := ⟨_, rfl⟩
        rw [← hu] at HE HSU
        clear hu
        have HO := Lib.hid (And.intro hown hb)
        have hcq : q ≤ c := by omega
        clear hown hb
        go_wp2_with fail
        refine HE.out.mono ?_
        rintro e w2 ⟨rfl, hb2⟩
        have hown2 := own_below HO.out.1 hb2
        have B2 := HO.out.2.trans (hb2.mono hsz)
        have s2 := B2.size
        clear hb2
        go_wp2_with (at_builtin; go_must (refine app1 rfl (.tmp 21) (.tmp 27) 40 rfl 29 _ 2 16 E40 w.heap.size _ _ _ _ rfl hown2 _ rfl ?_ ?_ ?_ ?_ ?_ ?_); rfl; rfl; rfl; omega; omega; intro v3 w3 hown3 hg3)
        have B3 := below_own B2 s2 hown2 (Nat.le_refl _) hg3
        go_roundw
        case rel => exact ⟨q + 1, by go_num, by omega, by rw [HSU.out, ptCells_snoc]; exact hown3, B3⟩
        case measure => simp [intOf]; omega
      · obtain rfl : q = p.length + 1 := by omega
        have HO := Lib.hid (And.intro hown hb)
        obtain ⟨A2, c2, rfl, _, _⟩ := own_cap hown
        clear hown hb
        go_wp2
        go_ret2
        exact ⟨_, ret_two rfl (by rw [HV.out]; rfl), by rw [HC.out, ptsTo_len]; exact HO.out.1, HO.out.2⟩
  · have hd : (moded p m != 0) = true := by simpa using h
    rw [if_neg h] at HC
    clear h
    go_enter Try.func31, Try.ntmps31
    go_wp2_with fail
    refine H.out.mono ?_
    rintro e w1 ⟨rfl, hb1⟩
    go_wp2
    go_ret2
    exact ⟨_, ret_two rfl rfl, by rw [HC.out]; exact World.ownsRow_nil .., hb1⟩

theorem rd_pt {w : World} {B n : Nat} {A : Option Addr} {l : List V} (h : Rd w B 2 A n (ptCells l)) {q : Nat} (hq : q < l.length) :
    ∃ b off, A = some ⟨b, off, none⟩ ∧ b < B ∧ w.cell? ⟨b, off + q * 2, none⟩ = some (.int .i64 l[q].x) ∧ w.cell? ⟨b, off + q * 2 + 1, none⟩ = some (.int .i64 l[q].y) := by
  have hn : n = l.length := by have := h.1; rw [ptCells_length] at this; omega
  obtain ⟨b, off, e, hb, hc⟩ := h.2 (by omega)
  refine ⟨b, off, e, hb, ?_, ?_⟩
  · have := pts_get l q 0 hq (by omega)
    exact hc (q * 2) _ (by rw [Nat.add_zero] at this; rw [this]; rfl)
  · have := pts_get l q 1 hq (by omega)
    have := hc (q * 2 + 1) _ (by rw [this]; rfl)
    rw [← Nat.add_assoc] at this
    exact this
set_option maxRecDepth 100000 in
set_option maxHeartbeats 2000000 in
theorem rSamePoints (A A' : Option Addr) (k c c' : Nat) (l : List V) (w : World) (hl : k ≤ 1000) (B : Nat) (hB : B ≤ w.heap.size) (hr : Rd w B 2 A k (ptCells l)) (hr' : Rd w B 2 A' k (ptCells l)) :
    Calls Try.prog 36 #[.slice A k c, .slice A' k c'] w fun e w' => e = .returned (.bool true) ∧ Below w.heap.size w w' := by
  have hn : k = l.length := by have := hr.1; rw [ptCells_length] at this; omega
  have HN := Lib.hid hn
  clear hn
  go_enter Try.func36, Try.ntmps36
  go_wp2
  go_loopw [5] (fun i wr => ∃ q : Nat, q ≤ k ∧ i = .int .i64 q ∧ Below w.heap.size w wr) (fun i _ => k - (intOf i).toNat)
  case atStart => exact ⟨0, Nat.zero_le _, rfl, Below.refl _ _⟩
  case round =>
    obtain ⟨q, hq, rfl, hb⟩ := hrel
    by_cases hlt : q < k
    · have hlq : q < l.length := by have := HN.out; omega
      obtain ⟨b, off, rfl, _, h0, h1⟩ := rd_pt (hr.below' hb hB) hlq
      obtain ⟨b', off', rfl, _, h0', h1'⟩ := rd_pt (hr'.below' hb hB) hlq
      generalize l[q] = u at *
      have z0 : (0 : Int) ≤ (q : Int) := Int.natCast_nonneg _
      have z1 : (q : Int) < (k : Int) := by omega
      go_wp2
      go_quiet (fail)
      go_wp2
      go_roundw
      case rel => exact ⟨q + 1, by omega, by go_num, below_drewN hb nq⟩
      case measure => simp [intOf]; omega
    · obtain rfl : q = k := by omega
      go_wp2
      go_ret
      exact ⟨rfl, hb⟩
end Go.Proofs.Ytnoocdannfeidaa

/-
  PLAIN LAWS of TopPulses.
-/
namespace Go.Proofs.Ytnoocdannfeidaa
open Go.RowKit Pulse

namespace Pulse
theorem alt_len : ∀ p : List Int, (alt p).length = p.length
  | [] => rfl
  | [_] => rfl
  | f :: g :: p => by simp [alt, alt_len p]
theorem alt_forces {F : Int} : ∀ p : List Int, Forces F p → Forces F (alt p)
  | [], h => h
  | [_], h => h
  | f :: g :: p, h => by
    intro x hx
    rw [alt, List.mem_cons, List.mem_cons] at hx
    rcases hx with rfl | rfl | hx
    · exact h _ (by simp)
    · have := h g (by simp); omega
    · exact alt_forces p (h.tail.tail) x hx
theorem rot_two (n : Nat) (v : V) : rotN (n + 2) v = (rotN n v).sm (-1) := by
  rw [rotN_congr (b := 2 + n) (by omega), rotN_add]
  simp [rotN, V.rot, V.sm]
theorem sm_sm (a b : Int) (v : V) : (v.sm a).sm b = v.sm (b * a) := by simp [V.sm, Int.mul_assoc]
theorem end_two (m : Nat) (f g : Int) (p : List Int) : endL m (f :: g :: p) = ((V.e1.sm f).add ((rotN m V.e1).sm g)).add (rotN (m + m) (endL m p)) := by
  rw [endL, endL, rotN_lin, rotN_sm, ← rotN_add, add_assoc']
theorem endL_alt (m : Nat) : ∀ p : List Int, endL m (alt p) = endL (m + 2) p
  | [] => rfl
  | [f] => by simp [alt, endL, rotN_zero]
  | f :: g :: p => by
    rw [alt, end_two, end_two, endL_alt m p, rot_two, sm_sm, rotN_congr (a := m + 2 + (m + 2)) (b := m + m) (by omega)]
    rw [show g * -1 = -g by omega]
theorem area_two (m : Nat) (f g : Int) (p : List Int) : areaL m (f :: g :: p) = areaL m p + g * cross V.e1 (rotN m (endL m p)) + f * (g * cross V.e1 (rotN m V.e1) + cross V.e1 (rotN (m + m) (endL m p))) := by
  rw [areaL, areaL, endL, rotN_lin, rotN_sm, ← rotN_add]
  simp only [cross_add_right, cross_sm_left, cross_sm_right]
theorem areaL_alt (m : Nat) : ∀ p : List Int, areaL m (alt p) = areaL (m + 2) p
  | [] => rfl
  | [f] => by simp [alt, areaL, endL, rotN_zero]
  | f :: g :: p => by
    rw [alt, area_two, area_two, areaL_alt m p, endL_alt m p, rot_two, rot_two, rotN_congr (a := m + 2 + (m + 2)) (b := m + m) (by omega)]
    rw [cross_sm_right, cross_sm_right]
    have e1 : -g * cross V.e1 (rotN m (endL (m + 2) p)) = g * (-1 * cross V.e1 (rotN m (endL (m + 2) p))) := by rw [← Int.mul_assoc]; congr 1; omega
    have e2 : -g * cross V.e1 (rotN m V.e1) = g * (-1 * cross V.e1 (rotN m V.e1)) := by rw [← Int.mul_assoc]; congr 1; omega
    rw [e1, e2]
end Pulse

theorem alt_shut {ms p : List Int} (h : ∀ m ∈ ms, m = 1 ∨ m = 3) (hs : shut p ms = true) : shut (alt p) ms = true := by
  rw [shut, Bool.not_eq_true', List.any_eq_false] at *
  intro m hm
  have h1 := hs m hm
  rw [Bool.not_eq_true, away_eq, Bool.not_eq_false', decide_eq_true_eq] at *
  rw [endL_alt, endL_conj m.toNat (m.toNat + 2) (by rcases h m hm with rfl | rfl <;> decide), h1]
  simp [V.conj, V.zero]
theorem areas_neg {ms : List Int} {n f a : Int} (hs : srchE ms n f = 0) (h0 : hasB ms 0 = false) (h2 : hasB ms 2 = false) (ha : a ∈ areasL ms n f) : hasB (areasL ms n f) (-a) = true := by
  obtain ⟨h1, n1, n2, f1, f2⟩ := srchE_ok hs
  obtain ⟨h4, h5⟩ := areModes_ok h1
  have hod : ∀ m ∈ ms, m = 1 ∨ m = 3 := fun m hm => by
    have := h5 m hm
    have e0 : m ≠ 0 := fun e => by subst e; rw [hasB_iff.2 hm] at h0; cases h0
    have e2 : m ≠ 2 := fun e => by subst e; rw [hasB_iff.2 hm] at h2; cases h2
    omega
  rw [areasL, if_pos hs] at ha ⊢
  rw [hasB_iff]
  rw [mem_areasTo] at ha ⊢
  obtain ⟨_, hA⟩ := ha
  have hb := hasA_bd (by omega) (by omega) hA
  refine ⟨⟨(-a + 1000).toNat, by omega, by omega⟩, ?_⟩
  rw [hasA, List.any_eq_true] at hA ⊢
  obtain ⟨p, hp, hq⟩ := hA
  rw [Bool.and_eq_true, beq_iff_eq] at hq
  have hm := mem_allP.1 hp
  refine ⟨alt p, mem_allP.2 ⟨by rw [alt_len]; exact hm.1, alt_forces p hm.2⟩, ?_⟩
  rw [alt_shut hod hq.1, areaL_alt, areaL_conj (hd0 ms) (hd0 ms + 2) (by
    have := hod ms[0] (List.getElem_mem h4)
    have e : hd0 ms = ms[0].toNat := by simp [hd0, h4]
    rw [e]
    rcases this with h | h <;> rw [h] <;> decide), hq.2]
  simp

/-- What the loop of TopPulses holds against each other, at a mode q. -/
theorem has_closed {p : List Int} (h : vald p = 0) {q : Nat} (hq : q < 4) : hasB (closedN p) q = decide (endL q p = V.zero) := by
  rw [closedN, if_pos h, has_clTo, away_eq]
  simp [hq]
theorem join_area {p r : List Int} {q : Nat} (h1 : vald p = 0) (h2 : vald r = 0) (h3 : vald (p ++ r) = 0) (hq : q < 4) (h : (hasB (closedN p) q || hasB (closedN r) q) = true) : areaN (p ++ r) q = areaN p q + areaN r q := by
  have hm : ∀ s, vald s = 0 → areaN s q = areaL q s := fun s hs => by
    rw [areaN, if_pos]
    · rfl
    · rw [moded, if_pos hs]; simp [isMode]; omega
  rw [hm _ h1, hm _ h2, hm _ h3, areaL_append]
  rw [has_closed h1 hq, has_closed h2 hq, Bool.or_eq_true, decide_eq_true_eq, decide_eq_true_eq] at h
  rcases h with h | h
  · rw [h, cross_zero_left]; omega
  · rw [h, rotN_zero, cross_zero_right]; omega
theorem join_closed {p r : List Int} {q : Nat} (h1 : vald p = 0) (h2 : vald r = 0) (h3 : vald (p ++ r) = 0) (hq : q < 4) (h : hasB (closedN p) q = true) : hasB (closedN (p ++ r)) q = hasB (closedN r) q := by
  rw [has_closed h1 hq, decide_eq_true_eq] at h
  rw [has_closed h2 hq, has_closed h3 hq, endL_append, h, zero_add']
  congr 1
  exact propext ⟨rotN_eq_zero, fun e => by rw [e, rotN_zero]⟩
theorem even_area {p : List Int} {q : Nat} (hv : vald p = 0) (hq : q < 4) (h : q % 2 = 0) : areaN p q = 0 := by
  rw [areaN]
  split
  · exact areaL_even q h p
  · rfl
theorem path_last {p : List Int} {q : Nat} (hv : moded p q = 0) : (pathN p q).length = p.length + 1 ∧ (pathN p q)[p.length]? = some (endV p q) := by
  rw [pathN, if_pos hv]
  refine ⟨ptsTo_len .., ?_⟩
  rw [ptsTo, List.getElem?_map, List.getElem?_range (by omega), endV, if_pos hv]
  show some (pt q p p.length) = _
  rw [pt_all]
theorem moded_q {p : List Int} {q : Nat} (hv : vald p = 0) (hq : q < 4) : moded p q = 0 := by
  rw [moded, if_pos hv]; simp [isMode]; omega
end Go.Proofs.Ytnoocdannfeidaa
