/-
  THE WALK of the law VoltRows. (Printed by gen_lrows.py.)
-/
import Derived.Test.YtejjogpgolgdgaaOpen
import Derived.Test.YtejjogpgolgdgaaP1
import Derived.Test.YtejjogpgolgdgaaP4
import Derived.Test.YtejjogpgolgdgaaW33
namespace Go.Proofs.Ytejjogpgolgdgaa
open Go.RowKit Pulse

theorem Tab.take' {w : World} {B : Nat} {X : Nat → Prop} {vs : List Value} {ps : List (List Int)} (h : Tab w B X vs ps) (m : Nat) : Tab w B X (vs.take m) (ps.take m) := by
  refine ⟨by simp [h.1], fun i v p hv hp => ?_⟩
  rw [List.getElem?_take] at hv hp
  split at hv
  · rename_i hi
    rw [if_pos hi] at hp
    exact h.2 i v p hv hp
  · cases hv
theorem TRd.take {w : World} {B : Nat} {A : Option Addr} {k : Nat} {ps : List (List Int)} (h : TRd w B A k ps) {m : Nat} (hm : m ≤ k) : TRd w B A m (ps.take m) := by
  obtain ⟨vs, h1, h2⟩ := h
  have hk : vs.length = k * 1 := h1.1
  refine ⟨vs.take m, ⟨by simp; omega, fun h0 => ?_⟩, h2.take' m⟩
  obtain ⟨b, off, rfl, hb, hc⟩ := h1.2 (by omega)
  refine ⟨b, off, rfl, hb, fun j u hj => hc j u ?_⟩
  rw [List.getElem?_take] at hj
  split at hj
  · exact hj
  · cases hj
theorem rev_step {row : List (List Int)} {q t : Nat} (h : row.length = q + t + 1) (h' : t < row.length) : row.reverse.take (q + 1) = row.reverse.take q ++ [row[t]] := by
  rw [take_snoc' _ q (by simp; omega), List.getElem_reverse]
  congr 3
  omega
theorem wish_row {g row : List (List Int)} (h : rowE g row = 0) : ∀ l ∈ row, wishE g l = 0 := by
  obtain ⟨hv, _, _, hw⟩ := rowE_ok h
  exact fun l hl => wishE_of hv (hw l hl)
theorem smoothN_bd (g row : List (List Int)) : 0 ≤ smoothN g row ∧ smoothN g row ≤ 6 := by
  by_cases hs : smoothIs g row = true
  · have h : rowE g row = 0 := by simp only [smoothIs, Bool.and_eq_true, decide_eq_true_eq] at hs; exact hs.1
    have hv := (rowE_ok h).1
    obtain ⟨⟨c, hc, hj⟩, _⟩ := (smooth_law h).2 hs
    have h1 := jumpC_nn c
    have hl := hc.len
    rw [← hj]
    refine ⟨h1, ?_⟩
    have hm : ∀ v ∈ c, Forces 3 v := fun v hv => by
      obtain ⟨i, hi, rfl⟩ := List.getElem_of_mem hv
      exact (mem_makeL.1 ((isC_get hl).1 hc i (by omega) hi)).1.2
    clear hj h1 hl hc
    induction c with
    | nil => simp [jumpC]
    | cons v c ih =>
      cases c with
      | nil => simp [jumpC]
      | cons u c =>
        have h1 := ih (fun x hx => hm x (List.mem_cons_of_mem _ hx))
        have h2 := jumpL_le (x := 3) (y := 3) (by decide) (by decide) (hm v (by simp)) (hm u (by simp))
        rw [jumpC]; omega
  · rw [smoothN, if_neg hs]; omega

set_option maxRecDepth 100000 in
set_option maxHeartbeats 4000000 in
theorem lawRows (A : Option Addr) (k c : Nat) (g : List (List Int)) (A' : Option Addr) (k' c' : Nat) (row : List (List Int)) (w : World) (hk : k ≤ c) (hc : c ≤ maxLen) (hr : TRd w w.heap.size A k g) (hb : ∀ l ∈ g, l.length ≤ maxLen) (hk' : k' ≤ c') (hc' : c' ≤ maxLen) (hr' : TRd w w.heap.size A' k' row) (hb' : ∀ l ∈ row, l.length ≤ maxLen) :
    Calls Try.prog 4 #[.slice A k c, .slice A' k' c'] w fun e w' => e = .returned (.bool true) ∧ Below w.heap.size w w' := by
  have hm : k ≤ maxLen := Nat.le_trans hk hc
  have hm' : k' ≤ maxLen := Nat.le_trans hk' hc'
  obtain rfl := hr.len
  obtain rfl := hr'.len
  by_cases h : longT g = true
  · skip
    go_enter Try.func4, Try.ntmps4
    go_wp2_with fail
    refine (long_is true _ _ _ g h w hm _ hr hb).mono ?_
    rintro e w' ⟨rfl, rfl⟩
    go_wp2_with fail
    refine (known w).mono ?_
    rintro e w1 ⟨rfl, hb1⟩
    have s1 := hb1.size
    have HB1 := Lib.hid hb1
    clear hb1
    go_wp2
    go_ret
    exact ⟨rfl, HB1.out⟩
  · skip
    have h : longT g = false := by simpa using h
    by_cases h' : longT row = true
    · skip
      go_enter Try.func4, Try.ntmps4
      go_wp2_with fail
      refine (long_is false _ _ _ g h w hm _ hr hb).mono ?_
      rintro e w' ⟨rfl, rfl⟩
      go_wp2_with fail
      refine (long_is true _ _ _ row h' w hm' _ hr' hb').mono ?_
      rintro e w' ⟨rfl, rfl⟩
      go_wp2_with fail
      refine (known w).mono ?_
      rintro e w1 ⟨rfl, hb1⟩
      have s1 := hb1.size
      have HB1 := Lib.hid hb1
      clear hb1
      go_wp2
      go_ret
      exact ⟨rfl, HB1.out⟩
    · skip
      have h' : longT row = false := by simpa using h'
      go_enter Try.func4, Try.ntmps4
      go_wp2_with fail
      refine (long_is false _ _ _ g h w hm _ hr hb).mono ?_
      rintro e w' ⟨rfl, rfl⟩
      go_wp2_with fail
      refine (long_is false _ _ _ row h' w hm' _ hr' hb').mono ?_
      rintro e w' ⟨rfl, rfl⟩
      have hs := longT_sm h
      have hs' := longT_sm h'
      clear h h'
      have hnb := smoothN_bd g row
      go_wp2_with fail
      refine (pSmooth _ _ _ c _ c' g row w hs hs' w.heap.size (Nat.le_refl _) hr hr').mono ?_
      rintro e w1 ⟨rfl, hb1⟩
      have s1 := hb1.size
      have HB1 := Lib.hid hb1
      have hr := (hr.below hb1).more s1
      have hr' := (hr'.below hb1).more s1
      clear hb1
      by_cases hz : rowE g row = 0
      · have HW := Lib.hid (wish_row hz)
        have HRV := Lib.hid (smooth_rev hz)
        have HRE := Lib.hid (rowE_rev hz)
        have HEA := Lib.hid (smooth_each hz)
        have HIN := Lib.hid (fun h2 hs => smooth_init hz h2 hs)
        have HIE := Lib.hid (fun h2 => rowE_init hz h2)
        have hr1 := (rowE_ok hz).2.1
        have hr5 := (rowE_ok hz).2.2.1
        have HS2 := Lib.hid hs'.2
        rw [hz]
        clear hz
        have hsr : Sm row.reverse := ⟨by simpa using hs'.1, fun l hl => hs'.2 l (by simpa using hl)⟩
        have hsi : Sm (row.take (row.length - 1)) := ⟨by simp; omega, fun l hl => hs'.2 l (List.mem_of_mem_take hl)⟩
        obtain ⟨rr, hrr⟩ : ∃ rr, rr = row.reverse := ⟨_, rfl⟩
        have hrl : rr.length = row.length := by rw [hrr, List.length_reverse]
        have HRR := Lib.hid hrr
        rw [← hrr] at HRV HRE hsr
        clear hrr
        have HRL := Lib.hid hrl
        clear hrl
        have sz := HB1.out.size
        go_wp2
        go_loopw [10, 8, 9] (fun i u x wr => ∃ (q : Nat) (z : Int) (b : Bool), i = .int .i64 z ∧ x = .bool b ∧ q ≤ row.length ∧ Hid (z = (row.length : Int) - 1 - q) ∧ Hid (b = (rr.take q).all (fun l => decide (0 < waysN g l))) ∧ OwnS wr w1.heap.size u (rr.take q) ∧ Below w1.heap.size w1 wr) (fun i _ _ _ => (intOf i + 1).toNat)
        case atStart => exact ⟨0, _, true, rfl, rfl, Nat.zero_le _, by show (row.length : Int) - 1 = _; omega, rfl, OwnS.nil, Below.refl _ _⟩
        case round =>
          obtain ⟨q, z, b, rfl, rfl, hq, HZ, HBB, hos, hb⟩ := hrel
          have hsz := hb.size
          by_cases hlt : q < row.length
          · obtain ⟨t, ht⟩ : ∃ t, row.length = q + t + 1 := ⟨row.length - q - 1, by omega⟩
            obtain rfl : z = (t : Int) := by rw [HZ.out]; omega
            have htl : t < row.length := by omega
            have HT := Lib.hid (rev_step ht htl)
            rw [← HRR.out] at HT
            have HTT := Lib.hid ht
            clear ht
            have hrow := hr'
            obtain ⟨b1, o1, A1, c1, rfl, lb1, g1, hc1, hc2, r1⟩ := (hr'.below' hb (Nat.le_refl _)).row htl
            have hx1 := HS2.out _ (List.getElem_mem htl)
            have hwe := HW.out _ (List.getElem_mem htl)
            obtain ⟨l, hl⟩ : ∃ l, l = row[t] := ⟨_, rfl⟩
            rw [← hl] at g1 r1 hx1 HT hc1 hwe
            clear hl
            have HWE := Lib.hid hwe
            clear hwe
            obtain ⟨vs, hown, htt, hsf⟩ := hos
            have hlq : (rr.take q).length = q := by have := HRL.out; simp; omega
            rw [hlq] at hown
            have HLQ := Lib.hid hlq
            clear hlq
            have HOA := Lib.hid (And.intro hown (And.intro htt (And.intro hsf hb)))
            have HRR1 := Lib.hid ((r1.more hsz).alloc (Nat.le_refl _) (.cells #[] 3))
            have g1a := (World.cell?_alloc_lt wr (.cells #[] 3) ⟨b1, o1 + t, none⟩ (show b1 < wr.heap.size by omega)).trans g1
            have HO := Lib.hid (show (wr.alloc (.cells #[] 3)).ownsRow wr.heap.size 3 1 (.slice (some ⟨wr.heap.size, 0, none⟩) 0 0) 0 [] from own_empty (blk_new wr 3 #[]) (Nat.le_refl _))
            have HB1x := Lib.hid ((Below.refl wr.heap.size wr).alloc (Nat.le_refl _) (.cells #[] 3))
            have z0 : (0 : Int) ≤ (t : Int) := by omega
            have z1 : (t : Int) < (row.length : Int) := by omega
            have HG1 := Lib.hid g1
            have HRX := Lib.hid r1
            clear hown htt hsf hb r1 g1
            go_wp2_with (at_builtin; first | ((refine app1x rfl (.tmp 43) (.tmp 50) 22 rfl 23 _ 1 24 E22 w1.heap.size _ _ _ _ rfl u1 _ rfl ?_ ?_ ?_ ?_ ?_ ?_); rfl; rfl; rfl; omega; omega; intro v7 w7 hown7 hg7 hx7; have HOS := Lib.hid (OwnS.push (by rw [HLQ.out]; exact u1) ((HOA.out.2.1.below HB5.out (Nat.le_refl _)).more sz5) (fun v hv => (HOA.out.2.2.1 v hv).below HB5.out) hown5 hsz (fun g hg => (HOA.out.1.lt g hg).2) hown7 (by rw [HLQ.out]) hg7 hx7); have HB7 := Lib.hid (below_own (HOA.out.2.2.2.trans (HB5.out.mono hsz)) (by omega) u1 (Nat.le_refl _) hg7); have HB77 := Lib.hid (below_own (HB5.out.mono hsz) (Nat.le_trans hsz sz5) u1 (Nat.le_refl _) hg7); have sz7 := HB7.out.size; have g1b := (HB7.out.cell (p := ⟨b1, o1 + t, none⟩) lb1).trans ((HOA.out.2.2.2.cell (p := ⟨b1, o1 + t, none⟩) lb1).symm.trans HG1.out); obtain ⟨A7, c7, rfl, _, _⟩ := own_cap hown7; clear hown7 hg7 hx7 hown5 hg5 u1 g1a) | ((refine appN rfl (.tmp 44) (.tmp 48) 23 rfl 3 _ 1 8 E23 wr.heap.size _ _ _ rfl HO.out wr.heap.size A1 l.length c1 (ints l) rfl HRR1.out (ints_one _) (by omega) (by simp) ?_); intro v5 w5 hown5 hg5; rw [Nat.zero_add, List.nil_append] at hown5; have HB5 := Lib.hid (below_own HB1x.out (by simp) HO.out (Nat.le_refl _) hg5); have sz5 := HB5.out.size; have u1 := own_below HOA.out.1 HB5.out; obtain ⟨A5, c5, rfl, _, _⟩ := own_cap hown5))
            have hrw := (hr.below' HB7.out (Nat.le_refl _)).more sz7
            obtain ⟨A8, c8, _, _, g8, _, _, r8⟩ := (hrow.below' HB7.out (Nat.le_refl _)).rowAt htl
            have hwb := (waysN_bounds g l)
            have r8 := ((HRX.out.below' HB77.out (Nat.le_refl _)).more sz7)
            have hg7r := (hr.below' HB7.out (Nat.le_refl _)).more sz7
            refine (pWays _ _ _ c _ c1 g l w7 hs hx1 w7.heap.size (Nat.le_refl _) hg7r r8).mono ?_
            rw [HWE.out]
            rintro e w8 ⟨rfl, hb8⟩
            have HB8 := Lib.hid (HB7.out.trans (hb8.mono sz7))
            have HOS8 := Lib.hid (HOS.out.below hb8)
            clear hb8 r8 hg7r
            have HD := Lib.hid (show (rr.take (q + 1)).all (fun l => decide (0 < waysN g l)) = (b && decide (0 < waysN g l)) by rw [HT.out, List.all_append, ← HBB.out]; simp)
            obtain ⟨nw, hnw⟩ : ∃ nw, nw = waysN g l := ⟨_, rfl⟩
            rw [← hnw] at HD hwb ⊢
            clear hnw HBB
            cases b with
            | true =>
              by_cases hn : 0 < nw
              · have hd : decide (0 < nw) = true := by simpa using hn
                have HDD := Lib.hid (show (rr.take (q + 1)).all (fun l => decide (0 < waysN g l)) = true by rw [HD.out, hd]; rfl)
                clear HD
                go_wp2
                go_roundw
                case rel => exact ⟨q + 1, (t : Int) - 1, true, by go_num, rfl, by have := HTT.out; omega, by show (t : Int) - 1 = _; have := HTT.out; omega, HDD.out.symm, by rw [HT.out]; exact HOS8.out, HB8.out⟩
                case measure => (first | (simp [intOf]; done) | (simp [intOf]; omega))
              · have hd : decide (0 < nw) = false := by simpa using hn
                have HDD := Lib.hid (show (rr.take (q + 1)).all (fun l => decide (0 < waysN g l)) = false by rw [HD.out, hd]; rfl)
                clear HD
                go_wp2
                go_roundw
                case rel => exact ⟨q + 1, (t : Int) - 1, false, by go_num, rfl, by have := HTT.out; omega, by show (t : Int) - 1 = _; have := HTT.out; omega, HDD.out.symm, by rw [HT.out]; exact HOS8.out, HB8.out⟩
                case measure => (first | (simp [intOf]; done) | (simp [intOf]; omega))
            | false =>
              have HDD := Lib.hid (show (rr.take (q + 1)).all (fun l => decide (0 < waysN g l)) = false by rw [HD.out]; rfl)
              clear HD
              go_wp2
              go_roundw
              case rel => exact ⟨q + 1, (t : Int) - 1, false, by go_num, rfl, by have := HTT.out; omega, by show (t : Int) - 1 = _; have := HTT.out; omega, HDD.out.symm, by rw [HT.out]; exact HOS8.out, HB8.out⟩
              case measure => (first | (simp [intOf]; done) | (simp [intOf]; omega))
          · obtain rfl : q = row.length := by omega
            obtain rfl : z = -1 := by rw [HZ.out]; omega
            have HBE := Lib.hid (show smoothIs g row = b by rw [HEA.out, HBB.out, HRR.out, List.take_of_length_le (by simp), List.all_reverse])
            rw [List.take_of_length_le (by rw [HRL.out]; exact Nat.le_refl _)] at hos
            obtain ⟨A2, c2, rfl, r2⟩ := hos.cap
            clear hos HBB HZ
            obtain ⟨w2, hw2⟩ : ∃ z, z = wr := ⟨_, rfl⟩
            rw [← hw2] at hb r2 hsz ⊢
            clear hw2 hsz
            have s2 := hb.size
            have HB2 := Lib.hid (HB1.out.trans (hb.mono (by have := HB1.out.size; omega)))
            have hr := (hr.below hb).more s2
            have hr' := (hr'.below hb).more s2
            clear hb
            go_wp2_with fail
            refine (pSmooth _ _ _ c _ c2 g rr w2 hs hsr w2.heap.size (Nat.le_refl _) hr r2).mono ?_
            rw [HRV.out.1, HRV.out.2, HRE.out]
            rintro e w3 ⟨rfl, hb3⟩
            have s3 := hb3.size
            have HB3 := Lib.hid (HB2.out.trans (hb3.mono (by have := HB2.out.size; omega)))
            have hr := (hr.below hb3).more s3
            have hr' := (hr'.below hb3).more s3
            have r2 := (r2.below hb3).more s3
            clear hb3
            clear r2
            have HIN := Lib.hid (fun h2 hs => HIN.out h2 (HBE.out.trans hs))
            rw [HBE.out]
            obtain ⟨nn, hnn⟩ : ∃ x, x = smoothN g row := ⟨_, rfl⟩
            rw [← hnn] at HIN hnb ⊢
            clear hnn
            by_cases h2 : row.length < 2
            · cases b with
              | true =>
                go_wp2_with fail
                refine (known w3).mono ?_
                rintro e w4 ⟨rfl, hb4⟩
                have s4 := hb4.size
                have HB4 := Lib.hid (HB3.out.trans (hb4.mono (by have := HB3.out.size; omega)))
                have hr := (hr.below hb4).more s4
                have hr' := (hr'.below hb4).more s4
                clear hb4
                go_wp2
                go_ret
                exact ⟨rfl, HB4.out⟩
              | false =>
                go_wp2_with fail
                refine (known w3).mono ?_
                rintro e w4 ⟨rfl, hb4⟩
                have s4 := hb4.size
                have HB4 := Lib.hid (HB3.out.trans (hb4.mono (by have := HB3.out.size; omega)))
                have hr := (hr.below hb4).more s4
                have hr' := (hr'.below hb4).more s4
                clear hb4
                go_wp2
                go_ret
                exact ⟨rfl, HB4.out⟩
            · cases b with
              | false =>
                go_wp2_with fail
                refine (known w3).mono ?_
                rintro e w4 ⟨rfl, hb4⟩
                have s4 := hb4.size
                have HB4 := Lib.hid (HB3.out.trans (hb4.mono (by have := HB3.out.size; omega)))
                have hr := (hr.below hb4).more s4
                have hr' := (hr'.below hb4).more s4
                clear hb4
                go_wp2
                go_ret
                exact ⟨rfl, HB4.out⟩
              | true =>
                have hin := HIN.out (by omega) rfl
                have hie := HIE.out (by omega)
                have hib := smoothN_bd g (row.take (row.length - 1))
                have HI1 := Lib.hid hin.1
                have hi2 := hin.2
                have HI3 := Lib.hid hie
                clear hin hie HIN HIE
                have rI := hr'.take (m := row.length - 1) (by omega)
                have hil : (row.take (row.length - 1)).length = row.length - 1 := by rw [List.length_take]; omega
                obtain ⟨ri, hri⟩ : ∃ x, x = row.take (row.length - 1) := ⟨_, rfl⟩
                rw [← hri] at rI hsi HI1 hi2 HI3 hib
                clear hri hil
                go_wp2_with fail
                refine (pSmooth _ _ _ c _ (row.length - 1) g ri w3 hs hsi w3.heap.size (Nat.le_refl _) hr rI).mono ?_
                rw [HI1.out, HI3.out]
                rintro e w4 ⟨rfl, hb4⟩
                have s4 := hb4.size
                have HB4 := Lib.hid (HB3.out.trans (hb4.mono (by have := HB3.out.size; omega)))
                have hr := (hr.below hb4).more s4
                have hr' := (hr'.below hb4).more s4
                clear hb4
                generalize smoothN g ri = ni at *
                go_wp2_with fail
                refine (known w4).mono ?_
                rintro e w5 ⟨rfl, hb5⟩
                have s5 := hb5.size
                have HB5 := Lib.hid (HB4.out.trans (hb5.mono (by have := HB4.out.size; omega)))
                have hr := (hr.below hb5).more s5
                have hr' := (hr'.below hb5).more s5
                clear hb5
                go_wp2
                go_ret
                exact ⟨rfl, HB5.out⟩
      · have hd : (rowE g row != 0) = true := by simpa using hz
        clear hz
        generalize rowE g row = e0 at *
        generalize smoothN g row = n at *
        generalize smoothIs g row = b0 at *
        go_wp2_with fail
        refine (known w1).mono ?_
        rintro e w2 ⟨rfl, hb2⟩
        have s2 := hb2.size
        have HB2 := Lib.hid (HB1.out.trans (hb2.mono (by have := HB1.out.size; omega)))
        have hr := (hr.below hb2).more s2
        have hr' := (hr'.below hb2).more s2
        clear hb2
        go_wp2
        go_ret
        exact ⟨rfl, HB2.out⟩
end Go.Proofs.Ytejjogpgolgdgaa
