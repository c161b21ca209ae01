/-
  MERGED: W35.
-/
import Derived.Test.YtejjogpgolgdgaaK15
import Derived.Test.YtejjogpgolgdgaaK16
/-
  WALKS: CheckCourse of both. (Printed by gen_w35.py.)
-/
namespace Go.Proofs.Ytejjogpgolgdgaa
open Go.RowKit Pulse

def courseE (g row crs : List (List Int)) : Int := if rowE g row = 0 then (if crs.length = row.length ∧ crs.all (vOk g) = true then (if crs.map (fieldL g) = row then 0 else 7) else 1) else rowE g row
def courseN (g row crs : List (List Int)) : Int := if courseE g row crs = 0 then jumpC crs else 0
theorem take_map_succ {g row crs : List (List Int)} {q : Nat} (h1 : q < crs.length) (h2 : q < row.length) (e : (crs.take q).map (fieldL g) = row.take q) : (crs.take (q + 1)).map (fieldL g) = row.take (q + 1) ↔ fieldL g crs[q] = row[q] := by
  rw [take_snoc' _ q h1, take_snoc' _ q h2, List.map_append, e]
  constructor
  · intro h
    simpa using List.append_cancel_left h
  · intro h
    rw [← h]; rfl
theorem map_take_of {g row crs : List (List Int)} (e : crs.map (fieldL g) = row) (q : Nat) : (crs.take q).map (fieldL g) = row.take q := by rw [← e, List.map_take]
theorem jumpC_take_zero (c : List (List Int)) : jumpC (c.take 1) = 0 := by
  match c with
  | [] => rfl
  | [_] => rfl
  | _ :: _ :: _ => rfl
theorem jumpC_take_succ {c : List (List Int)} {q : Nat} (h : q + 1 < c.length) : jumpC (c.take (q + 1 + 1)) = max (jumpC (c.take (q + 1))) (jumpL c[q] c[q + 1]) := by
  rw [take_snoc' _ (q + 1) h, take_snoc' _ q (by omega), jumpC_snoc]
theorem jumpC_le {c : List (List Int)} (h : ∀ v ∈ c, Forces 3 v) : jumpC c ≤ 6 := by
  match c with
  | [] => simp [jumpC]
  | [_] => simp [jumpC]
  | v :: u :: c =>
    have h1 := jumpC_le (c := u :: c) (fun x hx => h x (List.mem_cons_of_mem _ hx))
    have h2 := jumpL_le (x := 3) (y := 3) (by decide) (by decide) (h v (by simp)) (h u (by simp))
    rw [jumpC]; omega

set_option maxRecDepth 100000 in
set_option maxHeartbeats 4000000 in
theorem pCheckCourse (A A' A'' : Option Addr) (k c k' c' k'' c'' : Nat) (g row crs : List (List Int)) (w : World) (hs : Sm g) (hs' : Sm row) (hs'' : Sm crs) (B : Nat) (hB : B ≤ w.heap.size) (hr : TRd w B A k g) (hr' : TRd w B A' k' row) (hr'' : TRd w B A'' k'' crs) :
    Calls Try.prog 38 #[.slice A k c, .slice A' k' c', .slice A'' k'' c''] w fun e w' => e = .returned (.tuple #[.int .i64 (courseN g row crs), .int .i64 (courseE g row crs)]) ∧ Below w.heap.size w w' := by
  have hr := hr.more hB
  have hr' := hr'.more hB
  have hr'' := hr''.more hB
  obtain rfl := hr.len
  obtain rfl := hr'.len
  obtain rfl := hr''.len
  have hlr := hs'.1
  have hlc := hs''.1
  have HRS := Lib.hid hs'.2
  have HCS := Lib.hid hs''.2
  by_cases h : rowE g row = 0
  · have HV := Lib.hid h
    obtain ⟨hv, h1, h5, _⟩ := rowE_ok h
    have hpos : 0 < g.length := (vldG_ok hv).1
    have HG := Lib.hid hv
    clear h hv
    by_cases hl : crs.length = row.length
    · have HL := Lib.hid hl
      have d1 : ((crs.length : Int) != (row.length : Int)) = false := by simp [hl]
      have hany : (crs.any fun l => !vOk g l) = !crs.all (vOk g) := by simp [List.any_eq_not_all_not]
      have hc5 : crs.length ≤ 5 := by omega
      clear hl
      cases ha : crs.all (vOk g) with
      | false =>
        rw [ha] at hany
        have HAN := Lib.hid hany
        have HE := Lib.hid (show courseE g row crs = 1 by rw [courseE, if_pos HV.out, if_neg (by rw [ha]; rintro ⟨_, h⟩; cases h)])
        have HN := Lib.hid (show courseN g row crs = 0 by rw [courseN, if_neg (by rw [HE.out]; decide)])
        clear ha hany
        go_enter Try.func38, Try.ntmps38
        have s1 : (w.alloc (.cells #[.slice A g.length c] 22)).heap.size = w.heap.size + 1 := by simp
        have hr := (hr.alloc (Nat.le_refl _) (.cells #[.slice A g.length c] 22)).more (B' := (w.alloc (.cells #[.slice A g.length c] 22)).heap.size) (by omega)
        have hr' := (hr'.alloc (Nat.le_refl _) (.cells #[.slice A g.length c] 22)).more (B' := (w.alloc (.cells #[.slice A g.length c] 22)).heap.size) (by omega)
        have hr'' := (hr''.alloc (Nat.le_refl _) (.cells #[.slice A g.length c] 22)).more (B' := (w.alloc (.cells #[.slice A g.length c] 22)).heap.size) (by omega)
        have HX := Lib.hid (blk_new w 22 #[.slice A g.length c])
        have HB1 := Lib.hid ((Below.refl w.heap.size w).alloc (Nat.le_refl _) (.cells #[.slice A g.length c] 22))
        go_wp2_with fail
        refine (prowed A A' g.length c row.length c' g row (w.alloc (.cells #[.slice A g.length c] 22)) hs hs' (w.alloc (.cells #[.slice A g.length c] 22)).heap.size (Nat.le_refl _) hr hr').mono ?_
        rw [HV.out]
        rintro e w2 ⟨rfl, hb2⟩
        have s2 := hb2.size
        have HB2 := Lib.hid (HB1.out.trans (hb2.mono (by have := HB1.out.size; omega)))
        have hr := (hr.below hb2).more s2
        have hr' := (hr'.below hb2).more s2
        have hr'' := (hr''.below hb2).more s2
        have HX := Lib.hid (blk_below HX.out hb2 (blk_lt HX.out))
        clear hb2
        go_wp2_with fail
        refine (tabContainsFunc 80 Try.call80 #[.pointer (some ⟨w.heap.size, 0, none⟩)] (fun l => !vOk g l) A'' crs.length c'' crs w2 (by omega) w2.heap.size (Nat.le_refl _) hr'' (fun l hl W hb A1 c1 h1 => pcourseFn l A1 c1 w.heap.size g A g.length c W w2.heap.size hb.size hpos (HCS.out l hl) (blk_below HX.out hb (blk_lt HX.out)) (hr.below hb) h1)).mono ?_
        rw [HAN.out]
        rintro e w3 ⟨rfl, hb3⟩
        have s3 := hb3.size
        have HB3 := Lib.hid (HB2.out.trans (hb3.mono (by have := HB2.out.size; omega)))
        have hr := (hr.below hb3).more s3
        have hr' := (hr'.below hb3).more s3
        have hr'' := (hr''.below hb3).more s3
        have HX := Lib.hid (blk_below HX.out hb3 (blk_lt HX.out))
        clear hb3
        go_wp2
        go_ret2
        exact ⟨ret_pair (by rw [HN.out]; rfl) (by rw [HE.out]; rfl), HB3.out⟩
      | true =>
        rw [ha] at hany
        have HAN := Lib.hid hany
        have HE := Lib.hid (show courseE g row crs = if crs.map (fieldL g) = row then 0 else 7 by rw [courseE, if_pos HV.out, if_pos ⟨HL.out, ha⟩])
        have HAV := Lib.hid (fun v hv => List.all_eq_true.1 ha v hv)
        clear ha hany
        go_enter Try.func38, Try.ntmps38
        have s1 : (w.alloc (.cells #[.slice A g.length c] 22)).heap.size = w.heap.size + 1 := by simp
        have hr := (hr.alloc (Nat.le_refl _) (.cells #[.slice A g.length c] 22)).more (B' := (w.alloc (.cells #[.slice A g.length c] 22)).heap.size) (by omega)
        have hr' := (hr'.alloc (Nat.le_refl _) (.cells #[.slice A g.length c] 22)).more (B' := (w.alloc (.cells #[.slice A g.length c] 22)).heap.size) (by omega)
        have hr'' := (hr''.alloc (Nat.le_refl _) (.cells #[.slice A g.length c] 22)).more (B' := (w.alloc (.cells #[.slice A g.length c] 22)).heap.size) (by omega)
        have HX := Lib.hid (blk_new w 22 #[.slice A g.length c])
        have HB1 := Lib.hid ((Below.refl w.heap.size w).alloc (Nat.le_refl _) (.cells #[.slice A g.length c] 22))
        go_wp2_with fail
        refine (prowed A A' g.length c row.length c' g row (w.alloc (.cells #[.slice A g.length c] 22)) hs hs' (w.alloc (.cells #[.slice A g.length c] 22)).heap.size (Nat.le_refl _) hr hr').mono ?_
        rw [HV.out]
        rintro e w2 ⟨rfl, hb2⟩
        have s2 := hb2.size
        have HB2 := Lib.hid (HB1.out.trans (hb2.mono (by have := HB1.out.size; omega)))
        have hr := (hr.below hb2).more s2
        have hr' := (hr'.below hb2).more s2
        have hr'' := (hr''.below hb2).more s2
        have HX := Lib.hid (blk_below HX.out hb2 (blk_lt HX.out))
        clear hb2
        go_wp2_with fail
        refine (tabContainsFunc 80 Try.call80 #[.pointer (some ⟨w.heap.size, 0, none⟩)] (fun l => !vOk g l) A'' crs.length c'' crs w2 (by omega) w2.heap.size (Nat.le_refl _) hr'' (fun l hl W hb A1 c1 h1 => pcourseFn l A1 c1 w.heap.size g A g.length c W w2.heap.size hb.size hpos (HCS.out l hl) (blk_below HX.out hb (blk_lt HX.out)) (hr.below hb) h1)).mono ?_
        rw [HAN.out]
        rintro e w3 ⟨rfl, hb3⟩
        have s3 := hb3.size
        have HB3 := Lib.hid (HB2.out.trans (hb3.mono (by have := HB2.out.size; omega)))
        have hr := (hr.below hb3).more s3
        have hr' := (hr'.below hb3).more s3
        have hr'' := (hr''.below hb3).more s3
        have HX := Lib.hid (blk_below HX.out hb3 (blk_lt HX.out))
        clear hb3
        have HB0 := Lib.hid HB3.out
        have HJN := Lib.hid (fun h => show courseN g row crs = jumpC crs from by rw [courseN, if_pos h])
        have HXX := Lib.hid HX.out
        go_wp2
        go_loopw [30, 9] (fun i x wr => ∃ (q : Nat) (m : Int), i = .int .i64 q ∧ x = .int .i64 m ∧ q ≤ crs.length ∧ Hid (m = jumpC (crs.take q)) ∧ Hid ((crs.take q).map (fieldL g) = row.take q) ∧ Below w3.heap.size w3 wr) (fun i _ _ => crs.length - (intOf i).toNat)
        case atStart => exact ⟨0, 0, rfl, rfl, Nat.zero_le _, rfl, rfl, Below.refl _ _⟩
        case round =>
          obtain ⟨q, m, rfl, rfl, hq, HM, HF, hb⟩ := hrel
          have sb := hb.size
          have hm0 : 0 ≤ m := by rw [HM.out]; exact jumpC_nn _
          have hm6 : m ≤ 6 := by rw [HM.out]; exact jumpC_le (fun v hv => (vOk_ok (HAV.out v (List.mem_of_mem_take hv))).2)
          by_cases hlt : q < crs.length
          · skip
            have hlt2 : q < row.length := by have := HL.out; omega
            obtain ⟨b1, o1, A1, c1, rfl, lb1, g1, _, _, r1⟩ := (hr''.below' hb (Nat.le_refl _)).row hlt
            obtain ⟨b2, o2, A2, c2, rfl, lb2, g2, _, _, r2⟩ := (hr'.below' hb (Nat.le_refl _)).row hlt2
            have hgr := (hr.below hb).more sb
            have hx2 := HRS.out _ (List.getElem_mem hlt2)
            have hvo := vOk_ok (HAV.out _ (List.getElem_mem hlt))
            have HEQ := Lib.hid (take_map_succ (g := g) hlt hlt2 HF.out)
            have HNE := Lib.hid (show fieldL g crs[q] ≠ row[q] → crs.map (fieldL g) ≠ row from fun hn e => hn ((take_map_succ hlt hlt2 HF.out).1 (map_take_of e (q + 1))))
            have HJ0 := Lib.hid (show q = 0 → jumpC (crs.take (q + 1)) = 0 from fun h => by subst h; exact jumpC_take_zero crs)
            have HJ1 := Lib.hid (show ∀ p (h : q = p + 1), jumpC (crs.take (q + 1)) = max m (jumpL (crs[p]'(by omega)) crs[q]) from fun p h => by subst h; rw [HM.out]; exact jumpC_take_succ hlt)
            have HPV := Lib.hid (fun (p : Nat) (h : p < crs.length) => (hr''.below' hb (Nat.le_refl _)).row h)
            obtain ⟨v, hvv⟩ : ∃ v, v = crs[q] := ⟨_, rfl⟩
            obtain ⟨l, hll⟩ : ∃ l, l = row[q] := ⟨_, rfl⟩
            rw [← hvv] at g1 r1 hvo HEQ HNE HJ1
            rw [← hll] at g2 r2 hx2 HEQ HNE
            clear hvv hll
            have HGF := Lib.hid (fitG HG.out hvo.1 hvo.2)
            have hvl : v.length ≤ 3 := by have := HGF.out.2.1; omega
            clear hvo
            have hfl : (fieldL g v).length ≤ 3 := by rw [fieldL_len]; exact HGF.out.1
            obtain ⟨d, hd⟩ : ∃ d, d = decide (fieldL g v = l) := ⟨_, rfl⟩
            have HD := Lib.hid hd.symm
            clear hd
            have z0 : (0 : Int) ≤ (q : Int) := by omega
            have z1 : (q : Int) < (crs.length : Int) := by omega
            have z2 : (q : Int) < (row.length : Int) := by omega
            have r1 := r1.more sb
            have r2 := r2.more sb
            have mc := cell_mergeW wr
            have mf := frozen_mergeW wr
            have lb3 : b1 < wr.heap.size := by omega
            have lb4 : b2 < wr.heap.size := by omega
            have hxw := blk_below HX.out hb (blk_lt HX.out)
            have c0 : wr.cell? ⟨w.heap.size, 0, none⟩ = some (.slice A g.length c) := blk_cell hxw 0
            have lbx := blk_lt hxw
            clear hxw
            go_wp2
            refine wp_region_pick (fun w' => ∃ s, w' = mergeW wr s) 100 [0, 1, 3, 4, 5, 6] [2, 7, 8] (by kernel_rfl) rfl (by kernel_rfl) (fun _ _ _ _ _ h => h) ⟨_, mergeW_of (Below.refl wr.heap.size wr).drew⟩ ?_
            simp only [List.map_cons, List.map_nil, List.getD_cons_zero, List.getD_cons_succ]
            repeat (go_big_quiet_step (fail))
            refine wpQuiet_nil ?_
            clear mc mf
            refine seqS_cons rfl ?_
            go_wp2_with fail
            have hbd := (Below.refl wr.heap.size wr).drew
            have sd := hbd.size
            refine (pfield _ _ _ _ _ _ g v _ HGF.out.1 HGF.out.2.1 HGF.out.2.2.1 HGF.out.2.2.2 wr.heap.size sd (hgr.below hbd) (r1.below hbd)).mono ?_
            rintro e w5 ⟨v5, rfl, hown5, hb5⟩
            have hb5 := hbd.trans (hb5.mono sd)
            have sz5 := hb5.size
            obtain ⟨A5, c5, rfl, _, _⟩ := own_cap hown5
            have r5 := Rd.of_own hown5
            clear hown5 hbd
            go_wp2
            refine thenS_normal (.inr ⟨_, mergeW_of hb5⟩) ?_
            refine seqS_cons rfl ?_
            go_wp2_with fail
            refine (pEqual_is d _ _ _ _ _ _ (fieldL g v) l HD.out w5 (by omega) (by omega) w5.heap.size (Nat.le_refl _) r5 ((r2.below hb5).more sz5)).mono ?_
            rintro e w6 ⟨rfl, hb6⟩
            have hb6 := hb5.trans (hb6.mono sz5)
            have sz6 := hb6.size
            go_wp2
            refine thenS_normal (.inr ⟨_, mergeW_of hb6⟩) ?_
            refine seqS_cons rfl ?_
            go_wp2
            refine thenS_normal (.inr ⟨_, mergeW_of hb6⟩) ?_
            refine seqS_nil ?_
            have HB6 := Lib.hid (hb.trans (hb6.mono sb))
            have HW6 := Lib.hid hb6
            clear r5 hb5 hb6 sd
            cases d
            case false =>
              have hne := HNE.out (of_decide_eq_false HD.out)
              have HE7 := Lib.hid (show courseE g row crs = 7 by rw [HE.out, if_neg hne])
              have HN := Lib.hid (show courseN g row crs = 0 by rw [courseN, if_neg (by rw [HE7.out]; decide)])
              clear hne
              go_wp2
              go_ret2
              exact ⟨ret_pair (by rw [HN.out]; rfl) (by rw [HE7.out]; rfl), HB0.out.trans (HB6.out.mono (by have := HB0.out.size; omega))⟩
            case true =>
              have HT := Lib.hid (HEQ.out.2 (of_decide_eq_true HD.out))
              clear HD HNE HEQ
              rcases Nat.eq_zero_or_pos q with h0 | h0
              · have HJ := Lib.hid (HJ0.out h0)
                have hm0 : m = 0 := by rw [HM.out, h0]; rfl
                subst hm0 h0
                clear HJ0 HJ1 HM HPV
                go_wp2
                go_roundw
                case rel => exact ⟨1, 0, by go_num, rfl, by omega, HJ.out.symm, HT, HB6.out⟩
                case measure => simp [intOf]; omega
              · obtain ⟨p, rfl⟩ : ∃ p, q = p + 1 := ⟨q - 1, by omega⟩
                have hpl : p < crs.length := by omega
                have HJ := Lib.hid (HJ1.out p rfl)
                obtain ⟨b3, o3, A3, c3, e3, _, g3, _, _, r3⟩ := HPV.out p hpl
                injection e3 with e3
                injection e3 with e3 e4
                subst e3 e4
                have hpo := vOk_ok (HAV.out _ (List.getElem_mem hpl))
                clear HJ0 HJ1 HM HPV
                obtain ⟨u, huu⟩ : ∃ u, u = crs[p] := ⟨_, rfl⟩
                rw [← huu] at HJ g3 r3 hpo
                clear huu
                have lvu : v.length = u.length := by rw [hpo.1]; have := (HGF.out.2.2.1 g[0] (List.getElem_mem hpos)).1; have := ((vldG_ok HG.out).2.2.2.2 g[0] (List.getElem_mem hpos)).1; omega
                have HLV := Lib.hid lvu
                have HPO := Lib.hid hpo.2
                have hul : u.length ≤ 3 := by omega
                clear hpo lvu
                have sz6 := HW6.out.size
                have g1 := (HW6.out.cell (p := ⟨b1, o1 + (p + 1), none⟩) lb3).trans g1
                have g3 := (HW6.out.cell (p := ⟨b1, o1 + p, none⟩) lb3).trans g3
                have r1 := (r1.below HW6.out).more sz6
                have r3 := (r3.more sb).below HW6.out |>.more sz6
                have z3 := jumpL_nn u v
                have z4 := jumpL_le (x := 3) (y := 3) (by decide) (by decide) HPO.out HGF.out.2.2.2
                have zp0 : (0 : Int) ≤ (p : Int) := by omega
                have zp1 : (p : Int) < (crs.length : Int) := by omega
                have HA := Lib.hid (papart _ _ _ c3 _ c1 u v w6 (by omega) HLV.out (fun f hf => by have := HPO.out f hf; omega) (fun f hf => by have := HGF.out.2.2.2 f hf; omega) w6.heap.size (Nat.le_refl _) r3 r1)
                obtain ⟨z, hz⟩ : ∃ z, z = jumpL u v := ⟨_, rfl⟩
                rw [← hz] at HA HJ z3 z4
                clear hz r1 r3
                rcases Int.lt_trichotomy m z with hz1 | hz1 | hz1
                · rw [show max m z = z by omega] at HJ
                  go_wp2_with fail
                  refine HA.out.mono ?_
                  rintro e w7 ⟨rfl, hb7⟩
                  have HB7 := Lib.hid (HB6.out.trans (hb7.mono (by omega)))
                  clear hb7
                  go_wp2
                  go_roundw
                  case rel => exact ⟨p + 1 + 1, _, by go_num, rfl, by omega, HJ.out.symm, HT, HB7.out⟩
                  case measure => simp [intOf]; omega
                · subst hz1
                  rw [Int.max_self] at HJ
                  go_wp2_with fail
                  refine HA.out.mono ?_
                  rintro e w7 ⟨rfl, hb7⟩
                  have HB7 := Lib.hid (HB6.out.trans (hb7.mono (by omega)))
                  clear hb7
                  go_wp2
                  go_roundw
                  case rel => exact ⟨p + 1 + 1, _, by go_num, rfl, by omega, HJ.out.symm, HT, HB7.out⟩
                  case measure => simp [intOf]; omega
                · rw [show max m z = m by omega] at HJ
                  go_wp2_with fail
                  refine HA.out.mono ?_
                  rintro e w7 ⟨rfl, hb7⟩
                  have HB7 := Lib.hid (HB6.out.trans (hb7.mono (by omega)))
                  clear hb7
                  go_wp2
                  go_roundw
                  case rel => exact ⟨p + 1 + 1, _, by go_num, rfl, by omega, HJ.out.symm, HT, HB7.out⟩
                  case measure => simp [intOf]; omega
          · obtain rfl : q = crs.length := by omega
            have HE0 := Lib.hid (show courseE g row crs = 0 by rw [HE.out, if_pos]; have h := HF.out; rw [List.take_length, List.take_of_length_le (by have := HL.out; omega)] at h; exact h)
            have HN := Lib.hid (show courseN g row crs = m by rw [HJN.out HE0.out, HM.out, List.take_length])
            go_wp2
            go_ret2
            exact ⟨ret_pair (by rw [HN.out]; rfl) (by rw [HE0.out]; rfl), HB0.out.trans (hb.mono (by have := HB0.out.size; omega))⟩
    · have d1 : ((crs.length : Int) != (row.length : Int)) = true := by simp; omega
      have HE := Lib.hid (show courseE g row crs = 1 by rw [courseE, if_pos HV.out, if_neg (fun h => hl h.1)])
      have HN := Lib.hid (show courseN g row crs = 0 by rw [courseN, if_neg (by rw [HE.out]; decide)])
      clear hl
      go_enter Try.func38, Try.ntmps38
      have s1 : (w.alloc (.cells #[.slice A g.length c] 22)).heap.size = w.heap.size + 1 := by simp
      have hr := (hr.alloc (Nat.le_refl _) (.cells #[.slice A g.length c] 22)).more (B' := (w.alloc (.cells #[.slice A g.length c] 22)).heap.size) (by omega)
      have hr' := (hr'.alloc (Nat.le_refl _) (.cells #[.slice A g.length c] 22)).more (B' := (w.alloc (.cells #[.slice A g.length c] 22)).heap.size) (by omega)
      have hr'' := (hr''.alloc (Nat.le_refl _) (.cells #[.slice A g.length c] 22)).more (B' := (w.alloc (.cells #[.slice A g.length c] 22)).heap.size) (by omega)
      have HX := Lib.hid (blk_new w 22 #[.slice A g.length c])
      have HB1 := Lib.hid ((Below.refl w.heap.size w).alloc (Nat.le_refl _) (.cells #[.slice A g.length c] 22))
      go_wp2_with fail
      refine (prowed A A' g.length c row.length c' g row (w.alloc (.cells #[.slice A g.length c] 22)) hs hs' (w.alloc (.cells #[.slice A g.length c] 22)).heap.size (Nat.le_refl _) hr hr').mono ?_
      rw [HV.out]
      rintro e w2 ⟨rfl, hb2⟩
      have s2 := hb2.size
      have HB2 := Lib.hid (HB1.out.trans (hb2.mono (by have := HB1.out.size; omega)))
      have hr := (hr.below hb2).more s2
      have hr' := (hr'.below hb2).more s2
      have hr'' := (hr''.below hb2).more s2
      have HX := Lib.hid (blk_below HX.out hb2 (blk_lt HX.out))
      clear hb2
      go_wp2
      go_ret2
      exact ⟨ret_pair (by rw [HN.out]; rfl) (by rw [HE.out]; rfl), HB2.out⟩
  · have hd : (rowE g row != 0) = true := by simpa using h
    have HE := Lib.hid (show courseE g row crs = rowE g row by rw [courseE, if_neg h])
    have HN := Lib.hid (show courseN g row crs = 0 by rw [courseN, if_neg (by rw [HE.out]; exact h)])
    clear h
    have H := Lib.hid (fun w1 h1 h2 => prowed A A' g.length c row.length c' g row w1 hs hs' w1.heap.size (Nat.le_refl _) h1 h2)
    generalize rowE g row = x at *
    go_enter Try.func38, Try.ntmps38
    have s1 : (w.alloc (.cells #[.slice A g.length c] 22)).heap.size = w.heap.size + 1 := by simp
    have hr := (hr.alloc (Nat.le_refl _) (.cells #[.slice A g.length c] 22)).more (B' := (w.alloc (.cells #[.slice A g.length c] 22)).heap.size) (by omega)
    have hr' := (hr'.alloc (Nat.le_refl _) (.cells #[.slice A g.length c] 22)).more (B' := (w.alloc (.cells #[.slice A g.length c] 22)).heap.size) (by omega)
    have hr'' := (hr''.alloc (Nat.le_refl _) (.cells #[.slice A g.length c] 22)).more (B' := (w.alloc (.cells #[.slice A g.length c] 22)).heap.size) (by omega)
    have HX := Lib.hid (blk_new w 22 #[.slice A g.length c])
    have HB1 := Lib.hid ((Below.refl w.heap.size w).alloc (Nat.le_refl _) (.cells #[.slice A g.length c] 22))
    go_wp2_with fail
    refine (H.out (w.alloc (.cells #[.slice A g.length c] 22)) hr hr').mono ?_
    rintro e w2 ⟨rfl, hb2⟩
    have s2 := hb2.size
    have HB2 := Lib.hid (HB1.out.trans (hb2.mono (by have := HB1.out.size; omega)))
    have hr := (hr.below hb2).more s2
    have hr' := (hr'.below hb2).more s2
    have hr'' := (hr''.below hb2).more s2
    have HX := Lib.hid (blk_below HX.out hb2 (blk_lt HX.out))
    clear hb2
    go_wp2
    go_ret2
    exact ⟨ret_pair (by rw [HN.out]; rfl) (by rw [HE.out]; rfl), HB2.out⟩

set_option maxRecDepth 100000 in
set_option maxHeartbeats 4000000 in
theorem rCheckCourse (A A' A'' : Option Addr) (k c k' c' k'' c'' : Nat) (g row crs : List (List Int)) (w : World) (hs : Sm g) (hs' : Sm row) (hs'' : Sm crs) (B : Nat) (hB : B ≤ w.heap.size) (hr : TRd w B A k g) (hr' : TRd w B A' k' row) (hr'' : TRd w B A'' k'' crs) :
    Calls Try.prog 37 #[.slice A k c, .slice A' k' c', .slice A'' k'' c''] w fun e w' => e = .returned (.tuple #[.int .i64 (courseN g row crs), .int .i64 (courseE g row crs)]) ∧ Below w.heap.size w w' := by
  have hr := hr.more hB
  have hr' := hr'.more hB
  have hr'' := hr''.more hB
  obtain rfl := hr.len
  obtain rfl := hr'.len
  obtain rfl := hr''.len
  have hlr := hs'.1
  have hlc := hs''.1
  have HRS := Lib.hid hs'.2
  have HCS := Lib.hid hs''.2
  by_cases h : rowE g row = 0
  · have HV := Lib.hid h
    obtain ⟨hv, h1, h5, _⟩ := rowE_ok h
    have hpos : 0 < g.length := (vldG_ok hv).1
    have HG := Lib.hid hv
    clear h hv
    by_cases hl : crs.length = row.length
    · have HL := Lib.hid hl
      have d1 : ((crs.length : Int) != (row.length : Int)) = false := by simp [hl]
      have hc5 : crs.length ≤ 5 := by omega
      clear hl
      go_enter Try.func37, Try.ntmps37
      go_wp2_with fail
      refine (rRowed A A' g.length c row.length c' g row w hs hs' w.heap.size (Nat.le_refl _) hr hr').mono ?_
      rw [HV.out]
      rintro e w1 ⟨rfl, hb1⟩
      have s1 := hb1.size
      have HB1 := Lib.hid hb1
      have hr := (hr.below hb1).more s1
      have hr' := (hr'.below hb1).more s1
      have hr'' := (hr''.below hb1).more s1
      clear hb1
      go_wp2
      go_loopw [9] (fun i wr => ∃ q : Nat, i = .int .i64 q ∧ q ≤ crs.length ∧ Hid ((crs.take q).all (vOk g) = true) ∧ Below w1.heap.size w1 wr) (fun i _ => crs.length - (intOf i).toNat)
      case atStart => exact ⟨0, rfl, Nat.zero_le _, rfl, Below.refl _ _⟩
      case round =>
        obtain ⟨q, rfl, hq, hall, hb⟩ := hrel
        have sb := hb.size
        by_cases hlt : q < crs.length
        · obtain ⟨b, off, A1, c1, rfl, hbb, g0, _, _, g1⟩ := ((hr''.below hb).more sb).row hlt
          have hl1 := HCS.out _ (List.getElem_mem hlt)
          have ht := all_take (vOk g) crs q hlt
          rw [hall.out, Bool.true_and] at ht
          have HF := Lib.hid (show vOk g crs[q] = false → crs.all (vOk g) = false from fun ha => by
            rw [Bool.eq_false_iff]
            intro hx
            have := List.all_eq_true.1 hx _ (List.getElem_mem hlt)
            rw [ha] at this
            cases this)
          have HT := Lib.hid ht
          clear ht
          obtain ⟨l, hl⟩ : ∃ l, l = crs[q] := ⟨_, rfl⟩
          rw [← hl] at g0 g1 hl1 HF HT
          clear hl
          have z0 : (0 : Int) ≤ (q : Int) := by omega
          have z1 : (q : Int) < (crs.length : Int) := by omega
          obtain ⟨r, hrr⟩ : ∃ r, r = vOk g l := ⟨_, rfl⟩
          have HR := Lib.hid hrr.symm
          rw [← hrr] at HF HT
          clear hrr
          have hgr := (hr.below hb).more sb
          cases r with
          | true =>
            go_wp2_with fail
            refine (risVolts true _ _ _ _ _ _ g l HR.out wr hpos hl1 wr.heap.size (Nat.le_refl _) hgr g1).mono ?_
            rintro e w9 ⟨rfl, hb9⟩
            have hbk := Lib.hid (hb.trans (hb9.mono sb))
            clear hb9
            go_wp2
            go_roundw
            case rel => exact ⟨q + 1, by go_num, by omega, HT, hbk.out⟩
            case measure => simp [intOf]; omega
          | false =>
            have HE := Lib.hid (show courseE g row crs = 1 by rw [courseE, if_pos HV.out, if_neg (by rw [HF.out (by first | rfl | trivial)]; rintro ⟨_, h⟩; cases h)])
            have HN := Lib.hid (show courseN g row crs = 0 by rw [courseN, if_neg (by rw [HE.out]; decide)])
            go_wp2_with fail
            refine (risVolts false _ _ _ _ _ _ g l HR.out wr hpos hl1 wr.heap.size (Nat.le_refl _) hgr g1).mono ?_
            rintro e w9 ⟨rfl, hb9⟩
            have hbk := Lib.hid (hb.trans (hb9.mono sb))
            clear hb9
            go_wp2
            go_ret2
            exact ⟨ret_pair (by rw [HN.out]; rfl) (by rw [HE.out]; rfl), HB1.out.trans (hbk.out.mono (by have := HB1.out.size; omega))⟩
        · obtain rfl : q = crs.length := by omega
          have ha : crs.all (vOk g) = true := by have := hall.out; rwa [List.take_length] at this
          have HE := Lib.hid (show courseE g row crs = if crs.map (fieldL g) = row then 0 else 7 by rw [courseE, if_pos HV.out, if_pos ⟨HL.out, ha⟩])
          have HAV := Lib.hid (fun v hv => List.all_eq_true.1 ha v hv)
          clear ha hall
          obtain ⟨w2, hw2⟩ : ∃ z, z = wr := ⟨_, rfl⟩
          rw [← hw2] at hb sb ⊢
          clear hw2 sb
          have s2 := hb.size
          have HB2 := Lib.hid (HB1.out.trans (hb.mono (by have := HB1.out.size; omega)))
          have hr := (hr.below hb).more s2
          have hr' := (hr'.below hb).more s2
          have hr'' := (hr''.below hb).more s2
          clear hb
          have HB0 := Lib.hid HB2.out
          have HJN := Lib.hid (fun h => show courseN g row crs = jumpC crs from by rw [courseN, if_pos h])
          go_wp2
          go_loopw [11, 10] (fun i x wr => ∃ (q : Nat) (m : Int), i = .int .i64 q ∧ x = .int .i64 m ∧ q ≤ crs.length ∧ Hid (m = jumpC (crs.take q)) ∧ Hid ((crs.take q).map (fieldL g) = row.take q) ∧ Below w2.heap.size w2 wr) (fun i _ _ => crs.length - (intOf i).toNat)
          case atStart => exact ⟨0, 0, rfl, rfl, Nat.zero_le _, rfl, rfl, Below.refl _ _⟩
          case round =>
            obtain ⟨q, m, rfl, rfl, hq, HM, HF, hb⟩ := hrel
            have sb := hb.size
            have hm0 : 0 ≤ m := by rw [HM.out]; exact jumpC_nn _
            have hm6 : m ≤ 6 := by rw [HM.out]; exact jumpC_le (fun v hv => (vOk_ok (HAV.out v (List.mem_of_mem_take hv))).2)
            by_cases hlt : q < crs.length
            · skip
              have hlt2 : q < row.length := by have := HL.out; omega
              obtain ⟨b1, o1, A1, c1, rfl, lb1, g1, _, _, r1⟩ := (hr''.below' hb (Nat.le_refl _)).row hlt
              obtain ⟨b2, o2, A2, c2, rfl, lb2, g2, _, _, r2⟩ := (hr'.below' hb (Nat.le_refl _)).row hlt2
              have hgr := (hr.below hb).more sb
              have hx2 := HRS.out _ (List.getElem_mem hlt2)
              have hvo := vOk_ok (HAV.out _ (List.getElem_mem hlt))
              have HEQ := Lib.hid (take_map_succ (g := g) hlt hlt2 HF.out)
              have HNE := Lib.hid (show fieldL g crs[q] ≠ row[q] → crs.map (fieldL g) ≠ row from fun hn e => hn ((take_map_succ hlt hlt2 HF.out).1 (map_take_of e (q + 1))))
              have HJ0 := Lib.hid (show q = 0 → jumpC (crs.take (q + 1)) = 0 from fun h => by subst h; exact jumpC_take_zero crs)
              have HJ1 := Lib.hid (show ∀ p (h : q = p + 1), jumpC (crs.take (q + 1)) = max m (jumpL (crs[p]'(by omega)) crs[q]) from fun p h => by subst h; rw [HM.out]; exact jumpC_take_succ hlt)
              have HPV := Lib.hid (fun (p : Nat) (h : p < crs.length) => (hr''.below' hb (Nat.le_refl _)).row h)
              obtain ⟨v, hvv⟩ : ∃ v, v = crs[q] := ⟨_, rfl⟩
              obtain ⟨l, hll⟩ : ∃ l, l = row[q] := ⟨_, rfl⟩
              rw [← hvv] at g1 r1 hvo HEQ HNE HJ1
              rw [← hll] at g2 r2 hx2 HEQ HNE
              clear hvv hll
              have HGF := Lib.hid (fitG HG.out hvo.1 hvo.2)
              have hvl : v.length ≤ 3 := by have := HGF.out.2.1; omega
              clear hvo
              have hfl : (fieldL g v).length ≤ 3 := by rw [fieldL_len]; exact HGF.out.1
              obtain ⟨d, hd⟩ : ∃ d, d = decide (fieldL g v = l) := ⟨_, rfl⟩
              have HD := Lib.hid hd.symm
              clear hd
              have z0 : (0 : Int) ≤ (q : Int) := by omega
              have z1 : (q : Int) < (crs.length : Int) := by omega
              have z2 : (q : Int) < (row.length : Int) := by omega
              have r1 := r1.more sb
              have r2 := r2.more sb
              have mc := cell_mergeW wr
              have mf := frozen_mergeW wr
              have lb3 : b1 < wr.heap.size := by omega
              have lb4 : b2 < wr.heap.size := by omega
              go_wp2
              refine wp_region_pick (fun w' => ∃ s, w' = mergeW wr s) 100 [0, 1, 2, 3, 4, 6, 7, 8, 9] [5, 10, 11] (by kernel_rfl) rfl (by kernel_rfl) (fun _ _ _ _ _ h => h) ⟨_, mergeW_of (Below.refl wr.heap.size wr).drew⟩ ?_
              simp only [List.map_cons, List.map_nil, List.getD_cons_zero, List.getD_cons_succ]
              repeat (go_big_quiet_step (fail))
              refine wpQuiet_nil ?_
              clear mc mf
              refine seqS_cons rfl ?_
              go_wp2_with fail
              have hbd := (Below.refl wr.heap.size wr).drew
              have sd := hbd.size
              refine (rfield _ _ _ _ _ _ g v _ HGF.out.1 HGF.out.2.1 HGF.out.2.2.1 HGF.out.2.2.2 wr.heap.size sd (hgr.below hbd) (r1.below hbd)).mono ?_
              rintro e w5 ⟨v5, rfl, hown5, hb5⟩
              have hb5 := hbd.trans (hb5.mono sd)
              have sz5 := hb5.size
              obtain ⟨A5, c5, rfl, _, _⟩ := own_cap hown5
              have r5 := Rd.of_own hown5
              clear hown5 hbd
              go_wp2
              refine thenS_normal (.inr ⟨_, mergeW_of hb5⟩) ?_
              refine seqS_cons rfl ?_
              go_wp2_with fail
              refine (rSameInts_is d _ _ _ _ _ _ (fieldL g v) l HD.out w5 (by omega) (by omega) w5.heap.size (Nat.le_refl _) r5 ((r2.below hb5).more sz5)).mono ?_
              rintro e w6 ⟨rfl, hb6⟩
              have hb6 := hb5.trans (hb6.mono sz5)
              have sz6 := hb6.size
              go_wp2
              refine thenS_normal (.inr ⟨_, mergeW_of hb6⟩) ?_
              refine seqS_cons rfl ?_
              go_wp2
              refine thenS_normal (.inr ⟨_, mergeW_of hb6⟩) ?_
              refine seqS_nil ?_
              have HB6 := Lib.hid (hb.trans (hb6.mono sb))
              have HW6 := Lib.hid hb6
              clear r5 hb5 hb6 sd
              cases d
              case false =>
                have hne := HNE.out (of_decide_eq_false HD.out)
                have HE7 := Lib.hid (show courseE g row crs = 7 by rw [HE.out, if_neg hne])
                have HN := Lib.hid (show courseN g row crs = 0 by rw [courseN, if_neg (by rw [HE7.out]; decide)])
                clear hne
                go_wp2
                go_ret2
                exact ⟨ret_pair (by rw [HN.out]; rfl) (by rw [HE7.out]; rfl), HB0.out.trans (HB6.out.mono (by have := HB0.out.size; omega))⟩
              case true =>
                have HT := Lib.hid (HEQ.out.2 (of_decide_eq_true HD.out))
                clear HD HNE HEQ
                rcases Nat.eq_zero_or_pos q with h0 | h0
                · have HJ := Lib.hid (HJ0.out h0)
                  have hm0 : m = 0 := by rw [HM.out, h0]; rfl
                  subst hm0 h0
                  clear HJ0 HJ1 HM HPV
                  go_wp2
                  go_roundw
                  case rel => exact ⟨1, 0, by go_num, rfl, by omega, HJ.out.symm, HT, HB6.out⟩
                  case measure => simp [intOf]; omega
                · obtain ⟨p, rfl⟩ : ∃ p, q = p + 1 := ⟨q - 1, by omega⟩
                  have hpl : p < crs.length := by omega
                  have HJ := Lib.hid (HJ1.out p rfl)
                  obtain ⟨b3, o3, A3, c3, e3, _, g3, _, _, r3⟩ := HPV.out p hpl
                  injection e3 with e3
                  injection e3 with e3 e4
                  subst e3 e4
                  have hpo := vOk_ok (HAV.out _ (List.getElem_mem hpl))
                  clear HJ0 HJ1 HM HPV
                  obtain ⟨u, huu⟩ : ∃ u, u = crs[p] := ⟨_, rfl⟩
                  rw [← huu] at HJ g3 r3 hpo
                  clear huu
                  have lvu : v.length = u.length := by rw [hpo.1]; have := (HGF.out.2.2.1 g[0] (List.getElem_mem hpos)).1; have := ((vldG_ok HG.out).2.2.2.2 g[0] (List.getElem_mem hpos)).1; omega
                  have HLV := Lib.hid lvu
                  have HPO := Lib.hid hpo.2
                  have hul : u.length ≤ 3 := by omega
                  clear hpo lvu
                  have sz6 := HW6.out.size
                  have g1 := (HW6.out.cell (p := ⟨b1, o1 + (p + 1), none⟩) lb3).trans g1
                  have g3 := (HW6.out.cell (p := ⟨b1, o1 + p, none⟩) lb3).trans g3
                  have r1 := (r1.below HW6.out).more sz6
                  have r3 := (r3.more sb).below HW6.out |>.more sz6
                  have z3 := jumpL_nn u v
                  have z4 := jumpL_le (x := 3) (y := 3) (by decide) (by decide) HPO.out HGF.out.2.2.2
                  have zp0 : (0 : Int) ≤ (p : Int) := by omega
                  have zp1 : (p : Int) < (crs.length : Int) := by omega
                  have mc := cell_mergeW w6
                  have mf := frozen_mergeW w6
                  have lb5 : b1 < w6.heap.size := by omega
                  have HA := Lib.hid (fun s => rjump _ _ _ c3 _ c1 u v (mergeW w6 s) (by omega) HLV.out (fun f hf => by have := HPO.out f hf; omega) (fun f hf => by have := HGF.out.2.2.2 f hf; omega) w6.heap.size (below_mergeW w6 s).size (r3.below (below_mergeW w6 s)) (r1.below (below_mergeW w6 s)))
                  obtain ⟨z, hz⟩ : ∃ z, z = jumpL u v := ⟨_, rfl⟩
                  rw [← hz] at HA HJ z3 z4
                  clear hz r1 r3
                  rcases Int.lt_trichotomy m z with hz1 | hz1 | hz1
                  · rw [show max m z = z by omega] at HJ
                    go_wp2
                    refine wp_region_btail 11 (by kernel_rfl) (by kernel_rfl) ?_
                    simp only [List.take_succ_cons, List.take_zero, List.drop_succ_cons, List.drop_zero]
                    repeat (go_big_quiet_step (first | (go_at_call 77; refine (HA.out _).mono ?_; rintro e w7 ⟨rfl, hb7⟩; exact ⟨rfl, in_mergeW hb7⟩)))
                    refine wpQuiet_nil ?_
                    rintro w7 ⟨s7, hs7⟩
                    have hb7 := below_mergeW w6 s7
                    rw [← hs7] at hb7
                    clear hs7 mc mf HA
                    have HB7 := Lib.hid (HB6.out.trans (hb7.mono (by omega)))
                    clear hb7
                    go_wp2
                    go_roundw
                    case rel => exact ⟨p + 1 + 1, _, by go_num, rfl, by omega, HJ.out.symm, HT, HB7.out⟩
                    case measure => simp [intOf]; omega
                  · subst hz1
                    rw [Int.max_self] at HJ
                    go_wp2
                    refine wp_region_btail 11 (by kernel_rfl) (by kernel_rfl) ?_
                    simp only [List.take_succ_cons, List.take_zero, List.drop_succ_cons, List.drop_zero]
                    repeat (go_big_quiet_step (first | (go_at_call 77; refine (HA.out _).mono ?_; rintro e w7 ⟨rfl, hb7⟩; exact ⟨rfl, in_mergeW hb7⟩)))
                    refine wpQuiet_nil ?_
                    rintro w7 ⟨s7, hs7⟩
                    have hb7 := below_mergeW w6 s7
                    rw [← hs7] at hb7
                    clear hs7 mc mf HA
                    have HB7 := Lib.hid (HB6.out.trans (hb7.mono (by omega)))
                    clear hb7
                    go_wp2
                    go_roundw
                    case rel => exact ⟨p + 1 + 1, _, by go_num, rfl, by omega, HJ.out.symm, HT, HB7.out⟩
                    case measure => simp [intOf]; omega
                  · rw [show max m z = m by omega] at HJ
                    go_wp2
                    refine wp_region_btail 11 (by kernel_rfl) (by kernel_rfl) ?_
                    simp only [List.take_succ_cons, List.take_zero, List.drop_succ_cons, List.drop_zero]
                    repeat (go_big_quiet_step (first | (go_at_call 77; refine (HA.out _).mono ?_; rintro e w7 ⟨rfl, hb7⟩; exact ⟨rfl, in_mergeW hb7⟩)))
                    refine wpQuiet_nil ?_
                    rintro w7 ⟨s7, hs7⟩
                    have hb7 := below_mergeW w6 s7
                    rw [← hs7] at hb7
                    clear hs7 mc mf HA
                    have HB7 := Lib.hid (HB6.out.trans (hb7.mono (by omega)))
                    clear hb7
                    go_wp2
                    go_roundw
                    case rel => exact ⟨p + 1 + 1, _, by go_num, rfl, by omega, HJ.out.symm, HT, HB7.out⟩
                    case measure => simp [intOf]; omega
            · obtain rfl : q = crs.length := by omega
              have HE0 := Lib.hid (show courseE g row crs = 0 by rw [HE.out, if_pos]; have h := HF.out; rw [List.take_length, List.take_of_length_le (by have := HL.out; omega)] at h; exact h)
              have HN := Lib.hid (show courseN g row crs = m by rw [HJN.out HE0.out, HM.out, List.take_length])
              go_wp2
              go_ret2
              exact ⟨ret_pair (by rw [HN.out]; rfl) (by rw [HE0.out]; rfl), HB0.out.trans (hb.mono (by have := HB0.out.size; omega))⟩
    · have d1 : ((crs.length : Int) != (row.length : Int)) = true := by simp; omega
      have HE := Lib.hid (show courseE g row crs = 1 by rw [courseE, if_pos HV.out, if_neg (fun h => hl h.1)])
      have HN := Lib.hid (show courseN g row crs = 0 by rw [courseN, if_neg (by rw [HE.out]; decide)])
      clear hl
      go_enter Try.func37, Try.ntmps37
      go_wp2_with fail
      refine (rRowed A A' g.length c row.length c' g row w hs hs' w.heap.size (Nat.le_refl _) hr hr').mono ?_
      rw [HV.out]
      rintro e w1 ⟨rfl, hb1⟩
      have s1 := hb1.size
      have HB1 := Lib.hid hb1
      have hr := (hr.below hb1).more s1
      have hr' := (hr'.below hb1).more s1
      have hr'' := (hr''.below hb1).more s1
      clear hb1
      go_wp2
      go_ret2
      exact ⟨ret_pair (by rw [HN.out]; rfl) (by rw [HE.out]; rfl), HB1.out⟩
  · have hd : (rowE g row != 0) = true := by simpa using h
    have HE := Lib.hid (show courseE g row crs = rowE g row by rw [courseE, if_neg h])
    have HN := Lib.hid (show courseN g row crs = 0 by rw [courseN, if_neg (by rw [HE.out]; exact h)])
    clear h
    have H := Lib.hid (fun w1 h1 h2 => rRowed A A' g.length c row.length c' g row w1 hs hs' w1.heap.size (Nat.le_refl _) h1 h2)
    generalize rowE g row = x at *
    go_enter Try.func37, Try.ntmps37
    go_wp2_with fail
    refine (H.out w hr hr').mono ?_
    rintro e w1 ⟨rfl, hb1⟩
    have s1 := hb1.size
    have HB1 := Lib.hid hb1
    have hr := (hr.below hb1).more s1
    have hr' := (hr'.below hb1).more s1
    have hr'' := (hr''.below hb1).more s1
    clear hb1
    go_wp2
    go_ret2
    exact ⟨ret_pair (by rw [HN.out]; rfl) (by rw [HE.out]; rfl), HB1.out⟩
end Go.Proofs.Ytejjogpgolgdgaa
