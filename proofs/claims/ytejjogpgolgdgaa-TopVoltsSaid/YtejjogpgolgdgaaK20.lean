/-
  MERGED: W32, W33, P6.
-/
import Derived.Test.YtejjogpgolgdgaaK19
import Derived.Test.YtejjogpgolgdgaaK18
import Derived.Test.YtejjogpgolgdgaaK14
/-
  WALKS: Without of both. (Printed by gen_w32.py.)
-/
namespace Go.Proofs.Ytejjogpgolgdgaa
open Go.RowKit Pulse

set_option maxRecDepth 100000 in
set_option maxHeartbeats 4000000 in
theorem pWithout (A : Option Addr) (k c : Nat) (g : List (List Int)) (wire : Int) (w : World) (hs : Sm g) (hi : -9223372036854775808 ≤ wire ∧ wire ≤ 9223372036854775807) (B : Nat) (hB : B ≤ w.heap.size) (hr : TRd w B A k g) :
    Calls Try.prog 52 #[.slice A k c, .int .i64 wire] w fun e w' => ∃ u, e = .returned (.tuple #[u, .int .i64 (withE g wire)]) ∧ OwnS w' w.heap.size u (withT g wire) ∧ Below w.heap.size w w' := by
  have hr := hr.more hB
  by_cases h : vldG g = 0
  · obtain ⟨h1, h2, h3, h4, h5⟩ := vldG_ok h
    have HV := Lib.hid h
    have hpos : 0 < g.length := by omega
    obtain rfl := hr.len
    have HROW := Lib.hid h5
    clear h h5
    have HWE := Lib.hid (show withE g wire = if wire < 0 ∨ (wid g : Int) ≤ wire then 4 else if wid g = 1 then 1 else 0 by rw [withE, if_pos HV.out])
    have HW := Lib.hid (wid_zero hpos)
    have HWT := Lib.hid (show withT g wire = if withE g wire = 0 then g.map (cutL wire.toNat) else [] from rfl)
    obtain ⟨m, hm⟩ : ∃ m, m = wid g := ⟨_, rfl⟩
    rw [← hm] at HWE HW h3 h4
    have HM := Lib.hid hm
    clear hm
    by_cases hw0 : wire < 0
    · have hd : decide (wire < 0) = true := by simpa using hw0
      have HE := Lib.hid (show withE g wire = 4 by rw [HWE.out]; rw [if_pos (.inl hw0)])
      have HT := Lib.hid (show withT g wire = [] by rw [HWT.out, HE.out]; rfl)
      go_enter Try.func52, Try.ntmps52
      go_wp2_with fail
      refine (pValidate _ _ _ g w hs w.heap.size (Nat.le_refl _) hr).mono ?_
      rw [HV.out]
      rintro e w1 ⟨rfl, hb1⟩
      have s1 := hb1.size
      have HB1 := Lib.hid hb1
      have hr := (hr.below hb1).more s1
      clear hb1
      obtain ⟨b0, off0, A0, c0, rfl, hb0, hc0, _, _, _⟩ := hr.row hpos
      rw [Nat.add_zero, ← HW.out] at hc0
      have z9 : (0 : Int) < (g.length : Int) := by omega
      go_wp2
      go_ret2
      exact ⟨_, ret_pair rfl (by rw [HE.out]; rfl), by rw [HT.out]; exact OwnS.nil, HB1.out⟩
    obtain ⟨x, rfl⟩ : ∃ x : Nat, wire = (x : Int) := ⟨wire.toNat, by omega⟩
    clear hw0
    by_cases hwx : m ≤ x
    · have z1 : (m : Int) ≤ (x : Int) := by omega
      have z0 : (0 : Int) ≤ (x : Int) := by omega
      have HE := Lib.hid (show withE g (x : Int) = 4 by rw [HWE.out]; rw [if_pos (.inr z1)])
      have HT := Lib.hid (show withT g (x : Int) = [] by rw [HWT.out, HE.out]; rfl)
      go_enter Try.func52, Try.ntmps52
      go_wp2_with fail
      refine (pValidate _ _ _ g w hs w.heap.size (Nat.le_refl _) hr).mono ?_
      rw [HV.out]
      rintro e w1 ⟨rfl, hb1⟩
      have s1 := hb1.size
      have HB1 := Lib.hid hb1
      have hr := (hr.below hb1).more s1
      clear hb1
      obtain ⟨b0, off0, A0, c0, rfl, hb0, hc0, _, _, _⟩ := hr.row hpos
      rw [Nat.add_zero, ← HW.out] at hc0
      have z9 : (0 : Int) < (g.length : Int) := by omega
      go_wp2
      go_ret2
      exact ⟨_, ret_pair rfl (by rw [HE.out]; rfl), by rw [HT.out]; exact OwnS.nil, HB1.out⟩
    have z0 : (0 : Int) ≤ (x : Int) := by omega
    have z1 : (x : Int) < (m : Int) := by omega
    by_cases hm1 : m = 1
    · have hd : ((m : Int) == 1) = true := by simp; omega
      have HE := Lib.hid (show withE g (x : Int) = 1 by rw [HWE.out]; rw [if_neg (by omega), if_pos hm1])
      have HT := Lib.hid (show withT g (x : Int) = [] by rw [HWT.out, HE.out]; rfl)
      go_enter Try.func52, Try.ntmps52
      go_wp2_with fail
      refine (pValidate _ _ _ g w hs w.heap.size (Nat.le_refl _) hr).mono ?_
      rw [HV.out]
      rintro e w1 ⟨rfl, hb1⟩
      have s1 := hb1.size
      have HB1 := Lib.hid hb1
      have hr := (hr.below hb1).more s1
      clear hb1
      obtain ⟨b0, off0, A0, c0, rfl, hb0, hc0, _, _, _⟩ := hr.row hpos
      rw [Nat.add_zero, ← HW.out] at hc0
      have z9 : (0 : Int) < (g.length : Int) := by omega
      go_wp2
      go_ret2
      exact ⟨_, ret_pair rfl (by rw [HE.out]; rfl), by rw [HT.out]; exact OwnS.nil, HB1.out⟩
    have hd : ((m : Int) == 1) = false := by simp; omega
    have HE := Lib.hid (show withE g (x : Int) = 0 by rw [HWE.out, if_neg (by omega), if_neg hm1])
    have HT := Lib.hid (show withT g (x : Int) = g.map (cutL x) by rw [HWT.out, HE.out]; rfl)
    clear hm1 HWT HWE
    go_enter Try.func52, Try.ntmps52
    go_wp2_with fail
    refine (pValidate _ _ _ g w hs w.heap.size (Nat.le_refl _) hr).mono ?_
    rw [HV.out]
    rintro e w1 ⟨rfl, hb1⟩
    have s1 := hb1.size
    have HB1 := Lib.hid hb1
    have hr := (hr.below hb1).more s1
    clear hb1
    obtain ⟨b0, off0, A0, c0, rfl, hb0, hc0, _, _, _⟩ := hr.row hpos
    rw [Nat.add_zero, ← HW.out] at hc0
    have z9 : (0 : Int) < (g.length : Int) := by omega
    have sz0 := HB1.out.size
    have y9 := IntWalk.i64_in ((x : Int) + 1) (by omega)
    go_wp2
    go_loopw [7, 9, 32] (fun u _ i wr => ∃ q : Nat, i = .int .i64 q ∧ q ≤ g.length ∧ OwnS wr w1.heap.size u ((g.take q).map (cutL x)) ∧ Below w1.heap.size w1 wr) (fun _ _ i _ => g.length - (intOf i).toNat)
    case atStart => exact ⟨0, rfl, Nat.zero_le _, OwnS.nil, Below.refl _ _⟩
    case round =>
      obtain ⟨q, rfl, hq, hos, hb⟩ := hrel
      have hsz := hb.size
      by_cases hlt : q < g.length
      · obtain ⟨b1, off1, A1, c1, e1, hb1, g0, hcl, hcm, hr1⟩ := (hr.below' hb (Nat.le_refl _)).row hlt
        simp only [Option.some.injEq, Addr.mk.injEq, and_true] at e1
        obtain ⟨rfl, rfl⟩ := e1
        have hl1 : g[q].length = m := by rw [(HROW.out _ (List.getElem_mem hlt)).1, HM.out]
        have HCUT := Lib.hid (cut_take x g hlt)
        have hlc := cutL_len (x := x) (l := g[q]) (by omega)
        obtain ⟨l, hl⟩ : ∃ l, l = g[q] := ⟨_, rfl⟩
        rw [← hl] at g0 hcl hr1 hl1 HCUT hlc
        clear hl
        obtain ⟨b2, off2, rfl, hb2, _⟩ := hr1.2 (by omega)
        have hp := rd_parts (x := x) hr1 (by omega) hcl
        rw [hl1] at g0 hcl hlc
        have HL := Lib.hid hl1
        obtain ⟨vs, hown, ht, hsf⟩ := hos
        have hlq : ((g.take q).map (cutL x)).length = q := by simp; omega
        rw [hlq] at hown
        have HLQ := Lib.hid hlq
        clear hlq
        have HPA := Lib.hid (hp.1.more hsz)
        have HPB := Lib.hid (hp.2.more hsz)
        have HOA := Lib.hid (And.intro hown (And.intro ht (And.intro hsf hb)))
        obtain ⟨Au, cu, rfl, hcu1, hcu2⟩ := own_cap hown
        clear hp hr1 hl1 hown ht hsf hb
        have hxc : x ≤ c1 := by omega
        have hxc1 : x + 1 ≤ m := by omega
        have zq0 : (0 : Int) ≤ (q : Int) := by omega
        have zq1 : (q : Int) < (g.length : Int) := by omega
        obtain ⟨A2, hA2⟩ : ∃ A2 : Option Addr, A2 = (if c1 = x + 1 then some ⟨b2, off2, none⟩ else some ⟨b2, off2 + (x + 1), none⟩) := ⟨_, rfl⟩
        rw [← hA2] at HPB
        go_wp2
        refine wp_region_ftail (fun w' => w' = wr.drew) 7 _ (.slice Au q cu) (by kernel_rfl) (by kernel_rfl) rfl rfl rfl (fun _ _ _ _ h => h) rfl ?_
        simp only [List.take_succ_cons, List.take_zero, List.drop_succ_cons, List.drop_zero, Act.put, List.setIfInBounds_toArray, List.set_cons_zero, List.set_cons_succ]
        repeat (go_big_quiet_step (fail))
        refine wpQuiet_nil ?_
        rintro w' rfl
        rw [← hA2]
        clear hA2
        have ln1 : (l.take x).length ≤ 100 := by have := HL.out; rw [List.length_take]; omega
        have ln2 : (l.drop (x + 1)).length ≤ 100 := by have := HL.out; rw [List.length_drop]; omega
        rw [HL.out] at HPB
        have HG := Lib.hid (blk_new wr.drew 23 #[.slice (some ⟨b2, off2, none⟩) x c1, .slice A2 (m - (x + 1)) (c1 - (x + 1))])
        have HBN := Lib.hid ((Below.refl wr.heap.size wr).drew.alloc (Nat.le_refl _) (.cells #[.slice (some ⟨b2, off2, none⟩) x c1, .slice A2 (m - (x + 1)) (c1 - (x + 1))] 23))
        have HCC := Lib.hid (pConcat wr.heap.size (some ⟨b2, off2, none⟩) A2 x c1 (m - (x + 1)) (c1 - (x + 1)) (l.take x) (l.drop (x + 1)) (wr.drew.alloc (.cells #[.slice (some ⟨b2, off2, none⟩) x c1, .slice A2 (m - (x + 1)) (c1 - (x + 1))] 23)) ln1 ln2 wr.heap.size (by simp) (HPA.out.below HBN.out) (HPB.out.below HBN.out) HG.out)
        clear ln1 ln2 HPA HPB HG
        go_wp2_with fail
        refine HCC.out.mono ?_
        rintro e w3 ⟨v3, rfl, hown3, hb3⟩
        have HB3 := Lib.hid (HBN.out.trans (hb3.mono (by simp)))
        have sz3 := HB3.out.size
        have hown3 : w3.ownsRow (wr.heap.size + 1) 3 1 v3 (cutL x l).length (ints (cutL x l)) := by have := hown3; simpa [cutL] using this
        obtain ⟨A3, c3, rfl, hc31, hc32⟩ := own_cap hown3
        have u1 := own_below HOA.out.1 HB3.out
        have B3 := Lib.hid (HOA.out.2.2.2.trans (HB3.out.mono hsz))
        clear hb3 HCC
        go_wp2_with (at_builtin; go_must (refine app1x rfl (.tmp 36) (.tmp 46) 22 rfl 23 _ 1 24 E22 w1.heap.size _ _ _ _ rfl u1 _ rfl ?_ ?_ ?_ ?_ ?_ ?_); rfl; rfl; rfl; omega; omega; intro v5 w5 hown5 hg5 hx5)
        have HOS := Lib.hid (OwnS.push (by rw [HLQ.out]; exact u1) ((HOA.out.2.1.below HB3.out (Nat.le_refl _)).more sz3) (fun v hv => (HOA.out.2.2.1 v hv).below HB3.out) hown3 (by omega) (fun g hg => by have := (HOA.out.1.lt g hg).2; omega) (by rw [hlc]; exact hown5) (by rw [HLQ.out]) hg5 hx5)
        have HB5 := Lib.hid (below_own B3.out (by omega) u1 (Nat.le_refl _) hg5)
        clear hown5 hg5 hx5
        go_roundw
        case rel => exact ⟨q + 1, by go_num, by omega, by rw [HCUT.out]; exact HOS.out, HB5.out⟩
        case measure => simp [intOf]; omega
      · obtain rfl : q = g.length := by omega
        rw [List.take_length] at hos
        obtain ⟨Au, cu, rfl, _⟩ := hos.cap
        have HO := Lib.hid (And.intro (hos.base sz0) hb)
        clear hos hb
        go_wp2
        go_ret2
        exact ⟨_, ret_pair rfl (by rw [HE.out]; rfl), by rw [HT.out]; exact HO.out.1, HB1.out.trans (HO.out.2.mono sz0)⟩
  · have hd : (vldG g != 0) = true := by simpa using h
    have HE := Lib.hid (show withE g wire = vldG g by rw [withE, if_neg h])
    have HT := Lib.hid (show withT g wire = [] by rw [withT, HE.out, if_neg h])
    clear h
    have H := Lib.hid (pValidate _ _ c g w hs w.heap.size (Nat.le_refl _) hr)
    generalize vldG g = y at *
    go_enter Try.func52, Try.ntmps52
    go_wp2_with fail
    refine (H.out).mono ?_
    rintro e w1 ⟨rfl, hb1⟩
    have s1 := hb1.size
    have HB1 := Lib.hid hb1
    have hr := (hr.below hb1).more s1
    clear hb1
    go_wp2
    go_ret2
    exact ⟨_, ret_pair rfl (by rw [HE.out]; rfl), by rw [HT.out]; exact OwnS.nil, HB1.out⟩

set_option maxRecDepth 100000 in
set_option maxHeartbeats 4000000 in
theorem rWithout (A : Option Addr) (k c : Nat) (g : List (List Int)) (wire : Int) (w : World) (hs : Sm g) (hi : -9223372036854775808 ≤ wire ∧ wire ≤ 9223372036854775807) (B : Nat) (hB : B ≤ w.heap.size) (hr : TRd w B A k g) :
    Calls Try.prog 53 #[.slice A k c, .int .i64 wire] w fun e w' => ∃ u, e = .returned (.tuple #[u, .int .i64 (withE g wire)]) ∧ OwnS w' w.heap.size u (withT g wire) ∧ Below w.heap.size w w' := by
  have hr := hr.more hB
  by_cases h : vldG g = 0
  · obtain ⟨h1, h2, h3, h4, h5⟩ := vldG_ok h
    have HV := Lib.hid h
    have hpos : 0 < g.length := by omega
    obtain rfl := hr.len
    have HROW := Lib.hid h5
    clear h h5
    have HWE := Lib.hid (show withE g wire = if wire < 0 ∨ (wid g : Int) ≤ wire then 4 else if wid g = 1 then 1 else 0 by rw [withE, if_pos HV.out])
    have HW := Lib.hid (wid_zero hpos)
    have HWT := Lib.hid (show withT g wire = if withE g wire = 0 then g.map (cutL wire.toNat) else [] from rfl)
    obtain ⟨m, hm⟩ : ∃ m, m = wid g := ⟨_, rfl⟩
    rw [← hm] at HWE HW h3 h4
    have HM := Lib.hid hm
    clear hm
    by_cases hw0 : wire < 0
    · have hd : decide (wire < 0) = true := by simpa using hw0
      have HE := Lib.hid (show withE g wire = 4 by rw [HWE.out]; rw [if_pos (.inl hw0)])
      have HT := Lib.hid (show withT g wire = [] by rw [HWT.out, HE.out]; rfl)
      go_enter Try.func53, Try.ntmps53
      go_wp2_with fail
      refine (rValidate _ _ _ g w hs w.heap.size (Nat.le_refl _) hr).mono ?_
      rw [HV.out]
      rintro e w1 ⟨rfl, hb1⟩
      have s1 := hb1.size
      have HB1 := Lib.hid hb1
      have hr := (hr.below hb1).more s1
      clear hb1
      obtain ⟨b0, off0, A0, c0, rfl, hb0, hc0, _, _, _⟩ := hr.row hpos
      rw [Nat.add_zero, ← HW.out] at hc0
      have z9 : (0 : Int) < (g.length : Int) := by omega
      go_wp2
      go_ret2
      exact ⟨_, ret_pair rfl (by rw [HE.out]; rfl), by rw [HT.out]; exact OwnS.nil, HB1.out⟩
    obtain ⟨x, rfl⟩ : ∃ x : Nat, wire = (x : Int) := ⟨wire.toNat, by omega⟩
    clear hw0
    by_cases hwx : m ≤ x
    · have z1 : (m : Int) ≤ (x : Int) := by omega
      have z0 : (0 : Int) ≤ (x : Int) := by omega
      have HE := Lib.hid (show withE g (x : Int) = 4 by rw [HWE.out]; rw [if_pos (.inr z1)])
      have HT := Lib.hid (show withT g (x : Int) = [] by rw [HWT.out, HE.out]; rfl)
      go_enter Try.func53, Try.ntmps53
      go_wp2_with fail
      refine (rValidate _ _ _ g w hs w.heap.size (Nat.le_refl _) hr).mono ?_
      rw [HV.out]
      rintro e w1 ⟨rfl, hb1⟩
      have s1 := hb1.size
      have HB1 := Lib.hid hb1
      have hr := (hr.below hb1).more s1
      clear hb1
      obtain ⟨b0, off0, A0, c0, rfl, hb0, hc0, _, _, _⟩ := hr.row hpos
      rw [Nat.add_zero, ← HW.out] at hc0
      have z9 : (0 : Int) < (g.length : Int) := by omega
      go_wp2
      go_ret2
      exact ⟨_, ret_pair rfl (by rw [HE.out]; rfl), by rw [HT.out]; exact OwnS.nil, HB1.out⟩
    have z0 : (0 : Int) ≤ (x : Int) := by omega
    have z1 : (x : Int) < (m : Int) := by omega
    by_cases hm1 : m = 1
    · have hd : ((m : Int) == 1) = true := by simp; omega
      have HE := Lib.hid (show withE g (x : Int) = 1 by rw [HWE.out]; rw [if_neg (by omega), if_pos hm1])
      have HT := Lib.hid (show withT g (x : Int) = [] by rw [HWT.out, HE.out]; rfl)
      go_enter Try.func53, Try.ntmps53
      go_wp2_with fail
      refine (rValidate _ _ _ g w hs w.heap.size (Nat.le_refl _) hr).mono ?_
      rw [HV.out]
      rintro e w1 ⟨rfl, hb1⟩
      have s1 := hb1.size
      have HB1 := Lib.hid hb1
      have hr := (hr.below hb1).more s1
      clear hb1
      obtain ⟨b0, off0, A0, c0, rfl, hb0, hc0, _, _, _⟩ := hr.row hpos
      rw [Nat.add_zero, ← HW.out] at hc0
      have z9 : (0 : Int) < (g.length : Int) := by omega
      go_wp2
      go_ret2
      exact ⟨_, ret_pair rfl (by rw [HE.out]; rfl), by rw [HT.out]; exact OwnS.nil, HB1.out⟩
    have hd : ((m : Int) == 1) = false := by simp; omega
    have HE := Lib.hid (show withE g (x : Int) = 0 by rw [HWE.out, if_neg (by omega), if_neg hm1])
    have HT := Lib.hid (show withT g (x : Int) = g.map (cutL x) by rw [HWT.out, HE.out]; rfl)
    clear hm1 HWT HWE
    go_enter Try.func53, Try.ntmps53
    go_wp2_with fail
    refine (rValidate _ _ _ g w hs w.heap.size (Nat.le_refl _) hr).mono ?_
    rw [HV.out]
    rintro e w1 ⟨rfl, hb1⟩
    have s1 := hb1.size
    have HB1 := Lib.hid hb1
    have hr := (hr.below hb1).more s1
    clear hb1
    obtain ⟨b0, off0, A0, c0, rfl, hb0, hc0, _, _, _⟩ := hr.row hpos
    rw [Nat.add_zero, ← HW.out] at hc0
    have z9 : (0 : Int) < (g.length : Int) := by omega
    have sz0 := HB1.out.size
    have y9 := IntWalk.i64_in ((x : Int) + 1) (by omega)
    go_wp2
    go_loopw [7, 8] (fun u i wr => ∃ q : Nat, i = .int .i64 q ∧ q ≤ g.length ∧ OwnS wr w1.heap.size u ((g.take q).map (cutL x)) ∧ Below w1.heap.size w1 wr) (fun _ i _ => g.length - (intOf i).toNat)
    case atStart => exact ⟨0, rfl, Nat.zero_le _, OwnS.nil, Below.refl _ _⟩
    case round =>
      obtain ⟨q, rfl, hq, hos, hb⟩ := hrel
      have hsz := hb.size
      by_cases hlt : q < g.length
      · obtain ⟨b1, off1, A1, c1, e1, hb1, g0, hcl, hcm, hr1⟩ := (hr.below' hb (Nat.le_refl _)).row hlt
        simp only [Option.some.injEq, Addr.mk.injEq, and_true] at e1
        obtain ⟨rfl, rfl⟩ := e1
        have hl1 : g[q].length = m := by rw [(HROW.out _ (List.getElem_mem hlt)).1, HM.out]
        have HCUT := Lib.hid (cut_take x g hlt)
        have hlc := cutL_len (x := x) (l := g[q]) (by omega)
        obtain ⟨l, hl⟩ : ∃ l, l = g[q] := ⟨_, rfl⟩
        rw [← hl] at g0 hcl hr1 hl1 HCUT hlc
        clear hl
        obtain ⟨b2, off2, rfl, hb2, _⟩ := hr1.2 (by omega)
        have hp := rd_parts (x := x) hr1 (by omega) hcl
        rw [hl1] at g0 hcl hlc
        have HL := Lib.hid hl1
        obtain ⟨vs, hown, ht, hsf⟩ := hos
        have hlq : ((g.take q).map (cutL x)).length = q := by simp; omega
        rw [hlq] at hown
        have HLQ := Lib.hid hlq
        clear hlq
        have HPA := Lib.hid (hp.1.more hsz)
        have HPB := Lib.hid (hp.2.more hsz)
        have HOA := Lib.hid (And.intro hown (And.intro ht (And.intro hsf hb)))
        obtain ⟨Au, cu, rfl, hcu1, hcu2⟩ := own_cap hown
        clear hp hr1 hl1 hown ht hsf hb
        have hxc : x ≤ c1 := by omega
        have hxc1 : x + 1 ≤ m := by omega
        have zq0 : (0 : Int) ≤ (q : Int) := by omega
        have zq1 : (q : Int) < (g.length : Int) := by omega
        obtain ⟨A2, hA2⟩ : ∃ A2 : Option Addr, A2 = (if c1 = x + 1 then some ⟨b2, off2, none⟩ else some ⟨b2, off2 + (x + 1), none⟩) := ⟨_, rfl⟩
        rw [← hA2] at HPB
        rw [HL.out] at HPB
        have ln1 : (l.take x).length = x := by have := HL.out; rw [List.length_take]; omega
        have ln2 : (l.drop (x + 1)).length = m - (x + 1) := by have := HL.out; rw [List.length_drop]; omega
        have HO := Lib.hid (show (wr.drew.alloc (.cells #[] 3)).ownsRow wr.heap.size 3 1 (.slice (some ⟨wr.heap.size, 0, none⟩) 0 0) 0 [] from own_empty (blk_new wr.drew 3 #[]) (Nat.le_refl _))
        have HB1 := Lib.hid ((Below.refl wr.heap.size wr).drew.alloc (Nat.le_refl _) (.cells #[] 3))
        have HC := Lib.hid (show ints (cutL x l) = ints (l.take x) ++ ints (l.drop (x + 1)) by simp [cutL, ints])
        have mc := cell_mergeB w1.heap.size wr
        have mf := frozen_mergeB w1.heap.size wr
        go_wp2
        refine wp_region_pick (fun w' => ∃ s, w' = mergeB w1.heap.size wr s) 19 [0, 2, 3, 4, 5, 6, 7, 9, 10, 11, 12, 13, 14, 15] [1, 8, 16, 17, 18, 19] (by kernel_rfl) rfl (by kernel_rfl) (fun _ _ _ _ _ h => h) ⟨_, mergeB_of (Below.refl w1.heap.size wr).drew⟩ ?_
        simp only [List.map_cons, List.map_nil, List.getD_cons_zero, List.getD_cons_succ]
        repeat (go_big_quiet_step (fail))
        refine wpQuiet_nil ?_
        rw [← hA2]
        clear hA2 mc mf
        refine seqS_cons rfl ?_
        go_wp2
        refine thenS_normal (.inr ⟨_, mergeB_of (HB1.out.mono hsz)⟩) ?_
        refine seqS_cons rfl ?_
        refine appN rfl (.tmp 36) (.tmp 42) 23 rfl 3 _ 1 8 E23 wr.heap.size _ _ _ rfl HO.out wr.heap.size (some ⟨b2, off2, none⟩) x c1 (ints (l.take x)) rfl (HPA.out.below HB1.out) (ints_one _) (by omega) (by simp) ?_
        intro v5 w5 hown5 hg5
        have HB5 := Lib.hid (below_own HB1.out (by simp) HO.out (Nat.le_refl _) hg5)
        rw [Nat.zero_add, List.nil_append] at hown5
        have sz5 := HB5.out.size
        obtain ⟨A5, c5, rfl, _, _⟩ := own_cap hown5
        refine thenS_normal (.inr ⟨_, mergeB_of (HB5.out.mono hsz)⟩) ?_
        refine seqS_cons rfl ?_
        refine appN rfl (.tmp 43) (.tmp 50) 23 rfl 3 _ 1 8 E23 wr.heap.size _ _ _ rfl hown5 wr.heap.size A2 (m - (x + 1)) (c1 - (x + 1)) (ints (l.drop (x + 1))) rfl (HPB.out.below HB5.out) (ints_one _) (by omega) sz5 ?_
        intro v6 w6 hown6 hg6
        have HB6 := Lib.hid (below_own HB5.out sz5 hown5 (Nat.le_refl _) hg6)
        have sz6 := HB6.out.size
        have hxm : x + (m - (x + 1)) = (cutL x l).length := by omega
        rw [← HC.out, hxm] at hown6
        obtain ⟨A6, c6, rfl, _, _⟩ := own_cap hown6
        refine thenS_normal (.inr ⟨_, mergeB_of (HB6.out.mono hsz)⟩) ?_
        have u1 := own_below HOA.out.1 HB6.out
        have B3 := Lib.hid (HOA.out.2.2.2.trans (HB6.out.mono hsz))
        clear hown5 hg5 hg6
        refine seqS_cons rfl ?_
        go_wp2
        refine thenS_normal (.inr ⟨_, mergeB_of ((HB6.out.mono hsz).alloc (Nat.le_trans hsz sz6) _)⟩) ?_
        refine seqS_cons rfl ?_
        (refine app1x rfl (.tmp 35) (.tmp 52) 22 rfl 23 _ 1 24 E22 w1.heap.size _ _ _ _ rfl u1 _ rfl ?_ ?_ ?_ ?_ ?_ ?_); rfl; rfl; rfl; omega; omega; intro v7 w7 hown7 hg7 hx7
        have HOS := Lib.hid (OwnS.push (by rw [HLQ.out]; exact u1) ((HOA.out.2.1.below HB6.out (Nat.le_refl _)).more sz6) (fun v hv => (HOA.out.2.2.1 v hv).below HB6.out) hown6 hsz (fun g hg => (HOA.out.1.lt g hg).2) (by rw [hlc]; exact hown7) (by rw [HLQ.out]) hg7 hx7)
        have HB7 := Lib.hid (below_own B3.out (by omega) u1 (Nat.le_refl _) hg7)
        have HB77 := Lib.hid (below_own (HB6.out.mono hsz) (Nat.le_trans hsz sz6) u1 (Nat.le_refl _) hg7)
        clear hown7 hg7 hx7
        refine thenS_normal (.inr ⟨_, mergeB_of HB77.out⟩) ?_
        refine seqS_cons rfl ?_
        go_wp2
        refine thenS_normal (by first | trivial | exact .inl rfl) ?_
        refine seqS_nil ?_
        go_wp2
        go_roundw
        case rel => exact ⟨q + 1, by go_num, by omega, by rw [HCUT.out]; exact HOS.out, HB7.out⟩
        case measure => simp [intOf]; omega
      · obtain rfl : q = g.length := by omega
        rw [List.take_length] at hos
        obtain ⟨Au, cu, rfl, _⟩ := hos.cap
        have HO := Lib.hid (And.intro (hos.base sz0) hb)
        clear hos hb
        go_wp2
        go_ret2
        exact ⟨_, ret_pair rfl (by rw [HE.out]; rfl), by rw [HT.out]; exact HO.out.1, HB1.out.trans (HO.out.2.mono sz0)⟩
  · have hd : (vldG g != 0) = true := by simpa using h
    have HE := Lib.hid (show withE g wire = vldG g by rw [withE, if_neg h])
    have HT := Lib.hid (show withT g wire = [] by rw [withT, HE.out, if_neg h])
    clear h
    have H := Lib.hid (rValidate _ _ c g w hs w.heap.size (Nat.le_refl _) hr)
    generalize vldG g = y at *
    go_enter Try.func53, Try.ntmps53
    go_wp2_with fail
    refine (H.out).mono ?_
    rintro e w1 ⟨rfl, hb1⟩
    have s1 := hb1.size
    have HB1 := Lib.hid hb1
    have hr := (hr.below hb1).more s1
    clear hb1
    go_wp2
    go_ret2
    exact ⟨_, ret_pair rfl (by rw [HE.out]; rfl), by rw [HT.out]; exact OwnS.nil, HB1.out⟩
end Go.Proofs.Ytejjogpgolgdgaa

/-
  WALKS: SameTables, CopyTable. (Printed by gen_w33.py.)
-/
namespace Go.Proofs.Ytejjogpgolgdgaa
open Go.RowKit Pulse

theorem take_eq_succ {g h : List (List Int)} {q : Nat} (h1 : q < g.length) (h2 : q < h.length) (e : g.take q = h.take q) : g.take (q + 1) = h.take (q + 1) ↔ g[q] = h[q] := by
  rw [take_snoc' g q h1, take_snoc' h q h2, e, List.append_cancel_left_eq, List.cons.injEq]
  simp only [and_true]

set_option maxRecDepth 100000 in
set_option maxHeartbeats 2000000 in
theorem rSameTables (r : Bool) (A A' : Option Addr) (k c k' c' : Nat) (g h : List (List Int)) (hr0 : decide (g = h) = r) (w : World) (hs : Sm g) (hs' : Sm h) (B : Nat) (hB : B ≤ w.heap.size) (hr : TRd w B A k g) (hr' : TRd w B A' k' h) :
    Calls Try.prog 50 #[.slice A k c, .slice A' k' c'] w fun e w' => e = .returned (.bool r) ∧ Below w.heap.size w w' := by
  have hr := hr.more hB
  have hr' := hr'.more hB
  obtain rfl := hr.len
  obtain rfl := hr'.len
  have HD := Lib.hid hr0
  have HS1 := Lib.hid hs.2
  have HS2 := Lib.hid hs'.2
  have hg1 := hs.1
  have hg2 := hs'.1
  clear hr0
  by_cases hl : g.length = h.length
  · have HL := Lib.hid hl
    have d1 : ((g.length : Int) != (h.length : Int)) = false := by simp [hl]
    have z8 : g.length ≤ h.length := by omega
    have z9 : h.length ≤ g.length := by omega
    clear hl
    go_enter Try.func50, Try.ntmps50
    go_wp2
    go_loopw [5] (fun i wr => ∃ q : Nat, i = .int .i64 q ∧ q ≤ g.length ∧ Hid (g.take q = h.take q) ∧ Below w.heap.size w wr) (fun i _ => g.length - (intOf i).toNat)
    case atStart => exact ⟨0, rfl, Nat.zero_le _, by exact rfl, Below.refl _ _⟩
    case round =>
      obtain ⟨q, rfl, hq, he, hb⟩ := hrel
      have hsz := hb.size
      by_cases hlt : q < g.length
      · have hlt2 : q < h.length := by omega
        obtain ⟨b1, o1, A1, c1, rfl, lb1, g1, _, _, r1⟩ := (hr.below' hb (Nat.le_refl _)).row hlt
        obtain ⟨b2, o2, A2, c2, rfl, lb2, g2, _, _, r2⟩ := (hr'.below' hb (Nat.le_refl _)).row hlt2
        have hx1 := HS1.out _ (List.getElem_mem hlt)
        have hx2 := HS2.out _ (List.getElem_mem hlt2)
        have HE := Lib.hid (take_eq_succ hlt hlt2 he.out)
        obtain ⟨x, hx⟩ : ∃ x, x = g[q] := ⟨_, rfl⟩
        obtain ⟨y, hy⟩ : ∃ y, y = h[q] := ⟨_, rfl⟩
        rw [← hx] at g1 r1 hx1 HE
        rw [← hy] at g2 r2 hx2 HE
        have HNE := Lib.hid (show x ≠ y → g ≠ h from fun hn e => hn (by rw [hx, hy]; simp only [e]))
        clear hx hy
        obtain ⟨d, hd⟩ : ∃ d, d = decide (x = y) := ⟨_, rfl⟩
        have HS := Lib.hid (fun s => rSameInts_is d A1 A2 x.length y.length c1 c2 x y hd.symm (mergeW wr s) hx1 hx2 wr.heap.size (below_mergeW wr s).size ((r1.more hsz).below (below_mergeW wr s)) ((r2.more hsz).below (below_mergeW wr s)))
        have HDD := Lib.hid hd
        clear hd r1 r2
        have z0 : (0 : Int) ≤ (q : Int) := by omega
        have z1 : (q : Int) < (g.length : Int) := by omega
        have z2 : (q : Int) < (h.length : Int) := by omega
        have mc := cell_mergeW wr
        have mf := frozen_mergeW wr
        have lb3 : b1 < wr.heap.size := by omega
        have lb4 : b2 < wr.heap.size := by omega
        cases d with
        | true =>
          go_wp2
          refine wp_region_btail 9 (by kernel_rfl) (by kernel_rfl) ?_
          simp only [List.take_succ_cons, List.take_zero, List.drop_succ_cons, List.drop_zero]
          repeat (go_big_quiet_step (first | (go_at_call 26; refine (HS.out _).mono ?_; rintro e w4 ⟨rfl, hb4⟩; exact ⟨rfl, in_mergeW hb4⟩)))
          refine wpQuiet_nil ?_
          rintro w4 ⟨s4, hs4⟩
          have hb4 := below_mergeW wr s4
          rw [← hs4] at hb4
          clear hs4 mc mf HS
          have HBK := Lib.hid (hb.trans (hb4.mono hsz))
          clear hb4
          have hxy : x = y := by have := HDD.out; simpa using this
          have HE2 := Lib.hid (HE.out.2 hxy)
          clear hxy
          go_wp2
          go_roundw
          case rel => exact ⟨q + 1, by go_num, by omega, HE2, HBK.out⟩
          case measure => simp [intOf]; omega
        | false =>
          go_wp2
          refine wp_region_btail 9 (by kernel_rfl) (by kernel_rfl) ?_
          simp only [List.take_succ_cons, List.take_zero, List.drop_succ_cons, List.drop_zero]
          repeat (go_big_quiet_step (first | (go_at_call 26; refine (HS.out _).mono ?_; rintro e w4 ⟨rfl, hb4⟩; exact ⟨rfl, in_mergeW hb4⟩)))
          refine wpQuiet_nil ?_
          rintro w4 ⟨s4, hs4⟩
          have hb4 := below_mergeW wr s4
          rw [← hs4] at hb4
          clear hs4 mc mf HS
          have HBK := Lib.hid (hb.trans (hb4.mono hsz))
          clear hb4
          have hxy : g ≠ h := HNE.out (by have := HDD.out; simpa using this)
          have HR := Lib.hid (show r = false by rw [← HD.out]; exact decide_eq_false hxy)
          clear hxy
          go_wp2
          go_ret
          exact ⟨ret_bool HR.out.symm, HBK.out⟩
      · obtain rfl : q = g.length := by omega
        have HR := Lib.hid (show r = true by
          rw [← HD.out, decide_eq_true_eq]
          have := he.out
          rwa [List.take_length, HL.out, List.take_length] at this)
        go_wp2
        go_ret
        exact ⟨ret_bool HR.out.symm, hb⟩
  · have HR := Lib.hid (show r = false by rw [← HD.out]; exact decide_eq_false (fun e => hl (by rw [e])))
    have d1 : ((g.length : Int) != (h.length : Int)) = true := by simp; omega
    clear hl
    go_enter Try.func50, Try.ntmps50
    go_wp2
    go_ret
    exact ⟨ret_bool HR.out.symm, Below.refl _ _⟩

set_option maxRecDepth 100000 in
set_option maxHeartbeats 2000000 in
theorem rCopyTable (A : Option Addr) (k c : Nat) (g : List (List Int)) (w : World) (hs : Sm g) (B : Nat) (hB : B ≤ w.heap.size) (hr : TRd w B A k g) :
    Calls Try.prog 51 #[.slice A k c] w fun e w' => ∃ A2 c2, e = .returned (.slice A2 g.length c2) ∧ TRd w' w'.heap.size A2 g.length g ∧ Below w.heap.size w w' := by
  have hr := hr.more hB
  obtain rfl := hr.len
  have HS1 := Lib.hid hs.2
  have hg1 := hs.1
  clear hs
  go_enter Try.func51, Try.ntmps51
  go_wp2
  go_loopw [4, 3] (fun i u wr => ∃ q : Nat, i = .int .i64 q ∧ q ≤ g.length ∧ OwnS wr w.heap.size u (g.take q) ∧ Below w.heap.size w wr) (fun i _ _ => g.length - (intOf i).toNat)
  case atStart => exact ⟨0, rfl, Nat.zero_le _, OwnS.nil, Below.refl _ _⟩
  case round =>
    obtain ⟨q, rfl, hq, hos, hb⟩ := hrel
    have hsz := hb.size
    by_cases hlt : q < g.length
    · obtain ⟨b1, o1, A1, c1, rfl, lb1, g1, hc1, hc2, r1⟩ := (hr.below' hb (Nat.le_refl _)).row hlt
      have hx1 := HS1.out _ (List.getElem_mem hlt)
      have HT := Lib.hid (take_snoc' g q hlt)
      obtain ⟨l, hl⟩ : ∃ l, l = g[q] := ⟨_, rfl⟩
      rw [← hl] at g1 r1 hx1 HT hc1
      clear hl
      obtain ⟨vs, hown, ht, hsf⟩ := hos
      have hlq : (g.take q).length = q := by simp; omega
      rw [hlq] at hown
      have HLQ := Lib.hid hlq
      clear hlq
      have HOA := Lib.hid (And.intro hown (And.intro ht (And.intro hsf hb)))
      have HRR := Lib.hid ((r1.more hsz).alloc (Nat.le_refl _) (.cells #[] 3))
      have c1x := (World.cell?_alloc_lt wr (.cells #[] 3) ⟨b1, o1 + q, none⟩ (show b1 < wr.heap.size by omega)).trans g1
      have HO := Lib.hid (show (wr.alloc (.cells #[] 3)).ownsRow wr.heap.size 3 1 (.slice (some ⟨wr.heap.size, 0, none⟩) 0 0) 0 [] from own_empty (blk_new wr 3 #[]) (Nat.le_refl _))
      have HB1 := Lib.hid ((Below.refl wr.heap.size wr).alloc (Nat.le_refl _) (.cells #[] 3))
      have z0 : (0 : Int) ≤ (q : Int) := by omega
      have z1 : (q : Int) < (g.length : Int) := by omega
      clear hown ht hsf hb r1 g1
      go_wp2_with (at_builtin; first
        | ((refine app1x rfl (.tmp 11) (.tmp 18) 22 rfl 23 _ 1 24 E22 w.heap.size _ _ _ _ rfl u1 _ rfl ?_ ?_ ?_ ?_ ?_ ?_); rfl; rfl; rfl; omega; omega; intro v7 w7 hown7 hg7 hx7)
        | ((refine appN rfl (.tmp 12) (.tmp 16) 23 rfl 3 _ 1 8 E23 wr.heap.size _ _ _ rfl HO.out wr.heap.size A1 l.length c1 (ints l) rfl HRR.out (ints_one _) (by omega) (by simp) ?_); intro v5 w5 hown5 hg5; rw [Nat.zero_add, List.nil_append] at hown5; have HB5 := Lib.hid (below_own HB1.out (by simp) HO.out (Nat.le_refl _) hg5); have sz5 := HB5.out.size; have u1 := own_below HOA.out.1 HB5.out; obtain ⟨A5, c5, rfl, _, _⟩ := own_cap hown5))
      have HOS := Lib.hid (OwnS.push (by rw [HLQ.out]; exact u1) ((HOA.out.2.1.below HB5.out (Nat.le_refl _)).more sz5) (fun v hv => (HOA.out.2.2.1 v hv).below HB5.out) hown5 hsz (fun g hg => (HOA.out.1.lt g hg).2) hown7 (by rw [HLQ.out]) hg7 hx7)
      have HB7 := Lib.hid (below_own (HOA.out.2.2.2.trans (HB5.out.mono hsz)) (by omega) u1 (Nat.le_refl _) hg7)
      clear hown7 hg7 hx7 hown5 hg5 u1
      go_roundw
      case rel => exact ⟨q + 1, by go_num, by omega, by rw [HT.out]; exact HOS.out, HB7.out⟩
      case measure => simp [intOf]; omega
    · obtain rfl : q = g.length := by omega
      rw [List.take_length] at hos
      obtain ⟨A2, c2, rfl, h2⟩ := hos.cap
      have HO := Lib.hid (And.intro h2 hb)
      clear hos h2 hb
      go_wp2
      go_ret
      exact ⟨A2, c2, rfl, HO.out.1, HO.out.2⟩
end Go.Proofs.Ytejjogpgolgdgaa

/-
  PLAIN LAWS behind TopVolts.
-/
namespace Go.Proofs.Ytejjogpgolgdgaa
open Go.RowKit Pulse

theorem top_kn1 : stepsN [-3, 0] [3, 1] 2 = 3 := by decide +kernel
theorem top_kn2 : slewE [-3, 0] [3, 1] 2 = 0 := by decide +kernel
/-- The field of voltages: what is said of it. -/
theorem top_make {g : List (List Int)} {v : List Int} (h : fieldE g v = 0) :
    fieldR g v = fieldL g v ∧ wishE g (fieldL g v) = 0 ∧ 1 ≤ waysN g (fieldL g v) ∧ nearN g (fieldL g v) = 0 ∧ checkE g (fieldL g v) (nearL g (fieldL g v)) = 0 := by
  obtain ⟨h1, h2, h3, _, _⟩ := makes h
  have hn : nearN g (fieldL g v) = 0 := by
    have := calms h1
    rw [h3] at this
    exact of_decide_eq_true this.symm
  refine ⟨by rw [fieldR, if_pos h], h1, h2, hn, ?_⟩
  obtain ⟨n, p, e, e1, e2, _⟩ := nearO_min (g := g) (l := fieldL g v)
  have hnn : nearN g (fieldL g v) = n := by rw [nearN, if_pos h1, e]; rfl
  have hnl : nearL g (fieldL g v) = p := by rw [nearL, if_pos h1, e]; rfl
  have hz : fieldL g p = fieldL g v := (jumpL_zero (by rw [fieldL_len, fieldL_len])).1 (show farL g (fieldL g v) p = 0 by omega)
  obtain ⟨p1, p2⟩ := mem_allP.1 e2
  rw [hnl, checkE, if_pos h1, if_pos (vOk_of p1 p2), if_pos hz]
theorem top_two {g : List (List Int)} {a b : List Int} (ha : fieldE g a = 0) (hb : fieldE g b = 0) :
    rowE g [fieldL g a, fieldL g b] = 0 ∧ smoothIs g [fieldL g a, fieldL g b] = true ∧ pairE a b = 0 ∧ smoothN g [fieldL g a, fieldL g b] ≤ jumpN a b := by
  obtain ⟨hv, a2, a3⟩ := fieldE_ok ha
  obtain ⟨_, b2, b3⟩ := fieldE_ok hb
  have hr : rowE g [fieldL g a, fieldL g b] = 0 := rowE_of hv (by simp) (by simp) (fun l hl => by
    rcases List.mem_cons.1 hl with rfl | hl
    · exact (wishE_ok (makes ha).1).2
    · rw [List.mem_singleton.1 hl]; exact (wishE_ok (makes hb).1).2)
  have hc : IsC g [fieldL g a, fieldL g b] [a, b] := ⟨mem_makeL.2 ⟨⟨a2, a3⟩, rfl⟩, mem_makeL.2 ⟨⟨b2, b3⟩, rfl⟩, trivial⟩
  obtain ⟨s1, s2⟩ := smooth_law hr
  have hs := s1.2 ⟨_, hc⟩
  have hw := vldG_ok hv
  have hp : pairE a b = 0 := by
    rw [pairE, if_pos]
    simp only [withinB, Bool.and_eq_true, decide_eq_true_eq, List.all_eq_true, isIn]
    exact ⟨⟨⟨by omega, by omega⟩, ⟨by simp, fun x hx => a3 x hx⟩⟩, ⟨by omega, fun x hx => b3 x hx⟩⟩
  refine ⟨hr, hs, hp, ?_⟩
  have := (s2 hs).2 _ hc
  rw [jumpN, if_pos hp]
  have e : jumpC [a, b] = jumpL a b := by have := jumpL_nn a b; simp [jumpC]; omega
  omega
theorem jumpC_get : ∀ {c : List (List Int)} (i : Nat) (h : i + 1 < c.length), jumpL (c[i]'(by omega)) c[i + 1] ≤ jumpC c
  | [], i, h => absurd h (by simp)
  | [_], i, h => absurd h (by simp)
  | v :: u :: c, 0, h => by rw [jumpC]; show jumpL v u ≤ _; omega
  | v :: u :: c, i + 1, h => by
    have := jumpC_get (c := u :: c) i (by simpa using h)
    rw [jumpC]
    simp only [List.getElem_cons_succ] at this ⊢
    omega
theorem top_steps {g row c : List (List Int)} (hr : rowE g row = 0) (hc : IsC g row c) (i : Nat) (h : i + 1 < c.length) {s : Int} (hs1 : 1 ≤ s) (hs6 : s ≤ 6) (hs : jumpC c ≤ s) : slewE (c[i]'(by omega)) c[i + 1] s = 0 ∧ stepsN (c[i]'(by omega)) c[i + 1] s ≤ 1 ∧ 0 ≤ stepsN (c[i]'(by omega)) c[i + 1] s := by
  have hv := (rowE_ok hr).1
  have hw := vldG_ok hv
  have hl := hc.len
  have hg := (isC_get hl).1 hc
  have m1 := makeL_rows (hg i (by omega) (by omega))
  have m2 := makeL_rows (hg (i + 1) (by omega) h)
  have hj := jumpC_get i h
  obtain ⟨x, hx⟩ : ∃ x, x = c[i]'(by omega) := ⟨_, rfl⟩
  obtain ⟨y, hy⟩ : ∃ y, y = c[i + 1] := ⟨_, rfl⟩
  rw [← hx] at m1 hj ⊢
  rw [← hy] at m2 hj ⊢
  have hp : pairE x y = 0 := by
    rw [pairE, if_pos]
    simp only [withinB, Bool.and_eq_true, decide_eq_true_eq, List.all_eq_true, isIn]
    exact ⟨⟨⟨by omega, by omega⟩, ⟨by simp, fun f hf => m1.2 f hf⟩⟩, ⟨by omega, fun f hf => m2.2 f hf⟩⟩
  have he : slewE x y s = 0 := by rw [slewE, if_pos hp, if_pos ⟨hs1, hs6⟩]
  refine ⟨he, ?_, ?_⟩
  · rw [stepsN, if_pos he]
    have : (jumpL x y + s - 1) / s < 2 := Int.ediv_lt_of_lt_mul (by omega) (by omega)
    omega
  · rw [stepsN, if_pos he]
    exact Int.ediv_nonneg (by have := jumpL_nn x y; omega) (by omega)
theorem volts_ways {g : List (List Int)} {l : List Int} (h : wishE g l = 0) : voltsIs g l = decide (0 < waysN g l) := by
  rw [voltsIs, waysN, if_pos h, h]
  simp
theorem smooth_each' {g row : List (List Int)} (h : rowE g row = 0) : smoothIs g row = row.all (voltsIs g) := by
  rw [smooth_each h]
  obtain ⟨hv, _, _, hw⟩ := rowE_ok h
  rw [Bool.eq_iff_iff, List.all_eq_true, List.all_eq_true]
  constructor
  · intro h1 l hl; rw [volts_ways (wishE_of hv (hw l hl))]; exact h1 l hl
  · intro h1 l hl; rw [← volts_ways (wishE_of hv (hw l hl))]; exact h1 l hl
theorem smoothIs_row {g row : List (List Int)} (h : smoothIs g row = true) : rowE g row = 0 := by simp only [smoothIs, Bool.and_eq_true, decide_eq_true_eq] at h; exact h.1
theorem isC_sm {g row crs : List (List Int)} (hr : rowE g row = 0) (h : IsC g row crs) : Sm crs := by
  obtain ⟨hv, h1, h5, _⟩ := rowE_ok hr
  have hw := (vldG_ok hv).2.2.2.1
  have hl := h.len
  refine ⟨by omega, fun l hl' => ?_⟩
  obtain ⟨i, hi, rfl⟩ := List.getElem_of_mem hl'
  have := (makeL_rows ((isC_get hl).1 h i (by omega) hi)).1
  omega
theorem rev_step {row : List (List Int)} {q t : Nat} (h : row.length = q + t + 1) (h' : t < row.length) : row.reverse.take (q + 1) = row.reverse.take q ++ [row[t]] := by
  rw [take_snoc' _ q (by simp; omega), List.getElem_reverse]
  congr 3
  omega
theorem wish_row {g row : List (List Int)} (h : rowE g row = 0) : ∀ l ∈ row, wishE g l = 0 := by
  obtain ⟨hv, _, _, hw⟩ := rowE_ok h
  exact fun l hl => wishE_of hv (hw l hl)
end Go.Proofs.Ytejjogpgolgdgaa
