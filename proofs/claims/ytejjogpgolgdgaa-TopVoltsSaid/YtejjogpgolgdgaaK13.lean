/-
  MERGED: W25.
-/
import Derived.Test.YtejjogpgolgdgaaK12
/-
  WALK: ends.
-/
namespace Go.Proofs.Ytejjogpgolgdgaa
open Go.RowKit Pulse

theorem E69 : EOk Try.prog 69 72 (.agg #[.slice none 0 0, .int .i64 0, .int .i64 0]) 3 40 :=
  ⟨Try.underlying69, by
    obtain ⟨i, h1, h2, h3, h4⟩ := info_parts (show (Try.prog.info? 72).map (fun i => (i.zero, i.size, i.bytes)) = some (some (.agg #[.slice none 0 0, .int .i64 0, .int .i64 0]), 3, 40) by kernel_rfl)
    exact ⟨i, h1, h2, h3, h4⟩, rfl, by decide, by decide⟩
theorem E67 : EOk Try.prog 67 69 (.slice none 0 0) 1 24 :=
  ⟨Try.underlying67, by
    obtain ⟨i, h1, h2, h3, h4⟩ := info_parts (show (Try.prog.info? 69).map (fun i => (i.zero, i.size, i.bytes)) = some (some (.slice none 0 0), 1, 24) by kernel_rfl)
    exact ⟨i, h1, h2, h3, h4⟩, rfl, by decide, by decide⟩
theorem etab_push {w4 w5 : World} {u u5 v : Value} {vs : List Value} {ps : List (List End)} {p : List End} {L : Nat → Prop} (ht : ETab w4 w4.heap.size (fun x => L x ∨ u.ownBlock = some x) vs ps) (hr : ERow w4 w4.heap.size (fun x => L x ∨ u.ownBlock = some x) v p)
    (hg : w4.grownBy w5 u.ownBlock) (hx : u5.ownBlock = u.ownBlock ∨ ∃ g, u5.ownBlock = some g ∧ w4.heap.size ≤ g) : ETab w5 w5.heap.size (fun x => L x ∨ u5.ownBlock = some x) (vs ++ [v]) (ps ++ [p]) := by
  have h3 := (ht.snoc hr).grown hg (fun g hg => .inr hg) (Nat.le_refl _)
  exact (h3.at (fun g hg => by
    rcases hg with hg | hg
    · exact .inl (.inl hg)
    · rcases hx with h | ⟨g', h, hg'⟩
      · rw [h] at hg; exact .inl (.inr hg)
      · rw [h] at hg; injection hg with hg; exact .inr (by omega))).more hg.size

set_option maxRecDepth 100000 in
set_option maxHeartbeats 8000000 in
theorem pends (A A' : Option Addr) (k c k' c' : Nat) (g row : List (List Int)) (w : World) (hv : vldG g = 0) (hs' : Sm row) (B : Nat) (hB : B ≤ w.heap.size) (hr : TRd w B A k g) (hr' : TRd w B A' k' row) :
    Calls Try.prog 60 #[.slice A k c, .slice A' k' c'] w fun e w' => ∃ u Hs, e = .returned u ∧ w'.ownsRow w.heap.size 69 1 u row.length Hs ∧ ETab w' w'.heap.size (fun x => x < w.heap.size ∨ u.ownBlock = some x) Hs (endsTo g row row.length) ∧ Below w.heap.size w w' := by
  obtain rfl := hr.len
  obtain rfl := hr'.len
  have hr := hr.more hB
  have hr' := hr'.more hB
  have HG := Lib.hid hv
  have hrl := hs'.1
  have HRS := Lib.hid hs'.2
  have HES := Lib.hid (fun q => endsTo_succ g row q)
  have HLS := Lib.hid (fun q => lastEnds_succ g row q)
  have HLO := Lib.hid (fun q => lastEnds_ok (row := row) hv q)
  have HEG := Lib.hid (fun q i h => endsTo_get g row q i h)
  clear hv hs'
  go_enter Try.func60, Try.ntmps60
  go_wp2
  go_loopw [17, 5] (fun i u wr => ∃ (q : Nat) (Hs : List Value) (ess : List (List End)), i = .int .i64 q ∧ q ≤ row.length ∧ Hid (ess = endsTo g row q) ∧ wr.ownsRow w.heap.size 69 1 u q Hs ∧ ETab wr wr.heap.size (fun x => x < w.heap.size ∨ u.ownBlock = some x) Hs ess ∧ Below w.heap.size w wr) (fun i _ _ => row.length - (intOf i).toNat)
  case atStart => exact ⟨0, [], [], rfl, Nat.zero_le _, rfl, World.ownsRow_nil .., ETab.nil, Below.refl _ _⟩
  case round =>
    obtain ⟨q, Hs, ess, rfl, hq, HEE, hown, het, hb⟩ := hrel
    have hsz := hb.size
    by_cases hlt : q < row.length
    · obtain ⟨b, off, A1, c1, rfl, hbb, g0, _, _, g1⟩ := ((hr'.below hb).more hsz).row hlt
      have hl1 := HRS.out _ (List.getElem_mem hlt)
      have HGD := Lib.hid (show row.getD q [] = row[q] by simp [List.getD, List.getElem?_eq_getElem hlt])
      have HMk := Lib.hid (pmaking A A1 g.length c row[q].length c1 g row[q] wr HG.out hl1 wr.heap.size (Nat.le_refl _) ((hr.below hb).more hsz) g1)
      have hml := makeL_len (l := row[q]) HG.out
      have HMR := Lib.hid (fun v (h : v ∈ makeL g row[q]) => makeL_rows h)
      have HLQ := Lib.hid (HLS.out q)
      rw [HGD.out] at HLQ
      obtain ⟨M, hM⟩ : ∃ M, M = makeL g row[q] := ⟨_, rfl⟩
      rw [← hM] at HMk hml HMR HLQ
      obtain ⟨l, hl⟩ : ∃ l, l = row[q] := ⟨_, rfl⟩
      rw [← hl] at g0 HMk hl1
      clear hM hl HGD g1
      have z0 : (0 : Int) ≤ (q : Int) := by omega
      have z1 : (q : Int) < (row.length : Int) := by omega
      obtain ⟨Au, cu, rfl, _, _⟩ := own_cap hown
      have HO := Lib.hid (And.intro hown (And.intro het hb))
      obtain ⟨wo, hwo⟩ : ∃ wo, wo = wr := ⟨_, rfl⟩
      subst hwo
      clear hown het hb
      go_wp2_with fail
      refine HMk.out.mono ?_
      rintro e w1 ⟨uM, rfl, ⟨vs, hom, htm⟩, hb1⟩
      obtain ⟨AM, cM, rfl, _, _⟩ := own_cap hom
      have s1 := hb1.size
      have HM := Lib.hid (And.intro (Rd.of_own hom) htm)
      have HB1 := Lib.hid hb1
      clear hom htm hb1 HMk
      go_wp2
      by_cases hq0 : q = 0
      · have HQ0 := Lib.hid hq0
        have hgb : decide (0 < q) = false := by simp; omega
        have hgt : ¬ (0 : Int) < (q : Int) := by omega
        have hge : ((q : Int) == 0) = true := by simpa using hq0
        have HL0 := Lib.hid (show lastEnds g row q = [] by rw [hq0]; rfl)
        rw [HL0.out, show decide (q = 0) = true from by simpa using hq0] at HLQ
        clear hq0
        go_loopw [26, 8] (fun i u wr => ∃ (j : Nat) (es : List End) (hs : List Value), i = .int .i64 j ∧ j ≤ M.length ∧ Hid (es = nextTo true [] M j) ∧ wr.ownsRow w1.heap.size 72 3 u es.length (endCells hs es) ∧ Tab wr wr.heap.size (fun x => x < wo.heap.size ∨ u.ownBlock = some x) hs (es.map (·.v)) ∧ Below w1.heap.size w1 wr) (fun i _ _ => M.length - (intOf i).toNat)
        case atStart => exact ⟨0, [], [], rfl, Nat.zero_le _, rfl, World.ownsRow_nil .., Tab.nil, Below.refl _ _⟩
        case round =>
          obtain ⟨j, es, hs, rfl, hj, HE2, hown, ht, hb⟩ := hrel
          have hsj := hb.size
          by_cases hltj : j < M.length
          · obtain ⟨hdr, hhd, hrow⟩ := HM.out.2.row hltj
            obtain ⟨Av, cv, rfl, _, _, hrp⟩ := hrow.read
            obtain ⟨bm, offm, rfl, hbm, hcm⟩ := Rd.head HM.out.1 hhd
            have HNX := Lib.hid (nextTo_succ (first := true) (prev := []) (show M[j]? = some M[j] from List.getElem?_eq_getElem hltj))
            obtain ⟨v, hvv⟩ : ∃ v, v = M[j] := ⟨_, rfl⟩
            rw [← hvv] at hcm hrp HNX hrow
            clear hvv hhd
            have y0 : (0 : Int) ≤ (j : Int) := by omega
            have y1 : (j : Int) < (M.length : Int) := by omega
            have c0 := (hb.cell (p := ⟨bm, offm + j, none⟩) hbm).trans hcm
            have HNX2 := Lib.hid (show nextTo true [] M (j + 1) = nextTo true [] M j ++ [⟨v, 0, -1⟩] by rw [HNX.out]; rfl)
            have hel : es.length ≤ 343 := by have := nextTo_len true [] M j; have := HE2.out; rw [this]; omega
            obtain ⟨Ae, ce, rfl, _, _⟩ := own_cap hown
            have hxb := blk_new wr 72 #[.slice Av v.length cv, .int .i64 0, .int .i64 (-1)]
            have g0 : (wr.alloc (.cells #[.slice Av v.length cv, .int .i64 0, .int .i64 (-1)] 72)).cell? ⟨wr.heap.size, 0, none⟩ = some (.slice Av v.length cv) := blk_cell hxb 0
            have g1 : (wr.alloc (.cells #[.slice Av v.length cv, .int .i64 0, .int .i64 (-1)] 72)).cell? ⟨wr.heap.size, 1, none⟩ = some (.int .i64 0) := blk_cell hxb 1
            have g2 : (wr.alloc (.cells #[.slice Av v.length cv, .int .i64 0, .int .i64 (-1)] 72)).cell? ⟨wr.heap.size, 2, none⟩ = some (.int .i64 (-1)) := blk_cell hxb 2
            have hbj := (Below.refl wr.heap.size wr).alloc (Nat.le_refl _) (.cells #[.slice Av v.length cv, .int .i64 0, .int .i64 (-1)] 72)
            have u1 := own_below hown hbj
            have u2 := (ht.below hbj (Nat.le_refl _)).more hbj.size
            have u3 := hb.trans (hbj.mono hsj)
            have HRW := Lib.hid (show RowAt (wr.alloc (.cells #[.slice Av v.length cv, .int .i64 0, .int .i64 (-1)] 72)) (wr.alloc (.cells #[.slice Av v.length cv, .int .i64 0, .int .i64 (-1)] 72)).heap.size (fun x => x < wo.heap.size ∨ (Value.slice Ae es.length ce).ownBlock = some x) (.slice Av v.length cv) v from by
              have h1 := hrow.at (X' := fun x => x < wo.heap.size ∨ (Value.slice Ae es.length ce).ownBlock = some x) (fun x hx => by
                rcases hx with hx | hx
                · exact .inl (.inl hx)
                · exact .inr (hown.lt x hx).1)
              exact (h1.below u3 (Nat.le_refl _)).more u3.size)
            have HU := Lib.hid (And.intro u2 u3)
            clear hown ht hb u2 u3 hxb hbj hrow hcm hrp
            go_wp2_with (at_builtin; go_must (refine app1x rfl (.tmp 73) (.tmp 75) 69 rfl 72 _ 3 40 E69 w1.heap.size _ _ _ _ rfl u1 _ rfl ?_ ?_ ?_ ?_ ?_ ?_); (first | rfl | simp); (first | rfl | simp); (first | rfl | simp); omega; (first | omega | (simp; omega)); intro v5 w5 hown5 hg5 hx5)
            have HT5 := Lib.hid (tab_push (L := fun x => x < wo.heap.size) HU.out.1 HRW.out hg5 hx5)
            have HB5 := Lib.hid (below_own HU.out.2 HU.out.2.size u1 (Nat.le_refl _) hg5)
            have HHL := Lib.hid (show hs.length = es.length by have := HU.out.1.1; simpa using this)
            have HO5 := Lib.hid hown5
            clear hown5 hg5 hx5
            go_roundw
            case rel =>
              refine ⟨j + 1, es ++ [⟨v, 0, -1⟩], hs ++ [.slice Av v.length cv], by go_num, by omega, ?_, ?_, ?_, HB5.out⟩
              · show _ = _; rw [HNX2.out, HE2.out]
              · rw [endCells_snoc _ _ HHL.out, List.length_append]; exact HO5.out
              · rw [List.map_append]; exact HT5.out
            case measure => simp [intOf]; omega
          · obtain rfl : j = M.length := by omega
            have hel : es.length ≤ 343 := by have := nextTo_len true [] M M.length; have := HE2.out; rw [this]; omega
            have HEL := Lib.hid (show es = lastEnds g row (q + 1) from HE2.out.trans HLQ.out.symm)
            obtain ⟨Ae, ce, rfl, _, _⟩ := own_cap hown
            have hlo := hown.lt
            have HER := Lib.hid (show ERow wr wr.heap.size (fun x => x < w.heap.size ∨ (Value.slice Au q cu).ownBlock = some x) (.slice Ae es.length ce) es from
              ERow.of_own hown (ht.at (fun x hx => by
                rcases hx with hx | hx
                · exact .inl (.inl (by omega))
                · exact .inl (.inl (HO.out.1.lt x hx).2))) (fun x hx he => by
                have h1 := (hown.lt x hx).1
                rcases he with he | he
                · omega
                · have := (HO.out.1.lt x he).2; omega))
            have b2 := HB1.out.trans (hb.mono s1)
            have u1 := own_below HO.out.1 b2
            have u2 := (HO.out.2.1.below b2 (Nat.le_refl _)).more b2.size
            have u3 := HO.out.2.2.trans (b2.mono hsz)
            have HU := Lib.hid (And.intro u2 u3)
            clear u2 u3 b2 hown ht hb hlo
            go_wp2_with (at_builtin; go_must (refine app1x rfl (.tmp 78) (.tmp 80) 67 rfl 69 _ 1 24 E67 w.heap.size _ _ _ _ rfl u1 _ rfl ?_ ?_ ?_ ?_ ?_ ?_); rfl; rfl; rfl; omega; omega; intro v5 w5 hown5 hg5 hx5)
            have HT5 := Lib.hid (etab_push (L := fun x => x < w.heap.size) HU.out.1 HER.out hg5 hx5)
            have HB5 := Lib.hid (below_own HU.out.2 HU.out.2.size u1 (Nat.le_refl _) hg5)
            have HO5 := Lib.hid hown5
            clear hown5 hg5 hx5
            go_roundw
            case rel => exact ⟨q + 1, _, ess ++ [es], by go_num, by omega, by show _ = _; rw [HES.out, HEE.out, HEL.out], HO5.out, HT5.out, HB5.out⟩
            case measure => simp [intOf]; omega
      · have hpl := endsTo_len g row q
        have hil : q - 1 < ess.length := by have := HEE.out; rw [this, hpl]; omega
        obtain ⟨Hp, hHp, hep⟩ := HO.out.2.1.row hil
        have HPE := Lib.hid (show ess[q - 1] = lastEnds g row q by
          have h1 := HEG.out q (q - 1) (by omega)
          have h2 := HEE.out
          rw [show q - 1 + 1 = q by omega, ← h2, List.getElem?_eq_getElem hil] at h1
          injection h1)
        obtain ⟨prev, hprev⟩ : ∃ prev, prev = ess[q - 1] := ⟨_, rfl⟩
        rw [← hprev] at hep HPE
        rw [← HPE.out] at HLQ
        have HPO := Lib.hid (HLO.out q)
        rw [← HPE.out] at HPO
        have hpl343 := HPO.out.2
        have hown := HO.out.1
        obtain ⟨bo, offo, hAo, hbo, hco⟩ := (Rd.of_own hown).head hHp
        subst hAo
        have HEP := Lib.hid hep
        obtain ⟨Ap, cp, hHpe, _, _⟩ := hep.cap
        rw [hHpe] at hco
        have HHP := Lib.hid hHpe
        rw [show decide (q = 0) = false from by simpa using hq0] at HLQ
        have hgt : (0 : Int) < (q : Int) := by omega
        have hgb : decide (0 < q) = true := by simp; omega
        have hq1 : IntKind.i64.wrap ((q : Int) - 1) = ((q - 1 : Nat) : Int) := by rw [IntWalk.i64_in _ (by omega)]; omega
        clear hpl hown hep hprev hHp hHpe hil hq0
        go_loopw [26, 8] (fun i u wr => ∃ (j : Nat) (es : List End) (hs : List Value), i = .int .i64 j ∧ j ≤ M.length ∧ Hid (es = nextTo false prev M j) ∧ wr.ownsRow w1.heap.size 72 3 u es.length (endCells hs es) ∧ Tab wr wr.heap.size (fun x => x < wo.heap.size ∨ u.ownBlock = some x) hs (es.map (·.v)) ∧ Below w1.heap.size w1 wr) (fun i _ _ => M.length - (intOf i).toNat)
        case atStart => exact ⟨0, [], [], rfl, Nat.zero_le _, rfl, World.ownsRow_nil .., Tab.nil, Below.refl _ _⟩
        case round =>
          obtain ⟨j, es, hs, rfl, hj, HE2, hown, ht, hb⟩ := hrel
          have hsj := hb.size
          by_cases hltj : j < M.length
          · obtain ⟨hdr, hhd, hrow⟩ := HM.out.2.row hltj
            obtain ⟨Av, cv, rfl, _, _, hrp⟩ := hrow.read
            obtain ⟨bm, offm, rfl, hbm, hcm⟩ := Rd.head HM.out.1 hhd
            have hmv := HMR.out _ (List.getElem_mem hltj)
            have HNX := Lib.hid (nextTo_succ (first := false) (prev := prev) (show M[j]? = some M[j] from List.getElem?_eq_getElem hltj))
            obtain ⟨v, hvv⟩ : ∃ v, v = M[j] := ⟨_, rfl⟩
            rw [← hvv] at hcm hrp hmv HNX hrow
            have HMV := Lib.hid hmv
            clear hvv hhd hmv
            have y0 : (0 : Int) ≤ (j : Int) := by omega
            have y1 : (j : Int) < (M.length : Int) := by omega
            have c0 := (hb.cell (p := ⟨bm, offm + j, none⟩) hbm).trans hcm
            have cO := (hb.cell (p := ⟨bo, offo + (q - 1), none⟩) (show bo < w1.heap.size by omega)).trans ((HB1.out.cell (p := ⟨bo, offo + (q - 1), none⟩) hbo).trans hco)
            have cO2 := (World.cell?_alloc_lt wr (.cells #[.slice Av v.length cv, .int .i64 0, .int .i64 (-1)] 72) ⟨bo, offo + (q - 1), none⟩ (show bo < wr.heap.size by omega)).trans cO
            have HO2 := Lib.hid (And.intro hown (And.intro ht hb))
            clear hown ht hb hcm hrp
            obtain ⟨wj, hwj⟩ : ∃ wj, wj = wr := ⟨_, rfl⟩
            subst hwj
            go_wp2
            --INNER
            go_loopw [40] (fun i wr => ∃ (kk : Nat) (x1 x2 : Int), i = .int .i64 kk ∧ kk ≤ prev.length ∧ Hid ((x1, x2) = pick prev v kk) ∧ wr.heap[wj.heap.size]? = some (.cells #[.slice Av v.length cv, .int .i64 x1, .int .i64 x2] 72 (0, 0)) ∧ Below wj.heap.size wj wr) (fun i _ => prev.length - (intOf i).toNat)
            case atStart => exact ⟨0, 0, -1, rfl, Nat.zero_le _, rfl, blk_new _ _ _, (Below.refl _ _).alloc (Nat.le_refl _) _⟩
            case round =>
              obtain ⟨kk, x1, x2, rfl, hkk, HPK, hxb, hbj⟩ := hrel
              have hsx := hbj.size
              have hlx := blk_lt hxb
              have hpk := pick_ok HPO.out.1 hpl343 HMV.out.2 kk hkk
              rw [← HPK.out] at hpk
              obtain ⟨p1, p2, p3, p4⟩ := hpk
              have p1 : 0 ≤ x1 := p1
              have p2 : x1 ≤ 6 := p2
              have p3 : -1 ≤ x2 := p3
              have p4 : x2 < kk := p4
              by_cases hltk : kk < prev.length
              · obtain ⟨bp, offp, cp2, Ay, cy, hpe, hbp, _, k0, k1, k2, hry⟩ := HEP.out.get hltk
                have hpe2 := HHP.out.symm.trans hpe
                injection hpe2 with e1 _ e3
                subst e1 e3
                have hye := HPO.out.1 _ (List.getElem_mem hltk)
                have HPS := Lib.hid (pick_succ (v := v) (show prev[kk]? = some prev[kk] from List.getElem?_eq_getElem hltk))
                obtain ⟨y, hyy⟩ : ∃ y, y = prev[kk] := ⟨_, rfl⟩
                rw [← hyy] at k0 k1 k2 hry hye HPS
                clear hyy hpe
                have hbw : Below wo.heap.size wo wr := (HB1.out.trans (HO2.out.2.2.mono s1)).trans (hbj.mono (by omega))
                have k0 := (hbw.cell (p := ⟨bp, offp + kk * 3, none⟩) hbp).trans k0
                have k1 := (hbw.cell (p := ⟨bp, offp + kk * 3 + 1, none⟩) hbp).trans k1
                have k2 := (hbw.cell (p := ⟨bp, offp + kk * 3 + 2, none⟩) hbp).trans k2
                have rY : Rd wr wr.heap.size 1 Ay y.v.length (ints y.v) := by
                  obtain ⟨A', c', e, _, _, h3⟩ := hry.read
                  injection e with e1 e2 e3
                  subst e1
                  exact (h3.below hbw).more (by omega)
                have rV : Rd wr wr.heap.size 1 Av v.length (ints v) := by
                  obtain ⟨A', c', e, _, _, h3⟩ := hrow.read
                  injection e with e1 e2 e3
                  subst e1
                  exact ((h3.below' HO2.out.2.2 (Nat.le_refl _)).below' hbj (by omega)).more (by omega)
                have hyl := hye.1
                have HLV := Lib.hid (show v.length = y.v.length by rw [hyl]; exact HMV.out.1)
                have hyf := hye.2.1
                have q1 := hye.2.2.1
                have q2 := hye.2.2.2.1
                have wd := (vldG_ok HG.out).2.2.2.1
                have hyl3 : y.v.length ≤ 1000 := by omega
                have z3 := jumpL_nn y.v v
                have z4 := jumpL_le (x := 3) (y := 3) (by decide) (by decide) hyf HMV.out.2
                have bw2 := (Below.refl wr.heap.size wr).alloc (Nat.le_refl _) (.cells #[.slice Ay y.v.length cy, .int .i64 y.j, .int .i64 y.b] 72)
                have HA := Lib.hid (fun s => papart Ay Av y.v.length cy v.length cv y.v v (mergeW (wr.alloc (.cells #[.slice Ay y.v.length cy, .int .i64 y.j, .int .i64 y.b] 72)) s) hyl3 HLV.out (fun f hf => by have := hyf f hf; omega) (fun f hf => by have := HMV.out.2 f hf; omega) wr.heap.size (by have := (below_mergeW (wr.alloc (.cells #[.slice Ay y.v.length cy, .int .i64 y.j, .int .i64 y.b] 72)) s).size; simp at this ⊢; omega) ((rY.below bw2).below' (below_mergeW _ s) (by simp)) ((rV.below bw2).below' (below_mergeW _ s) (by simp)))
                obtain ⟨z, hz⟩ : ∃ z, z = jumpL y.v v := ⟨_, rfl⟩
                obtain ⟨yj, hyj⟩ : ∃ yj, yj = y.j := ⟨_, rfl⟩
                obtain ⟨yb, hyb⟩ : ∃ yb, yb = y.b := ⟨_, rfl⟩
                rw [← hz] at HA HPS z3 z4
                rw [← hyj] at HPS q1 q2
                rw [← hyj, ← hyb] at HA bw2
                rw [← hyj] at k1
                rw [← hyb] at k2
                rw [← HPK.out] at HPS
                clear hz hyj hyb hye hyl hyf hry rY rV wd
                have d1 : (wr.alloc (.cells #[.slice Ay y.v.length cy, .int .i64 yj, .int .i64 yb] 72)).heap[wr.heap.size]? = some (.cells #[.slice Ay y.v.length cy, .int .i64 yj, .int .i64 yb] 72 (0, 0)) := blk_new _ _ _
                have d2 := blk_alloc hxb (.cells #[.slice Ay y.v.length cy, .int .i64 yj, .int .i64 yb] 72)
                have HD := Lib.hid (And.intro d1 (And.intro d2 (And.intro hbj bw2)))
                have e0 : (wr.alloc (.cells #[.slice Ay y.v.length cy, .int .i64 yj, .int .i64 yb] 72)).cell? ⟨wr.heap.size, 0, none⟩ = some (.slice Ay y.v.length cy) := blk_cell d1 0
                have e1 : (wr.alloc (.cells #[.slice Ay y.v.length cy, .int .i64 yj, .int .i64 yb] 72)).cell? ⟨wr.heap.size, 1, none⟩ = some (.int .i64 yj) := blk_cell d1 1
                have mc := cell_mergeW (wr.alloc (.cells #[.slice Ay y.v.length cy, .int .i64 yj, .int .i64 yb] 72))
                have mf := frozen_mergeW (wr.alloc (.cells #[.slice Ay y.v.length cy, .int .i64 yj, .int .i64 yb] 72))
                have lw : wr.heap.size < (wr.alloc (.cells #[.slice Ay y.v.length cy, .int .i64 yj, .int .i64 yb] 72)).heap.size := by simp
                have zk0 : (0 : Int) ≤ (kk : Int) := by omega
                have zk1 : (kk : Int) < (prev.length : Int) := by omega
                clear hxb hbj bw2 d1 d2 hbw
                rcases Int.lt_trichotomy yj z with hmx | hmx | hmx
                · skip
                  by_cases hx0 : x2 < 0
                  · have hd0 : decide (x2 < 0) = true := decide_eq_true hx0
                    go_wp2
                    refine wp_region_btail 6 (by kernel_rfl) (by kernel_rfl) ?_
                    simp only [List.take_succ_cons, List.take_zero, List.drop_succ_cons, List.drop_zero]
                    repeat (go_big_quiet_step (first | (go_at_call 76; refine (HA.out _).mono ?_; rintro e w4 ⟨rfl, hb4⟩; exact ⟨rfl, in_mergeW hb4⟩)))
                    refine wpQuiet_nil ?_
                    rintro w4 ⟨s4, hs4⟩
                    have hb4 := below_mergeW (wr.alloc (.cells #[.slice Ay y.v.length cy, .int .i64 yj, .int .i64 yb] 72)) s4
                    rw [← hs4] at hb4
                    clear hs4 mc mf HA e0 e1 k0 k1 k2
                    obtain ⟨d1, d2, hbj, bw2⟩ := HD.out
                    have d3 := blk_below d2 hb4 (by omega)
                    have hb5 := hbj.trans ((bw2.trans (hb4.mono (by simp))).mono hsx)
                    have e1 : w4.cell? ⟨wj.heap.size, 1, none⟩ = some (.int .i64 x1) := blk_cell d3 1
                    have e2 : w4.cell? ⟨wj.heap.size, 2, none⟩ = some (.int .i64 x2) := blk_cell d3 2
                    have f1 := blk_frozen d3 1
                    have f2 := blk_frozen d3 2
                    have HZ := Lib.hid (And.intro d3 hb5)
                    clear d1 d2 d3 hb4 hb5 bw2 hbj HD

                    have t1 := blk_set (blk_set HZ.out.1 1 (.int .i64 z)) 2 (.int .i64 (kk : Int))
                    have t2 := (HZ.out.2.setCell (p := ⟨wj.heap.size, 1, none⟩) (Nat.le_refl _) (.int .i64 z)).setCell (p := ⟨wj.heap.size, 2, none⟩) (Nat.le_refl _) (.int .i64 (kk : Int))
                    have TT := Lib.hid (And.intro t1 t2)
                    clear t1 t2
                    go_wp2
                    go_roundw
                    case rel => exact ⟨kk + 1, z, kk, by go_num, by omega, by show (_, _) = _; rw [HPS.out, if_pos (by first | exact .inl hx0 | exact .inr (by show max _ _ < _; omega))]; exact Prod.ext (by show _ = max _ _; omega) rfl, by simpa using TT.out.1, TT.out.2⟩
                    case measure => simp [intOf]; omega
                  by_cases hn : z < x1
                  · skip
                    go_wp2
                    refine wp_region_btail 6 (by kernel_rfl) (by kernel_rfl) ?_
                    simp only [List.take_succ_cons, List.take_zero, List.drop_succ_cons, List.drop_zero]
                    repeat (go_big_quiet_step (first | (go_at_call 76; refine (HA.out _).mono ?_; rintro e w4 ⟨rfl, hb4⟩; exact ⟨rfl, in_mergeW hb4⟩)))
                    refine wpQuiet_nil ?_
                    rintro w4 ⟨s4, hs4⟩
                    have hb4 := below_mergeW (wr.alloc (.cells #[.slice Ay y.v.length cy, .int .i64 yj, .int .i64 yb] 72)) s4
                    rw [← hs4] at hb4
                    clear hs4 mc mf HA e0 e1 k0 k1 k2
                    obtain ⟨d1, d2, hbj, bw2⟩ := HD.out
                    have d3 := blk_below d2 hb4 (by omega)
                    have hb5 := hbj.trans ((bw2.trans (hb4.mono (by simp))).mono hsx)
                    have e1 : w4.cell? ⟨wj.heap.size, 1, none⟩ = some (.int .i64 x1) := blk_cell d3 1
                    have e2 : w4.cell? ⟨wj.heap.size, 2, none⟩ = some (.int .i64 x2) := blk_cell d3 2
                    have f1 := blk_frozen d3 1
                    have f2 := blk_frozen d3 2
                    have HZ := Lib.hid (And.intro d3 hb5)
                    clear d1 d2 d3 hb4 hb5 bw2 hbj HD

                    have t1 := blk_set (blk_set HZ.out.1 1 (.int .i64 z)) 2 (.int .i64 (kk : Int))
                    have t2 := (HZ.out.2.setCell (p := ⟨wj.heap.size, 1, none⟩) (Nat.le_refl _) (.int .i64 z)).setCell (p := ⟨wj.heap.size, 2, none⟩) (Nat.le_refl _) (.int .i64 (kk : Int))
                    have TT := Lib.hid (And.intro t1 t2)
                    clear t1 t2
                    go_wp2
                    go_roundw
                    case rel => exact ⟨kk + 1, z, kk, by go_num, by omega, by show (_, _) = _; rw [HPS.out, if_pos (by first | exact .inl hx0 | exact .inr (by show max _ _ < _; omega))]; exact Prod.ext (by show _ = max _ _; omega) rfl, by simpa using TT.out.1, TT.out.2⟩
                    case measure => simp [intOf]; omega
                  · skip
                    go_wp2
                    refine wp_region_btail 6 (by kernel_rfl) (by kernel_rfl) ?_
                    simp only [List.take_succ_cons, List.take_zero, List.drop_succ_cons, List.drop_zero]
                    repeat (go_big_quiet_step (first | (go_at_call 76; refine (HA.out _).mono ?_; rintro e w4 ⟨rfl, hb4⟩; exact ⟨rfl, in_mergeW hb4⟩)))
                    refine wpQuiet_nil ?_
                    rintro w4 ⟨s4, hs4⟩
                    have hb4 := below_mergeW (wr.alloc (.cells #[.slice Ay y.v.length cy, .int .i64 yj, .int .i64 yb] 72)) s4
                    rw [← hs4] at hb4
                    clear hs4 mc mf HA e0 e1 k0 k1 k2
                    obtain ⟨d1, d2, hbj, bw2⟩ := HD.out
                    have d3 := blk_below d2 hb4 (by omega)
                    have hb5 := hbj.trans ((bw2.trans (hb4.mono (by simp))).mono hsx)
                    have e1 : w4.cell? ⟨wj.heap.size, 1, none⟩ = some (.int .i64 x1) := blk_cell d3 1
                    have e2 : w4.cell? ⟨wj.heap.size, 2, none⟩ = some (.int .i64 x2) := blk_cell d3 2
                    have f1 := blk_frozen d3 1
                    have f2 := blk_frozen d3 2
                    have HZ := Lib.hid (And.intro d3 hb5)
                    clear d1 d2 d3 hb4 hb5 bw2 hbj HD

                    go_wp2
                    go_roundw
                    case rel => exact ⟨kk + 1, x1, x2, by go_num, by omega, by show (_, _) = _; rw [HPS.out, if_neg (fun h => h.elim (fun h => by have : x2 < 0 := h; omega) (fun h => by have : max _ _ < x1 := h; omega))], HZ.out.1, HZ.out.2⟩
                    case measure => simp [intOf]; omega
                · subst hmx
                  by_cases hx0 : x2 < 0
                  · have hd0 : decide (x2 < 0) = true := decide_eq_true hx0
                    go_wp2
                    refine wp_region_btail 6 (by kernel_rfl) (by kernel_rfl) ?_
                    simp only [List.take_succ_cons, List.take_zero, List.drop_succ_cons, List.drop_zero]
                    repeat (go_big_quiet_step (first | (go_at_call 76; refine (HA.out _).mono ?_; rintro e w4 ⟨rfl, hb4⟩; exact ⟨rfl, in_mergeW hb4⟩)))
                    refine wpQuiet_nil ?_
                    rintro w4 ⟨s4, hs4⟩
                    have hb4 := below_mergeW (wr.alloc (.cells #[.slice Ay y.v.length cy, .int .i64 yj, .int .i64 yb] 72)) s4
                    rw [← hs4] at hb4
                    clear hs4 mc mf HA e0 e1 k0 k1 k2
                    obtain ⟨d1, d2, hbj, bw2⟩ := HD.out
                    have d3 := blk_below d2 hb4 (by omega)
                    have hb5 := hbj.trans ((bw2.trans (hb4.mono (by simp))).mono hsx)
                    have e1 : w4.cell? ⟨wj.heap.size, 1, none⟩ = some (.int .i64 x1) := blk_cell d3 1
                    have e2 : w4.cell? ⟨wj.heap.size, 2, none⟩ = some (.int .i64 x2) := blk_cell d3 2
                    have f1 := blk_frozen d3 1
                    have f2 := blk_frozen d3 2
                    have HZ := Lib.hid (And.intro d3 hb5)
                    clear d1 d2 d3 hb4 hb5 bw2 hbj HD

                    have t1 := blk_set (blk_set HZ.out.1 1 (.int .i64 yj)) 2 (.int .i64 (kk : Int))
                    have t2 := (HZ.out.2.setCell (p := ⟨wj.heap.size, 1, none⟩) (Nat.le_refl _) (.int .i64 yj)).setCell (p := ⟨wj.heap.size, 2, none⟩) (Nat.le_refl _) (.int .i64 (kk : Int))
                    have TT := Lib.hid (And.intro t1 t2)
                    clear t1 t2
                    go_wp2
                    go_roundw
                    case rel => exact ⟨kk + 1, yj, kk, by go_num, by omega, by show (_, _) = _; rw [HPS.out, if_pos (by first | exact .inl hx0 | exact .inr (by show max _ _ < _; omega))]; exact Prod.ext (by show _ = max _ _; omega) rfl, by simpa using TT.out.1, TT.out.2⟩
                    case measure => simp [intOf]; omega
                  by_cases hn : yj < x1
                  · skip
                    go_wp2
                    refine wp_region_btail 6 (by kernel_rfl) (by kernel_rfl) ?_
                    simp only [List.take_succ_cons, List.take_zero, List.drop_succ_cons, List.drop_zero]
                    repeat (go_big_quiet_step (first | (go_at_call 76; refine (HA.out _).mono ?_; rintro e w4 ⟨rfl, hb4⟩; exact ⟨rfl, in_mergeW hb4⟩)))
                    refine wpQuiet_nil ?_
                    rintro w4 ⟨s4, hs4⟩
                    have hb4 := below_mergeW (wr.alloc (.cells #[.slice Ay y.v.length cy, .int .i64 yj, .int .i64 yb] 72)) s4
                    rw [← hs4] at hb4
                    clear hs4 mc mf HA e0 e1 k0 k1 k2
                    obtain ⟨d1, d2, hbj, bw2⟩ := HD.out
                    have d3 := blk_below d2 hb4 (by omega)
                    have hb5 := hbj.trans ((bw2.trans (hb4.mono (by simp))).mono hsx)
                    have e1 : w4.cell? ⟨wj.heap.size, 1, none⟩ = some (.int .i64 x1) := blk_cell d3 1
                    have e2 : w4.cell? ⟨wj.heap.size, 2, none⟩ = some (.int .i64 x2) := blk_cell d3 2
                    have f1 := blk_frozen d3 1
                    have f2 := blk_frozen d3 2
                    have HZ := Lib.hid (And.intro d3 hb5)
                    clear d1 d2 d3 hb4 hb5 bw2 hbj HD

                    have t1 := blk_set (blk_set HZ.out.1 1 (.int .i64 yj)) 2 (.int .i64 (kk : Int))
                    have t2 := (HZ.out.2.setCell (p := ⟨wj.heap.size, 1, none⟩) (Nat.le_refl _) (.int .i64 yj)).setCell (p := ⟨wj.heap.size, 2, none⟩) (Nat.le_refl _) (.int .i64 (kk : Int))
                    have TT := Lib.hid (And.intro t1 t2)
                    clear t1 t2
                    go_wp2
                    go_roundw
                    case rel => exact ⟨kk + 1, yj, kk, by go_num, by omega, by show (_, _) = _; rw [HPS.out, if_pos (by first | exact .inl hx0 | exact .inr (by show max _ _ < _; omega))]; exact Prod.ext (by show _ = max _ _; omega) rfl, by simpa using TT.out.1, TT.out.2⟩
                    case measure => simp [intOf]; omega
                  · skip
                    go_wp2
                    refine wp_region_btail 6 (by kernel_rfl) (by kernel_rfl) ?_
                    simp only [List.take_succ_cons, List.take_zero, List.drop_succ_cons, List.drop_zero]
                    repeat (go_big_quiet_step (first | (go_at_call 76; refine (HA.out _).mono ?_; rintro e w4 ⟨rfl, hb4⟩; exact ⟨rfl, in_mergeW hb4⟩)))
                    refine wpQuiet_nil ?_
                    rintro w4 ⟨s4, hs4⟩
                    have hb4 := below_mergeW (wr.alloc (.cells #[.slice Ay y.v.length cy, .int .i64 yj, .int .i64 yb] 72)) s4
                    rw [← hs4] at hb4
                    clear hs4 mc mf HA e0 e1 k0 k1 k2
                    obtain ⟨d1, d2, hbj, bw2⟩ := HD.out
                    have d3 := blk_below d2 hb4 (by omega)
                    have hb5 := hbj.trans ((bw2.trans (hb4.mono (by simp))).mono hsx)
                    have e1 : w4.cell? ⟨wj.heap.size, 1, none⟩ = some (.int .i64 x1) := blk_cell d3 1
                    have e2 : w4.cell? ⟨wj.heap.size, 2, none⟩ = some (.int .i64 x2) := blk_cell d3 2
                    have f1 := blk_frozen d3 1
                    have f2 := blk_frozen d3 2
                    have HZ := Lib.hid (And.intro d3 hb5)
                    clear d1 d2 d3 hb4 hb5 bw2 hbj HD

                    go_wp2
                    go_roundw
                    case rel => exact ⟨kk + 1, x1, x2, by go_num, by omega, by show (_, _) = _; rw [HPS.out, if_neg (fun h => h.elim (fun h => by have : x2 < 0 := h; omega) (fun h => by have : max _ _ < x1 := h; omega))], HZ.out.1, HZ.out.2⟩
                    case measure => simp [intOf]; omega
                · skip
                  by_cases hx0 : x2 < 0
                  · have hd0 : decide (x2 < 0) = true := decide_eq_true hx0
                    go_wp2
                    refine wp_region_btail 6 (by kernel_rfl) (by kernel_rfl) ?_
                    simp only [List.take_succ_cons, List.take_zero, List.drop_succ_cons, List.drop_zero]
                    repeat (go_big_quiet_step (first | (go_at_call 76; refine (HA.out _).mono ?_; rintro e w4 ⟨rfl, hb4⟩; exact ⟨rfl, in_mergeW hb4⟩)))
                    refine wpQuiet_nil ?_
                    rintro w4 ⟨s4, hs4⟩
                    have hb4 := below_mergeW (wr.alloc (.cells #[.slice Ay y.v.length cy, .int .i64 yj, .int .i64 yb] 72)) s4
                    rw [← hs4] at hb4
                    clear hs4 mc mf HA e0 e1 k0 k1 k2
                    obtain ⟨d1, d2, hbj, bw2⟩ := HD.out
                    have d3 := blk_below d2 hb4 (by omega)
                    have hb5 := hbj.trans ((bw2.trans (hb4.mono (by simp))).mono hsx)
                    have e1 : w4.cell? ⟨wj.heap.size, 1, none⟩ = some (.int .i64 x1) := blk_cell d3 1
                    have e2 : w4.cell? ⟨wj.heap.size, 2, none⟩ = some (.int .i64 x2) := blk_cell d3 2
                    have f1 := blk_frozen d3 1
                    have f2 := blk_frozen d3 2
                    have HZ := Lib.hid (And.intro d3 hb5)
                    clear d1 d2 d3 hb4 hb5 bw2 hbj HD

                    have t1 := blk_set (blk_set HZ.out.1 1 (.int .i64 yj)) 2 (.int .i64 (kk : Int))
                    have t2 := (HZ.out.2.setCell (p := ⟨wj.heap.size, 1, none⟩) (Nat.le_refl _) (.int .i64 yj)).setCell (p := ⟨wj.heap.size, 2, none⟩) (Nat.le_refl _) (.int .i64 (kk : Int))
                    have TT := Lib.hid (And.intro t1 t2)
                    clear t1 t2
                    go_wp2
                    go_roundw
                    case rel => exact ⟨kk + 1, yj, kk, by go_num, by omega, by show (_, _) = _; rw [HPS.out, if_pos (by first | exact .inl hx0 | exact .inr (by show max _ _ < _; omega))]; exact Prod.ext (by show _ = max _ _; omega) rfl, by simpa using TT.out.1, TT.out.2⟩
                    case measure => simp [intOf]; omega
                  by_cases hn : yj < x1
                  · skip
                    go_wp2
                    refine wp_region_btail 6 (by kernel_rfl) (by kernel_rfl) ?_
                    simp only [List.take_succ_cons, List.take_zero, List.drop_succ_cons, List.drop_zero]
                    repeat (go_big_quiet_step (first | (go_at_call 76; refine (HA.out _).mono ?_; rintro e w4 ⟨rfl, hb4⟩; exact ⟨rfl, in_mergeW hb4⟩)))
                    refine wpQuiet_nil ?_
                    rintro w4 ⟨s4, hs4⟩
                    have hb4 := below_mergeW (wr.alloc (.cells #[.slice Ay y.v.length cy, .int .i64 yj, .int .i64 yb] 72)) s4
                    rw [← hs4] at hb4
                    clear hs4 mc mf HA e0 e1 k0 k1 k2
                    obtain ⟨d1, d2, hbj, bw2⟩ := HD.out
                    have d3 := blk_below d2 hb4 (by omega)
                    have hb5 := hbj.trans ((bw2.trans (hb4.mono (by simp))).mono hsx)
                    have e1 : w4.cell? ⟨wj.heap.size, 1, none⟩ = some (.int .i64 x1) := blk_cell d3 1
                    have e2 : w4.cell? ⟨wj.heap.size, 2, none⟩ = some (.int .i64 x2) := blk_cell d3 2
                    have f1 := blk_frozen d3 1
                    have f2 := blk_frozen d3 2
                    have HZ := Lib.hid (And.intro d3 hb5)
                    clear d1 d2 d3 hb4 hb5 bw2 hbj HD

                    have t1 := blk_set (blk_set HZ.out.1 1 (.int .i64 yj)) 2 (.int .i64 (kk : Int))
                    have t2 := (HZ.out.2.setCell (p := ⟨wj.heap.size, 1, none⟩) (Nat.le_refl _) (.int .i64 yj)).setCell (p := ⟨wj.heap.size, 2, none⟩) (Nat.le_refl _) (.int .i64 (kk : Int))
                    have TT := Lib.hid (And.intro t1 t2)
                    clear t1 t2
                    go_wp2
                    go_roundw
                    case rel => exact ⟨kk + 1, yj, kk, by go_num, by omega, by show (_, _) = _; rw [HPS.out, if_pos (by first | exact .inl hx0 | exact .inr (by show max _ _ < _; omega))]; exact Prod.ext (by show _ = max _ _; omega) rfl, by simpa using TT.out.1, TT.out.2⟩
                    case measure => simp [intOf]; omega
                  · skip
                    go_wp2
                    refine wp_region_btail 6 (by kernel_rfl) (by kernel_rfl) ?_
                    simp only [List.take_succ_cons, List.take_zero, List.drop_succ_cons, List.drop_zero]
                    repeat (go_big_quiet_step (first | (go_at_call 76; refine (HA.out _).mono ?_; rintro e w4 ⟨rfl, hb4⟩; exact ⟨rfl, in_mergeW hb4⟩)))
                    refine wpQuiet_nil ?_
                    rintro w4 ⟨s4, hs4⟩
                    have hb4 := below_mergeW (wr.alloc (.cells #[.slice Ay y.v.length cy, .int .i64 yj, .int .i64 yb] 72)) s4
                    rw [← hs4] at hb4
                    clear hs4 mc mf HA e0 e1 k0 k1 k2
                    obtain ⟨d1, d2, hbj, bw2⟩ := HD.out
                    have d3 := blk_below d2 hb4 (by omega)
                    have hb5 := hbj.trans ((bw2.trans (hb4.mono (by simp))).mono hsx)
                    have e1 : w4.cell? ⟨wj.heap.size, 1, none⟩ = some (.int .i64 x1) := blk_cell d3 1
                    have e2 : w4.cell? ⟨wj.heap.size, 2, none⟩ = some (.int .i64 x2) := blk_cell d3 2
                    have f1 := blk_frozen d3 1
                    have f2 := blk_frozen d3 2
                    have HZ := Lib.hid (And.intro d3 hb5)
                    clear d1 d2 d3 hb4 hb5 bw2 hbj HD

                    go_wp2
                    go_roundw
                    case rel => exact ⟨kk + 1, x1, x2, by go_num, by omega, by show (_, _) = _; rw [HPS.out, if_neg (fun h => h.elim (fun h => by have : x2 < 0 := h; omega) (fun h => by have : max _ _ < x1 := h; omega))], HZ.out.1, HZ.out.2⟩
                    case measure => simp [intOf]; omega
              · obtain rfl : kk = prev.length := by omega
                have HNX2 := Lib.hid (show nextTo false prev M (j + 1) = nextTo false prev M j ++ (if 0 ≤ x2 then [⟨v, x1, x2⟩] else []) by
                  rw [HNX.out, nx, ← HPK.out]
                  by_cases h : 0 ≤ x2
                  · rw [if_pos h, if_pos (by simpa using h)]; rfl
                  · rw [if_neg h, if_neg (by simpa using h)]; rfl)
                have g0 : wr.cell? ⟨wj.heap.size, 0, none⟩ = some (.slice Av v.length cv) := blk_cell hxb 0
                have g1 : wr.cell? ⟨wj.heap.size, 1, none⟩ = some (.int .i64 x1) := blk_cell hxb 1
                have g2 : wr.cell? ⟨wj.heap.size, 2, none⟩ = some (.int .i64 x2) := blk_cell hxb 2
                obtain ⟨o1, o2, o3⟩ := HO2.out
                obtain ⟨Ae, ce, rfl, _, _⟩ := own_cap o1
                have u1 := own_below o1 hbj
                have u2 := (o2.below hbj (Nat.le_refl _)).more hsx
                have u3 := o3.trans (hbj.mono hsj)
                have hel : es.length ≤ 343 := by have := nextTo_len false prev M j; have := HE2.out; rw [this]; omega
                have HRW := Lib.hid (show RowAt wr wr.heap.size (fun x => x < wo.heap.size ∨ (Value.slice Ae es.length ce).ownBlock = some x) (.slice Av v.length cv) v from by
                  have h1 := hrow.at (X' := fun x => x < wo.heap.size ∨ (Value.slice Ae es.length ce).ownBlock = some x) (fun x hx => by
                    rcases hx with hx | hx
                    · exact .inl (.inl hx)
                    · exact .inr (o1.lt x hx).1)
                  exact (h1.below u3 (Nat.le_refl _)).more u3.size)
                have HU := Lib.hid (And.intro u2 u3)
                clear o1 o2 o3 u2 u3 hxb hbj HO2 hrow
                by_cases hx0 : 0 ≤ x2
                · have hd0 : decide (0 ≤ x2) = true := decide_eq_true hx0
                  rw [if_pos hx0] at HNX2
                  go_wp2_with (at_builtin; go_must (refine app1x rfl (.tmp 73) (.tmp 75) 69 rfl 72 _ 3 40 E69 w1.heap.size _ _ _ _ rfl u1 _ rfl ?_ ?_ ?_ ?_ ?_ ?_); rfl; rfl; rfl; omega; omega; intro v5 w5 hown5 hg5 hx5)
                  have HT5 := Lib.hid (tab_push (L := fun x => x < wo.heap.size) HU.out.1 HRW.out hg5 hx5)
                  have HB5 := Lib.hid (below_own HU.out.2 HU.out.2.size u1 (Nat.le_refl _) hg5)
                  have HHL := Lib.hid (show hs.length = es.length by have := HU.out.1.1; simpa using this)
                  have HO5 := Lib.hid hown5
                  clear hown5 hg5 hx5
                  go_roundw
                  case rel =>
                    refine ⟨j + 1, es ++ [⟨v, x1, x2⟩], hs ++ [.slice Av v.length cv], by go_num, by omega, ?_, ?_, ?_, HB5.out⟩
                    · show _ = _; rw [HNX2.out, HE2.out]
                    · rw [endCells_snoc _ _ HHL.out, List.length_append]; exact HO5.out
                    · rw [List.map_append]; exact HT5.out
                  case measure => simp [intOf]; omega
                · have hd0 : decide (0 ≤ x2) = false := decide_eq_false hx0
                  rw [if_neg hx0, List.append_nil] at HNX2
                  have HU1 := Lib.hid u1
                  clear u1
                  go_wp2
                  go_roundw
                  case rel => exact ⟨j + 1, es, hs, by go_num, by omega, by show _ = _; rw [HNX2.out, HE2.out], HU1.out, HU.out.1, HU.out.2⟩
                  case measure => simp [intOf]; omega
            --INNEREND
          · obtain rfl : j = M.length := by omega
            have hel : es.length ≤ 343 := by have := nextTo_len false prev M M.length; have := HE2.out; rw [this]; omega
            have HEL := Lib.hid (show es = lastEnds g row (q + 1) from HE2.out.trans HLQ.out.symm)
            obtain ⟨Ae, ce, rfl, _, _⟩ := own_cap hown
            have hlo := hown.lt
            have HER := Lib.hid (show ERow wr wr.heap.size (fun x => x < w.heap.size ∨ (Value.slice (some ⟨bo, offo, none⟩) q cu).ownBlock = some x) (.slice Ae es.length ce) es from
              ERow.of_own hown (ht.at (fun x hx => by
                rcases hx with hx | hx
                · exact .inl (.inl (by omega))
                · exact .inl (.inl (HO.out.1.lt x hx).2))) (fun x hx he => by
                have h1 := (hown.lt x hx).1
                rcases he with he | he
                · omega
                · have := (HO.out.1.lt x he).2; omega))
            have b2 := HB1.out.trans (hb.mono s1)
            have u1 := own_below HO.out.1 b2
            have u2 := (HO.out.2.1.below b2 (Nat.le_refl _)).more b2.size
            have u3 := HO.out.2.2.trans (b2.mono hsz)
            have HU := Lib.hid (And.intro u2 u3)
            clear u2 u3 b2 hown ht hb hlo
            go_wp2_with (at_builtin; go_must (refine app1x rfl (.tmp 78) (.tmp 80) 67 rfl 69 _ 1 24 E67 w.heap.size _ _ _ _ rfl u1 _ rfl ?_ ?_ ?_ ?_ ?_ ?_); rfl; rfl; rfl; omega; omega; intro v5 w5 hown5 hg5 hx5)
            have HT5 := Lib.hid (etab_push (L := fun x => x < w.heap.size) HU.out.1 HER.out hg5 hx5)
            have HB5 := Lib.hid (below_own HU.out.2 HU.out.2.size u1 (Nat.le_refl _) hg5)
            have HO5 := Lib.hid hown5
            clear hown5 hg5 hx5
            go_roundw
            case rel => exact ⟨q + 1, _, ess ++ [es], by go_num, by omega, by show _ = _; rw [HES.out, HEE.out, HEL.out], HO5.out, HT5.out, HB5.out⟩
            case measure => simp [intOf]; omega
    · obtain rfl : q = row.length := by omega
      obtain ⟨Au, cu, rfl, _, _⟩ := own_cap hown
      have HO := Lib.hid (And.intro hown (And.intro het hb))
      clear hown het hb
      go_wp2
      go_ret
      obtain ⟨h1, h2, h3⟩ := HO.out
      exact ⟨_, Hs, rfl, h1, by rw [← HEE.out]; exact h2, h3⟩
end Go.Proofs.Ytejjogpgolgdgaa
