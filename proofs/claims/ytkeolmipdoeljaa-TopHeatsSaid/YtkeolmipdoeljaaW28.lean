/-
  WALKS: Trace and Peak of the reference; two lists of lists held against each other.
-/
import Derived.Test.YtkeolmipdoeljaaW27
import Derived.Test.YtkeolmipdoeljaaW11
namespace Go.Proofs.Ytkeolmipdoeljaa
open Go.RowKit Heat

theorem hts_take (n : Nat) (h : Int → Int) (k : Nat) (hk : k < n) : (hts n h).take (k + 1) = (hts n h).take k ++ [h (k : Nat)] := by
  rw [take_snoc _ _ (by rw [hts_len]; exact hk)]
  congr 2
  simp [hts]
/-- The plan's first acts, and one of the ion behind them: the heat before it. -/
theorem before_behind (l : List HAct) (q : Nat) (j : Int) (hq : q < l.length) : before (l.take (q + 1) ++ [⟨0, j, 0⟩]) (q + 1) = heats cold (l.take (q + 1)) j := by
  have h1 : (l.take (q + 1)).length = q + 1 := by rw [List.length_take]; omega
  rw [before_eq _ _ (by rw [List.length_append, h1]; simp)]
  have h2 : (l.take (q + 1) ++ [(⟨0, j, 0⟩ : HAct)]).take (q + 1) = l.take (q + 1) := by rw [List.take_append_of_le_length (by omega), List.take_of_length_le (by omega)]
  rw [h2, List.getElem_append_right (by omega)]
  simp [h1]

set_option maxRecDepth 100000 in
set_option maxHeartbeats 4000000 in
theorem rTrace (n : Int) (A : Option Addr) (k c : Nat) (l : List HAct) (w : World) (hl : l.length ≤ 1000) (hk : k ≤ c) (hc : c ≤ maxLen) (B : Nat) (hB : B ≤ w.heap.size) (hr : Rd w B 3 A k (actCells l)) :
    Calls Try.prog 39 #[.int .i64 n, .slice A k c] w fun e w' => ∃ v vs, e = .returned (.tuple #[v, .int .i64 (validate n l)]) ∧ TraceOk w' w.heap.size n l v vs ∧ Below w.heap.size w w' := by
  obtain rfl := hr.act_len
  have H := Lib.hid (rValidate n A l.length c l w hl B hB hr)
  by_cases h : validate n l = 0
  · obtain ⟨h1, h2, h3, h4⟩ := validate_ok h
    obtain ⟨m, rfl⟩ := Int.eq_ofNat_of_zero_le (show 0 ≤ n by omega)
    have HL := Lib.hid h
    have HV := Lib.hid h4
    have HM := Lib.hid (mild_of h4)
    unfold maxLen at hc
    clear h h4
    go_enter Try.func39, Try.ntmps39
    go_wp2_with fail
    refine H.out.mono ?_
    rw [HL.out]
    rintro e w1 ⟨rfl, hb1⟩
    have s1 := hb1.size
    go_wp2
    go_loopw [7, 8] (fun v j wr => ∃ (q : Nat) (vs : List Value), q ≤ l.length ∧ j = .int .i64 q ∧ vs.length = q ∧ wr.ownsRow w.heap.size 34 1 v q vs ∧ RowsOk wr w.heap.size m l vs ∧ Below w.heap.size w wr) (fun _ j _ => l.length - (intOf j).toNat)
    case atStart => exact ⟨0, [], Nat.zero_le _, rfl, rfl, World.ownsRow_nil _ _ _ _, ⟨Nat.zero_le _, fun i hi => absurd hi (by simp)⟩, hb1⟩
    case round =>
      clear hb1
      obtain ⟨q, vs, hq, rfl, hvs, hown, hrow, hb⟩ := hrel
      have hsz := hb.size
      by_cases hlt : q < l.length
      · have hrq := (hr.below' hb hB).more (show B ≤ wr.heap.size by omega)
        obtain ⟨ab, ao, rfl, _, _, _, _⟩ := (hr.below' hb hB).act hlt
        have HVS := Lib.hid hvs
        have HOWN := Lib.hid hown
        have HROW := Lib.hid hrow
        obtain ⟨Av, cv, rfl, hvb⟩ := own_val hown
        have HVB := Lib.hid hvb
        clear hvs hown hrow hvb
        obtain ⟨wo, rfl⟩ : ∃ wo : World, wo = wr := ⟨_, rfl⟩
        go_wp2
        go_loopw [9, 10] (fun v j wi => ∃ p : Nat, p ≤ m ∧ j = .int .i64 p ∧ wi.ownsRow wo.heap.size 3 1 v p (ints ((hts m (heats cold (l.take (q + 1)))).take p)) ∧ Below wo.heap.size wo wi) (fun _ j _ => m - (intOf j).toNat)
        case atStart => exact ⟨0, Nat.zero_le _, rfl, World.ownsRow_nil _ _ _ _, Below.refl _ _⟩
        case round =>
          obtain ⟨p, hp, rfl, howni, hbi⟩ := hrel
          have hszi := hbi.size
          by_cases hpm : p < m
          · obtain ⟨Ai, ci, rfl, hib⟩ := own_val howni
            have HIN := Lib.hid howni
            have HBI := Lib.hid hbi
            have HO := Lib.hid (show (wr.alloc (.cells #[] 48)).ownsRow wr.heap.size 48 3 (.slice (some ⟨wr.heap.size, 0, none⟩) 0 0) 0 [] from own_empty (blk_new wr 48 #[]) (Nat.le_refl _))
            have HB := Lib.hid ((Below.refl wr.heap.size wr).alloc (Nat.le_refl _) (.cells #[] 48))
            have hrw := (hrq.below hbi).more hszi
            have hfr := (hrw.actFront (show q + 1 ≤ l.length by omega)).alloc (Nat.le_refl _) (.cells #[] 48)
            have HL2 := Lib.hid (show (l.take (q + 1)).length = q + 1 by rw [List.length_take]; omega)
            obtain ⟨P, hP⟩ : ∃ P, P = l.take (q + 1) := ⟨_, rfl⟩
            rw [← hP] at hfr
            have HP := Lib.hid hP
            have HBF := Lib.hid (before_behind l q (p : Nat) hlt)
            clear howni hib hP
            have hPl : P.length = q + 1 := by rw [HP.out]; exact HL2.out
            have hq20 : q + 1 ≤ 1000 := by omega
            clear hrw hrq
            go_wp2_with (first
              | (at_builtin; refine appN (o := ⟨some 34, _, _, _, _, _⟩) rfl (.tmp 29) (.tmp 33) 22 rfl 48 _ 3 24 E22 wr.heap.size _ _ _ rfl HO.out wr.heap.size (some ⟨ab, ao, none⟩) (q + 1) c (actCells P) rfl hfr (actCells_one _) ?c1 ?c2 ?_; (case c1 => omega); (case c2 => simp); intro v2 w2 hown2 hg2; have hb2 := below_own HB.out (by simp) HO.out (Nat.le_refl _) hg2; have s2 := hb2.size)
              | (at_builtin; go_must (refine app1 (o := ⟨some 38, _, _, _, _, _⟩) rfl (.tmp 34) (.tmp 37) 22 rfl 48 _ 3 24 E22 wr.heap.size #[.int .i64 0, .int .i64 p, .int .i64 0] _ _ _ rfl hown2 _ rfl ?_ ?_ ?_ ?_ ?_ ?_); rfl; rfl; rfl; omega; omega; intro v3 w3 hown3 hg3))
            have hb3 := below_own hb2 s2 hown2 (Nat.le_refl _) hg3
            rw [Nat.zero_add] at hown3
            obtain ⟨A3, c3, rfl, _, _⟩ := own_cap hown3
            have hown3' : w3.ownsRow wr.heap.size 48 3 (.slice A3 (q + 1 + 1) c3) (q + 1 + 1) (actCells (P ++ [⟨0, (p : Nat), 0⟩])) := by
              rw [actCells_snoc]; simpa using hown3
            clear hown3 hown2 hg3 hg2
            have HMP := Lib.hid (show Mild (P ++ [⟨0, (p : Nat), 0⟩]) from fun x hx => by
              rcases List.mem_append.1 hx with h | h
              · exact HM.out x (List.mem_of_mem_take (HP.out ▸ h))
              · rw [List.mem_singleton.1 h]; simp)
            have hlp : (P ++ [(⟨0, (p : Nat), 0⟩ : HAct)]).length = q + 2 := by rw [List.length_append, hPl]; rfl
            have hbf : before (P ++ [⟨0, (p : Nat), 0⟩]) (q + 1) = heats cold (l.take (q + 1)) (p : Nat) := by rw [HP.out]; exact HBF.out
            have hcall := rbefore A3 (q + 1 + 1) c3 (q + 1) (P ++ [⟨0, (p : Nat), 0⟩]) w3 (by omega) HMP.out (by omega) w3.heap.size (Nat.le_refl _) (Rd.of_own hown3')
            rw [hbf] at hcall
            obtain ⟨x, hx⟩ : ∃ x, x = heats cold (l.take (q + 1)) (p : Nat) := ⟨_, rfl⟩
            rw [← hx, show ((q + 1 : Nat) : Int) = (q : Int) + 1 by omega] at hcall
            have HX := Lib.hid hx
            have HB3 := Lib.hid hb3
            have HCALL := Lib.hid hcall
            have s3 := hb3.size
            clear hb3 hcall hown3' hx hbf hlp hb2 s2 hfr
            go_wp2_with fail
            with_reducible refine HCALL.out.mono ?_
            rintro e w4 ⟨rfl, hb4⟩
            have HB4 := Lib.hid (HB3.out.trans (hb4.mono s3))
            have s4 := HB4.out.size
            have HIN4 := Lib.hid (own_below HIN.out HB4.out)
            clear hb4
            go_wp2_with (at_builtin; go_must (refine app1 rfl (.tmp 28) (.tmp 42) 34 rfl 3 _ 1 8 E34 wo.heap.size #[.int .i64 x] _ _ _ rfl HIN4.out _ rfl ?_ ?_ ?_ ?_ ?_ ?_); rfl; rfl; rfl; omega; omega; intro v5 w5 hown5 hg5)
            have hb5 := below_own (hbi.trans (HB4.out.mono hszi)) (by omega) HIN4.out (Nat.le_refl _) hg5
            have HT := Lib.hid (hts_take m (heats cold (l.take (q + 1))) p hpm)
            go_roundw
            case rel => exact ⟨p + 1, by omega, by go_num, by rw [HT.out, ← HX.out]; simpa using hown5, hb5⟩
            case measure => simp [intOf]; omega
          · obtain rfl : p = m := by omega
            obtain ⟨A9, c9, rfl, _, _⟩ := own_cap howni
            have hfull : (hts p (heats cold (l.take (q + 1)))).take p = hts p (heats cold (l.take (q + 1))) := List.take_of_length_le (by rw [hts_len]; omega)
            rw [hfull] at howni
            have HI := Lib.hid howni
            have HOW := Lib.hid (own_below HOWN.out hbi)
            have HRO := Lib.hid (HROW.out.keep fun g cur hg => hbi.block g (blk_lt hg))
            clear howni hfull
            go_wp2_with (at_builtin; go_must (refine app1 rfl (.tmp 44) (.tmp 46) 51 rfl 34 _ 1 24 E51 w.heap.size #[.slice A9 p c9] _ _ _ rfl HOW.out _ rfl ?_ ?_ ?_ ?_ ?_ ?_); rfl; rfl; rfl; omega; omega; intro v5 w6 hown6 hg6)
            have hkeep : ∀ (g : Nat) (cur : Array Value), wr.heap[g]? = some (Obj.cells cur 3 (0, 0)) → w6.heap[g]? = wr.heap[g]? := fun g cur hg => hg6.block g (blk_lt hg) (kind_ne34 HOW.out hg)
            have r9 := hrow_keep' (own_base HI.out hsz) hkeep
            have hrow6 := (HRO.out.keep hkeep).snoc HVS.out hlt r9
            have hb6 := below_own (hb.trans (hbi.mono hsz)) (by omega) HOW.out (Nat.le_refl _) hg6
            go_roundw
            case rel => exact ⟨q + 1, vs ++ [.slice A9 p c9], by omega, by go_num, by rw [List.length_append, HVS.out]; rfl, hown6, hrow6, hb6⟩
            case measure => simp [intOf]; omega
      · obtain rfl : q = l.length := by omega
        obtain ⟨A9, c9, rfl, _, _⟩ := own_cap hown
        have HT := Lib.hid (show TraceOk wr w.heap.size m l (.slice A9 l.length c9) vs from ⟨by rw [hvs]; exact hown, fun _ => ⟨hvs, hrow⟩, fun x => absurd HL.out x⟩)
        clear hown hrow hvs
        go_wp2
        go_ret2
        exact ⟨_, vs, ret_vi HL.out.symm, HT.out, hb⟩
  · have hd : (validate n l == 0) = false := by simpa using h
    have hd' : (validate n l != 0) = true := by simpa using h
    have HT := fun w' => show TraceOk w' w.heap.size n l (.slice none 0 0) [] from ⟨World.ownsRow_nil _ _ _ _, fun x => absurd x h, fun _ => rfl⟩
    have HT2 := Lib.hid HT
    clear h HT
    go_enter Try.func39, Try.ntmps39
    go_wp2_with fail
    refine H.out.mono ?_
    rintro e w1 ⟨rfl, hb⟩
    go_wp2
    go_ret2
    exact ⟨_, [], rfl, HT2.out _, hb⟩

theorem RowsOk.get {w : World} {base n : Nat} {l : List HAct} {vs : List Value} (h : RowsOk w base n l vs) {i : Nat} (hi : i < vs.length) (hn : 0 < n) : ∃ g c, vs[i] = .slice (some ⟨g, 0, none⟩) n c ∧ g < w.heap.size ∧ Rd w w.heap.size 1 (some ⟨g, 0, none⟩) n (ints (hts n (heats cold (l.take (i + 1))))) ∧ ∀ j : Nat, j < n → w.cell? ⟨g, j, none⟩ = some (.int .i64 (heats cold (l.take (i + 1)) (j : Nat))) := by
  have hh := h.2 i hi
  obtain ⟨g, c, cur, e, _, hg⟩ := hrow_form hh hn
  rw [e] at hh
  refine ⟨g, c, e, blk_lt hg, Rd.of_own hh, fun j hj => ?_⟩
  have := hh.cellAt j (by omega)
  rw [hts_get _ _ _ hj] at this
  exact this

set_option maxRecDepth 100000 in
set_option maxHeartbeats 4000000 in
theorem rPeak (n : Int) (A : Option Addr) (k c : Nat) (l : List HAct) (w : World) (hl : l.length ≤ 1000) (hk : k ≤ c) (hc : c ≤ maxLen) (B : Nat) (hB : B ≤ w.heap.size) (hr : Rd w B 3 A k (actCells l)) :
    Calls Try.prog 41 #[.int .i64 n, .slice A k c] w fun e w' => e = .returned (.tuple #[.int .i64 (peakN n l), .int .i64 (validate n l)]) ∧ Below w.heap.size w w' := by
  have H := Lib.hid (rTrace n A k c l w hl hk hc B hB hr)
  by_cases h : validate n l = 0
  · obtain ⟨h1, h2, h3, h4⟩ := validate_ok h
    obtain ⟨m, rfl⟩ := Int.eq_ofNat_of_zero_le (show 0 ≤ n by omega)
    have HL := Lib.hid h
    have HN := Lib.hid (show peakN m l = peakR m l l.length by rw [peakN, if_pos h, peakR_eq (mild_of h4) (fun a ha => (actBounds h4).2 m (by omega) a ha) _ (Nat.le_refl _)])
    clear h h4
    go_enter Try.func41, Try.ntmps41
    go_wp2_with fail
    refine H.out.mono ?_
    rw [HL.out]
    rintro e w1 ⟨v, vs, rfl, hT, hb1⟩
    have s1 := hb1.size
    obtain ⟨hown, hrow, _⟩ := hT
    obtain ⟨hvl, hrow⟩ := hrow HL.out
    rw [Int.toNat_natCast] at hrow
    obtain ⟨AS, cS, rfl, _, _⟩ := own_cap hown
    have hrd := Rd.of_own hown
    have HROW := Lib.hid hrow
    have hlen : vs.length ≤ 20 := by omega
    have HN2 := Lib.hid (show peakN m l = peakR m l vs.length by rw [HN.out, hvl])
    clear hrow hown hvl
    go_wp2
    go_loopw [8, 9, 10] (fun v j _ wr => ∃ (q : Nat), q ≤ vs.length ∧ j = .int .i64 q ∧ v = .int .i64 (peakR m l q) ∧ Below w1.heap.size w1 wr) (fun _ j _ _ => vs.length - (intOf j).toNat)
    case atStart => exact ⟨0, Nat.zero_le _, rfl, rfl, Below.refl _ _⟩
    case round =>
      obtain ⟨q, hq, rfl, rfl, hb⟩ := hrel
      have hsz := hb.size
      by_cases hlt : q < vs.length
      · obtain ⟨g, cg, e0, hg, hrg, hcell⟩ := HROW.out.get hlt (by omega)
        obtain ⟨bS, oS, rfl, hbS, hcS⟩ := hrd.2 (by omega)
        have hc0 := hcS q vs[q] (List.getElem?_eq_getElem hlt)
        rw [e0] at hc0
        have HC := Lib.hid hcell
        have HS := Lib.hid (show peakR m l (q + 1) = rowMax (peakR m l q) (hts m (heats cold (l.take (q + 1)))) from rfl)
        clear hcell e0 hcS hrg
        generalize heats cold (l.take (q + 1)) = f at *
        generalize peakR m l q = P at *
        have hc1 := (hb.cell (p := ⟨bS, oS + q, none⟩) hbS).trans hc0
        clear hc0
        obtain ⟨wo, rfl⟩ : ∃ wo : World, wo = wr := ⟨_, rfl⟩
        go_wp2
        go_loopw [8, 10] (fun v j wi => ∃ p : Nat, p ≤ m ∧ j = .int .i64 p ∧ v = .int .i64 (rowMax P ((hts m f).take p)) ∧ Below w1.heap.size w1 wi ∧ wi.cell? ⟨bS, oS + q, none⟩ = some (.slice (some ⟨g, 0, none⟩) m cg)) (fun _ j _ => m - (intOf j).toNat)
        case atStart => exact ⟨0, Nat.zero_le _, rfl, rfl, hb, hc1⟩
        case round =>
          clear hc1 hb
          obtain ⟨p, hp, rfl, rfl, hbi, hc2⟩ := hrel
          have hszi := hbi.size
          by_cases hpm : p < m
          · have hx := (hbi.cell (p := ⟨g, p, none⟩) hg).trans (HC.out p hpm)
            have HT := Lib.hid (show rowMax P ((hts m f).take (p + 1)) = mx (rowMax P ((hts m f).take p)) (f (p : Nat)) by rw [hts_take m f p hpm, rowMax_snoc])
            generalize rowMax P ((hts m f).take p) = y at *
            by_cases c2 : y < f (p : Nat)
            · have HT2 := Lib.hid (show f (p : Nat) = rowMax P ((hts m f).take (p + 1)) by rw [HT.out, mx, if_pos c2])
              go_wp2
              go_roundw
              case rel => exact ⟨p + 1, by omega, by go_num, by rw [← HT2.out], hbi, hc2⟩
              case measure => simp [intOf]; omega
            · have HT2 := Lib.hid (show y = rowMax P ((hts m f).take (p + 1)) by rw [HT.out, mx, if_neg c2])
              go_wp2
              go_roundw
              case rel => exact ⟨p + 1, by omega, by go_num, by rw [← HT2.out], hbi, hc2⟩
              case measure => simp [intOf]; omega
          · obtain rfl : p = m := by omega
            have HF := Lib.hid (show rowMax P ((hts p f).take p) = peakR p l (q + 1) by rw [List.take_of_length_le (by rw [hts_len]; omega), HS.out])
            go_wp2
            go_roundw
            case rel => exact ⟨q + 1, by omega, by go_num, by rw [HF.out], hbi⟩
            case measure => simp [intOf]; omega
      · obtain rfl : q = vs.length := by omega
        go_wp2
        go_ret2
        exact ⟨ret_ii HN2.out.symm HL.out.symm, hb1.trans (hb.mono s1)⟩
  · have hd : (validate n l == 0) = false := by simpa using h
    have hd' : (validate n l != 0) = true := by simpa using h
    have HN := Lib.hid (show peakN n l = 0 by rw [peakN, if_neg h])
    clear h
    go_enter Try.func41, Try.ntmps41
    go_wp2_with fail
    refine H.out.mono ?_
    rintro e w1 ⟨v, vs, rfl, hT, hb⟩
    obtain ⟨AS, cS, rfl, _, _⟩ := own_cap hT.1
    clear hT
    go_wp2
    go_ret2
    exact ⟨ret_ii HN.out.symm rfl, hb⟩
end Go.Proofs.Ytkeolmipdoeljaa
