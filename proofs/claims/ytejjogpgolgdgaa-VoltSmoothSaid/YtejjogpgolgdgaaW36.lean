/-
  WALK: Course. (Printed by gen_w36.py.)
-/
import Derived.Test.YtejjogpgolgdgaaP4
import Derived.Test.YtejjogpgolgdgaaW29
namespace Go.Proofs.Ytejjogpgolgdgaa
open Go.RowKit Pulse

/-- What is written goes on to a course with the smallest jump. -/
def Goes (g row s : List (List Int)) (j : Nat) (kk : Int) : Prop :=
  (j = 0 → IsC g row s ∧ jumpC s = smoothN g row) ∧
  (0 < j → ∃ m : Nat, kk = (m : Int) ∧ ∃ h : m < (lastEnds g row j).length, ∀ c, IsC g (row.take j) (c ++ [(lastEnds g row j)[m].v]) → jumpC (c ++ [(lastEnds g row j)[m].v]) = (lastEnds g row j)[m].j → IsC g row (c ++ [(lastEnds g row j)[m].v] ++ s) ∧ jumpC (c ++ [(lastEnds g row j)[m].v] ++ s) = smoothN g row)
theorem goes_start {g row : List (List Int)} (h : rowE g row = 0) (hs : smoothIs g row = true) : Goes g row [] row.length (bestI (lastE g row)) := by
  obtain ⟨hv, h1, h5, _⟩ := rowE_ok h
  have hp : 0 < (lastE g row).length := by simpa [smoothIs, h] using hs
  obtain ⟨b, hb, hbe, _⟩ := bestI_ok hp
  refine ⟨fun h0 => by omega, fun _ => ⟨b, hbe, hb, fun c hc hj => ?_⟩⟩
  rw [List.append_nil]
  rw [List.take_length] at hc
  refine ⟨hc, ?_⟩
  have hN : smoothN g row = (lastE g row)[b].j := by rw [smoothN, if_pos hs, hbe]; simp [List.getD, List.getElem?_eq_getElem hb]
  rw [hj, hN]
  rfl
theorem goes_step {g row s : List (List Int)} {j : Nat} {kk : Int} (h : Goes g row s (j + 1) kk) (hj : j + 1 ≤ row.length) : ∃ m : Nat, kk = (m : Int) ∧ ∃ hm : m < (lastEnds g row (j + 1)).length, Goes g row ((lastEnds g row (j + 1))[m].v :: s) j (lastEnds g row (j + 1))[m].b := by
  obtain ⟨m, e, hm, hc⟩ := h.2 (by omega)
  refine ⟨m, e, hm, ?_⟩
  obtain ⟨h1, h2, h3⟩ := ends_back (List.getElem_mem hm)
  refine ⟨fun h0 => ?_, fun h0 => ?_⟩
  · subst h0
    have := hc [] (by rw [row_take (by omega), List.take_zero]; exact isC_one.2 h1) (by rw [(h2 rfl).1]; rfl)
    simpa using this
  · obtain ⟨i, hi, hb, hjj⟩ := h3 h0
    refine ⟨i, hb, hi, fun c hcc hcj => ?_⟩
    have := hc (c ++ [(lastEnds g row j)[i].v]) (by rw [row_take (by omega)]; exact isC_snoc.2 ⟨hcc, h1⟩) (by rw [jumpC_snoc, hcj, hjj])
    simpa using this
theorem own_made22 (w : World) (n : Nat) (hn : n ≤ 1000) : (w.alloc (.cells (madeCells #[.slice none 0 0] n) 23)).ownsRow w.heap.size 23 1 (.slice (some ⟨w.heap.size, 0, none⟩) n n) n (List.replicate n (.slice none 0 0)) := by
  have e : (madeCells #[Value.slice none 0 0] n).toList = List.replicate n (.slice none 0 0) := by rw [toList_madeCells_one]
  refine ⟨by simp, .inr ⟨w.heap.size, n, madeCells #[.slice none 0 0] n, rfl, Nat.le_refl _, blk_new _ _ _, Nat.le_refl _, by unfold maxLen; omega, ?_, ?_⟩⟩
  · rw [← Array.length_toList, e]; simp
  · rw [e, List.take_of_length_le (by simp)]
theorem rep_set (t : Nat) (x y : Value) (hs : List Value) : (List.replicate (t + 1) x ++ hs).set t y = List.replicate t x ++ y :: hs := by
  rw [List.replicate_succ', List.append_assoc]
  rw [List.set_append_right _ _ (by simp)]
  simp
theorem Tab.cons {w : World} {B : Nat} {X : Nat → Prop} {vs : List Value} {ps : List (List Int)} {v : Value} {p : List Int} (h : Tab w B X vs ps) (hr : RowAt w B X v p) : Tab w B X (v :: vs) (p :: ps) := by
  refine ⟨by simp [h.1], fun i u q hu hq => ?_⟩
  cases i with
  | zero => simp at hu hq; subst hu hq; exact hr
  | succ i => exact h.2 i u q (by simpa using hu) (by simpa using hq)

set_option maxRecDepth 100000 in
set_option maxHeartbeats 4000000 in
theorem pCourse (A A' : Option Addr) (k c k' c' : Nat) (g row : List (List Int)) (w : World) (hs : Sm g) (hs' : Sm row) (B : Nat) (hB : B ≤ w.heap.size) (hr : TRd w B A k g) (hr' : TRd w B A' k' row) :
    Calls Try.prog 36 #[.slice A k c, .slice A' k' c'] w fun e w' => ∃ crs A2 c2, e = .returned (.tuple #[.slice A2 crs.length c2, .bool (smoothIs g row), .int .i64 (rowE g row)]) ∧ (smoothIs g row = true → IsC g row crs ∧ jumpC crs = smoothN g row) ∧ (smoothIs g row = false → crs = []) ∧ TRd w' w'.heap.size A2 crs.length crs ∧ Below w.heap.size w w' := by
  have hr := hr.more hB
  have hr' := hr'.more hB
  obtain rfl := hr.len
  obtain rfl := hr'.len
  have HP := Lib.hid (prowed A A' g.length c row.length c' g row w hs hs' w.heap.size (Nat.le_refl _) hr hr')
  by_cases h : rowE g row = 0
  · have HV := Lib.hid h
    have HGS := Lib.hid (fun hs => goes_start h hs)
    have HGT := Lib.hid (fun (s : List (List Int)) (j : Nat) (kk : Int) (h : Goes g row s (j + 1) kk) (hj : j + 1 ≤ row.length) => goes_step h hj)
    have hrl := hs'.1
    obtain ⟨hv, h1, h5, _⟩ := rowE_ok h
    rw [h] at HP
    have HSI := Lib.hid (show smoothIs g row = decide (0 < (lastE g row).length) by rw [smoothIs, h]; rfl)
    obtain ⟨hlo, hll⟩ := lastEnds_ok (row := row) hv row.length
    have HLO := Lib.hid (show ∀ e ∈ lastE g row, 0 ≤ e.j ∧ e.j ≤ 6 from fun e he => ⟨(hlo e he).2.2.1, (hlo e he).2.2.2.1⟩)
    have hll : (lastE g row).length ≤ 343 := hll
    have HG := Lib.hid hv
    clear hlo h hv
    have HBB := Lib.hid (bestTo_bd (lastE g row) (lastE g row).length (Nat.le_refl _))
    have HBP := Lib.hid (bestTo_pos (lastE g row) (lastE g row).length (Nat.le_refl _))
    have HB0 := Lib.hid (show (lastE g row).length = 0 → bestI (lastE g row) = -1 from fun h => by rw [bestI, h]; rfl)
    have HLE := Lib.hid (show ∀ (q : Nat), q < row.length → (endsTo g row row.length)[q]? = some (lastEnds g row (q + 1)) from fun q hq => endsTo_get g row row.length q hq)
    have HLL := Lib.hid (show ∀ (q : Nat), row.length = q + 1 → lastEnds g row (q + 1) = lastE g row from fun q hq => by rw [lastE, hq])
    have HEL := Lib.hid (endsTo_len g row row.length)
    obtain ⟨ess, hess⟩ : ∃ ess, ess = endsTo g row row.length := ⟨_, rfl⟩
    rw [← hess] at HLE HEL
    have HES := Lib.hid hess
    clear hess
    obtain ⟨es, hes⟩ : ∃ es, es = lastE g row := ⟨_, rfl⟩
    rw [← hes] at HSI HLO hll HBB HBP HB0 HLL HGS
    clear hes
    have hmk := fun W => run_make_row' (P := Try.prog) 22 23 (.slice none 0 0) 24 Try.underlying22 (show (Try.prog.info? 23).map (fun i => (i.zero, i.size, i.bytes)) = some (some (.slice none 0 0), 1, 24) by kernel_rfl) rfl .i64 .i64 row.length (by omega) (by omega) W
    go_enter Try.func36, Try.ntmps36
    go_wp2_with fail
    refine (HP.out).mono ?_
    rintro e w1 ⟨rfl, hb1⟩
    have s1 := hb1.size
    have HB1 := Lib.hid hb1
    have hr := (hr.below hb1).more s1
    have hr' := (hr'.below hb1).more s1
    clear hb1
    go_wp2_with fail
    refine (pends A A' g.length c row.length c' g row w1 HG.out hs' w1.heap.size (Nat.le_refl _) hr hr').mono ?_
    rw [← HES.out]
    rintro e w2 ⟨u, Hs, rfl, hown, het, hb2⟩
    obtain ⟨Au, cu, rfl, _, _⟩ := own_cap hown
    have hrw := Rd.of_own hown
    have HET := Lib.hid het
    have hq1 : row.length - 1 < ess.length := by have := HEL.out; omega
    obtain ⟨Hl, hHl, hep⟩ := het.row hq1
    have hee : ess[row.length - 1] = es := by have h := HLE.out (row.length - 1) (by omega); rw [List.getElem?_eq_getElem hq1] at h; injection h with h; rw [h]; exact HLL.out _ (by omega)
    rw [hee] at hep
    obtain ⟨bo, offo, hAo, hbo, hco⟩ := hrw.head hHl
    subst hAo
    obtain ⟨Ap, cp, rfl, _, _⟩ := hep.cap
    have HEP := Lib.hid hep
    have HRW := Lib.hid hrw
    have HXX := Lib.hid (show ∀ x, (x < w1.heap.size ∨ (Value.slice (some ⟨bo, offo, none⟩) row.length cu).ownBlock = some x) → x < w2.heap.size from fun x hx => hx.elim (fun h => Nat.lt_of_lt_of_le h hb2.size) (fun h => (hown.lt x h).2))
    have HBU := Lib.hid (show bo < w2.heap.size from hbo)
    clear hown het hrw hep hHl hee hq1
    have s2 := hb2.size
    have HB2 := Lib.hid (HB1.out.trans (hb2.mono (by have := HB1.out.size; omega)))
    have hr := (hr.below hb2).more s2
    have hr' := (hr'.below hb2).more s2
    clear hb2
    have z0 : (0 : Int) < (row.length : Int) := by omega
    have z1 : ((row.length - 1 : Nat) : Int) < (row.length : Int) := by omega
    have z2 : (0 : Int) ≤ ((row.length - 1 : Nat) : Int) := by omega
    have zr : (row.length : Int) - 1 = ((row.length - 1 : Nat) : Int) := by omega
    obtain ⟨qq, hqq⟩ : ∃ qq, qq = row.length - 1 := ⟨_, rfl⟩
    rw [← hqq] at z1 z2 zr hco
    have HQQ := Lib.hid (show row.length = qq + 1 by omega)
    clear hqq
    by_cases hp : 0 < es.length
    · have HP0 := Lib.hid hp
      have HS1 := Lib.hid (show smoothIs g row = true by rw [HSI.out, decide_eq_true hp])
      have HGO := Lib.hid (HGS.out HS1.out)
      obtain ⟨m, hm⟩ := Int.eq_ofNat_of_zero_le (show 0 ≤ bestI es from HBP.out hp)
      have HBST := Lib.hid (pbest (.slice Ap es.length cp) es w2 (by omega) HLO.out (fun x => x < w1.heap.size ∨ (Value.slice (some ⟨bo, offo, none⟩) row.length cu).ownBlock = some x) w2.heap.size (Nat.le_refl _) HEP.out)
      rw [hm] at HBST HGO
      have hm0 : ¬ (m : Int) < 0 := by omega
      clear hm HGS
      go_wp2_with fail
      refine (HBST.out).mono ?_
      rintro e w3 ⟨rfl, hb3⟩
      have hb3x := Lib.hid hb3
      have s3 := hb3.size
      have HB3 := Lib.hid (HB2.out.trans (hb3.mono (by have := HB2.out.size; omega)))
      have hr := (hr.below hb3).more s3
      have hr' := (hr'.below hb3).more s3
      clear hb3
      have HET3 := Lib.hid (((HET.out.below hb3x.out (Nat.le_refl _)).at (X' := fun x => x = w3.heap.size) (fun x hx => .inr (by subst hx; exact s3))).alloc s3 (.cells (madeCells #[.slice none 0 0] row.length) 23))
      have HRW3 := Lib.hid ((HRW.out.below' hb3x.out (Nat.le_refl _)).alloc s3 (.cells (madeCells #[.slice none 0 0] row.length) 23))
      have HOW := Lib.hid (own_made22 w3 row.length (by omega))
      have HBW := Lib.hid (HB3.out.alloc HB3.out.size (.cells (madeCells #[.slice none 0 0] row.length) 23))
      have s4 : (w3.alloc (.cells (madeCells #[.slice none 0 0] row.length) 23)).heap.size = w3.heap.size + 1 := by simp
      clear HET HRW
      go_wp2
      go_loopw [11, 9] (fun i kk wr => ∃ (j : Nat) (z x : Int) (hs s : List _), i = .int .i64 z ∧ kk = .int .i64 x ∧ Hid (z = (j : Int) - 1) ∧ j ≤ row.length ∧ Hid (s.length + j = row.length) ∧ Hid (Goes g row s j x) ∧ wr.ownsRow w3.heap.size 23 1 (.slice (some ⟨w3.heap.size, 0, none⟩) row.length row.length) row.length (List.replicate j (.slice none 0 0) ++ hs) ∧ Tab wr w2.heap.size (fun x => x = w3.heap.size) hs s ∧ ETab wr w2.heap.size (fun x => x = w3.heap.size) Hs ess ∧ Rd wr w2.heap.size 1 (some ⟨bo, offo, none⟩) row.length Hs ∧ Below w.heap.size w wr ∧ w3.heap.size < wr.heap.size) (fun i _ _ => (intOf i + 1).toNat)
      case atStart => exact ⟨row.length, _, _, [], [], rfl, rfl, by show (qq : Int) = _; omega, Nat.le_refl _, by show 0 + row.length = _; omega, HGO.out, by rw [List.append_nil]; exact HOW.out, Tab.nil, HET3.out, HRW3.out, HBW.out, by omega⟩
      case round =>
        clear HOW HET3 HRW3 HBW
        obtain ⟨j, z, x, hs, s, rfl, rfl, HZ, hj, HSL, HGG, hown, htab, het, hrw, hb, hsz⟩ := hrel
        rcases Nat.eq_zero_or_pos j with h0 | h0
        · subst h0
          obtain rfl : z = -1 := by rw [HZ.out]; rfl
          have hsl : s.length = row.length := by have := HSL.out; omega
          have HC := Lib.hid (HGG.out.1 rfl)
          have HT := Lib.hid (show TRd wr wr.heap.size (some ⟨w3.heap.size, 0, none⟩) row.length s from TRd.of_own (by simpa using hown) (htab.more (by omega)))
          rw [← hsl] at HT
          have HN := Lib.hid hsl
          have HBF := Lib.hid hb
          clear hown htab het hrw hsl hb
          go_wp2
          refine bodyPost_ret (results_tmp3 rfl _ _ _) rfl ?_
          exact ⟨s, _, row.length, ret_three (by rw [HN.out]; rfl) (by rw [HS1.out]; rfl) (by rw [HV.out]; rfl), fun _ => HC.out, fun h => absurd (HS1.out.symm.trans h) (by decide), HT.out, HBF.out⟩
        · obtain ⟨t, rfl⟩ : ∃ t, j = t + 1 := ⟨j - 1, by omega⟩
          obtain rfl : z = (t : Int) := by rw [HZ.out]; omega
          obtain ⟨n, rfl, hn, hgo⟩ := HGT.out s t x HGG.out hj
          have htl : t < row.length := by omega
          have hte : t < ess.length := by have := HEL.out; omega
          obtain ⟨Ht, hHt, her⟩ := het.row hte
          have hee : ess[t] = lastEnds g row (t + 1) := by have h := HLE.out t htl; rw [List.getElem?_eq_getElem hte] at h; injection h
          rw [hee] at her
          obtain ⟨bp, offp, cp2, A2, c2, rfl, hbp, hXp, k0, k1, k2, hra⟩ := her.get hn
          obtain ⟨bo', offo', he', _, ho⟩ := hrw.head hHt
          injection he' with he'
          injection he' with e1 e2
          subst e1 e2
          have HGN := Lib.hid hgo
          obtain ⟨e, hev⟩ : ∃ e, e = (lastEnds g row (t + 1))[n] := ⟨_, rfl⟩
          rw [← hev] at k0 k1 k2 hra HGN
          obtain ⟨L, hL⟩ : ∃ L, L = (lastEnds g row (t + 1)).length := ⟨_, rfl⟩
          rw [← hL] at hn ho
          clear hev hL hee her hHt HGG hgo
          obtain ⟨yb, hyb⟩ : ∃ yb, yb = e.b := ⟨_, rfl⟩
          rw [← hyb] at k2 HGN
          clear hyb
          have hbne : bp ≠ w3.heap.size := hXp
          have hbo3 : bo ≠ w3.heap.size := by have := HBU.out; omega
          have fz := own_frozen hown t
          have hoc : ∃ y, wr.cell? ⟨w3.heap.size, t, none⟩ = some y := by
            obtain ⟨b', o', e', _, hc'⟩ := (Rd.of_own hown).head (i := t) (v := .slice none 0 0) (by rw [List.getElem?_append_left (by simp)]; simp)
            injection e' with e'
            injection e' with e1 e2
            subst e1 e2
            rw [Nat.zero_add] at hc'
            exact ⟨_, hc'⟩
          obtain ⟨y0, hy0⟩ := hoc
          have zt0 : (0 : Int) ≤ (t : Int) := by omega
          have zt1 : (t : Int) < (row.length : Int) := by omega
          have zn0 : (0 : Int) ≤ (n : Int) := by omega
          have zn1 : (n : Int) < (L : Int) := by omega
          have k2' : (wr.setCell ⟨w3.heap.size, t, none⟩ (.slice A2 e.v.length c2)).cell? ⟨bp, offp + n * 3 + 2, none⟩ = some (.int .i64 yb) := by rw [World.cell?_setCell_other _ _ _ _ (by intro hh; injection hh with hh; exact hbne hh.symm)]; exact k2
          have ho' : (wr.setCell ⟨w3.heap.size, t, none⟩ (.slice A2 e.v.length c2)).cell? ⟨bo, offo + t, none⟩ = some (.slice (some ⟨bp, offp, none⟩) L cp2) := by rw [World.cell?_setCell_other _ _ _ _ (by intro hh; injection hh with hh; exact hbo3 hh.symm)]; exact ho
          have HNX := Lib.hid (show (wr.setCell ⟨w3.heap.size, t, none⟩ (.slice A2 e.v.length c2)).ownsRow w3.heap.size 23 1 (.slice (some ⟨w3.heap.size, 0, none⟩) row.length row.length) row.length (List.replicate t (.slice none 0 0) ++ (.slice A2 e.v.length c2) :: hs) ∧ Tab (wr.setCell ⟨w3.heap.size, t, none⟩ (.slice A2 e.v.length c2)) w2.heap.size (fun x => x = w3.heap.size) ((.slice A2 e.v.length c2) :: hs) (e.v :: s) ∧ ETab (wr.setCell ⟨w3.heap.size, t, none⟩ (.slice A2 e.v.length c2)) w2.heap.size (fun x => x = w3.heap.size) Hs ess ∧ Rd (wr.setCell ⟨w3.heap.size, t, none⟩ (.slice A2 e.v.length c2)) w2.heap.size 1 (some ⟨bo, offo, none⟩) row.length Hs ∧ Below w.heap.size w (wr.setCell ⟨w3.heap.size, t, none⟩ (.slice A2 e.v.length c2)) ∧ w3.heap.size < (wr.setCell ⟨w3.heap.size, t, none⟩ (.slice A2 e.v.length c2)).heap.size from by
            refine ⟨by rw [← rep_set]; exact own_set hown _, (htab.cons hra).setCell rfl _, het.setCell rfl _, hrw.below ((Below.refl _ _).setCell (p := ⟨w3.heap.size, t, none⟩) s3 _), hb.setCell (p := ⟨w3.heap.size, t, none⟩) (Nat.le_trans HB2.out.size s3) _, by rw [World.size_setCell]; exact hsz⟩)
          clear hown htab het hrw hb hra k1 HGT hXp
          go_wp2
          go_roundw
          case rel => exact ⟨t, (t : Int) - 1, yb, _, e.v :: s, by go_num, rfl, by show (t : Int) - 1 = _; rfl, by omega, by show s.length + 1 + t = _; have := HSL.out; omega, HGN.out, HNX.out.1, HNX.out.2.1, HNX.out.2.2.1, HNX.out.2.2.2.1, HNX.out.2.2.2.2.1, HNX.out.2.2.2.2.2⟩
          case measure => (first | (simp [intOf]; done) | (simp [intOf]; omega))
    · have HP0 := Lib.hid hp
      have HS0 := Lib.hid (show smoothIs g row = false by rw [HSI.out, decide_eq_false hp])
      have HBST := Lib.hid (pbest (.slice Ap es.length cp) es w2 (by omega) HLO.out (fun x => x < w1.heap.size ∨ (Value.slice (some ⟨bo, offo, none⟩) row.length cu).ownBlock = some x) w2.heap.size (Nat.le_refl _) HEP.out)
      rw [HB0.out (by omega)] at HBST
      go_wp2_with fail
      refine (HBST.out).mono ?_
      rintro e w3 ⟨rfl, hb3⟩
      have s3 := hb3.size
      have HB3 := Lib.hid (HB2.out.trans (hb3.mono (by have := HB2.out.size; omega)))
      have hr := (hr.below hb3).more s3
      have hr' := (hr'.below hb3).more s3
      clear hb3
      go_wp2
      refine bodyPost_ret (results_tmp3 rfl _ _ _) rfl ?_
      exact ⟨[], none, 0, ret_three rfl (by rw [HS0.out]; rfl) (by rw [HV.out]; rfl), fun h => absurd (HS0.out.symm.trans h) (by decide), fun _ => rfl, TRd.nil, HB3.out⟩
  · have hd : (rowE g row != 0) = true := by simpa using h
    have HI := Lib.hid (show smoothIs g row = false by rw [smoothIs, decide_eq_false h, Bool.false_and])
    clear h
    generalize rowE g row = x at *
    go_enter Try.func36, Try.ntmps36
    go_wp2_with fail
    refine (HP.out).mono ?_
    rintro e w1 ⟨rfl, hb1⟩
    have s1 := hb1.size
    have HB1 := Lib.hid hb1
    have hr := (hr.below hb1).more s1
    have hr' := (hr'.below hb1).more s1
    clear hb1
    go_wp2
    refine bodyPost_ret (results_tmp3 rfl _ _ _) rfl ?_
    exact ⟨[], none, 0, ret_three rfl (by rw [HI.out]; rfl) rfl, fun h => absurd (HI.out.symm.trans h) (by decide), fun _ => rfl, TRd.nil, HB1.out⟩
end Go.Proofs.Ytejjogpgolgdgaa
