/-
  MERGED: W36, P5, W30, W31.
-/
import Derived.Test.YtejjogpgolgdgaaK15
import Derived.Test.YtejjogpgolgdgaaK18
import Derived.Lib.AppendZeros
import Derived.Test.YtejjogpgolgdgaaK16
/-
  WALK: Course. (Printed by gen_w36.py.)
-/
namespace Go.Proofs.Ytejjogpgolgdgaa
open Go.RowKit Pulse

/-- What is written goes on to a course with the smallest jump. -/
def Goes (g row s : List (List Int)) (j : Nat) (kk : Int) : Prop :=
  (j = 0 → IsC g row s ∧ jumpC s = smoothN g row) ∧
  (0 < j → ∃ m : Nat, kk = (m : Int) ∧ ∃ h : m < (lastEnds g row j).length, ∀ c, IsC g (row.take j) (c ++ [(lastEnds g row j)[m].v]) → jumpC (c ++ [(lastEnds g row j)[m].v]) = (lastEnds g row j)[m].j → IsC g row (c ++ [(lastEnds g row j)[m].v] ++ s) ∧ jumpC (c ++ [(lastEnds g row j)[m].v] ++ s) = smoothN g row)
theorem goes_start {g row : List (List Int)} (h : rowE g row = 0) (hs : smoothIs g row = true) : Goes g row [] row.length (bestI (lastE g row)) := by
  obtain ⟨hv, h1, h5, _⟩ := rowE_ok h
  have hp : 0 < (lastE g row).length := by simpa [smoothIs, h] using hs
  obtain ⟨b, hb, hbe, _⟩ := bestI_ok hp
  refine ⟨fun h0 => by omega, fun _ => ⟨b, hbe, hb, fun c hc hj => ?_⟩⟩
  rw [List.append_nil]
  rw [List.take_length] at hc
  refine ⟨hc, ?_⟩
  have hN : smoothN g row = (lastE g row)[b].j := by rw [smoothN, if_pos hs, hbe]; simp [List.getD, List.getElem?_eq_getElem hb]
  rw [hj, hN]
  rfl
theorem goes_step {g row s : List (List Int)} {j : Nat} {kk : Int} (h : Goes g row s (j + 1) kk) (hj : j + 1 ≤ row.length) : ∃ m : Nat, kk = (m : Int) ∧ ∃ hm : m < (lastEnds g row (j + 1)).length, Goes g row ((lastEnds g row (j + 1))[m].v :: s) j (lastEnds g row (j + 1))[m].b := by
  obtain ⟨m, e, hm, hc⟩ := h.2 (by omega)
  refine ⟨m, e, hm, ?_⟩
  obtain ⟨h1, h2, h3⟩ := ends_back (List.getElem_mem hm)
  refine ⟨fun h0 => ?_, fun h0 => ?_⟩
  · subst h0
    have := hc [] (by rw [row_take (by omega), List.take_zero]; exact isC_one.2 h1) (by rw [(h2 rfl).1]; rfl)
    simpa using this
  · obtain ⟨i, hi, hb, hjj⟩ := h3 h0
    refine ⟨i, hb, hi, fun c hcc hcj => ?_⟩
    have := hc (c ++ [(lastEnds g row j)[i].v]) (by rw [row_take (by omega)]; exact isC_snoc.2 ⟨hcc, h1⟩) (by rw [jumpC_snoc, hcj, hjj])
    simpa using this
theorem own_made22 (w : World) (n : Nat) (hn : n ≤ 1000) : (w.alloc (.cells (madeCells #[.slice none 0 0] n) 23)).ownsRow w.heap.size 23 1 (.slice (some ⟨w.heap.size, 0, none⟩) n n) n (List.replicate n (.slice none 0 0)) := by
  have e : (madeCells #[Value.slice none 0 0] n).toList = List.replicate n (.slice none 0 0) := by rw [toList_madeCells_one]
  refine ⟨by simp, .inr ⟨w.heap.size, n, madeCells #[.slice none 0 0] n, rfl, Nat.le_refl _, blk_new _ _ _, Nat.le_refl _, by unfold maxLen; omega, ?_, ?_⟩⟩
  · rw [← Array.length_toList, e]; simp
  · rw [e, List.take_of_length_le (by simp)]
theorem rep_set (t : Nat) (x y : Value) (hs : List Value) : (List.replicate (t + 1) x ++ hs).set t y = List.replicate t x ++ y :: hs := by
  rw [List.replicate_succ', List.append_assoc]
  rw [List.set_append_right _ _ (by simp)]
  simp
theorem Tab.cons {w : World} {B : Nat} {X : Nat → Prop} {vs : List Value} {ps : List (List Int)} {v : Value} {p : List Int} (h : Tab w B X vs ps) (hr : RowAt w B X v p) : Tab w B X (v :: vs) (p :: ps) := by
  refine ⟨by simp [h.1], fun i u q hu hq => ?_⟩
  cases i with
  | zero => simp at hu hq; subst hu hq; exact hr
  | succ i => exact h.2 i u q (by simpa using hu) (by simpa using hq)

set_option maxRecDepth 100000 in
set_option maxHeartbeats 4000000 in
theorem pCourse (A A' : Option Addr) (k c k' c' : Nat) (g row : List (List Int)) (w : World) (hs : Sm g) (hs' : Sm row) (B : Nat) (hB : B ≤ w.heap.size) (hr : TRd w B A k g) (hr' : TRd w B A' k' row) :
    Calls Try.prog 36 #[.slice A k c, .slice A' k' c'] w fun e w' => ∃ crs A2 c2, e = .returned (.tuple #[.slice A2 crs.length c2, .bool (smoothIs g row), .int .i64 (rowE g row)]) ∧ (smoothIs g row = true → IsC g row crs ∧ jumpC crs = smoothN g row) ∧ (smoothIs g row = false → crs = []) ∧ TRd w' w'.heap.size A2 crs.length crs ∧ Below w.heap.size w w' := by
  have hr := hr.more hB
  have hr' := hr'.more hB
  obtain rfl := hr.len
  obtain rfl := hr'.len
  have HP := Lib.hid (prowed A A' g.length c row.length c' g row w hs hs' w.heap.size (Nat.le_refl _) hr hr')
  by_cases h : rowE g row = 0
  · have HV := Lib.hid h
    have HGS := Lib.hid (fun hs => goes_start h hs)
    have HGT := Lib.hid (fun (s : List (List Int)) (j : Nat) (kk : Int) (h : Goes g row s (j + 1) kk) (hj : j + 1 ≤ row.length) => goes_step h hj)
    have hrl := hs'.1
    obtain ⟨hv, h1, h5, _⟩ := rowE_ok h
    rw [h] at HP
    have HSI := Lib.hid (show smoothIs g row = decide (0 < (lastE g row).length) by rw [smoothIs, h]; rfl)
    obtain ⟨hlo, hll⟩ := lastEnds_ok (row := row) hv row.length
    have HLO := Lib.hid (show ∀ e ∈ lastE g row, 0 ≤ e.j ∧ e.j ≤ 6 from fun e he => ⟨(hlo e he).2.2.1, (hlo e he).2.2.2.1⟩)
    have hll : (lastE g row).length ≤ 343 := hll
    have HG := Lib.hid hv
    clear hlo h hv
    have HBB := Lib.hid (bestTo_bd (lastE g row) (lastE g row).length (Nat.le_refl _))
    have HBP := Lib.hid (bestTo_pos (lastE g row) (lastE g row).length (Nat.le_refl _))
    have HB0 := Lib.hid (show (lastE g row).length = 0 → bestI (lastE g row) = -1 from fun h => by rw [bestI, h]; rfl)
    have HLE := Lib.hid (show ∀ (q : Nat), q < row.length → (endsTo g row row.length)[q]? = some (lastEnds g row (q + 1)) from fun q hq => endsTo_get g row row.length q hq)
    have HLL := Lib.hid (show ∀ (q : Nat), row.length = q + 1 → lastEnds g row (q + 1) = lastE g row from fun q hq => by rw [lastE, hq])
    have HEL := Lib.hid (endsTo_len g row row.length)
    obtain ⟨ess, hess⟩ : ∃ ess, ess = endsTo g row row.length := ⟨_, rfl⟩
    rw [← hess] at HLE HEL
    have HES := Lib.hid hess
    clear hess
    obtain ⟨es, hes⟩ : ∃ es, es = lastE g row := ⟨_, rfl⟩
    rw [← hes] at HSI HLO hll HBB HBP HB0 HLL HGS
    clear hes
    have hmk := fun W => run_make_row' (P := Try.prog) 22 23 (.slice none 0 0) 24 Try.underlying22 (show (Try.prog.info? 23).map (fun i => (i.zero, i.size, i.bytes)) = some (some (.slice none 0 0), 1, 24) by kernel_rfl) rfl .i64 .i64 row.length (by omega) (by omega) W
    go_enter Try.func36, Try.ntmps36
    go_wp2_with fail
    refine (HP.out).mono ?_
    rintro e w1 ⟨rfl, hb1⟩
    have s1 := hb1.size
    have HB1 := Lib.hid hb1
    have hr := (hr.below hb1).more s1
    have hr' := (hr'.below hb1).more s1
    clear hb1
    go_wp2_with fail
    refine (pends A A' g.length c row.length c' g row w1 HG.out hs' w1.heap.size (Nat.le_refl _) hr hr').mono ?_
    rw [← HES.out]
    rintro e w2 ⟨u, Hs, rfl, hown, het, hb2⟩
    obtain ⟨Au, cu, rfl, _, _⟩ := own_cap hown
    have hrw := Rd.of_own hown
    have HET := Lib.hid het
    have hq1 : row.length - 1 < ess.length := by have := HEL.out; omega
    obtain ⟨Hl, hHl, hep⟩ := het.row hq1
    have hee : ess[row.length - 1] = es := by have h := HLE.out (row.length - 1) (by omega); rw [List.getElem?_eq_getElem hq1] at h; injection h with h; rw [h]; exact HLL.out _ (by omega)
    rw [hee] at hep
    obtain ⟨bo, offo, hAo, hbo, hco⟩ := hrw.head hHl
    subst hAo
    obtain ⟨Ap, cp, rfl, _, _⟩ := hep.cap
    have HEP := Lib.hid hep
    have HRW := Lib.hid hrw
    have HXX := Lib.hid (show ∀ x, (x < w1.heap.size ∨ (Value.slice (some ⟨bo, offo, none⟩) row.length cu).ownBlock = some x) → x < w2.heap.size from fun x hx => hx.elim (fun h => Nat.lt_of_lt_of_le h hb2.size) (fun h => (hown.lt x h).2))
    have HBU := Lib.hid (show bo < w2.heap.size from hbo)
    clear hown het hrw hep hHl hee hq1
    have s2 := hb2.size
    have HB2 := Lib.hid (HB1.out.trans (hb2.mono (by have := HB1.out.size; omega)))
    have hr := (hr.below hb2).more s2
    have hr' := (hr'.below hb2).more s2
    clear hb2
    have z0 : (0 : Int) < (row.length : Int) := by omega
    have z1 : ((row.length - 1 : Nat) : Int) < (row.length : Int) := by omega
    have z2 : (0 : Int) ≤ ((row.length - 1 : Nat) : Int) := by omega
    have zr : (row.length : Int) - 1 = ((row.length - 1 : Nat) : Int) := by omega
    obtain ⟨qq, hqq⟩ : ∃ qq, qq = row.length - 1 := ⟨_, rfl⟩
    rw [← hqq] at z1 z2 zr hco
    have HQQ := Lib.hid (show row.length = qq + 1 by omega)
    clear hqq
    by_cases hp : 0 < es.length
    · have HP0 := Lib.hid hp
      have HS1 := Lib.hid (show smoothIs g row = true by rw [HSI.out, decide_eq_true hp])
      have HGO := Lib.hid (HGS.out HS1.out)
      obtain ⟨m, hm⟩ := Int.eq_ofNat_of_zero_le (show 0 ≤ bestI es from HBP.out hp)
      have HBST := Lib.hid (pbest (.slice Ap es.length cp) es w2 (by omega) HLO.out (fun x => x < w1.heap.size ∨ (Value.slice (some ⟨bo, offo, none⟩) row.length cu).ownBlock = some x) w2.heap.size (Nat.le_refl _) HEP.out)
      rw [hm] at HBST HGO
      have hm0 : ¬ (m : Int) < 0 := by omega
      clear hm HGS
      go_wp2_with fail
      refine (HBST.out).mono ?_
      rintro e w3 ⟨rfl, hb3⟩
      have hb3x := Lib.hid hb3
      have s3 := hb3.size
      have HB3 := Lib.hid (HB2.out.trans (hb3.mono (by have := HB2.out.size; omega)))
      have hr := (hr.below hb3).more s3
      have hr' := (hr'.below hb3).more s3
      clear hb3
      have HET3 := Lib.hid (((HET.out.below hb3x.out (Nat.le_refl _)).at (X' := fun x => x = w3.heap.size) (fun x hx => .inr (by subst hx; exact s3))).alloc s3 (.cells (madeCells #[.slice none 0 0] row.length) 23))
      have HRW3 := Lib.hid ((HRW.out.below' hb3x.out (Nat.le_refl _)).alloc s3 (.cells (madeCells #[.slice none 0 0] row.length) 23))
      have HOW := Lib.hid (own_made22 w3 row.length (by omega))
      have HBW := Lib.hid (HB3.out.alloc HB3.out.size (.cells (madeCells #[.slice none 0 0] row.length) 23))
      have s4 : (w3.alloc (.cells (madeCells #[.slice none 0 0] row.length) 23)).heap.size = w3.heap.size + 1 := by simp
      clear HET HRW
      go_wp2
      go_loopw [11, 9] (fun i kk wr => ∃ (j : Nat) (z x : Int) (hs s : List _), i = .int .i64 z ∧ kk = .int .i64 x ∧ Hid (z = (j : Int) - 1) ∧ j ≤ row.length ∧ Hid (s.length + j = row.length) ∧ Hid (Goes g row s j x) ∧ wr.ownsRow w3.heap.size 23 1 (.slice (some ⟨w3.heap.size, 0, none⟩) row.length row.length) row.length (List.replicate j (.slice none 0 0) ++ hs) ∧ Tab wr w2.heap.size (fun x => x = w3.heap.size) hs s ∧ ETab wr w2.heap.size (fun x => x = w3.heap.size) Hs ess ∧ Rd wr w2.heap.size 1 (some ⟨bo, offo, none⟩) row.length Hs ∧ Below w.heap.size w wr ∧ w3.heap.size < wr.heap.size) (fun i _ _ => (intOf i + 1).toNat)
      case atStart => exact ⟨row.length, _, _, [], [], rfl, rfl, by show (qq : Int) = _; omega, Nat.le_refl _, by show 0 + row.length = _; omega, HGO.out, by rw [List.append_nil]; exact HOW.out, Tab.nil, HET3.out, HRW3.out, HBW.out, by omega⟩
      case round =>
        clear HOW HET3 HRW3 HBW
        obtain ⟨j, z, x, hs, s, rfl, rfl, HZ, hj, HSL, HGG, hown, htab, het, hrw, hb, hsz⟩ := hrel
        rcases Nat.eq_zero_or_pos j with h0 | h0
        · subst h0
          obtain rfl : z = -1 := by rw [HZ.out]; rfl
          have hsl : s.length = row.length := by have := HSL.out; omega
          have HC := Lib.hid (HGG.out.1 rfl)
          have HT := Lib.hid (show TRd wr wr.heap.size (some ⟨w3.heap.size, 0, none⟩) row.length s from TRd.of_own (by simpa using hown) (htab.more (by omega)))
          rw [← hsl] at HT
          have HN := Lib.hid hsl
          have HBF := Lib.hid hb
          clear hown htab het hrw hsl hb
          go_wp2
          refine bodyPost_ret (results_tmp3 rfl _ _ _) rfl ?_
          exact ⟨s, _, row.length, ret_three (by rw [HN.out]; rfl) (by rw [HS1.out]; rfl) (by rw [HV.out]; rfl), fun _ => HC.out, fun h => absurd (HS1.out.symm.trans h) (by decide), HT.out, HBF.out⟩
        · obtain ⟨t, rfl⟩ : ∃ t, j = t + 1 := ⟨j - 1, by omega⟩
          obtain rfl : z = (t : Int) := by rw [HZ.out]; omega
          obtain ⟨n, rfl, hn, hgo⟩ := HGT.out s t x HGG.out hj
          have htl : t < row.length := by omega
          have hte : t < ess.length := by have := HEL.out; omega
          obtain ⟨Ht, hHt, her⟩ := het.row hte
          have hee : ess[t] = lastEnds g row (t + 1) := by have h := HLE.out t htl; rw [List.getElem?_eq_getElem hte] at h; injection h
          rw [hee] at her
          obtain ⟨bp, offp, cp2, A2, c2, rfl, hbp, hXp, k0, k1, k2, hra⟩ := her.get hn
          obtain ⟨bo', offo', he', _, ho⟩ := hrw.head hHt
          injection he' with he'
          injection he' with e1 e2
          subst e1 e2
          have HGN := Lib.hid hgo
          obtain ⟨e, hev⟩ : ∃ e, e = (lastEnds g row (t + 1))[n] := ⟨_, rfl⟩
          rw [← hev] at k0 k1 k2 hra HGN
          obtain ⟨L, hL⟩ : ∃ L, L = (lastEnds g row (t + 1)).length := ⟨_, rfl⟩
          rw [← hL] at hn ho
          clear hev hL hee her hHt HGG hgo
          obtain ⟨yb, hyb⟩ : ∃ yb, yb = e.b := ⟨_, rfl⟩
          rw [← hyb] at k2 HGN
          clear hyb
          have hbne : bp ≠ w3.heap.size := hXp
          have hbo3 : bo ≠ w3.heap.size := by have := HBU.out; omega
          have fz := own_frozen hown t
          have hoc : ∃ y, wr.cell? ⟨w3.heap.size, t, none⟩ = some y := by
            obtain ⟨b', o', e', _, hc'⟩ := (Rd.of_own hown).head (i := t) (v := .slice none 0 0) (by rw [List.getElem?_append_left (by simp)]; simp)
            injection e' with e'
            injection e' with e1 e2
            subst e1 e2
            rw [Nat.zero_add] at hc'
            exact ⟨_, hc'⟩
          obtain ⟨y0, hy0⟩ := hoc
          have zt0 : (0 : Int) ≤ (t : Int) := by omega
          have zt1 : (t : Int) < (row.length : Int) := by omega
          have zn0 : (0 : Int) ≤ (n : Int) := by omega
          have zn1 : (n : Int) < (L : Int) := by omega
          have k2' : (wr.setCell ⟨w3.heap.size, t, none⟩ (.slice A2 e.v.length c2)).cell? ⟨bp, offp + n * 3 + 2, none⟩ = some (.int .i64 yb) := by rw [World.cell?_setCell_other _ _ _ _ (by intro hh; injection hh with hh; exact hbne hh.symm)]; exact k2
          have ho' : (wr.setCell ⟨w3.heap.size, t, none⟩ (.slice A2 e.v.length c2)).cell? ⟨bo, offo + t, none⟩ = some (.slice (some ⟨bp, offp, none⟩) L cp2) := by rw [World.cell?_setCell_other _ _ _ _ (by intro hh; injection hh with hh; exact hbo3 hh.symm)]; exact ho
          have HNX := Lib.hid (show (wr.setCell ⟨w3.heap.size, t, none⟩ (.slice A2 e.v.length c2)).ownsRow w3.heap.size 23 1 (.slice (some ⟨w3.heap.size, 0, none⟩) row.length row.length) row.length (List.replicate t (.slice none 0 0) ++ (.slice A2 e.v.length c2) :: hs) ∧ Tab (wr.setCell ⟨w3.heap.size, t, none⟩ (.slice A2 e.v.length c2)) w2.heap.size (fun x => x = w3.heap.size) ((.slice A2 e.v.length c2) :: hs) (e.v :: s) ∧ ETab (wr.setCell ⟨w3.heap.size, t, none⟩ (.slice A2 e.v.length c2)) w2.heap.size (fun x => x = w3.heap.size) Hs ess ∧ Rd (wr.setCell ⟨w3.heap.size, t, none⟩ (.slice A2 e.v.length c2)) w2.heap.size 1 (some ⟨bo, offo, none⟩) row.length Hs ∧ Below w.heap.size w (wr.setCell ⟨w3.heap.size, t, none⟩ (.slice A2 e.v.length c2)) ∧ w3.heap.size < (wr.setCell ⟨w3.heap.size, t, none⟩ (.slice A2 e.v.length c2)).heap.size from by
            refine ⟨by rw [← rep_set]; exact own_set hown _, (htab.cons hra).setCell rfl _, het.setCell rfl _, hrw.below ((Below.refl _ _).setCell (p := ⟨w3.heap.size, t, none⟩) s3 _), hb.setCell (p := ⟨w3.heap.size, t, none⟩) (Nat.le_trans HB2.out.size s3) _, by rw [World.size_setCell]; exact hsz⟩)
          clear hown htab het hrw hb hra k1 HGT hXp
          go_wp2
          go_roundw
          case rel => exact ⟨t, (t : Int) - 1, yb, _, e.v :: s, by go_num, rfl, by show (t : Int) - 1 = _; rfl, by omega, by show s.length + 1 + t = _; have := HSL.out; omega, HGN.out, HNX.out.1, HNX.out.2.1, HNX.out.2.2.1, HNX.out.2.2.2.1, HNX.out.2.2.2.2.1, HNX.out.2.2.2.2.2⟩
          case measure => (first | (simp [intOf]; done) | (simp [intOf]; omega))
    · have HP0 := Lib.hid hp
      have HS0 := Lib.hid (show smoothIs g row = false by rw [HSI.out, decide_eq_false hp])
      have HBST := Lib.hid (pbest (.slice Ap es.length cp) es w2 (by omega) HLO.out (fun x => x < w1.heap.size ∨ (Value.slice (some ⟨bo, offo, none⟩) row.length cu).ownBlock = some x) w2.heap.size (Nat.le_refl _) HEP.out)
      rw [HB0.out (by omega)] at HBST
      go_wp2_with fail
      refine (HBST.out).mono ?_
      rintro e w3 ⟨rfl, hb3⟩
      have s3 := hb3.size
      have HB3 := Lib.hid (HB2.out.trans (hb3.mono (by have := HB2.out.size; omega)))
      have hr := (hr.below hb3).more s3
      have hr' := (hr'.below hb3).more s3
      clear hb3
      go_wp2
      refine bodyPost_ret (results_tmp3 rfl _ _ _) rfl ?_
      exact ⟨[], none, 0, ret_three rfl (by rw [HS0.out]; rfl) (by rw [HV.out]; rfl), fun h => absurd (HS0.out.symm.trans h) (by decide), fun _ => rfl, TRd.nil, HB3.out⟩
  · have hd : (rowE g row != 0) = true := by simpa using h
    have HI := Lib.hid (show smoothIs g row = false by rw [smoothIs, decide_eq_false h, Bool.false_and])
    clear h
    generalize rowE g row = x at *
    go_enter Try.func36, Try.ntmps36
    go_wp2_with fail
    refine (HP.out).mono ?_
    rintro e w1 ⟨rfl, hb1⟩
    have s1 := hb1.size
    have HB1 := Lib.hid hb1
    have hr := (hr.below hb1).more s1
    have hr' := (hr'.below hb1).more s1
    clear hb1
    go_wp2
    refine bodyPost_ret (results_tmp3 rfl _ _ _) rfl ?_
    exact ⟨[], none, 0, ret_three rfl (by rw [HI.out]; rfl) rfl, fun h => absurd (HI.out.symm.trans h) (by decide), fun _ => rfl, TRd.nil, HB1.out⟩
end Go.Proofs.Ytejjogpgolgdgaa

/-
  PLAIN LAWS OF COURSES, second part: the reference's way. No program is named.
-/
namespace Go.Proofs.Ytejjogpgolgdgaa
open Go.RowKit Pulse

def nearB (m : Int) (now : List (List Int)) (v : List Int) : Bool := now.any fun u => decide (jumpL u v ≤ m)
def stepTo (m : Int) (now M : List (List Int)) (k : Nat) : List (List Int) := (M.take k).filter (nearB m now)
theorem stepTo_succ {m : Int} {now M : List (List Int)} {k : Nat} (h : k < M.length) : stepTo m now M (k + 1) = stepTo m now M k ++ (if nearB m now M[k] = true then [M[k]] else []) := by
  unfold stepTo
  rw [take_snoc' _ k h, List.filter_append, List.filter_cons, List.filter_nil]
/-- The voltages at which a course with jumps of at most m can be behind wish i. -/
def nowL (g row : List (List Int)) (m : Int) : Nat → List (List Int)
  | 0 => makeL g (row.getD 0 [])
  | i + 1 => stepTo m (nowL g row m i) (makeL g (row.getD (i + 1) [])) (makeL g (row.getD (i + 1) [])).length
theorem nowL_rows {g row : List (List Int)} {m : Int} : ∀ {i : Nat}, ∀ v ∈ nowL g row m i, v.length = wid g ∧ Forces 3 v
  | 0, v, h => makeL_rows h
  | i + 1, v, h => by
    rw [nowL, stepTo, List.take_length] at h
    exact makeL_rows (List.mem_filter.1 h).1
theorem nowL_len {g row : List (List Int)} {m : Int} (hv : vldG g = 0) : ∀ i : Nat, (nowL g row m i).length ≤ 343
  | 0 => makeL_len hv
  | i + 1 => by
    rw [nowL, stepTo, List.take_length]
    exact Nat.le_trans (List.length_filter_le _ _) (makeL_len hv)
theorem mem_nowL {g row : List (List Int)} {m : Int} (hm : 0 ≤ m) : ∀ {i : Nat} {v : List Int}, i < row.length → (v ∈ nowL g row m i ↔ ∃ c, IsC g (row.take (i + 1)) (c ++ [v]) ∧ jumpC (c ++ [v]) ≤ m)
  | 0, v, hi => by
    rw [nowL, row_take hi]
    constructor
    · intro h
      exact ⟨[], isC_snoc.2 ⟨by rw [List.take_zero]; trivial, h⟩, hm⟩
    · rintro ⟨c, hc, _⟩
      exact (isC_snoc.1 hc).2
  | i + 1, v, hi => by
    have ih := @mem_nowL g row m hm i
    rw [nowL, stepTo, List.take_length, List.mem_filter, row_take hi]
    constructor
    · rintro ⟨h1, h2⟩
      obtain ⟨u, hu, hj⟩ := List.any_eq_true.1 h2
      rw [decide_eq_true_eq] at hj
      obtain ⟨c, hc, hcj⟩ := (ih (by omega)).1 hu
      exact ⟨c ++ [u], isC_snoc.2 ⟨hc, h1⟩, by rw [jumpC_snoc]; omega⟩
    · rintro ⟨c, hc, hcj⟩
      obtain ⟨hc, h1⟩ := isC_snoc.1 hc
      refine ⟨h1, ?_⟩
      have hcl := hc.len
      rw [List.length_take] at hcl
      rcases List.eq_nil_or_concat c with rfl | ⟨d, u, rfl⟩
      · simp at hcl; omega
      rw [List.concat_eq_append] at hc hcj
      rw [jumpC_snoc] at hcj
      exact List.any_eq_true.2 ⟨u, (ih (by omega)).2 ⟨d, hc, by omega⟩, by rw [decide_eq_true_eq]; omega⟩
theorem smoothN_bd (g row : List (List Int)) : 0 ≤ smoothN g row ∧ smoothN g row ≤ 6 := by
  by_cases hs : smoothIs g row = true
  · have h : rowE g row = 0 := by simp only [smoothIs, Bool.and_eq_true, decide_eq_true_eq] at hs; exact hs.1
    have hv := (rowE_ok h).1
    obtain ⟨⟨c, hc, hj⟩, _⟩ := (smooth_law h).2 hs
    have h1 := jumpC_nn c
    have hl := hc.len
    rw [← hj]
    refine ⟨h1, ?_⟩
    have hm : ∀ v ∈ c, Forces 3 v := fun v hv => by
      obtain ⟨i, hi, rfl⟩ := List.getElem_of_mem hv
      exact (mem_makeL.1 ((isC_get hl).1 hc i (by omega) hi)).1.2
    clear hj h1 hl hc
    induction c with
    | nil => simp [jumpC]
    | cons v c ih =>
      cases c with
      | nil => simp [jumpC]
      | cons u c =>
        have h1 := ih (fun x hx => hm x (List.mem_cons_of_mem _ hx))
        have h2 := jumpL_le (x := 3) (y := 3) (by decide) (by decide) (hm v (by simp)) (hm u (by simp))
        rw [jumpC]; omega
  · rw [smoothN, if_neg hs]; omega
theorem nowL_some {g row : List (List Int)} {m : Int} (hm : 0 ≤ m) {q : Nat} (hq : row.length = q + 1) : 0 < (nowL g row m q).length ↔ ∃ c, IsC g row c ∧ jumpC c ≤ m := by
  have ht : row.take (q + 1) = row := by rw [← hq, List.take_length]
  have hmem := fun v => @mem_nowL g row m hm q v (by omega)
  rw [ht] at hmem
  constructor
  · intro h
    obtain ⟨c, hc⟩ := (hmem _).1 (List.getElem_mem h)
    exact ⟨_, hc⟩
  · rintro ⟨c, hc, hj⟩
    have hcl := hc.len
    rcases List.eq_nil_or_concat c with rfl | ⟨d, u, rfl⟩
    · simp at hcl; omega
    rw [List.concat_eq_append] at hc hj
    exact List.length_pos_of_mem ((hmem u).2 ⟨d, hc, hj⟩)
theorem smooth_first {g row : List (List Int)} {m q : Nat} (h : rowE g row = 0) (hq : row.length = q + 1) (hno : ∀ i : Nat, i < m → (nowL g row i q).length = 0) (hyes : 0 < (nowL g row m q).length) : smoothIs g row = true ∧ smoothN g row = m := by
  obtain ⟨a1, a2⟩ := smooth_law h
  obtain ⟨c, hc, hj⟩ := (nowL_some (by omega) hq).1 hyes
  have hs := a1.2 ⟨c, hc⟩
  obtain ⟨⟨d, hd, hdj⟩, hmin⟩ := a2 hs
  refine ⟨hs, ?_⟩
  have h1 := hmin c hc
  have h0 := jumpC_nn d
  rcases Int.lt_trichotomy (smoothN g row) m with h2 | h2 | h2
  · exfalso
    obtain ⟨i, hi⟩ := Int.eq_ofNat_of_zero_le (show 0 ≤ smoothN g row by omega)
    have := hno i (by omega)
    have h3 := (nowL_some (g := g) (m := (i : Int)) (by omega) hq).2 ⟨d, hd, by omega⟩
    omega
  · exact h2
  · omega
theorem smooth_none {g row : List (List Int)} {m q : Nat} (h : rowE g row = 0) (hq : row.length = q + 1) (hm : m = 7) (hno : ∀ i : Nat, i < m → (nowL g row i q).length = 0) : smoothIs g row = false := by
  rw [Bool.eq_false_iff]
  intro hs
  obtain ⟨⟨d, hd, hdj⟩, _⟩ := (smooth_law h).2 hs
  have hb := smoothN_bd g row
  have := hno 6 (by omega)
  have h3 := (nowL_some (g := g) (m := ((6 : Nat) : Int)) (by omega) hq).2 ⟨d, hd, by omega⟩
  omega
theorem near_take {m : Int} {now : List (List Int)} {v : List Int} {j : Nat} (h : j < now.length) : nearB m (now.take (j + 1)) v = (nearB m (now.take j) v || decide (jumpL now[j] v ≤ m)) := by
  unfold nearB
  rw [take_snoc' _ j h, List.any_append]; simp
theorem near_of {m : Int} {now : List (List Int)} {v : List Int} {j : Nat} (h : j < now.length) (hj : jumpL now[j] v ≤ m) : nearB m now v = true := List.any_eq_true.2 ⟨_, List.getElem_mem h, by rwa [decide_eq_true_eq]⟩
end Go.Proofs.Ytejjogpgolgdgaa

/-
  WALKS: slices.Grow, slices.Concat at ints.
-/
namespace Go.Proofs.Ytejjogpgolgdgaa
open Go.RowKit Pulse

theorem zeroCells_size (z : Array Value) (n : Nat) : (Builtin.zeroCells z n).size = n * z.size := by simp [Builtin.zeroCells]

theorem run_grow (n : Nat) (h : 0 < n) (hn : n ≤ 1000) (ty : TypeId) (w : World) : ∃ v w', (Builtin.append_ #[23, 3] ty #[.slice none 0 0, .int .i64 n]).run Try.prog w = .ok v w' ∧ ∃ gc, v = .slice (some ⟨w.heap.size, 0, none⟩) n gc ∧ w'.ownsRow w.heap.size 3 1 (.slice (some ⟨w.heap.size, 0, none⟩) 0 gc) 0 [] ∧ Below w.heap.size w w' := by
  obtain ⟨i, hi, hz0, hz1, hz2⟩ := E23.info
  have hap := Lib.run_append_nil_zeros w 23 3 ty 3 i _ .i64 .i64 Try.underlying23 Try.underlying3 hi hz0 n h (by omega) (by omega) (by rw [hz2]; omega)
  have hcap : n ≤ grownCap w n 0 3 := grownCap_ge w n 0 3
  have hmax := grownCap_le_maxLen w n 0 3 (by unfold maxLen; omega)
  refine ⟨_, _, hap, grownCap w n 0 3, rfl, ⟨by simp, .inr ⟨w.heap.size, grownCap w n 0 3, _, rfl, Nat.le_refl _, blk_new _ 3 _, Nat.zero_le _, hmax, ?_, by simp⟩⟩, ((Below.refl _ _).drew).alloc (Nat.le_refl _) _⟩
  rw [Array.size_append, zeroCells_size, zeroCells_size]
  show n * 1 + (grownCap w n 0 3 - n) * 1 = grownCap w n 0 3 * 1
  omega
section
variable {w : World} {ops : Array Oper} {rest : List Oper} {o : Oper} {a : Act} {Q : Exit → Act → World → Prop}
theorem grow0 (hgd : o.guard = none) (s x : Operand) (ho : o.op = .call { callee := .builtin .append, args := #[s, x], argTypes := #[23, 3] })
    (n : Nat) (hpos : 0 < n) (hn : n ≤ 1000) (hs : a.eval s = .slice none 0 0) (hx : a.eval x = .int .i64 n)
    (h : ∀ gc w', w'.ownsRow w.heap.size 3 1 (.slice (some ⟨w.heap.size, 0, none⟩) 0 gc) 0 [] → Below w.heap.size w w' → wpList Try.prog ops Q rest (a.put o.dst (.slice (some ⟨w.heap.size, 0, none⟩) n gc)) w') : wpList Try.prog ops Q (o :: rest) a w :=
  wpList_plain hgd fun _ hK => by
    obtain ⟨v', w', hrun, gc, rfl, h2, h3⟩ := run_grow n hpos hn o.type w
    unfold Oper.wp execOp
    simp only [ho, resolve, invoke, builtin, Sem.run_bind, Sem.run_pure, Result.andThen_ok, List.map_toArray, List.map_cons, List.map_nil, hs, hx, hrun]
    exact hK _ _ (h gc w' h2 h3)
end

set_option maxRecDepth 100000 in
theorem pGrow (n : Nat) (w : World) (hn : n ≤ 1000) :
    Calls Try.prog 96 #[.slice none 0 0, .int .i64 n] w fun e w' => ∃ v, e = .returned v ∧ w'.ownsRow w.heap.size 3 1 v 0 [] ∧ Below w.heap.size w w' := by
  rcases Nat.eq_zero_or_pos n with h | h
  · subst h
    go_enter Try.func96, Try.ntmps96
    go_wp2
    go_ret
    exact ⟨_, rfl, World.ownsRow_nil _ _ _ _, Below.refl _ _⟩
  · have hd : decide (0 < n) = true := by simpa using h
    go_enter Try.func96, Try.ntmps96
    go_wp2_with (at_builtin; go_must (refine grow0 rfl (.tmp 20) (.tmp 21) rfl n h hn rfl rfl ?_); intro gc w1 hown hb)
    go_ret
    exact ⟨_, rfl, hown, hb⟩

def totalN (l m : List Int) : Nat → Nat
  | 0 => 0
  | 1 => l.length
  | _ => l.length + m.length
def joinTo (l m : List Int) : Nat → List Int
  | 0 => []
  | 1 => l
  | _ => l ++ m
set_option maxRecDepth 100000 in
set_option maxHeartbeats 1000000 in
theorem pConcat (g : Nat) (A A' : Option Addr) (k c k' c' : Nat) (l m : List Int) (w : World) (hl : l.length ≤ 100) (hm : m.length ≤ 100) (B : Nat) (hB : B ≤ w.heap.size) (hr : Rd w B 1 A k (ints l)) (hr' : Rd w B 1 A' k' (ints m)) (hg : w.heap[g]? = some (.cells #[.slice A k c, .slice A' k' c'] 23 (0, 0))) :
    Calls Try.prog 87 #[.slice (some ⟨g, 0, none⟩) 2 2] w fun e w' => ∃ v, e = .returned v ∧ w'.ownsRow w.heap.size 3 1 v (l ++ m).length (ints (l ++ m)) ∧ Below w.heap.size w w' := by
  obtain rfl := hr.int_len
  obtain rfl := hr'.int_len
  have hlt := blk_lt hg
  have HG := Lib.hid hg
  clear hg
  go_enter Try.func87, Try.ntmps87
  go_wp2
  go_loopw [3, 11] (fun s i wr => ∃ q : Nat, i = .int .i64 q ∧ q ≤ 2 ∧ s = .int .i64 ((totalN l m q : Nat) : Int) ∧ Below w.heap.size w wr) (fun _ i _ => 2 - (intOf i).toNat)
  case atStart => exact ⟨0, rfl, by omega, rfl, Below.refl _ _⟩
  case round =>
    obtain ⟨q, rfl, hq, rfl, hb⟩ := hrel
    have x1 := blk_below HG.out hb hlt
    have c0 : wr.cell? ⟨g, 0, none⟩ = some (.slice A l.length c) := blk_cell x1 0
    have c1 : wr.cell? ⟨g, 1, none⟩ = some (.slice A' m.length c') := blk_cell x1 1
    have X1 := Lib.hid x1
    clear x1
    have T0 := Lib.hid (show totalN l m 0 = 0 from rfl)
    have T1 := Lib.hid (show totalN l m 1 = l.length from rfl)
    have T2 := Lib.hid (show totalN l m 2 = l.length + m.length from rfl)
    have h3 : q = 0 ∨ q = 1 ∨ q = 2 := by omega
    rcases h3 with rfl | rfl | rfl
    · rw [T0.out]
      go_wp2
      go_roundw
      case rel => exact ⟨1, rfl, by omega, by first | (rw [T1.out]; done) | (rw [T1.out]; go_num), hb⟩
      case measure => simp [intOf]
    · rw [T1.out]
      go_wp2
      go_roundw
      case rel => exact ⟨2, rfl, by omega, by first | (rw [T2.out]; done) | (rw [T2.out]; go_num), hb⟩
      case measure => simp [intOf]
    · rw [T2.out]
      have hsz := hb.size
      have hcast : ((l.length + m.length : Nat) : Int) = (l.length : Int) + (m.length : Int) := by omega
      clear hcast
      go_wp2_with fail
      refine (pGrow (l.length + m.length) wr (by omega)).mono ?_
      rintro e w1 ⟨v, rfl, hown, hb1⟩
      have hown1 := own_base hown hsz
      have B1 := hb.trans (hb1.mono hsz)
      clear hown hb hb1 c0 c1
      go_wp2
      go_loopw [6, 27] (fun v i wr => ∃ q : Nat, i = .int .i64 q ∧ q ≤ 2 ∧ wr.ownsRow w.heap.size 3 1 v (joinTo l m q).length (ints (joinTo l m q)) ∧ Below w.heap.size w wr) (fun _ i _ => 2 - (intOf i).toNat)
      case atStart => exact ⟨0, rfl, by omega, hown1, B1⟩
      case round =>
        clear hown1 B1
        obtain ⟨q, rfl, hq, hown, hb⟩ := hrel
        have hsz2 := hb.size
        have x1 := blk_below HG.out hb hlt
        have c0 : wr.cell? ⟨g, 0, none⟩ = some (.slice A l.length c) := blk_cell x1 0
        have c1 : wr.cell? ⟨g, 1, none⟩ = some (.slice A' m.length c') := blk_cell x1 1
        have X1 := Lib.hid x1
        clear x1
        have J1 := Lib.hid (show joinTo l m 1 = l from rfl)
        have J2 := Lib.hid (show joinTo l m 2 = l ++ m from rfl)
        have h3 : q = 0 ∨ q = 1 ∨ q = 2 := by omega
        rcases h3 with rfl | rfl | rfl
        · have hown0 : wr.ownsRow w.heap.size 3 1 u6 0 [] := hown
          go_wp2_with (at_builtin; go_must (refine appN rfl (.tmp 31) (.tmp 32) 23 rfl 3 _ 1 8 E23 w.heap.size _ _ _ rfl hown0 B A l.length c (ints l) rfl (hr.below' hb hB) (ints_one _) (by omega) hsz2 ?_); intro v2 w2 hown2 hg2)
          go_roundw
          case rel => exact ⟨1, rfl, by omega, by rw [J1.out]; simpa using hown2, below_own hb hsz2 hown0 (Nat.le_refl _) hg2⟩
          case measure => simp [intOf]
        · have hown0 : wr.ownsRow w.heap.size 3 1 u6 l.length (ints l) := hown
          go_wp2_with (at_builtin; go_must (refine appN rfl (.tmp 31) (.tmp 32) 23 rfl 3 _ 1 8 E23 w.heap.size _ _ _ rfl hown0 B A' m.length c' (ints m) rfl (hr'.below' hb hB) (ints_one _) (by omega) hsz2 ?_); intro v2 w2 hown2 hg2)
          go_roundw
          case rel => exact ⟨2, rfl, by omega, by rw [J2.out, List.length_append]; simpa using hown2, below_own hb hsz2 hown0 (Nat.le_refl _) hg2⟩
          case measure => simp [intOf]
        · go_wp2
          go_ret
          exact ⟨_, rfl, hown, hb⟩

end Go.Proofs.Ytejjogpgolgdgaa

/-
  WALKS: Without of both.
-/
namespace Go.Proofs.Ytejjogpgolgdgaa
open Go.RowKit Pulse

def cutL (x : Nat) (l : List Int) : List Int := l.take x ++ l.drop (x + 1)
def withE (g : List (List Int)) (wire : Int) : Int := if vldG g = 0 then (if wire < 0 ∨ (wid g : Int) ≤ wire then 4 else if wid g = 1 then 1 else 0) else vldG g
def withT (g : List (List Int)) (wire : Int) : List (List Int) := if withE g wire = 0 then g.map (cutL wire.toNat) else []
theorem cutL_len {x : Nat} {l : List Int} (h : x < l.length) : (cutL x l).length = l.length - 1 := by simp [cutL]; omega
/-- The cells of a header's block may be written; the block is none of X. -/
def Soft (w : World) (X : Nat → Prop) (v : Value) : Prop := ∀ b off n c, v = .slice (some ⟨b, off, none⟩) n c → b < w.heap.size ∧ ¬ X b ∧ w.frozen? ⟨b, off, none⟩ = false
theorem frozen_of_block {w w' : World} {b off : Nat} (h : w'.heap[b]? = w.heap[b]?) : w'.frozen? ⟨b, off, none⟩ = w.frozen? ⟨b, off, none⟩ := by
  unfold World.frozen?
  simp only [h]
theorem Soft.keep {w w' : World} {X X' : Nat → Prop} {v : Value} (h : Soft w X v) (hs : w.heap.size ≤ w'.heap.size) (hk : ∀ b, b < w.heap.size → ¬ X b → w'.heap[b]? = w.heap[b]?) (hX : ∀ b, X' b → X b ∨ w.heap.size ≤ b) : Soft w' X' v := by
  intro b off n c e
  obtain ⟨h1, h2, h3⟩ := h b off n c e
  refine ⟨by omega, fun hx => ?_, ?_⟩
  · rcases hX b hx with h | h
    · exact h2 h
    · omega
  · rw [frozen_of_block (hk b h1 h2)]; exact h3
theorem Soft.below {w w' : World} {X : Nat → Prop} {v : Value} (h : Soft w X v) (hb : Below w.heap.size w w') : Soft w' X v :=
  h.keep hb.size (fun b h1 _ => hb.block b h1) (fun _ h => .inl h)
theorem own_frozen0 {w : World} {base g off n c sz : Nat} {e : TypeId} {xs : List Value} (h : w.ownsRow base e sz (.slice (some ⟨g, off, none⟩) n c) n xs) : w.frozen? ⟨g, off, none⟩ = false := by
  obtain ⟨h1, h2⟩ := h
  rcases h2 with ⟨h2, _⟩ | ⟨g', cap, cur, hv, hg, hh, _⟩
  · cases h2
  · injection hv with a b d
    injection a with a
    injection a with a a2
    subst a a2
    exact blk_frozen hh 0
theorem Soft.own {w : World} {base n sz : Nat} {e : TypeId} {xs : List Value} {X : Nat → Prop} {v : Value} (h : w.ownsRow base e sz v n xs) (hX : ∀ b, X b → b < base ∨ w.heap.size ≤ b) : Soft w X v := by
  intro b off n' c ev
  obtain ⟨A, c', rfl, _, _⟩ := own_cap h
  injection ev with e1 e2 e3
  subst e1 e2 e3
  have := h.lt b rfl
  refine ⟨this.2, fun hx => ?_, own_frozen0 h⟩
  rcases hX b hx with h | h <;> omega
/-- A table of the call's own, its rows of the call's own too. -/
def OwnS (w : World) (base : Nat) (u : Value) (ps : List (List Int)) : Prop := ∃ vs, w.ownsRow base 23 1 u ps.length vs ∧ Tab w w.heap.size (fun x => x < base ∨ u.ownBlock = some x) vs ps ∧ ∀ v ∈ vs, Soft w (fun x => x < base ∨ u.ownBlock = some x) v
theorem OwnS.nil {w : World} {base : Nat} : OwnS w base (.slice none 0 0) [] := ⟨[], World.ownsRow_nil .., Tab.nil, fun v h => by cases h⟩
theorem OwnS.below {w w' : World} {base : Nat} {u : Value} {ps : List (List Int)} (h : OwnS w base u ps) (hb : Below w.heap.size w w') : OwnS w' base u ps := by
  obtain ⟨vs, h1, h2, h3⟩ := h
  exact ⟨vs, own_below h1 hb, (h2.below hb (Nat.le_refl _)).more hb.size, fun v hv => (h3 v hv).below hb⟩
theorem OwnS.cap {w : World} {base : Nat} {u : Value} {ps : List (List Int)} (h : OwnS w base u ps) : ∃ A c, u = .slice A ps.length c ∧ TRd w w.heap.size A ps.length ps := by
  obtain ⟨vs, h1, h2, _⟩ := h
  obtain ⟨A, c, rfl, _, _⟩ := own_cap h1
  exact ⟨A, c, rfl, TRd.of_own h1 h2⟩
theorem OwnS.base {w : World} {base base' : Nat} {u : Value} {ps : List (List Int)} (h : OwnS w base u ps) (hb : base' ≤ base) : OwnS w base' u ps := by
  obtain ⟨vs, h1, h2, h3⟩ := h
  have hX : ∀ x, (x < base' ∨ u.ownBlock = some x) → (x < base ∨ u.ownBlock = some x) := fun x hx => hx.imp (fun h => by omega) id
  exact ⟨vs, own_base h1 hb, h2.at (fun g hg => .inl (hX g hg)), fun v hv => (h3 v hv).keep (Nat.le_refl _) (fun _ _ _ => rfl) (fun x hx => .inl (hX x hx))⟩
/-- 'out = append(out, row)', the row of the call's own. -/
theorem OwnS.push {w4 w5 : World} {base n' base' : Nat} {e : TypeId} {u u5 v : Value} {vs : List Value} {ps : List (List Int)} {p : List Int}
    (h1 : w4.ownsRow base 23 1 u ps.length vs) (ht : Tab w4 w4.heap.size (fun x => x < base ∨ u.ownBlock = some x) vs ps) (hs : ∀ v ∈ vs, Soft w4 (fun x => x < base ∨ u.ownBlock = some x) v)
    (hv : w4.ownsRow base' e 1 v p.length (ints p)) (hb : base ≤ base') (hu : ∀ g, u.ownBlock = some g → g < base')
    (h5 : w5.ownsRow base 23 1 u5 n' (vs ++ [v])) (hn : n' = ps.length + 1) (hg : w4.grownBy w5 u.ownBlock) (hx : u5.ownBlock = u.ownBlock ∨ ∃ g, u5.ownBlock = some g ∧ w4.heap.size ≤ g) : OwnS w5 base u5 (ps ++ [p]) := by
  subst hn
  have hX : ∀ x, (x < base ∨ u5.ownBlock = some x) → (x < base ∨ u.ownBlock = some x) ∨ w4.heap.size ≤ x := fun x hx' => by
    rcases hx' with h | h
    · exact .inl (.inl h)
    · rcases hx with h' | ⟨g, h', hg'⟩
      · rw [h'] at h; exact .inl (.inr h)
      · rw [h'] at h; injection h with h; exact .inr (by omega)
  have hsv : Soft w4 (fun x => x < base ∨ u.ownBlock = some x) v := Soft.own hv (fun b hb' => by
    rcases hb' with h | h
    · exact .inl (by omega)
    · exact .inl (hu b h))
  refine ⟨vs ++ [v], by rw [List.length_append]; exact h5, tab_push ht (rowAt_own hv (fun g hg' hx' => ?_)) hg hx, fun y hy => ?_⟩
  · have := (hv.lt g hg').1
    rcases hx' with h | h
    · omega
    · have := hu g h; omega
  · have : Soft w4 (fun x => x < base ∨ u.ownBlock = some x) y := by
      rcases List.mem_append.1 hy with h | h
      · exact hs y h
      · rw [List.mem_singleton.1 h]; exact hsv
    exact this.keep hg.size (fun b h1' h2' => hg.block b h1' (fun e => h2' (.inr e.symm))) hX
theorem cut_take (x : Nat) (g : List (List Int)) {q : Nat} (h : q < g.length) : (g.take (q + 1)).map (cutL x) = (g.take q).map (cutL x) ++ [cutL x g[q]] := by rw [take_snoc' g q h, List.map_append]; rfl
/-- The two parts of a row. -/
theorem rd_parts {w : World} {B b off c x : Nat} {l : List Int} (h : Rd w B 1 (some ⟨b, off, none⟩) l.length (ints l)) (hx : x < l.length) (hc : l.length ≤ c) :
    Rd w B 1 (some ⟨b, off, none⟩) x (ints (l.take x)) ∧ Rd w B 1 (if c = x + 1 then some ⟨b, off, none⟩ else some ⟨b, off + (x + 1), none⟩) (l.length - (x + 1)) (ints (l.drop (x + 1))) := by
  have h1 := h.front (k := x) (by omega)
  have h2 := h.back (k := x + 1) (c := c) (by omega) hc
  simp only [Nat.mul_one] at h1 h2
  refine ⟨by rw [ints, List.map_take]; exact h1, ?_⟩
  rw [ints, List.map_drop]
  exact h2
end Go.Proofs.Ytejjogpgolgdgaa
