/-
  WALKS: Least, of the program and of the reference.
-/
import Derived.Test.YtkeolmipdoeljaaW23
namespace Go.Proofs.Ytkeolmipdoeljaa
open Go.RowKit Heat

/-- The greatest heat ahead of a gate among the first q acts. -/
def leastTo (l : List HAct) : Nat → Int
  | 0 => 0
  | q + 1 => if (l[q]?.map fun a => decide (a.kind = 1 ∧ leastTo l q < before l q)).getD false then before l q else leastTo l q
def leastN (n : Int) (l : List HAct) : Int := if validate n l = 0 then leastTo l l.length else 0

theorem leastTo_bd {l : List HAct} (hm : Mild l) (hl : l.length ≤ 1000) : ∀ q, q ≤ l.length → 0 ≤ leastTo l q ∧ leastTo l q ≤ 100000 := by
  intro q
  induction q with
  | zero => intro _; exact ⟨Int.le_refl _, by rw [leastTo]; omega⟩
  | succ q ih =>
    intro hq
    have := ih (by omega)
    rw [leastTo, List.getElem?_eq_getElem (show q < l.length by omega)]
    split
    · rw [before_eq l q (by omega)]
      have h2 := heats_cold_bd (l.take q) (hm.take q) l[q].ion
      have h3 : (l.take q).length ≤ 1000 := by rw [List.length_take]; omega
      omega
    · exact this
theorem least_hot {l : List HAct} {limit : Int} (h0 : 0 ≤ limit) : ∀ q, q ≤ l.length → ((hotTo limit l q).length = 0 ↔ leastTo l q ≤ limit) := by
  intro q
  induction q with
  | zero => intro _; simp [hotTo, leastTo, h0]
  | succ q ih =>
    intro hq
    have hi := ih (by omega)
    rw [hotTo, leastTo, List.getElem?_eq_getElem (show q < l.length by omega)]
    simp only [Option.map_some, Option.getD_some, decide_eq_true_eq, List.length_append]
    generalize before l q = b at *
    by_cases c : l[q].kind = 1
    · simp only [c, true_and]
      by_cases c1 : limit < b
      · rw [if_pos c1]
        have : ¬ (if leastTo l q < b then b else leastTo l q) ≤ limit := by split <;> omega
        simp [this]
      · rw [if_neg c1]
        simp only [List.length_nil, Nat.add_zero]
        rw [hi]
        split <;> omega
    · simp only [c, false_and, if_false, List.length_nil, Nat.add_zero]
      exact hi
theorem least_law {n : Int} {l : List HAct} {limit : Int} (h : limited n l limit = 0) : fitsB n l limit = decide (leastN n l ≤ limit) := by
  obtain ⟨_, h5, _⟩ := limited_ok h
  have hv : validate n l = 0 := by unfold limited at h; split at h; assumption; omega
  rw [fitsB, decide_eq_true h, Bool.true_and, leastN, if_pos hv, ← hotTo_all]
  by_cases e : (hotTo limit l l.length).length = 0
  · rw [decide_eq_true e, decide_eq_true ((least_hot h5 _ (Nat.le_refl _)).1 e)]
  · rw [decide_eq_false e, decide_eq_false fun x => e ((least_hot h5 _ (Nat.le_refl _)).2 x)]

set_option maxRecDepth 100000 in
set_option maxHeartbeats 2000000 in
theorem pLeast (n : Int) (A : Option Addr) (k c : Nat) (l : List HAct) (w : World) (hl : l.length ≤ 1000) (B : Nat) (hB : B ≤ w.heap.size) (hr : Rd w B 3 A k (actCells l)) :
    Calls Try.prog 49 #[.int .i64 n, .slice A k c] w fun e w' => e = .returned (.tuple #[.int .i64 (leastN n l), .int .i64 (validate n l)]) ∧ Below w.heap.size w w' := by
  have H := Lib.hid (pValidate n A k c l w hl B hB hr)
  by_cases h : validate n l = 0
  · obtain ⟨h1, h2, h3, h4⟩ := validate_ok h
    obtain ⟨m, rfl⟩ := Int.eq_ofNat_of_zero_le (show 0 ≤ n by omega)
    have HL := Lib.hid h
    have HV := Lib.hid h4
    have HA := Lib.hid (areActs_iff.1 h4)
    have HM := Lib.hid (mild_of h4)
    have HN := Lib.hid (show leastN m l = leastTo l l.length by rw [leastN, if_pos h])
    clear h h4
    go_enter Try.func49, Try.ntmps49
    go_wp2_with fail
    refine H.out.mono ?_
    rw [HL.out]
    rintro e w0 ⟨rfl, hb0⟩
    have s0 := hb0.size
    go_wp2_with fail
    refine (pStates m A k c l w0 (by omega) (by omega) hl HV.out B (by omega) (hr.below' hb0 hB)).mono ?_
    rintro e w1 ⟨vS, ss, rfl, hss, hownS, hok, hb01⟩
    obtain ⟨AS, cS, rfl, _, _⟩ := own_cap hownS
    have hb1 := hb0.trans (hb01.mono s0)
    have s1 := hb1.size
    have hrS := Rd.of_own hownS
    have HSS := Lib.hid hss
    have HOK := Lib.hid hok
    clear hok hownS hss hb01 hb0
    go_wp2
    go_loopw [7, 20] (fun v j wr => ∃ q : Nat, q ≤ l.length ∧ j = .int .i64 q ∧ v = .int .i64 (leastTo l q) ∧ Below w1.heap.size w1 wr) (fun _ j _ => l.length - (intOf j).toNat)
    case atStart => exact ⟨0, Nat.zero_le _, rfl, rfl, Below.refl _ _⟩
    case round =>
      obtain ⟨q, hq, rfl, rfl, hb⟩ := hrel
      have hsz := hb.size
      by_cases hlt : q < l.length
      · have hqs : q < ss.length := by have := HSS.out; omega
        obtain ⟨b, off, rfl, _, k0, k1, k2, k3, k4⟩ := (hrS.below hb).st hqs
        obtain ⟨e1, e2, e3⟩ := HOK.out.2 q hqs hlt
        have hy := HA.out _ (List.getElem_mem hlt)
        simp only [isAct, decide_eq_true_eq] at hy
        obtain ⟨_, _, hi0, hi1, _, _, _⟩ := hy
        obtain ⟨g, cg, hbef, hgl, hc⟩ := hrow_cell (own_below e2 hb) hi0 (show l[q].ion < (m : Int) by omega)
        rw [e1] at k0 k1 k2
        rw [hbef] at k3
        obtain ⟨g2, c2, _, haft, _, _⟩ := hrow_form (own_below e3 hb) (by omega)
        rw [haft] at k4
        have HT : Hid ((l[q].kind == 1 && decide (leastTo l q < heats cold (l.take q) l[q].ion)) = true → leastTo l (q + 1) = heats cold (l.take q) l[q].ion) := fun hx => by
          rw [Bool.and_eq_true, beq_iff_eq, decide_eq_true_eq] at hx
          rw [leastTo, List.getElem?_eq_getElem hlt, before_eq l q hlt]; simp [hx.1, hx.2]
        have HF : Hid ((l[q].kind == 1 && decide (leastTo l q < heats cold (l.take q) l[q].ion)) = false → leastTo l (q + 1) = leastTo l q) := fun hx => by
          rw [leastTo, List.getElem?_eq_getElem hlt, before_eq l q hlt]
          have : ¬ (l[q].kind = 1 ∧ leastTo l q < heats cold (l.take q) l[q].ion) := by
            rintro ⟨a, b⟩
            simp [a, b] at hx
          simp [this]
        clear e1 e2 e3 hbef haft
        have hca := (World.cell?_alloc_lt wr (.cells #[.int .i64 l[q].kind, .int .i64 l[q].ion, .int .i64 l[q].heat, .slice (some ⟨g, 0, none⟩) m cg, .slice (some ⟨g2, 0, none⟩) m c2] 85) ⟨g, l[q].ion.toNat, none⟩ hgl).trans hc
        have HBA := Lib.hid (hb.alloc hsz (.cells #[.int .i64 l[q].kind, .int .i64 l[q].ion, .int .i64 l[q].heat, .slice (some ⟨g, 0, none⟩) m cg, .slice (some ⟨g2, 0, none⟩) m c2] 85))
        have HBX := Lib.hid (blk_new wr 85 #[.int .i64 l[q].kind, .int .i64 l[q].ion, .int .i64 l[q].heat, .slice (some ⟨g, 0, none⟩) m cg, .slice (some ⟨g2, 0, none⟩) m c2])
        have HCA := Lib.hid hca
        have hga : g < (wr.alloc (.cells #[.int .i64 l[q].kind, .int .i64 l[q].ion, .int .i64 l[q].heat, .slice (some ⟨g, 0, none⟩) m cg, .slice (some ⟨g2, 0, none⟩) m c2] 85)).heap.size := by simp; omega
        have HP := Lib.hid (pIsHot l[q].kind l[q].ion l[q].heat _ (leastTo l q) g m cg (.slice (some ⟨g2, 0, none⟩) m c2) _ hi0 (by omega) hga hca)
        clear hc hca
        have hi2 : l[q].ion < (m : Int) := by omega
        cases hx : (l[q].kind == 1 && decide (leastTo l q < heats cold (l.take q) l[q].ion)) with
        | true =>
          have HT2 := Lib.hid (HT.out hx)
          have HX := Lib.hid hx
          clear hx
          go_wp2_with fail
          refine HP.out.mono ?_
          rw [HX.out]
          rintro e w2 ⟨rfl, hb2⟩
          have x2 := blk_below HBX.out hb2 (by simp)
          have x1 : w2.cell? ⟨wr.heap.size, 1, none⟩ = some (.int .i64 l[q].ion) := blk_cell x2 1
          have x3 : w2.cell? ⟨wr.heap.size, 3, none⟩ = some (.slice (some ⟨g, 0, none⟩) m cg) := blk_cell x2 3
          have y0 : w2.cell? ⟨g, l[q].ion.toNat, none⟩ = some (.int .i64 (heats cold (l.take q) l[q].ion)) := (hb2.cell (p := ⟨g, l[q].ion.toNat, none⟩) hga).trans HCA.out
          have X2 := Lib.hid x2
          clear x2
          go_wp2
          go_roundw
          case rel => exact ⟨q + 1, by omega, by go_num, by rw [HT2.out], HBA.out.trans (hb2.mono (by simp; omega))⟩
          case measure => simp [intOf]; omega
        | false =>
          have HF2 := Lib.hid (HF.out hx)
          have HX := Lib.hid hx
          clear hx
          go_wp2_with fail
          refine HP.out.mono ?_
          rw [HX.out]
          rintro e w2 ⟨rfl, hb2⟩
          go_wp2
          go_roundw
          case rel => exact ⟨q + 1, by omega, by go_num, by rw [HF2.out], HBA.out.trans (hb2.mono (by simp; omega))⟩
          case measure => simp [intOf]; omega
      · obtain rfl : q = l.length := by omega
        go_wp2
        go_ret2
        exact ⟨ret_ii HN.out.symm HL.out.symm, hb1.trans (hb.mono s1)⟩
  · have hd : (validate n l == 0) = false := by simpa using h
    have hd' : (validate n l != 0) = true := by simpa using h
    have HN := Lib.hid (show leastN n l = 0 by rw [leastN, if_neg h])
    clear h
    go_enter Try.func49, Try.ntmps49
    go_wp2_with fail
    refine H.out.mono ?_
    rintro e w1 ⟨rfl, hb⟩
    go_wp2
    go_ret2
    exact ⟨ret_ii HN.out.symm rfl, hb⟩

set_option maxRecDepth 100000 in
set_option maxHeartbeats 2000000 in
theorem rLeast (n : Int) (A : Option Addr) (k c : Nat) (l : List HAct) (w : World) (hl : l.length ≤ 1000) (B : Nat) (hB : B ≤ w.heap.size) (hr : Rd w B 3 A k (actCells l)) :
    Calls Try.prog 50 #[.int .i64 n, .slice A k c] w fun e w' => e = .returned (.tuple #[.int .i64 (leastN n l), .int .i64 (validate n l)]) ∧ Below w.heap.size w w' := by
  obtain rfl := hr.act_len
  have H := Lib.hid (rValidate n A l.length c l w hl B hB hr)
  by_cases h : validate n l = 0
  · obtain ⟨h1, h2, h3, h4⟩ := validate_ok h
    have HL := Lib.hid h
    have HM := Lib.hid (mild_of h4)
    have HN := Lib.hid (show leastN n l = leastTo l l.length by rw [leastN, if_pos h])
    clear h h4
    go_enter Try.func50, Try.ntmps50
    go_wp2_with fail
    refine H.out.mono ?_
    rw [HL.out]
    rintro e w1 ⟨rfl, hb1⟩
    go_wp2
    go_loopw [7, 8] (fun v j wr => ∃ q : Nat, q ≤ l.length ∧ j = .int .i64 q ∧ v = .int .i64 (leastTo l q) ∧ Below w.heap.size w wr) (fun _ j _ => l.length - (intOf j).toNat)
    case atStart => exact ⟨0, Nat.zero_le _, rfl, rfl, hb1⟩
    case round =>
      clear hb1
      obtain ⟨q, hq, rfl, rfl, hb⟩ := hrel
      have hsz := hb.size
      by_cases hlt : q < l.length
      · obtain ⟨b, off, rfl, hbb, h0, h1, h2⟩ := (hr.below' hb hB).act hlt
        have HBF := Lib.hid (rbefore (some ⟨b, off, none⟩) l.length c q l wr hl HM.out hlt B (by omega) (hr.below' hb hB))
        have hbd := leastTo_bd HM.out hl q (by omega)
        by_cases c1 : l[q].kind = 1
        · have d1 : (l[q].kind == 1) = true := by simpa using c1
          by_cases c2 : leastTo l q < before l q
          · have HT := Lib.hid (show leastTo l (q + 1) = before l q by rw [leastTo, List.getElem?_eq_getElem hlt]; simp [c1, c2])
            clear c1
            go_wp2_with (go_at_call 75; refine HBF.out.mono ?_; rintro e w2 ⟨rfl, hb2⟩)
            go_roundw
            case rel => exact ⟨q + 1, by omega, by go_num, by first | (rw [HT.out]; done) | (rw [HT.out]; congr 1; omega), hb.trans (hb2.mono hsz)⟩
            case measure => simp [intOf]; omega
          · have HT := Lib.hid (show leastTo l (q + 1) = leastTo l q by rw [leastTo, List.getElem?_eq_getElem hlt]; simp [c1, c2])
            clear c1
            go_wp2_with (go_at_call 75; refine HBF.out.mono ?_; rintro e w2 ⟨rfl, hb2⟩)
            go_roundw
            case rel => exact ⟨q + 1, by omega, by go_num, by first | (rw [HT.out]; done) | (rw [HT.out]; congr 1; omega), hb.trans (hb2.mono hsz)⟩
            case measure => simp [intOf]; omega
        · have d1 : (l[q].kind == 1) = false := by simpa using c1
          have HT := Lib.hid (show leastTo l (q + 1) = leastTo l q by rw [leastTo, List.getElem?_eq_getElem hlt]; simp [c1])
          clear c1
          go_wp2
          go_roundw
          case rel => exact ⟨q + 1, by omega, by go_num, by rw [HT.out], hb⟩
          case measure => simp [intOf]; omega
      · obtain rfl : q = l.length := by omega
        go_wp2
        go_ret2
        exact ⟨ret_ii HN.out.symm HL.out.symm, hb⟩
  · have hd : (validate n l == 0) = false := by simpa using h
    have hd' : (validate n l != 0) = true := by simpa using h
    have HN := Lib.hid (show leastN n l = 0 by rw [leastN, if_neg h])
    clear h
    go_enter Try.func50, Try.ntmps50
    go_wp2_with fail
    refine H.out.mono ?_
    rintro e w1 ⟨rfl, hb⟩
    go_wp2
    go_ret2
    exact ⟨ret_ii HN.out.symm rfl, hb⟩
end Go.Proofs.Ytkeolmipdoeljaa
