/-
  MERGED: W26, W27, W28, LVolts, LFields.
-/
import Derived.Test.YtejjogpgolgdgaaK13
import Derived.Test.YtejjogpgolgdgaaK1
/-
  WALKS: best, Smooth.
-/
namespace Go.Proofs.Ytejjogpgolgdgaa
open Go.RowKit Pulse

/-- The place of the end with the smallest jump among the first k, -1 for none. -/
def bestTo (es : List End) : Nat → Int
  | 0 => -1
  | k + 1 => match es[k]? with
    | none => bestTo es k
    | some e => if bestTo es k < 0 ∨ e.j < ((es.map (·.j)).getD (bestTo es k).toNat 0) then (k : Int) else bestTo es k
def bestI (es : List End) : Int := bestTo es es.length
theorem bestTo_succ {es : List End} {k : Nat} {e : End} (h : es[k]? = some e) : bestTo es (k + 1) = if bestTo es k < 0 ∨ e.j < ((es.map (·.j)).getD (bestTo es k).toNat 0) then (k : Int) else bestTo es k := by
  rw [bestTo, h]
theorem bestTo_bd (es : List End) : ∀ k, k ≤ es.length → -1 ≤ bestTo es k ∧ bestTo es k < k
  | 0, _ => by simp [bestTo]
  | k + 1, h => by
    have ih := bestTo_bd es k (by omega)
    rw [bestTo_succ (List.getElem?_eq_getElem (show k < es.length by omega))]
    split
    · omega
    · omega
theorem bestTo_pos (es : List End) : ∀ k, k ≤ es.length → 0 < k → 0 ≤ bestTo es k
  | 0, _, h => absurd h (by omega)
  | k + 1, h, _ => by
    rw [bestTo_succ (List.getElem?_eq_getElem (show k < es.length by omega))]
    split
    · omega
    · rename_i hc
      have : ¬ bestTo es k < 0 := fun h => hc (.inl h)
      omega

set_option maxRecDepth 100000 in
set_option maxHeartbeats 4000000 in
theorem pbest (H : Value) (es : List End) (w : World) (hl : es.length ≤ 1000) (hj : ∀ e ∈ es, 0 ≤ e.j ∧ e.j ≤ 6) (X : Nat → Prop) (B : Nat) (hB : B ≤ w.heap.size) (hr : ERow w B X H es) :
    Calls Try.prog 61 #[H] w fun e w' => e = .returned (.int .i64 (bestI es)) ∧ Below w.heap.size w w' := by
  obtain ⟨A, c, rfl, _, _⟩ := hr.cap
  have HR := Lib.hid hr
  have HJ := Lib.hid hj
  have HBI := Lib.hid (show bestI es = bestTo es es.length from rfl)
  have HBD := Lib.hid (fun k h => bestTo_bd es k h)
  clear hr hj
  go_enter Try.func61, Try.ntmps61
  go_wp2
  go_loopw [8, 3] (fun i o wr => ∃ (k : Nat) (b : Int), i = .int .i64 k ∧ o = .int .i64 b ∧ k ≤ es.length ∧ Hid (b = bestTo es k) ∧ Below w.heap.size w wr) (fun i _ _ => es.length - (intOf i).toNat)
  case atStart => exact ⟨0, -1, rfl, rfl, Nat.zero_le _, rfl, Below.refl _ _⟩
  case round =>
    obtain ⟨k, b, rfl, rfl, hk, HB, hbw⟩ := hrel
    have sb := hbw.size
    have hbd := HBD.out k hk
    rw [← HB.out] at hbd
    by_cases hlt : k < es.length
    · obtain ⟨bp, offp, cp, A', c', he, hbp, _, k0, k1, k2, _⟩ := (HR.out.below hbw hB).get hlt
      injection he with e1 e2 e3
      subst e1 e3
      have HS := Lib.hid (bestTo_succ (show es[k]? = some es[k] from List.getElem?_eq_getElem hlt))
      rw [← HB.out] at HS
      have hjk := HJ.out _ (List.getElem_mem hlt)
      obtain ⟨y, hy⟩ : ∃ y, y = es[k] := ⟨_, rfl⟩
      rw [← hy] at k0 k1 k2 HS hjk
      obtain ⟨yj, hyj⟩ : ∃ yj, yj = y.j := ⟨_, rfl⟩
      obtain ⟨yb, hyb⟩ : ∃ yb, yb = y.b := ⟨_, rfl⟩
      rw [← hyj] at k1 HS hjk
      rw [← hyb] at k2
      clear hy hyj hyb
      have z0 : (0 : Int) ≤ (k : Int) := by omega
      have z1 : (k : Int) < (es.length : Int) := by omega
      have hx := blk_new wr 72 #[.slice A' y.v.length c', .int .i64 yj, .int .i64 yb]
      have hb1 := (Below.refl wr.heap.size wr).alloc (Nat.le_refl _) (.cells #[.slice A' y.v.length c', .int .i64 yj, .int .i64 yb] 72)
      have f1 : (wr.alloc (.cells #[.slice A' y.v.length c', .int .i64 yj, .int .i64 yb] 72)).cell? ⟨wr.heap.size, 1, none⟩ = some (.int .i64 yj) := blk_cell hx 1
      have HBW := Lib.hid (hbw.trans (hb1.mono sb))
      by_cases hb0 : b < 0
      · have hd0 : decide (b < 0) = true := decide_eq_true hb0
        have HE := Lib.hid (show bestTo es (k + 1) = k by rw [HS.out, if_pos (.inl hb0)])
        clear hx hb1
        go_wp2
        go_quiet (fail)
        go_wp2
        go_roundw
        case rel => exact ⟨k + 1, k, by go_num, rfl, by omega, HE.out.symm, below_drewN HBW.out nq⟩
        case measure => simp [intOf]; omega
      · have hd0 : decide (b < 0) = false := decide_eq_false hb0
        obtain ⟨m, rfl⟩ := Int.eq_ofNat_of_zero_le (show 0 ≤ b by omega)
        have hmk : m < es.length := by omega
        obtain ⟨bp2, offp2, cp2, A2, c2, he2, _, _, m0, m1, m2, _⟩ := (HR.out.below hbw hB).get hmk
        injection he2 with e1 e2 e3
        injection e1 with e1
        injection e1 with e1 e4 e5
        subst e1 e3 e4
        have m1 := (hb1.cell (p := ⟨bp, offp + m * 3 + 1, none⟩) (show bp < wr.heap.size by omega)).trans m1
        have HG := Lib.hid (show ((es.map (·.j)).getD ((m : Int)).toNat 0) = es[m].j by simp [List.getD, List.getElem?_eq_getElem hmk])
        have hjm := HJ.out _ (List.getElem_mem hmk)
        obtain ⟨t, ht⟩ : ∃ t, t = es[m].j := ⟨_, rfl⟩
        rw [← ht] at m1 HG hjm
        rw [HG.out] at HS
        have z3 : (0 : Int) ≤ (m : Int) := by omega
        have z4 : (m : Int) < (es.length : Int) := by omega
        clear ht hx hb1 m0 m2
        by_cases hc : yj < t
        · have hd1 : decide (yj < t) = true := decide_eq_true hc
          have HE := Lib.hid (show bestTo es (k + 1) = k by rw [HS.out, if_pos (.inr hc)])
          go_wp2
          go_quiet (fail)
          go_wp2
          go_roundw
          case rel => exact ⟨k + 1, k, by go_num, rfl, by omega, HE.out.symm, below_drewN HBW.out nq⟩
          case measure => simp [intOf]; omega
        · have hd1 : decide (yj < t) = false := decide_eq_false hc
          have HE := Lib.hid (show bestTo es (k + 1) = m by rw [HS.out, if_neg (fun h => h.elim (fun h => by omega) (fun h => hc h))])
          go_wp2
          go_quiet (fail)
          go_wp2
          go_roundw
          case rel => exact ⟨k + 1, m, by go_num, rfl, by omega, HE.out.symm, below_drewN HBW.out nq⟩
          case measure => simp [intOf]; omega
    · obtain rfl : k = es.length := by omega
      go_wp2
      go_ret
      exact ⟨ret_int (by rw [HBI.out, ← HB.out]), hbw⟩
end Go.Proofs.Ytejjogpgolgdgaa

/-
  WALK: Smooth. (Printed by gen_w27.py.)
-/
namespace Go.Proofs.Ytejjogpgolgdgaa
open Go.RowKit Pulse

def lastE (g row : List (List Int)) : List End := lastEnds g row row.length
def smoothIs (g row : List (List Int)) : Bool := decide (rowE g row = 0) && decide (0 < (lastE g row).length)
def smoothN (g row : List (List Int)) : Int := if smoothIs g row = true then ((lastE g row).map (·.j)).getD (bestI (lastE g row)).toNat 0 else 0
theorem sm_row {g : List (List Int)} {l : List Int} (h : Sm g) : True := trivial

set_option maxRecDepth 100000 in
set_option maxHeartbeats 4000000 in
theorem pSmooth (A A' : Option Addr) (k c k' c' : Nat) (g row : List (List Int)) (w : World) (hs : Sm g) (hs' : Sm row) (B : Nat) (hB : B ≤ w.heap.size) (hr : TRd w B A k g) (hr' : TRd w B A' k' row) :
    Calls Try.prog 21 #[.slice A k c, .slice A' k' c'] w fun e w' => e = .returned (.tuple #[.int .i64 (smoothN g row), .bool (smoothIs g row), .int .i64 (rowE g row)]) ∧ Below w.heap.size w w' := by
  have hr := hr.more hB
  have hr' := hr'.more hB
  obtain rfl := hr.len
  obtain rfl := hr'.len
  have HP := Lib.hid (prowed A A' g.length c row.length c' g row w hs hs' w.heap.size (Nat.le_refl _) hr hr')
  by_cases h : rowE g row = 0
  · have HV := Lib.hid h
    obtain ⟨hv, h1, h5, _⟩ := rowE_ok h
    rw [h] at HP
    have HSI := Lib.hid (show smoothIs g row = decide (0 < (lastE g row).length) by rw [smoothIs, h]; rfl)
    have HSN := Lib.hid (show smoothN g row = if smoothIs g row = true then ((lastE g row).map (·.j)).getD (bestI (lastE g row)).toNat 0 else 0 from rfl)
    obtain ⟨hlo, hll⟩ := lastEnds_ok (row := row) hv row.length
    have HLO := Lib.hid (show ∀ e ∈ lastE g row, 0 ≤ e.j ∧ e.j ≤ 6 from fun e he => ⟨(hlo e he).2.2.1, (hlo e he).2.2.2.1⟩)
    have hll : (lastE g row).length ≤ 343 := hll
    have HG := Lib.hid hv
    clear hlo h hv
    have HBB := Lib.hid (bestTo_bd (lastE g row) (lastE g row).length (Nat.le_refl _))
    have HBP := Lib.hid (bestTo_pos (lastE g row) (lastE g row).length (Nat.le_refl _))
    have HB0 := Lib.hid (show (lastE g row).length = 0 → bestI (lastE g row) = -1 from fun h => by rw [bestI, h]; rfl)
    have HLE := Lib.hid (show ∀ (q : Nat), row.length = q + 1 → (endsTo g row row.length)[q]? = some (lastE g row) from fun q hq => by rw [endsTo_get g row row.length q (by omega)]; rw [lastE, hq])
    have HEL := Lib.hid (endsTo_len g row row.length)
    obtain ⟨ess, hess⟩ : ∃ ess, ess = endsTo g row row.length := ⟨_, rfl⟩
    rw [← hess] at HLE HEL
    have HES := Lib.hid hess
    clear hess
    obtain ⟨es, hes⟩ : ∃ es, es = lastE g row := ⟨_, rfl⟩
    rw [← hes] at HSI HSN HLO hll HBB HBP HB0 HLE
    clear hes
    go_enter Try.func21, Try.ntmps21
    go_wp2_with fail
    refine (HP.out).mono ?_
    rintro e w1 ⟨rfl, hb1⟩
    have s1 := hb1.size
    have HB1 := Lib.hid hb1
    have hr := (hr.below hb1).more s1
    have hr' := (hr'.below hb1).more s1
    clear hb1
    go_wp2_with fail
    refine (pends A A' g.length c row.length c' g row w1 HG.out hs' w1.heap.size (Nat.le_refl _) hr hr').mono ?_
    rw [← HES.out]
    rintro e w2 ⟨u, Hs, rfl, hown, het, hb2⟩
    obtain ⟨Au, cu, rfl, _, _⟩ := own_cap hown
    have hrw := Rd.of_own hown
    have hq1 : row.length - 1 < ess.length := by have := HEL.out; omega
    obtain ⟨Hl, hHl, hep⟩ := het.row hq1
    have hee : ess[row.length - 1] = es := by have h := HLE.out (row.length - 1) (by omega); rw [List.getElem?_eq_getElem hq1] at h; injection h
    rw [hee] at hep
    obtain ⟨bo, offo, hAo, hbo, hco⟩ := hrw.head hHl
    subst hAo
    obtain ⟨Ap, cp, rfl, _, _⟩ := hep.cap
    have HEP := Lib.hid hep
    clear hown het hrw hep hHl hee hq1
    have s2 := hb2.size
    have HB2 := Lib.hid (HB1.out.trans (hb2.mono (by have := HB1.out.size; omega)))
    have hr := (hr.below hb2).more s2
    have hr' := (hr'.below hb2).more s2
    clear hb2
    have z0 : (0 : Int) < (row.length : Int) := by omega
    have zq : IntKind.i64.wrap ((row.length : Int) - 1) = ((row.length - 1 : Nat) : Int) := by rw [IntWalk.i64_in _ (by omega)]; omega
    have z1 : ((row.length - 1 : Nat) : Int) < (row.length : Int) := by omega
    have z2 : (0 : Int) ≤ ((row.length - 1 : Nat) : Int) := by omega
    have zr : (row.length : Int) - 1 = ((row.length - 1 : Nat) : Int) := by omega
    generalize hqq : row.length - 1 = qq at *
    clear hqq zr
    by_cases hp : 0 < es.length
    · have HP0 := Lib.hid hp
      obtain ⟨m, hm⟩ := Int.eq_ofNat_of_zero_le (show 0 ≤ bestI es from HBP.out hp)
      have hml : m < es.length := by have := HBB.out.2; unfold bestI at hm; omega
      have HM := Lib.hid hm
      have HBST := Lib.hid (pbest (.slice Ap es.length cp) es w2 (by omega) HLO.out (fun x => x < w1.heap.size ∨ (Value.slice (some ⟨bo, offo, none⟩) row.length cu).ownBlock = some x) w2.heap.size (Nat.le_refl _) HEP.out)
      rw [hm] at HBST
      clear hm
      go_wp2_with fail
      refine (HBST.out).mono ?_
      rintro e w3 ⟨rfl, hb3⟩
      have s3 := hb3.size
      have HB3 := Lib.hid (HB2.out.trans (hb3.mono (by have := HB2.out.size; omega)))
      have hr := (hr.below hb3).more s3
      have hr' := (hr'.below hb3).more s3
      have hbest := hb3
      clear hb3
      obtain ⟨bp, offp, cp2, A2, c2, he, hbp, _, k0, k1, k2, _⟩ := HEP.out.get hml
      injection he with e1 e2 e3
      subst e1 e3
      have k1 := (hbest.cell (p := ⟨bp, offp + m * 3 + 1, none⟩) hbp).trans k1
      have HSV := Lib.hid (show smoothN g row = es[m].j by rw [HSN.out, HSI.out, decide_eq_true HP0.out, if_pos rfl, HM.out]; simp [List.getD, List.getElem?_eq_getElem hml])
      obtain ⟨t, ht⟩ : ∃ t, t = es[m].j := ⟨_, rfl⟩
      rw [← ht] at k1 HSV
      have hm0 : ¬ (m : Int) < 0 := by omega
      have zm : (0 : Int) ≤ (m : Int) := by omega
      have zm1 : (m : Int) < (es.length : Int) := by omega
      clear ht k0 k2 hbest
      go_wp2
      refine bodyPost_ret (results_tmp3 rfl _ _ _) rfl ?_
      exact ⟨ret_three (by rw [HSV.out]; rfl) (by rw [HSI.out, decide_eq_true HP0.out]; rfl) (by rw [HV.out]; rfl), HB3.out⟩
    · have HP0 := Lib.hid hp
      have HBST := Lib.hid (pbest (.slice Ap es.length cp) es w2 (by omega) HLO.out (fun x => x < w1.heap.size ∨ (Value.slice (some ⟨bo, offo, none⟩) row.length cu).ownBlock = some x) w2.heap.size (Nat.le_refl _) HEP.out)
      rw [HB0.out (by omega)] at HBST
      go_wp2_with fail
      refine (HBST.out).mono ?_
      rintro e w3 ⟨rfl, hb3⟩
      have s3 := hb3.size
      have HB3 := Lib.hid (HB2.out.trans (hb3.mono (by have := HB2.out.size; omega)))
      have hr := (hr.below hb3).more s3
      have hr' := (hr'.below hb3).more s3
      clear hb3
      go_wp2
      refine bodyPost_ret (results_tmp3 rfl _ _ _) rfl ?_
      exact ⟨ret_three (by rw [HSN.out, HSI.out, decide_eq_false HP0.out]; rfl) (by rw [HSI.out, decide_eq_false HP0.out]; rfl) (by rw [HV.out]; rfl), HB3.out⟩
  · have hd : (rowE g row != 0) = true := by simpa using h
    have HI := Lib.hid (show smoothIs g row = false by rw [smoothIs, decide_eq_false h, Bool.false_and])
    have HE := Lib.hid (show smoothN g row = 0 by rw [smoothN, HI.out]; rfl)
    clear h
    generalize rowE g row = x at *
    go_enter Try.func21, Try.ntmps21
    go_wp2_with fail
    refine (HP.out).mono ?_
    rintro e w1 ⟨rfl, hb1⟩
    have s1 := hb1.size
    have HB1 := Lib.hid hb1
    have hr := (hr.below hb1).more s1
    have hr' := (hr'.below hb1).more s1
    clear hb1
    go_wp2
    refine bodyPost_ret (results_tmp3 rfl _ _ _) rfl ?_
    exact ⟨ret_three (by rw [HE.out]; rfl) (by rw [HI.out]; rfl) rfl, HB1.out⟩
end Go.Proofs.Ytejjogpgolgdgaa

/-
  WALKS: gains, known, many, Long. (Printed by gen_w28.py.)
-/
namespace Go.Proofs.Ytejjogpgolgdgaa
open Go.RowKit Pulse

theorem kn1 : waysN [[2, 1]] [3] = 4 := by decide +kernel
theorem kn2 : wishE [[2, 1]] [3] = 0 := by decide +kernel
theorem kn3 : calmN [[2, 1]] [3] = 1 := by decide +kernel
theorem kn4 : voltsIs [[2, 1]] [3] = true := by decide +kernel
theorem kn5 : quietL [[2, 1]] = [-1, 2] := by decide +kernel
theorem kn6 : quietIs [[2, 1]] = true := by decide +kernel
theorem kn7 : vldG [[2, 1]] = 0 := by decide +kernel
theorem kn8 : smoothN [[2, 1]] [[3], [5]] = 1 := by decide +kernel
theorem kn9 : smoothIs [[2, 1]] [[3], [5]] = true := by decide +kernel
theorem kn10 : rowE [[2, 1]] [[3], [5]] = 0 := by decide +kernel
theorem smG : Sm [[2, 1]] := by unfold Sm; simp
theorem smR : Sm [[3], [5]] := by unfold Sm; simp
theorem tab_one {w : World} {B : Nat} {X : Nat → Prop} {v : Value} {p : List Int} (h : RowAt w B X v p) : Tab w B X [v] [p] := Tab.nil.snoc h
theorem rowAt_lit {w : World} {g B n : Nat} {cs : Array Value} {p : List Int} (hb : w.heap[g]? = some (.cells cs 3 (0, 0))) (h : cs.toList = ints p) (hn : n = p.length) (hm : p.length ≤ 1000) (hB : g < B) : RowAt w B (fun _ => False) (.slice (some ⟨g, 0, none⟩) n n) p := by
  subst hn
  have hs : cs.size = p.length * 1 := by rw [← Array.length_toList, h]; simp
  refine ⟨some ⟨g, 0, none⟩, p.length, rfl, Nat.le_refl _, by unfold maxLen; omega, ?_, fun _ _ _ _ _ h => h⟩
  have := rd_lit (sz := 1) (n := p.length) hb hs
  rw [h] at this
  exact this.more (by omega)
theorem pgains (w : World) : Calls Try.prog 54 #[] w fun e w' => ∃ A c, e = .returned (.slice A 1 c) ∧ TRd w' w'.heap.size A 1 [[2, 1]] ∧ Below w.heap.size w w' := by
  go_enter Try.func54, Try.ntmps54
  go_wp2
  go_ret
  refine ⟨_, _, rfl, ?_, ((Below.refl _ _).alloc (Nat.le_refl _) _).alloc (by simp) _⟩
  have h1 := blk_alloc (blk_new w 3 #[.int .i64 2, .int .i64 1]) (.cells #[.slice (some ⟨w.heap.size, 0, none⟩) 2 2] 23)
  have h2 := blk_new (w.alloc (.cells #[.int .i64 2, .int .i64 1] 3)) 23 #[.slice (some ⟨w.heap.size, 0, none⟩) 2 2]
  refine ⟨[.slice (some ⟨w.heap.size, 0, none⟩) 2 2], ?_, tab_one (rowAt_lit h1 rfl rfl (by simp) (by simp <;> omega))⟩
  have := rd_lit (sz := 1) (n := 1) h2 rfl
  simpa using this.more (by simp)
theorem known_end (w : World) : True := trivial

set_option maxRecDepth 100000 in
set_option maxHeartbeats 4000000 in
theorem known (w : World) : Calls Try.prog 18 #[] w fun e w' => e = .returned (.bool true) ∧ Below w.heap.size w w' := by
  go_enter Try.func18, Try.ntmps18
  go_wp2_with fail
  refine (pgains _).mono ?_
  rintro e w1 ⟨A1, c1, rfl, r1, hb1⟩
  have s1 := hb1.size
  have HB1 := Lib.hid hb1
  clear hb1
  go_wp2_with fail
  have s2 : (w1.alloc (.cells #[.int .i64 3] 3)).heap.size = w1.heap.size + 1 := by simp
  have r1 := (r1.alloc (Nat.le_refl _) (.cells #[.int .i64 3] 3)).more (B' := (w1.alloc (.cells #[.int .i64 3] 3)).heap.size) (by omega)
  have HL := Lib.hid (blk_new w1 3 #[.int .i64 3])
  have HB2 := Lib.hid (HB1.out.alloc (HB1.out.size) (.cells #[.int .i64 3] 3))
  have rl : Rd (w1.alloc (.cells #[.int .i64 3] 3)) (w1.alloc (.cells #[.int .i64 3] 3)).heap.size 1 (some ⟨w1.heap.size, 0, none⟩) 1 (ints [3]) := (rd_lit HL.out rfl).more (by simp)
  skip
  refine (pWays _ _ _ _ _ _ [[2, 1]] [3] (w1.alloc (.cells #[.int .i64 3] 3)) smG (by simp) (w1.alloc (.cells #[.int .i64 3] 3)).heap.size (Nat.le_refl _) r1 rl).mono ?_
  rw [kn1, kn2]
  rintro e w3 ⟨rfl, hb3⟩
  have s3 := hb3.size
  have HB3 := Lib.hid (HB2.out.trans (hb3.mono (by have := HB2.out.size; omega)))
  have r1 := (r1.below hb3).more s3
  have rl := (rl.below hb3).more s3
  have HL := Lib.hid (blk_below HL.out hb3 (blk_lt HL.out))
  clear hb3
  clear rl HL r1
  go_wp2_with fail
  refine (pgains _).mono ?_
  rintro e w4 ⟨A4, c4, rfl, r4, hb4⟩
  have s4 := hb4.size
  have HB4 := Lib.hid (HB3.out.trans (hb4.mono (by have := HB3.out.size; omega)))
  clear hb4
  go_wp2_with fail
  have s5 : (w4.alloc (.cells #[.int .i64 3] 3)).heap.size = w4.heap.size + 1 := by simp
  have r4 := (r4.alloc (Nat.le_refl _) (.cells #[.int .i64 3] 3)).more (B' := (w4.alloc (.cells #[.int .i64 3] 3)).heap.size) (by omega)
  have HL := Lib.hid (blk_new w4 3 #[.int .i64 3])
  have HB5 := Lib.hid (HB4.out.alloc (HB4.out.size) (.cells #[.int .i64 3] 3))
  have rl : Rd (w4.alloc (.cells #[.int .i64 3] 3)) (w4.alloc (.cells #[.int .i64 3] 3)).heap.size 1 (some ⟨w4.heap.size, 0, none⟩) 1 (ints [3]) := (rd_lit HL.out rfl).more (by simp)
  skip
  refine (pCalmest _ _ _ _ _ _ [[2, 1]] [3] (w4.alloc (.cells #[.int .i64 3] 3)) smG (by simp) (w4.alloc (.cells #[.int .i64 3] 3)).heap.size (Nat.le_refl _) r4 rl).mono ?_
  rw [kn2, kn3, kn4]
  rintro e w6 ⟨rfl, hb6⟩
  have s6 := hb6.size
  have HB6 := Lib.hid (HB5.out.trans (hb6.mono (by have := HB5.out.size; omega)))
  have r4 := (r4.below hb6).more s6
  have rl := (rl.below hb6).more s6
  have HL := Lib.hid (blk_below HL.out hb6 (blk_lt HL.out))
  clear hb6
  clear rl HL r4
  go_wp2_with fail
  refine (pgains _).mono ?_
  rintro e w7 ⟨A7, c7, rfl, r7, hb7⟩
  have s7 := hb7.size
  have HB7 := Lib.hid (HB6.out.trans (hb7.mono (by have := HB6.out.size; omega)))
  clear hb7
  go_wp2_with fail
  refine (pQuiet _ _ _ [[2, 1]] w7 smG w7.heap.size (Nat.le_refl _) r7).mono ?_
  rw [kn5, kn6, kn7]
  rintro e w8 ⟨A8, c8, rfl, r8, hb8⟩
  have s8 := hb8.size
  have HB8 := Lib.hid (HB7.out.trans (hb8.mono (by have := HB7.out.size; omega)))
  have r7 := (r7.below hb8).more s8
  clear hb8
  clear r7
  go_wp2_with fail
  refine (pgains _).mono ?_
  rintro e w9 ⟨A9, c9, rfl, r9, hb9⟩
  have s9 := hb9.size
  have HB9 := Lib.hid (HB8.out.trans (hb9.mono (by have := HB8.out.size; omega)))
  have r8 := (r8.below hb9).more s9
  clear hb9
  go_wp2_with fail
  have s10 : (w9.alloc (.cells #[.int .i64 3] 3)).heap.size = w9.heap.size + 1 := by simp
  have r8 := (r8.alloc (Nat.le_refl _) (.cells #[.int .i64 3] 3)).more (B' := (w9.alloc (.cells #[.int .i64 3] 3)).heap.size) (by omega)
  have r9 := (r9.alloc (Nat.le_refl _) (.cells #[.int .i64 3] 3)).more (B' := (w9.alloc (.cells #[.int .i64 3] 3)).heap.size) (by omega)
  have HL := Lib.hid (blk_new w9 3 #[.int .i64 3])
  have HB10 := Lib.hid (HB9.out.alloc (HB9.out.size) (.cells #[.int .i64 3] 3))
  have s11 : ((w9.alloc (.cells #[.int .i64 3] 3)).alloc (.cells #[.int .i64 5] 3)).heap.size = (w9.alloc (.cells #[.int .i64 3] 3)).heap.size + 1 := by simp
  have r8 := (r8.alloc (Nat.le_refl _) (.cells #[.int .i64 5] 3)).more (B' := ((w9.alloc (.cells #[.int .i64 3] 3)).alloc (.cells #[.int .i64 5] 3)).heap.size) (by omega)
  have r9 := (r9.alloc (Nat.le_refl _) (.cells #[.int .i64 5] 3)).more (B' := ((w9.alloc (.cells #[.int .i64 3] 3)).alloc (.cells #[.int .i64 5] 3)).heap.size) (by omega)
  have HL := Lib.hid (blk_alloc HL.out (.cells #[.int .i64 5] 3))
  have HM := Lib.hid (blk_new (w9.alloc (.cells #[.int .i64 3] 3)) 3 #[.int .i64 5])
  have HB11 := Lib.hid (HB10.out.alloc (HB10.out.size) (.cells #[.int .i64 5] 3))
  have s12 : (((w9.alloc (.cells #[.int .i64 3] 3)).alloc (.cells #[.int .i64 5] 3)).alloc (.cells #[.slice (some ⟨w9.heap.size, 0, none⟩) 1 1, .slice (some ⟨w9.heap.size + 1, 0, none⟩) 1 1] 23)).heap.size = ((w9.alloc (.cells #[.int .i64 3] 3)).alloc (.cells #[.int .i64 5] 3)).heap.size + 1 := by simp
  have r8 := (r8.alloc (Nat.le_refl _) (.cells #[.slice (some ⟨w9.heap.size, 0, none⟩) 1 1, .slice (some ⟨w9.heap.size + 1, 0, none⟩) 1 1] 23)).more (B' := (((w9.alloc (.cells #[.int .i64 3] 3)).alloc (.cells #[.int .i64 5] 3)).alloc (.cells #[.slice (some ⟨w9.heap.size, 0, none⟩) 1 1, .slice (some ⟨w9.heap.size + 1, 0, none⟩) 1 1] 23)).heap.size) (by omega)
  have r9 := (r9.alloc (Nat.le_refl _) (.cells #[.slice (some ⟨w9.heap.size, 0, none⟩) 1 1, .slice (some ⟨w9.heap.size + 1, 0, none⟩) 1 1] 23)).more (B' := (((w9.alloc (.cells #[.int .i64 3] 3)).alloc (.cells #[.int .i64 5] 3)).alloc (.cells #[.slice (some ⟨w9.heap.size, 0, none⟩) 1 1, .slice (some ⟨w9.heap.size + 1, 0, none⟩) 1 1] 23)).heap.size) (by omega)
  have HL := Lib.hid (blk_alloc HL.out (.cells #[.slice (some ⟨w9.heap.size, 0, none⟩) 1 1, .slice (some ⟨w9.heap.size + 1, 0, none⟩) 1 1] 23))
  have HM := Lib.hid (blk_alloc HM.out (.cells #[.slice (some ⟨w9.heap.size, 0, none⟩) 1 1, .slice (some ⟨w9.heap.size + 1, 0, none⟩) 1 1] 23))
  have HT := Lib.hid (blk_new ((w9.alloc (.cells #[.int .i64 3] 3)).alloc (.cells #[.int .i64 5] 3)) 23 #[.slice (some ⟨w9.heap.size, 0, none⟩) 1 1, .slice (some ⟨w9.heap.size + 1, 0, none⟩) 1 1])
  have HB12 := Lib.hid (HB11.out.alloc (HB11.out.size) (.cells #[.slice (some ⟨w9.heap.size, 0, none⟩) 1 1, .slice (some ⟨w9.heap.size + 1, 0, none⟩) 1 1] 23))
  have hm1 : (w9.alloc (.cells #[.int .i64 3] 3)).heap.size = w9.heap.size + 1 := by simp
  have rt : TRd (((w9.alloc (.cells #[.int .i64 3] 3)).alloc (.cells #[.int .i64 5] 3)).alloc (.cells #[.slice (some ⟨w9.heap.size, 0, none⟩) 1 1, .slice (some ⟨w9.heap.size + 1, 0, none⟩) 1 1] 23)) (((w9.alloc (.cells #[.int .i64 3] 3)).alloc (.cells #[.int .i64 5] 3)).alloc (.cells #[.slice (some ⟨w9.heap.size, 0, none⟩) 1 1, .slice (some ⟨w9.heap.size + 1, 0, none⟩) 1 1] 23)).heap.size (some ⟨w9.heap.size + 1 + 1, 0, none⟩) 2 [[3], [5]] := by
    have e2 := HM.out
    rw [hm1] at e2
    have e3 := HT.out
    simp only [World.size_alloc] at e3
    refine ⟨[.slice (some ⟨w9.heap.size, 0, none⟩) 1 1, .slice (some ⟨w9.heap.size + 1, 0, none⟩) 1 1], ?_, (tab_one (rowAt_lit HL.out rfl rfl (by simp) (by simp <;> omega))).snoc (rowAt_lit e2 rfl rfl (by simp) (by simp <;> omega))⟩
    have := rd_lit (sz := 1) (n := 2) e3 rfl
    simpa using this.more (by simp)
  skip
  refine (pSmooth _ _ _ _ _ _ [[2, 1]] [[3], [5]] (((w9.alloc (.cells #[.int .i64 3] 3)).alloc (.cells #[.int .i64 5] 3)).alloc (.cells #[.slice (some ⟨w9.heap.size, 0, none⟩) 1 1, .slice (some ⟨w9.heap.size + 1, 0, none⟩) 1 1] 23)) smG smR (((w9.alloc (.cells #[.int .i64 3] 3)).alloc (.cells #[.int .i64 5] 3)).alloc (.cells #[.slice (some ⟨w9.heap.size, 0, none⟩) 1 1, .slice (some ⟨w9.heap.size + 1, 0, none⟩) 1 1] 23)).heap.size (Nat.le_refl _) r9 rt).mono ?_
  rw [kn8, kn9, kn10]
  rintro e w13 ⟨rfl, hb13⟩
  have s13 := hb13.size
  have HB13 := Lib.hid (HB12.out.trans (hb13.mono (by have := HB12.out.size; omega)))
  have r8 := (r8.below hb13).more s13
  have r9 := (r9.below hb13).more s13
  have rt := (rt.below hb13).more s13
  have HL := Lib.hid (blk_below HL.out hb13 (blk_lt HL.out))
  have HM := Lib.hid (blk_below HM.out hb13 (blk_lt HM.out))
  have HT := Lib.hid (blk_below HT.out hb13 (blk_lt HT.out))
  clear hb13
  clear rt HL HM HT r9
  go_wp2_with fail
  have s14 : (w13.alloc (.cells #[.int .i64 (-1), .int .i64 2] 3)).heap.size = w13.heap.size + 1 := by simp
  have r8 := (r8.alloc (Nat.le_refl _) (.cells #[.int .i64 (-1), .int .i64 2] 3)).more (B' := (w13.alloc (.cells #[.int .i64 (-1), .int .i64 2] 3)).heap.size) (by omega)
  have HL := Lib.hid (blk_new w13 3 #[.int .i64 (-1), .int .i64 2])
  have HB14 := Lib.hid (HB13.out.alloc (HB13.out.size) (.cells #[.int .i64 (-1), .int .i64 2] 3))
  have rl : Rd (w13.alloc (.cells #[.int .i64 (-1), .int .i64 2] 3)) (w13.alloc (.cells #[.int .i64 (-1), .int .i64 2] 3)).heap.size 1 (some ⟨w13.heap.size, 0, none⟩) 2 (ints [-1, 2]) := (rd_lit HL.out rfl).more (by simp)
  skip
  refine (rSameInts_is true _ _ _ _ _ _ [-1, 2] [-1, 2] (by decide) (w13.alloc (.cells #[.int .i64 (-1), .int .i64 2] 3)) (by simp) (by simp) (w13.alloc (.cells #[.int .i64 (-1), .int .i64 2] 3)).heap.size (Nat.le_refl _) r8 rl).mono ?_
  rintro e w15 ⟨rfl, hb15⟩
  have s15 := hb15.size
  have HB15 := Lib.hid (HB14.out.trans (hb15.mono (by have := HB14.out.size; omega)))
  have r8 := (r8.below hb15).more s15
  have rl := (rl.below hb15).more s15
  have HL := Lib.hid (blk_below HL.out hb15 (blk_lt HL.out))
  clear hb15
  go_wp2
  go_ret
  exact ⟨rfl, HB15.out⟩

theorem many (A : Option Addr) (k c : Nat) (w : World) (hk : k ≤ maxLen) : Calls Try.prog 17 #[.slice A k c] w fun e w' => e = .returned (.bool (decide (40 < k))) ∧ w = w' := by
  by_cases h : 40 < k
  · have hd : decide (40 < k) = true := by simpa using h
    go_enter Try.func17, Try.ntmps17
    go_wp2
    go_ret
    exact ⟨ret_bool (by simp; omega), rfl⟩
  · have hd : decide (40 < k) = false := by simpa using h
    go_enter Try.func17, Try.ntmps17
    go_wp2
    go_ret
    exact ⟨ret_bool (by simp; omega), rfl⟩
/-- A table is long. -/
def longT (g : List (List Int)) : Bool := (g.any fun l => decide (40 < l.length)) || decide (40 < g.length)
theorem longT_sm {g : List (List Int)} (h : longT g = false) : Sm g := by
  rw [longT, Bool.or_eq_false_iff, List.any_eq_false, decide_eq_false_iff_not] at h
  exact ⟨by omega, fun l hl => by have := h.1 l hl; simp at this; omega⟩
set_option maxRecDepth 100000 in
set_option maxHeartbeats 1000000 in
theorem long_is (r : Bool) (A : Option Addr) (k c : Nat) (g : List (List Int)) (hlong : longT g = r) (w : World) (hk : k ≤ maxLen) (B : Nat) (hr : TRd w B A k g) (hrl : ∀ l ∈ g, l.length ≤ maxLen) : Calls Try.prog 16 #[.slice A k c] w fun e w' => e = .returned (.bool r) ∧ w = w' := by
  obtain rfl := hr.len
  have HR := Lib.hid hlong
  have HLE := Lib.hid (show longT g = ((g.any fun l => decide (40 < l.length)) || decide (40 < g.length)) from rfl)
  have HRL := Lib.hid hrl
  have hk2 := hk
  unfold maxLen at hk2
  clear hlong hrl
  go_enter Try.func16, Try.ntmps16
  go_wp2
  go_loop [3] (fun i => ∃ q : Nat, i = .int .i64 q ∧ q ≤ g.length ∧ Hid (((g.take q).any fun l => decide (40 < l.length)) = false)) (fun i => g.length - (intOf i).toNat)
  case atStart => exact ⟨0, rfl, Nat.zero_le _, rfl⟩
  case round =>
    obtain ⟨q, rfl, hq, hno⟩ := hrel
    by_cases hlt : q < g.length
    · obtain ⟨b, off, A1, c1, rfl, hbb, g0, _, _, _⟩ := hr.row hlt
      have hl1 := HRL.out _ (List.getElem_mem hlt)
      have ht := any_take (fun l : List Int => decide (40 < l.length)) g q hlt
      rw [hno.out, Bool.false_or] at ht
      have HTT := Lib.hid ht
      have HIN := Lib.hid (show decide (40 < g[q].length) = true → r = true from fun h => by
        rw [← HR.out, HLE.out, Bool.or_eq_true]
        exact .inl (List.any_eq_true.2 ⟨_, List.getElem_mem hlt, h⟩))
      obtain ⟨l, hl⟩ : ∃ l, l = g[q] := ⟨_, rfl⟩
      rw [← hl] at g0 hl1 HTT HIN
      clear hl ht
      obtain ⟨d, hd⟩ : ∃ d, d = decide (40 < l.length) := ⟨_, rfl⟩
      have HD := Lib.hid hd.symm
      rw [← hd] at HTT HIN
      clear hd
      have z0 : (0 : Int) ≤ (q : Int) := by omega
      have z1 : (q : Int) < (g.length : Int) := by omega
      go_wp2_with fail
      refine (many A1 l.length c1 _ hl1).mono ?_
      rw [HD.out]
      rintro e w' ⟨rfl, rfl⟩
      cases d with
      | true =>
        go_wp2
        go_ret
        exact ⟨ret_bool (HIN.out (by first | rfl | trivial)).symm, rfl⟩
      | false =>
        go_wp2
        go_round
        case rel => exact ⟨q + 1, by go_num, by omega, HTT⟩
        case measure => simp [intOf]; omega
    · obtain rfl : q = g.length := by omega
      have HE := Lib.hid (show r = decide (40 < g.length) by
        have h := hno.out
        rw [List.take_length] at h
        rw [← HR.out, HLE.out, h, Bool.false_or])
      by_cases h : 40 < g.length
      · have hd : decide (40 < g.length) = true := by simpa using h
        rw [hd] at HE
        go_wp2
        go_ret
        exact ⟨ret_bool (by rw [HE.out]; simp; omega), rfl⟩
      · have hd : decide (40 < g.length) = false := by simpa using h
        rw [hd] at HE
        go_wp2
        go_ret
        exact ⟨ret_bool (by rw [HE.out]; simp; omega), rfl⟩
end Go.Proofs.Ytejjogpgolgdgaa

/-
  THE WALK of the law VoltVolts. (Printed by gen_lvolts.py.)
-/
namespace Go.Proofs.Ytejjogpgolgdgaa
open Go.RowKit Pulse

theorem voltsIs_ways {g : List (List Int)} {l : List Int} : voltsIs g l = decide (0 < waysN g l) := by
  unfold voltsIs waysN
  by_cases h : wishE g l = 0
  · rw [if_pos h, h]; simp
  · rw [if_neg h, decide_eq_false h]; simp
theorem waysN_bounds (g : List (List Int)) (l : List Int) : 0 ≤ waysN g l ∧ waysN g l ≤ 343 := by
  unfold waysN
  split
  · have := makeL_len (l := l) (wishE_ok ‹_›).1; omega
  · omega
theorem voltsL_len (g : List (List Int)) (l : List Int) : (voltsL g l).length ≤ 3 := by
  unfold voltsL
  split
  · rename_i h
    simp only [voltsIs, Bool.and_eq_true, decide_eq_true_eq] at h
    rw [headD_get h.2]
    have := (mem_makeL.1 (List.getElem_mem h.2)).1.1
    have := (vldG_ok (wishE_ok h.1).1).2.2.2.1
    omega
  · simp
theorem voltsL_check {g : List (List Int)} {l : List Int} (h : voltsIs g l = true) : checkE g l (voltsL g l) = 0 := by
  have h0 := h
  simp only [voltsIs, Bool.and_eq_true, decide_eq_true_eq] at h
  obtain ⟨h1, h2⟩ := h
  have hm : voltsL g l ∈ makeL g l := by rw [voltsL, if_pos h0, headD_get h2]; exact List.getElem_mem h2
  obtain ⟨⟨e1, e2⟩, e3⟩ := mem_makeL.1 hm
  rw [checkE, if_pos h1, if_pos, if_pos e3]
  simp only [vOk, withinB, isIn, Bool.and_eq_true, decide_eq_true_eq, List.all_eq_true]
  exact ⟨by omega, fun a ha => e2 a ha⟩

set_option maxRecDepth 100000 in
set_option maxHeartbeats 4000000 in
theorem lawVolts (A : Option Addr) (k c : Nat) (g : List (List Int)) (A' : Option Addr) (k' c' : Nat) (l : List Int) (A'' : Option Addr) (k'' c'' : Nat) (v : List Int) (w : World) (hk : k ≤ c) (hc : c ≤ maxLen) (hr : TRd w w.heap.size A k g) (hb : ∀ l ∈ g, l.length ≤ maxLen) (hk' : k' ≤ c') (hc' : c' ≤ maxLen) (hr' : Rd w w.heap.size 1 A' k' (ints l)) (hb' : Big l) (hk'' : k'' ≤ c'') (hc'' : c'' ≤ maxLen) (hr'' : Rd w w.heap.size 1 A'' k'' (ints v)) (hb'' : Big v) :
    Calls Try.prog 11 #[.slice A k c, .slice A' k' c', .slice A'' k'' c''] w fun e w' => e = .returned (.bool true) ∧ Below w.heap.size w w' := by
  have hm : k ≤ maxLen := Nat.le_trans hk hc
  have hm' : k' ≤ maxLen := Nat.le_trans hk' hc'
  have hm'' : k'' ≤ maxLen := Nat.le_trans hk'' hc''
  obtain rfl := hr.len
  obtain rfl := hr'.int_len
  obtain rfl := hr''.int_len
  by_cases h : longT g = true
  · skip
    go_enter Try.func11, Try.ntmps11
    go_wp2_with fail
    refine (long_is true _ _ _ g h w hm _ hr hb).mono ?_
    rintro e w' ⟨rfl, rfl⟩
    go_wp2_with fail
    refine (known w).mono ?_
    rintro e w1 ⟨rfl, hb1⟩
    have s1 := hb1.size
    have HB1 := Lib.hid hb1
    clear hb1
    go_wp2
    go_ret
    exact ⟨rfl, HB1.out⟩
  · skip
    have h : longT g = false := by simpa using h
    by_cases h' : 40 < l.length
    · skip
      go_enter Try.func11, Try.ntmps11
      go_wp2_with fail
      refine (long_is false _ _ _ g h w hm _ hr hb).mono ?_
      rintro e w' ⟨rfl, rfl⟩
      go_wp2_with fail
      refine (many _ _ _ w hm').mono ?_
      rw [show decide (40 < l.length) = true from by simpa using h']
      rintro e w' ⟨rfl, rfl⟩
      go_wp2_with fail
      refine (known w).mono ?_
      rintro e w1 ⟨rfl, hb1⟩
      have s1 := hb1.size
      have HB1 := Lib.hid hb1
      clear hb1
      go_wp2
      go_ret
      exact ⟨rfl, HB1.out⟩
    · skip
      by_cases h'' : 40 < v.length
      · skip
        go_enter Try.func11, Try.ntmps11
        go_wp2_with fail
        refine (long_is false _ _ _ g h w hm _ hr hb).mono ?_
        rintro e w' ⟨rfl, rfl⟩
        go_wp2_with fail
        refine (many _ _ _ w hm').mono ?_
        rw [show decide (40 < l.length) = false from by simpa using h']
        rintro e w' ⟨rfl, rfl⟩
        go_wp2_with fail
        refine (many _ _ _ w hm'').mono ?_
        rw [show decide (40 < v.length) = true from by simpa using h'']
        rintro e w' ⟨rfl, rfl⟩
        go_wp2_with fail
        refine (known w).mono ?_
        rintro e w1 ⟨rfl, hb1⟩
        have s1 := hb1.size
        have HB1 := Lib.hid hb1
        clear hb1
        go_wp2
        go_ret
        exact ⟨rfl, HB1.out⟩
      · skip
        have hwb := waysN_bounds g l
        have hvl := voltsL_len g l
        have HVI := Lib.hid (voltsIs_ways (g := g) (l := l))
        have HVC := Lib.hid (fun h => voltsL_check (g := g) (l := l) h)
        go_enter Try.func11, Try.ntmps11
        go_wp2_with fail
        refine (long_is false _ _ _ g h w hm _ hr hb).mono ?_
        rintro e w' ⟨rfl, rfl⟩
        go_wp2_with fail
        refine (many _ _ _ w hm').mono ?_
        rw [show decide (40 < l.length) = false from by simpa using h']
        rintro e w' ⟨rfl, rfl⟩
        go_wp2_with fail
        refine (many _ _ _ w hm'').mono ?_
        rw [show decide (40 < v.length) = false from by simpa using h'']
        rintro e w' ⟨rfl, rfl⟩
        have hs := longT_sm h
        have hl' : l.length ≤ 1000 := by omega
        have hl'' : v.length ≤ 1000 := by omega
        clear h h' h''
        go_wp2_with fail
        refine (pCheckVolts _ _ _ _ c _ c' _ c'' g l v w hs hl' hl'' w.heap.size (Nat.le_refl _) hr hr' hr'').mono ?_
        rintro e w1 ⟨rfl, hb1⟩
        have s1 := hb1.size
        have HB1 := Lib.hid hb1
        have hr := (hr.below hb1).more s1
        have hr' := (hr'.below hb1).more s1
        have hr'' := (hr''.below hb1).more s1
        clear hb1
        go_wp2_with fail
        refine (rCheckVolts _ _ _ _ c _ c' _ c'' g l v w1 hs hl' hl'' w1.heap.size (Nat.le_refl _) hr hr' hr'').mono ?_
        rintro e w2 ⟨rfl, hb2⟩
        have s2 := hb2.size
        have HB2 := Lib.hid (HB1.out.trans (hb2.mono (by have := HB1.out.size; omega)))
        have hr := (hr.below hb2).more s2
        have hr' := (hr'.below hb2).more s2
        have hr'' := (hr''.below hb2).more s2
        clear hb2
        go_wp2_with fail
        refine (pVolts _ _ _ c _ c' g l w2 hs hl' w2.heap.size (Nat.le_refl _) hr hr').mono ?_
        rintro e w3 ⟨A3, c3, rfl, r3, hb3⟩
        have s3 := hb3.size
        have HB3 := Lib.hid (HB2.out.trans (hb3.mono (by have := HB2.out.size; omega)))
        have hr := (hr.below hb3).more s3
        have hr' := (hr'.below hb3).more s3
        have hr'' := (hr''.below hb3).more s3
        clear hb3
        go_wp2_with fail
        refine (rWays _ _ _ c _ c' g l w3 hs hl' w3.heap.size (Nat.le_refl _) hr hr').mono ?_
        rintro e w4 ⟨rfl, hb4⟩
        have s4 := hb4.size
        have HB4 := Lib.hid (HB3.out.trans (hb4.mono (by have := HB3.out.size; omega)))
        have hr := (hr.below hb4).more s4
        have hr' := (hr'.below hb4).more s4
        have hr'' := (hr''.below hb4).more s4
        have r3 := (r3.below hb4).more s4
        clear hb4
        generalize wishE g l = e0 at *
        obtain ⟨n, hn⟩ : ∃ n, n = waysN g l := ⟨_, rfl⟩
        rw [← hn] at HVI hwb ⊢
        obtain ⟨b, hb0⟩ : ∃ b, b = voltsIs g l := ⟨_, rfl⟩
        rw [← hb0] at HVI HVC ⊢
        cases b with
        | true =>
          have z1 : 0 < n := by have := HVI.out; simpa using this
          have HC := Lib.hid (HVC.out rfl)
          clear hb0 hn
          go_wp2_with fail
          refine (rCheckVolts _ _ _ _ c _ c' _ c3 g l (voltsL g l) w4 hs hl' (by omega) w4.heap.size (Nat.le_refl _) hr hr' r3).mono ?_
          rw [HC.out]
          rintro e w5 ⟨rfl, hb5⟩
          have s5 := hb5.size
          have HB5 := Lib.hid (HB4.out.trans (hb5.mono (by have := HB4.out.size; omega)))
          have hr := (hr.below hb5).more s5
          have hr' := (hr'.below hb5).more s5
          have hr'' := (hr''.below hb5).more s5
          have r3 := (r3.below hb5).more s5
          clear hb5
          go_wp2_with fail
          refine (known w5).mono ?_
          rintro e w6 ⟨rfl, hb6⟩
          have s6 := hb6.size
          have HB6 := Lib.hid (HB5.out.trans (hb6.mono (by have := HB5.out.size; omega)))
          have hr := (hr.below hb6).more s6
          have hr' := (hr'.below hb6).more s6
          have hr'' := (hr''.below hb6).more s6
          have r3 := (r3.below hb6).more s6
          clear hb6
          go_wp2
          go_ret
          exact ⟨rfl, HB6.out⟩
        | false =>
          have z1 : ¬ 0 < n := by have := HVI.out; simpa using this
          obtain rfl : n = 0 := by omega
          have HC := Lib.hid (show (voltsL g l).length = 0 by rw [voltsL, ← hb0]; rfl)
          rw [HC.out]
          clear hb0 hn
          go_wp2_with fail
          refine (known w4).mono ?_
          rintro e w5 ⟨rfl, hb5⟩
          have s5 := hb5.size
          have HB5 := Lib.hid (HB4.out.trans (hb5.mono (by have := HB4.out.size; omega)))
          have hr := (hr.below hb5).more s5
          have hr' := (hr'.below hb5).more s5
          have hr'' := (hr''.below hb5).more s5
          have r3 := (r3.below hb5).more s5
          clear hb5
          go_wp2
          go_ret
          exact ⟨rfl, HB5.out⟩
end Go.Proofs.Ytejjogpgolgdgaa

/-
  THE WALK of the law VoltFields. (Printed by gen_lfields.py.)
-/
namespace Go.Proofs.Ytejjogpgolgdgaa
open Go.RowKit Pulse

theorem fieldE_ok {g : List (List Int)} {v : List Int} (h : fieldE g v = 0) : vldG g = 0 ∧ v.length = wid g ∧ Forces 3 v := by
  by_cases hv : vldG g = 0
  · rw [fieldE, if_pos hv] at h
    by_cases ho : vOk g v = true
    · exact ⟨hv, vOk_ok ho⟩
    · rw [if_neg ho] at h; omega
  · rw [fieldE, if_neg hv] at h
    exact absurd h hv
theorem fieldR_len (g : List (List Int)) (v : List Int) : (fieldR g v).length ≤ 3 := by
  by_cases h : fieldE g v = 0
  · rw [fieldR, if_pos h, fieldL_len]
    exact (vldG_ok (fieldE_ok h).1).2.1
  · rw [fieldR, if_neg h]; simp

set_option maxRecDepth 100000 in
set_option maxHeartbeats 4000000 in
theorem lawFields (A : Option Addr) (k c : Nat) (g : List (List Int)) (A' : Option Addr) (k' c' : Nat) (v : List Int) (w : World) (hk : k ≤ c) (hc : c ≤ maxLen) (hr : TRd w w.heap.size A k g) (hb : ∀ l ∈ g, l.length ≤ maxLen) (hk' : k' ≤ c') (hc' : c' ≤ maxLen) (hr' : Rd w w.heap.size 1 A' k' (ints v)) (hb' : Big v) :
    Calls Try.prog 5 #[.slice A k c, .slice A' k' c'] w fun e w' => e = .returned (.bool true) ∧ Below w.heap.size w w' := by
  have hm : k ≤ maxLen := Nat.le_trans hk hc
  have hm' : k' ≤ maxLen := Nat.le_trans hk' hc'
  obtain rfl := hr.len
  obtain rfl := hr'.int_len
  by_cases h : longT g = true
  · skip
    go_enter Try.func5, Try.ntmps5
    go_wp2_with fail
    refine (long_is true _ _ _ g h w hm _ hr hb).mono ?_
    rintro e w' ⟨rfl, rfl⟩
    go_wp2_with fail
    refine (known w).mono ?_
    rintro e w1 ⟨rfl, hb1⟩
    have s1 := hb1.size
    have HB1 := Lib.hid hb1
    clear hb1
    go_wp2
    go_ret
    exact ⟨rfl, HB1.out⟩
  · skip
    have h : longT g = false := by simpa using h
    by_cases h' : 40 < v.length
    · skip
      go_enter Try.func5, Try.ntmps5
      go_wp2_with fail
      refine (long_is false _ _ _ g h w hm _ hr hb).mono ?_
      rintro e w' ⟨rfl, rfl⟩
      go_wp2_with fail
      refine (many _ _ _ w hm').mono ?_
      rw [show decide (40 < v.length) = true from by simpa using h']
      rintro e w' ⟨rfl, rfl⟩
      go_wp2_with fail
      refine (known w).mono ?_
      rintro e w1 ⟨rfl, hb1⟩
      have s1 := hb1.size
      have HB1 := Lib.hid hb1
      clear hb1
      go_wp2
      go_ret
      exact ⟨rfl, HB1.out⟩
    · skip
      have hfl := fieldR_len g v
      go_enter Try.func5, Try.ntmps5
      go_wp2_with fail
      refine (long_is false _ _ _ g h w hm _ hr hb).mono ?_
      rintro e w' ⟨rfl, rfl⟩
      go_wp2_with fail
      refine (many _ _ _ w hm').mono ?_
      rw [show decide (40 < v.length) = false from by simpa using h']
      rintro e w' ⟨rfl, rfl⟩
      have hs := longT_sm h
      have hl' : v.length ≤ 1000 := by omega
      clear h h'
      go_wp2_with fail
      refine (pField _ _ _ c _ c' g v w hs hl' w.heap.size (Nat.le_refl _) hr hr').mono ?_
      rintro e w1 ⟨v1, rfl, hown1, hb1⟩
      have s1 := hb1.size
      have HB1 := Lib.hid hb1
      have hr := (hr.below hb1).more s1
      have hr' := (hr'.below hb1).more s1
      obtain ⟨A1, c1, rfl, _, _⟩ := own_cap hown1
      have r1 := Rd.of_own hown1
      clear hb1 hown1
      go_wp2_with fail
      refine (rField _ _ _ c _ c' g v w1 hs hl' w1.heap.size (Nat.le_refl _) hr hr').mono ?_
      rintro e w2 ⟨v2, rfl, hown2, hb2⟩
      have s2 := hb2.size
      have HB2 := Lib.hid (HB1.out.trans (hb2.mono (by have := HB1.out.size; omega)))
      have hr := (hr.below hb2).more s2
      have hr' := (hr'.below hb2).more s2
      have r1 := (r1.below hb2).more s2
      obtain ⟨A2, c2, rfl, _, _⟩ := own_cap hown2
      have r2 := Rd.of_own hown2
      clear hb2 hown2
      generalize fieldE g v = e0 at *
      go_wp2_with fail
      refine (pValidate _ _ _ g w2 hs w2.heap.size (Nat.le_refl _) hr).mono ?_
      rintro e w3 ⟨rfl, hb3⟩
      have s3 := hb3.size
      have HB3 := Lib.hid (HB2.out.trans (hb3.mono (by have := HB2.out.size; omega)))
      have hr := (hr.below hb3).more s3
      have hr' := (hr'.below hb3).more s3
      have r1 := (r1.below hb3).more s3
      have r2 := (r2.below hb3).more s3
      clear hb3
      go_wp2_with fail
      refine (rValidate _ _ _ g w3 hs w3.heap.size (Nat.le_refl _) hr).mono ?_
      rintro e w4 ⟨rfl, hb4⟩
      have s4 := hb4.size
      have HB4 := Lib.hid (HB3.out.trans (hb4.mono (by have := HB3.out.size; omega)))
      have hr := (hr.below hb4).more s4
      have hr' := (hr'.below hb4).more s4
      have r1 := (r1.below hb4).more s4
      have r2 := (r2.below hb4).more s4
      clear hb4
      generalize vldG g = e1 at *
      go_wp2_with fail
      refine (rSameInts_is true _ _ _ _ _ _ (fieldR g v) (fieldR g v) (by simp) w4 (by omega) (by omega) w4.heap.size (Nat.le_refl _) r1 r2).mono ?_
      rintro e w5 ⟨rfl, hb5⟩
      have s5 := hb5.size
      have HB5 := Lib.hid (HB4.out.trans (hb5.mono (by have := HB4.out.size; omega)))
      have hr := (hr.below hb5).more s5
      have hr' := (hr'.below hb5).more s5
      have r1 := (r1.below hb5).more s5
      have r2 := (r2.below hb5).more s5
      clear hb5
      go_wp2_with fail
      refine (known w5).mono ?_
      rintro e w6 ⟨rfl, hb6⟩
      have s6 := hb6.size
      have HB6 := Lib.hid (HB5.out.trans (hb6.mono (by have := HB5.out.size; omega)))
      have hr := (hr.below hb6).more s6
      have hr' := (hr'.below hb6).more s6
      have r1 := (r1.below hb6).more s6
      have r2 := (r2.below hb6).more s6
      clear hb6
      go_wp2
      go_ret
      exact ⟨rfl, HB6.out⟩
end Go.Proofs.Ytejjogpgolgdgaa
