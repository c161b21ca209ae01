/-
  WALKS: Curve, of the program and of the reference.
-/
import Derived.Test.YtkeolmipdoeljaaW9
namespace Go.Proofs.Ytkeolmipdoeljaa
open Go.RowKit Heat

def curveTo (l : List HAct) (q : Nat) : List Int := (List.range q).map fun (i : Nat) => (cnt (i : Int) cold l : Int)
def curve (l : List HAct) : List Int := match (List.range 101).find? (fun (i : Nat) => cnt (i : Int) cold l == 0) with
  | some i => curveTo l (i + 1)
  | none => curveTo l 101
def curveL (n : Int) (l : List HAct) : List Int := if validate n l = 0 then curve l else []
def noZero (l : List HAct) (q : Nat) : Prop := ∀ i : Nat, i < q → cnt (i : Int) cold l ≠ 0

theorem ret_vi {v : Value} {k : IntKind} {a b : Int} (h : a = b) : Ending.returned (.tuple #[v, .int k a]) = .returned (.tuple #[v, .int k b]) := by rw [h]
theorem curveTo_succ (l : List HAct) (q : Nat) : curveTo l (q + 1) = curveTo l q ++ [(cnt (q : Int) cold l : Int)] := by simp [curveTo, List.range_succ]
theorem curveTo_len (l : List HAct) (q : Nat) : (curveTo l q).length = q := by simp [curveTo]
theorem curve_hit (l : List HAct) (q : Nat) (hq : q < 101) (h : noZero l q) (hz : cnt (q : Int) cold l = 0) : curve l = curveTo l (q + 1) := by
  have e : (List.range 101).find? (fun (i : Nat) => cnt (i : Int) cold l == 0) = some q := by
    rw [List.find?_eq_some_iff_getElem]
    refine ⟨by simpa using hz, q, by simpa using hq, by simp, fun j hj => ?_⟩
    have := h j hj
    simpa using this
  rw [curve, e]
theorem curve_all (l : List HAct) (h : noZero l 101) : curve l = curveTo l 101 := by
  have e : (List.range 101).find? (fun (i : Nat) => cnt (i : Int) cold l == 0) = none := by
    rw [List.find?_eq_none]
    intro x hx
    have := h x (by simpa using hx)
    simpa using this
  rw [curve, e]

set_option maxRecDepth 100000 in
set_option maxHeartbeats 1000000 in
theorem pCurve (n : Int) (A : Option Addr) (k c : Nat) (l : List HAct) (w : World) (hl : l.length ≤ 1000) (B : Nat) (hB : B ≤ w.heap.size) (hr : Rd w B 3 A k (actCells l)) :
    Calls Try.prog 24 #[.int .i64 n, .slice A k c] w fun e w' => ∃ v, e = .returned (.tuple #[v, .int .i64 (validate n l)]) ∧ w'.ownsRow w.heap.size 3 1 v (curveL n l).length (ints (curveL n l)) ∧ Below w.heap.size w w' := by
  have H := Lib.hid (pValidate n A k c l w hl B hB hr)
  by_cases h : validate n l = 0
  · obtain ⟨h1, h2, h3, h4⟩ := validate_ok h
    obtain ⟨m, rfl⟩ := Int.eq_ofNat_of_zero_le (show 0 ≤ n by omega)
    have HC := Lib.hid (show curveL m l = curve l by rw [curveL, if_pos h])
    have HL := Lib.hid h
    have HA := Lib.hid h4
    clear h h4
    go_enter Try.func24, Try.ntmps24
    go_wp2_with fail
    refine H.out.mono ?_
    rw [HL.out]
    rintro e w1 ⟨rfl, hb⟩
    go_wp2
    go_loopw [7, 15] (fun v i wr => ∃ q : Nat, q ≤ 101 ∧ i = .int .i64 q ∧ wr.ownsRow w.heap.size 3 1 v q (ints (curveTo l q)) ∧ Hid (noZero l q) ∧ Below w.heap.size w wr) (fun _ i _ => 101 - (intOf i).toNat)
    case atStart => exact ⟨0, by omega, rfl, World.ownsRow_nil _ _ _ _, fun i hi => absurd hi (by omega), hb⟩
    case round =>
      clear hb
      obtain ⟨q, hq, rfl, hown, HN, hb⟩ := hrel
      have hsz := hb.size
      by_cases hlt : q < 101
      · have hF := Lib.hid (pfewest m A k c q l wr (by omega) hl HA.out B (by omega) (hr.below' hb hB))
        have HS := Lib.hid (curveTo_succ l q)
        have HLN := Lib.hid (curveTo_len l q)
        by_cases hz : cnt (q : Int) cold l = 0
        · have HZ := Lib.hid hz
          have HE := Lib.hid (curve_hit l q hlt HN.out hz)
          clear hz
          go_wp2_with fail
          refine hF.out.mono ?_
          rw [HZ.out]
          rintro e w2 ⟨rfl, hb2⟩
          have hown2 := own_below hown hb2
          have s2 := hb2.size
          go_wp2_with (at_builtin; go_must (refine app1 rfl (.tmp 18) (.tmp 23) 34 rfl 3 _ 1 8 E34 w.heap.size _ _ _ _ rfl hown2 _ rfl ?_ ?_ ?_ ?_ ?_ ?_); rfl; rfl; rfl; omega; omega; intro v3 w3 hown3 hg3; obtain ⟨g3, cap3, rfl, hg31, hg32⟩ := hown3.form (by omega); have hcell3 : w3.cell? ⟨g3, q, none⟩ = some (.int .i64 0) := (hown3.cellAt q (by omega)).trans (by rw [List.getElem?_append_right (by simp [HLN.out])]; simp [HLN.out]))
          go_ret2
          refine ⟨_, ret_vi HL.out.symm, ?_, below_own (hb.trans (hb2.mono hsz)) (by omega) hown2 (Nat.le_refl _) hg3⟩
          rw [HC.out, HE.out, curveTo_len, HS.out, HZ.out]
          simpa using hown3
        · have hd : ((cnt (q : Int) cold l : Int) == 0) = false := by simpa using hz
          have HZ := Lib.hid (show noZero l (q + 1) from fun i hi => by
            rcases Nat.lt_or_ge i q with e | e
            · exact HN.out i e
            · obtain rfl : i = q := by omega
              exact hz)
          clear hz
          go_wp2_with fail
          refine hF.out.mono ?_
          rintro e w2 ⟨rfl, hb2⟩
          have hown2 := own_below hown hb2
          have s2 := hb2.size
          go_wp2_with (at_builtin; go_must (refine app1 rfl (.tmp 18) (.tmp 23) 34 rfl 3 _ 1 8 E34 w.heap.size _ _ _ _ rfl hown2 _ rfl ?_ ?_ ?_ ?_ ?_ ?_); rfl; rfl; rfl; omega; omega; intro v3 w3 hown3 hg3; obtain ⟨g3, cap3, rfl, hg31, hg32⟩ := hown3.form (by omega); have hcell3 : w3.cell? ⟨g3, q, none⟩ = some (.int .i64 (cnt (q : Int) cold l)) := (hown3.cellAt q (by omega)).trans (by rw [List.getElem?_append_right (by simp [HLN.out])]; simp [HLN.out]))
          go_roundw
          case rel => exact ⟨q + 1, by omega, by go_num, by rw [HS.out]; simpa using hown3, HZ.out, below_own (hb.trans (hb2.mono hsz)) (by omega) hown2 (Nat.le_refl _) hg3⟩
          case measure => simp [intOf]; omega
      · obtain rfl : q = 101 := by omega
        have HE := Lib.hid (curve_all l HN.out)
        go_wp2
        go_ret2
        exact ⟨_, ret_vi HL.out.symm, by rw [HC.out, HE.out, curveTo_len]; exact hown, hb⟩
  · have hd : (validate n l == 0) = false := by simpa using h
    have hd' : (validate n l != 0) = true := by simpa using h
    have HC := Lib.hid (show curveL n l = [] by rw [curveL, if_neg h])
    clear h
    go_enter Try.func24, Try.ntmps24
    go_wp2_with fail
    refine H.out.mono ?_
    rintro e w1 ⟨rfl, hb⟩
    go_wp2
    go_ret2
    exact ⟨_, rfl, by rw [HC.out]; exact World.ownsRow_nil _ _ _ _, hb⟩
end Go.Proofs.Ytkeolmipdoeljaa
