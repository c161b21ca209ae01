/-
  PLAIN LAW: all heats and the limit multiplied: as many coolings.
-/
import Derived.Test.YtkeolmipdoeljaaW16
namespace Go.Proofs.Ytkeolmipdoeljaa
open Heat

theorem put_scaled (b : Int) (g g' : Int → Int) (a : HAct) (h : ∀ j, g' j = g j * b) : ∀ j, put g' (scaled b a) j = put g a j * b := by
  intro j
  unfold put Heat.step scaled
  dsimp only
  split
  · split
    · simp
    · rw [h j, Int.add_mul]
  · exact h j
theorem put_cool_scaled (b : Int) (g g' : Int → Int) (i : Int) (h : ∀ j, g' j = g j * b) : ∀ j, put g' (cool i) j = put g (cool i) j * b := by
  intro j
  have e : scaled b (cool i) = cool i := by unfold scaled cool; simp
  have := put_scaled b g g' (cool i) h j
  rwa [e] at this
theorem cnt_scaled (b L : Int) (hb : 1 ≤ b) (l : List HAct) : ∀ g g' : Int → Int, (∀ j, g' j = g j * b) → cnt (L * b) g' (l.map (scaled b)) = cnt L g l := by
  induction l with
  | nil => intro g g' _; rfl
  | cons a l ih =>
    intro g g' h
    simp only [List.map_cons, cnt]
    have e : (L * b < g' (scaled b a).ion) ↔ (L < g a.ion) := by
      rw [h, show (scaled b a).ion = a.ion from rfl]
      constructor
      · intro h1; exact Int.lt_of_mul_lt_mul_right h1 (by omega)
      · intro h1; exact Int.mul_lt_mul_of_pos_right h1 (by omega)
    by_cases c : a.kind = 1 ∧ L < g a.ion
    · rw [if_pos c, if_pos ⟨c.1, e.2 c.2⟩]
      congr 1
      exact ih _ _ (put_scaled b _ _ a (put_cool_scaled b g g' a.ion h))
    · rw [if_neg c, if_neg (fun x => c ⟨x.1, e.1 x.2⟩)]
      exact ih _ _ (put_scaled b g g' a h)
theorem scale_law {n : Int} {l : List HAct} {b L : Int} (h : scaleErr n l b = 0) (hb : 1 ≤ b) (hL : 0 ≤ L) (hL' : L ≤ 100) (hm : L * b ≤ 100) :
    limited n l L = 0 ∧ limited n (scaleL n l b) (L * b) = 0 ∧ fewestN n l L = fewestN n (scaleL n l b) (L * b) := by
  have hs : scaleL n l b = l.map (scaled b) := by rw [scaleL, if_pos h]
  have hv : validate n l = 0 := by
    apply Classical.byContradiction
    intro e
    rw [scaleErr, if_pos e] at h
    exact e h
  have hbad : l.any (badBy b) = false := by
    cases e : l.any (badBy b) with
    | false => rfl
    | true => rw [scaleErr, if_neg (by simpa using hv), e] at h; simp at h
  obtain ⟨h1, h2, h3, h4⟩ := validate_ok hv
  have l1 : limited n l L = 0 := by rw [limited, if_pos hv, if_pos ⟨hL, hL'⟩]
  have hacts : areActs n (l.map (scaled b)) = true := by
    rw [areActs_iff] at *
    intro a ha
    rw [List.mem_map] at ha
    obtain ⟨x, hx, rfl⟩ := ha
    have hx1 := h4 x hx
    have hx2 := List.any_eq_false.1 hbad x hx
    simp only [isAct, decide_eq_true_eq] at hx1
    simp only [badBy, Bool.and_eq_true, bne_iff_ne, Bool.not_eq_true', Bool.and_eq_false_iff, decide_eq_false_iff_not, not_and, ne_eq] at hx2
    have hp : 0 ≤ x.heat * b := Int.mul_nonneg (by omega) (by omega)
    have hq : x.heat = 0 → x.heat * b = 0 := fun e => by rw [e, Int.zero_mul]
    have hz : x.heat * b ≤ 100 := by
      by_cases e : x.heat = 0
      · rw [hq e]; omega
      · have := hx2 e
        omega
    unfold isAct scaled
    refine decide_eq_true ⟨hx1.1, hx1.2.1, hx1.2.2.1, hx1.2.2.2.1, hp, hz, ?_⟩
    rcases hx1.2.2.2.2.2.2 with e | e
    · exact .inl e
    · exact .inr (hq e)
  have hv2 : validate n (l.map (scaled b)) = 0 := by
    rw [validate, if_pos ⟨h1, h2⟩, if_neg (by simpa using h3), if_pos hacts]
  have l2 : limited n (l.map (scaled b)) (L * b) = 0 := by
    rw [limited, if_pos hv2, if_pos ⟨Int.mul_nonneg hL (by omega), hm⟩]
  refine ⟨l1, by rw [hs]; exact l2, ?_⟩
  rw [hs, fewestN, if_pos l1, fewestN, if_pos l2, cnt_scaled b L hb l cold cold (fun _ => by simp [cold])]
theorem scaleL_len (n : Int) (l : List HAct) (b : Int) : (scaleL n l b).length ≤ l.length := by
  unfold scaleL
  split <;> simp
end Go.Proofs.Ytkeolmipdoeljaa
