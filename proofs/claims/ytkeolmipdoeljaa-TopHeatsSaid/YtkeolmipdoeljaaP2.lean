/-
  PLAIN LAW: the curve never grows.
-/
import Derived.Test.YtkeolmipdoeljaaW13
import Derived.Test.YtkeolmipdoeljaaW11
namespace Go.Proofs.Ytkeolmipdoeljaa
open Heat

theorem curveTo_get (l : List HAct) (q i : Nat) (hi : i < (curveTo l q).length) : (curveTo l q)[i] = (cnt (i : Int) cold l : Int) := by simp [curveTo]
theorem curve_is (l : List HAct) : ∃ q, q ≤ 101 ∧ curve l = curveTo l q := by
  unfold curve
  split
  · rename_i i h
    have := List.find?_some h
    have hm := List.mem_of_find?_eq_some h
    rw [List.mem_range] at hm
    exact ⟨i + 1, by omega, rfl⟩
  · exact ⟨101, Nat.le_refl _, rfl⟩
theorem curveL_len (n : Int) (l : List HAct) : (curveL n l).length ≤ 101 := by
  unfold curveL
  split
  · obtain ⟨q, h, e⟩ := curve_is l
    rw [e, curveTo_len]; exact h
  · simp
theorem curveTo_mono {n : Int} {l : List HAct} (h4 : areActs n l = true) (hn : n ≤ 4) (q : Nat) : ∀ i (hi : i + 1 < (curveTo l q).length), (curveTo l q)[i + 1] ≤ (curveTo l q)[i] := by
  intro i hi
  rw [curveTo_get, curveTo_get]
  have := cnt_mono (L := (i : Int)) (L' := ((i + 1 : Nat) : Int)) (by omega) 4 l (actBounds h4).1 ((actBounds h4).2 4 (by omega))
  omega
def Falls (m : List Int) : Prop := ∀ i (hi : i + 1 < m.length), m[i + 1] ≤ m[i]
theorem curveL_mono (n : Int) (l : List HAct) : Falls (curveL n l) := by
  by_cases h : validate n l = 0
  · obtain ⟨h1, h2, h3, h4⟩ := validate_ok h
    obtain ⟨q, hq, e⟩ := curve_is l
    rw [curveL, if_pos h, e]
    exact curveTo_mono h4 h2 q
  · rw [curveL, if_neg h]
    intro i hi
    simp at hi
end Go.Proofs.Ytkeolmipdoeljaa
