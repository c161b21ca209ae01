/-
  LINES, RINGS AND SEQUENCES, plain: what the program computes.
-/
import Derived.Test.YtlhbmfaoldajdaaP2
namespace Go.Proofs.Ytlhbmfaoldajdaa
def endB (Z : Int) (L : List (Int × Int)) (z : Int) : Bool := decide ((nearL Z L z).length ≤ 1)
/-- A line's order, and whether it is one. -/
def lineP (Z : Int) (L : List (Int × Int)) : List Int × Bool := if (L.length : Int) = Z - 1 then (match (zonesL Z).find? (endB Z L) with
  | none => ([], false)
  | some z => (chainL Z L z, decide (((chainL Z L z).length : Int) = Z))) else ([], false)
theorem lineP_no {Z : Int} {L : List (Int × Int)} (h : (L.length : Int) ≠ Z - 1) : lineP Z L = ([], false) := by rw [lineP, if_neg h]
theorem lineP_none {Z : Int} {L : List (Int × Int)} (h : ((zonesL Z).take Z.toNat).any (endB Z L) = false) : lineP Z L = ([], false) := by
  unfold lineP
  split
  · rw [List.take_of_length_le (by rw [zonesL_len]; exact Nat.le_refl _)] at h
    have : (zonesL Z).find? (endB Z L) = none := by
      rw [List.find?_eq_none]
      intro x hx hxx
      rw [List.any_eq_false] at h
      exact h x hx hxx
    rw [this]
  · rfl
theorem lineP_at {Z : Int} {L : List (Int × Int)} {q : Nat} (hl : (L.length : Int) = Z - 1) (hq : q < Z.toNat) (h : ((zonesL Z).take q).any (endB Z L) = false) (he : endB Z L (q : Int) = true) : lineP Z L = (chainL Z L (q : Int), decide (((chainL Z L (q : Int)).length : Int) = Z)) := by
  have hq' : q < (zonesL Z).length := by rw [zonesL_len]; exact hq
  have hf : (zonesL Z).find? (endB Z L) = some (q : Int) := by
    rw [List.find?_eq_some_iff_getElem]
    refine ⟨he, q, hq', zonesL_get _ _ _, fun j hj => ?_⟩
    rw [List.any_eq_false] at h
    have := h ((zonesL Z)[j]'(by omega)) (List.mem_take_iff_getElem.2 ⟨j, by omega, rfl⟩)
    simpa using this
  rw [lineP, if_pos hl, hf]
theorem ends_step {Z : Int} {L : List (Int × Int)} {q : Nat} (hq : q < Z.toNat) : ((zonesL Z).take (q + 1)).any (endB Z L) = (((zonesL Z).take q).any (endB Z L) || endB Z L (q : Int)) := by
  rw [take_snoc' _ q (by rw [zonesL_len]; exact hq), List.any_append, zonesL_get]; simp
def twoB (Z : Int) (L : List (Int × Int)) (z : Int) : Bool := decide ((nearL Z L z).length = 2)
def ringOk (Z : Int) (L : List (Int × Int)) : Bool := decide (3 ≤ Z) && (decide ((L.length : Int) = Z) && ((zonesL Z).all (twoB Z L) && decide (Z ≤ ((chainL Z L 0).length : Int))))
/-- A ring's order, and whether it is one. -/
def ringP (Z : Int) (L : List (Int × Int)) : List Int × Bool := if ringOk Z L = true then (chainL Z L 0, true) else ([], false)
theorem twos_step {Z : Int} {L : List (Int × Int)} {q : Nat} (hq : q < Z.toNat) : ((zonesL Z).take (q + 1)).all (twoB Z L) = (((zonesL Z).take q).all (twoB Z L) && twoB Z L (q : Int)) := by
  rw [take_snoc' _ q (by rw [zonesL_len]; exact hq), List.all_append, zonesL_get]; simp
/-- The ions in an order of zones. -/
def seqIn (s zones : List Int) : List Int := (zones.map (idxI s)).filter fun i => decide (0 ≤ i)
theorem seqIn_snoc {s zones : List Int} {q : Nat} (h : q < zones.length) : seqIn s (zones.take (q + 1)) = seqIn s (zones.take q) ++ (if 0 ≤ idxI s zones[q] then [idxI s zones[q]] else []) := by
  unfold seqIn
  rw [take_snoc' _ q h, List.map_append, List.filter_append]
  congr 1
  by_cases hx : 0 ≤ idxI s zones[q]
  · simp [hx]
  · simp [hx]
theorem seqIn_len (s zones : List Int) : (seqIn s zones).length ≤ zones.length := by
  unfold seqIn
  refine Nat.le_trans (List.length_filter_le _ _) ?_
  rw [List.length_map]; exact Nat.le_refl _
/-- The order: a line's, else a ring's. -/
def ordP (Z : Int) (L : List (Int × Int)) : List Int × Bool := if (lineP Z L).2 = true then lineP Z L else ringP Z L
/-- Turned round, so that it begins with 0. -/
def rotZ (l : List Int) : List Int := if 0 < idxI l 0 then l.drop (idxI l 0).toNat ++ l.take (idxI l 0).toNat else l
def seqR (Z : Int) (L : List (Int × Int)) (s : List Int) : List Int := if (ordP Z L).2 = true then (if (lineP Z L).2 = true then seqIn s (ordP Z L).1 else rotZ (seqIn s (ordP Z L).1)) else []
theorem chain_len {Z : Int} {L : List (Int × Int)} {a : Int} (hZ : Z ≤ 6) (ha : 0 ≤ a ∧ a < Z) : (chainL Z L a).length ≤ 6 := by
  have h := (chSt_ok (L := L) ha 6).1
  have := zones_le h.1 h.2.1
  unfold chainL
  omega
theorem lineP_len {Z : Int} {L : List (Int × Int)} (h1 : 1 ≤ Z) (hZ : Z ≤ 6) : (lineP Z L).1.length ≤ 6 := by
  unfold lineP
  split
  · cases hf : (zonesL Z).find? (endB Z L) with
    | none => exact Nat.zero_le _
    | some z => exact chain_len hZ (mem_zonesL.1 (List.mem_of_find?_eq_some hf))
  · exact Nat.zero_le _
theorem ringP_len {Z : Int} {L : List (Int × Int)} (h1 : 1 ≤ Z) (hZ : Z ≤ 6) : (ringP Z L).1.length ≤ 6 := by
  unfold ringP
  split
  · exact chain_len hZ ⟨by omega, by omega⟩
  · exact Nat.zero_le _
end Go.Proofs.Ytlhbmfaoldajdaa
