/-
  MOVES AND PLANS, plain.
-/
import Derived.Test.YtlhbmfaoldajdaaPlain
namespace Go.Proofs.Ytlhbmfaoldajdaa
/-- The error of a move. -/
def refuseE (Z : Int) (L : List (Int × Int)) (s : List Int) (m : Int × Int) : Int :=
  if 0 ≤ m.1 ∧ m.1 < s.length ∧ zoneB Z m.2 = true then (if lk L (s.getD m.1.toNat 0) m.2 = true then (if m.2 ∈ s then 6 else 0) else 8) else 4
/-- A move done. -/
def doM (s : List Int) (m : Int × Int) : List Int := s.set m.1.toNat m.2
theorem doM_len (s : List Int) (m : Int × Int) : (doM s m).length = s.length := by simp [doM]
theorem refuseE_ok {Z : Int} {L : List (Int × Int)} {s : List Int} {m : Int × Int} (h : refuseE Z L s m = 0) : ∃ i : Nat, m.1 = (i : Int) ∧ ∃ hi : i < s.length, (0 ≤ m.2 ∧ m.2 < Z) ∧ lk L s[i] m.2 = true ∧ m.2 ∉ s := by
  unfold refuseE at h
  split at h
  · rename_i h1
    split at h
    · rename_i h2
      split at h
      · omega
      · rename_i h3
        obtain ⟨i, hi⟩ := Int.eq_ofNat_of_zero_le h1.1
        have hil : i < s.length := by omega
        refine ⟨i, hi, hil, by simpa [zoneB] using h1.2.2, ?_, h3⟩
        rw [hi] at h2
        simpa [List.getD, List.getElem?_eq_getElem hil] using h2
    · omega
  · omega
theorem refuseE_of {Z : Int} {L : List (Int × Int)} {s : List Int} {i : Nat} {z : Int} (hi : i < s.length) (hz : 0 ≤ z ∧ z < Z) (hl : lk L s[i] z = true) (hn : z ∉ s) : refuseE Z L s ((i : Int), z) = 0 := by
  unfold refuseE
  rw [if_pos ⟨by omega, by show (i : Int) < _; omega, by simpa [zoneB] using hz⟩, if_pos (by simpa [List.getD, List.getElem?_eq_getElem hi] using hl), if_neg hn]
/-- The place behind the first q moves of a plan. -/
def nowAt (s : List Int) (p : List (Int × Int)) (q : Nat) : List Int := (p.take q).foldl doM s
theorem nowAt_zero (s : List Int) (p : List (Int × Int)) : nowAt s p 0 = s := by simp [nowAt]
theorem nowAt_succ {s : List Int} {p : List (Int × Int)} {q : Nat} (h : q < p.length) : nowAt s p (q + 1) = doM (nowAt s p q) p[q] := by
  rw [nowAt, take_snoc' p q h, List.foldl_append]; rfl
theorem nowAt_len (s : List Int) (p : List (Int × Int)) (q : Nat) : (nowAt s p q).length = s.length := by
  unfold nowAt
  generalize p.take q = l
  induction l generalizing s with
  | nil => rfl
  | cons m l ih => rw [List.foldl_cons, ih, doM_len]
/-- All moves can be done, one after another. -/
def good (Z : Int) (L : List (Int × Int)) (s : List Int) (p : List (Int × Int)) : Prop := ∀ (q : Nat) (h : q < p.length), refuseE Z L (nowAt s p q) p[q] = 0
/-- The moves of a place. -/
def movesAt (Z : Int) (L : List (Int × Int)) (s : List Int) (i : Nat) : List (Int × Int) := ((nearL Z L (s.getD i 0)).filter fun z => !decide (z ∈ s)).map fun z => ((i : Int), z)
def movesTo (Z : Int) (L : List (Int × Int)) (s : List Int) (q : Nat) : List (Int × Int) := (List.range q).flatMap (movesAt Z L s)
def movesL (Z : Int) (L : List (Int × Int)) (s : List Int) : List (Int × Int) := movesTo Z L s s.length
theorem movesTo_succ (Z : Int) (L : List (Int × Int)) (s : List Int) (q : Nat) : movesTo Z L s (q + 1) = movesTo Z L s q ++ movesAt Z L s q := by
  rw [movesTo, List.range_succ, List.flatMap_append]; simp [movesTo]
/-- .. on the way: of ion i, the first j zones near. -/
def movesIn (Z : Int) (L : List (Int × Int)) (s : List Int) (i j : Nat) : List (Int × Int) := (((nearL Z L (s.getD i 0)).take j).filter fun z => !decide (z ∈ s)).map fun z => ((i : Int), z)
theorem movesIn_zero (Z : Int) (L : List (Int × Int)) (s : List Int) (i : Nat) : movesIn Z L s i 0 = [] := by simp [movesIn]
theorem movesIn_all (Z : Int) (L : List (Int × Int)) (s : List Int) (i : Nat) : movesIn Z L s i (nearL Z L (s.getD i 0)).length = movesAt Z L s i := by simp [movesIn, movesAt]
theorem movesIn_succ {Z : Int} {L : List (Int × Int)} {s : List Int} {i j : Nat} (h : j < (nearL Z L (s.getD i 0)).length) : movesIn Z L s i (j + 1) = movesIn Z L s i j ++ (if (nearL Z L (s.getD i 0))[j] ∈ s then [] else [((i : Int), (nearL Z L (s.getD i 0))[j])]) := by
  rw [movesIn, take_snoc' _ j h, List.filter_append, List.map_append]
  congr 1
  obtain ⟨y, hy⟩ : ∃ y, y = (nearL Z L (s.getD i 0))[j] := ⟨_, rfl⟩
  rw [← hy]
  by_cases hm : y ∈ s
  · simp [hm]
  · simp [hm]
theorem mem_movesL {Z : Int} {L : List (Int × Int)} {s : List Int} {m : Int × Int} : m ∈ movesL Z L s ↔ refuseE Z L s m = 0 := by
  rw [movesL, movesTo, List.mem_flatMap]
  constructor
  · rintro ⟨i, hi, hm⟩
    rw [List.mem_range] at hi
    obtain ⟨z, hz, rfl⟩ := List.mem_map.1 hm
    rw [List.mem_filter] at hz
    obtain ⟨h1, h2⟩ := mem_nearL.1 hz.1
    have hg : s.getD i 0 = s[i] := by simp [List.getD, List.getElem?_eq_getElem hi]
    rw [hg] at h2
    exact refuseE_of hi h1 h2 (by simpa using hz.2)
  · intro h
    obtain ⟨i, h1, hi, hz, hl, hn⟩ := refuseE_ok h
    refine ⟨i, List.mem_range.2 hi, List.mem_map.2 ⟨m.2, List.mem_filter.2 ⟨mem_nearL.2 ⟨hz, ?_⟩, by simpa using hn⟩, ?_⟩⟩
    · simpa [List.getD, List.getElem?_eq_getElem hi] using hl
    · rw [← h1]
theorem movesIn_len (Z : Int) (L : List (Int × Int)) (s : List Int) (i j : Nat) : (movesIn Z L s i j).length ≤ Z.toNat := by
  rw [movesIn, List.length_map]
  have h1 := List.length_filter_le (fun z => !decide (z ∈ s)) ((nearL Z L (s.getD i 0)).take j)
  have h2 := List.length_take_le j (nearL Z L (s.getD i 0))
  have h3 := nearL_len Z L (s.getD i 0)
  rw [List.length_take] at h1
  omega
theorem movesTo_len (Z : Int) (L : List (Int × Int)) (s : List Int) : ∀ q, (movesTo Z L s q).length ≤ q * Z.toNat
  | 0 => by simp [movesTo]
  | q + 1 => by
    rw [movesTo_succ, List.length_append, ← movesIn_all, Nat.succ_mul]
    have := movesTo_len Z L s q
    have := movesIn_len Z L s q (nearL Z L (s.getD q 0)).length
    omega
/-- The plan back, the first q moves of the plan, not yet turned round. -/
def backTo (s : List Int) (p : List (Int × Int)) (q : Nat) : List (Int × Int) := (List.range q).map fun i => ((p.getD i (0, 0)).1, (nowAt s p i).getD (p.getD i (0, 0)).1.toNat 0)
theorem backTo_succ (s : List Int) (p : List (Int × Int)) (q : Nat) : backTo s p (q + 1) = backTo s p q ++ [((p.getD q (0, 0)).1, (nowAt s p q).getD (p.getD q (0, 0)).1.toNat 0)] := by
  rw [backTo, List.range_succ, List.map_append]; rfl
theorem backTo_len (s : List Int) (p : List (Int × Int)) (q : Nat) : (backTo s p q).length = q := by simp [backTo]
def backL (s : List Int) (p : List (Int × Int)) : List (Int × Int) := (backTo s p p.length).reverse
end Go.Proofs.Ytlhbmfaoldajdaa
