/-
  PLAIN LAWS for the law over all layers (TopHeats).
-/
import Derived.Test.YtkeolmipdoeljaaP8
import Derived.Test.YtkeolmipdoeljaaP2
import Derived.Test.YtkeolmipdoeljaaP5
namespace Go.Proofs.Ytkeolmipdoeljaa
open Heat

theorem put_mono {g h : Int → Int} (a : HAct) (hh : ∀ j, g j ≤ h j) : ∀ j, put g a j ≤ put h a j := by
  intro j
  unfold put
  split
  · exact step_mono a (hh j)
  · exact hh j
theorem put_nonneg {h : Int → Int} {a : HAct} (ha : 0 ≤ a.heat) (hh : ∀ j, 0 ≤ h j) : ∀ j, 0 ≤ put h a j := by
  intro j
  unfold put
  split
  · exact step_nonneg ha (hh j)
  · exact hh j
/-- Each cooling stands before a gate that is too hot. -/
theorem cnt_le_hot (L : Int) (l : List HAct) (hw : Warm l) : ∀ (g h : Int → Int) (i : Nat), (∀ j, g j ≤ h j) → (∀ j, 0 ≤ h j) → cnt L g l ≤ (hotFrom L h i l).length := by
  induction l with
  | nil => intro g h i _ _; exact Nat.le_refl _
  | cons a l ih =>
    intro g h i hg hh
    have ha := hw a (by simp)
    rw [cnt, hotFrom]
    by_cases c : a.kind = 1 ∧ L < g a.ion
    · rw [if_pos c, if_pos ⟨c.1, by have := hg a.ion; omega⟩, List.length_cons]
      have := ih hw.tail (put (put g (cool a.ion)) a) (put h a) (i + 1) (put_mono a fun j => by
        unfold put
        split
        · simp [Heat.step, cool]; exact hh j
        · exact hg j) (put_nonneg ha hh)
      omega
    · rw [if_neg c]
      have := ih hw.tail (put g a) (put h a) (i + 1) (put_mono a hg) (put_nonneg ha hh)
      split
      · rw [List.length_cons]; omega
      · exact this
/-- The curve's value at a limit; behind its end none is needed. -/
theorem curve_at {n : Int} {l : List HAct} (h4 : areActs n l = true) (hn : n ≤ 4) (L : Nat) (hL : L ≤ 100) : (∀ h : L < (curve l).length, (curve l)[L] = (cnt (L : Int) cold l : Int)) ∧ ((curve l).length ≤ L → cnt (L : Int) cold l = 0) := by
  unfold curve
  split
  · rename_i i hf
    have hz := List.find?_some hf
    refine ⟨fun h => curveTo_get l _ _ h, fun h => ?_⟩
    rw [curveTo_len] at h
    have := cnt_mono (L := (i : Int)) (L' := (L : Int)) (by omega) 4 l (actBounds h4).1 ((actBounds h4).2 4 (by omega))
    have hz' : cnt (i : Int) cold l = 0 := by simpa using hz
    omega
  · refine ⟨fun h => curveTo_get l _ _ h, fun h => ?_⟩
    rw [curveTo_len] at h
    omega

/-! ### The greatest heat, ion by ion -/
/-- Each act's ion, and its heat behind the act. -/
def vals : (Int → Int) → List HAct → List (Int × Int)
  | _, [] => []
  | h, a :: l => (a.ion, put h a a.ion) :: vals (put h a) l
theorem vals_snoc (l : List HAct) (a : HAct) : ∀ h, vals h (l ++ [a]) = vals h l ++ [(a.ion, heats h (l ++ [a]) a.ion)] := by
  induction l with
  | nil => intro h; rfl
  | cons b l ih => intro h; rw [List.cons_append, vals, ih]; rfl
theorem peak_vals (l : List HAct) : ∀ q, q ≤ l.length → peakTo l q = rowMax 0 ((vals cold (l.take q)).map (·.2)) := by
  intro q
  induction q with
  | zero => intro _; rfl
  | succ q ih =>
    intro hq
    have hq' : q < l.length := by omega
    have e : l.take (q + 1) = l.take q ++ [l[q]] := by rw [List.take_add_one, List.getElem?_eq_getElem hq']; rfl
    rw [peakTo_succ hq', ih (by omega), e, vals_snoc, List.map_append, List.map_singleton, rowMax_snoc]
theorem vals_own (j : Int) (l : List HAct) : ∀ g h : Int → Int, g j = h j → vals g (own j l) = (vals h l).filter (fun p => decide (p.1 = j)) := by
  induction l with
  | nil => intro g h _; rfl
  | cons a l ih =>
    intro g h hgh
    by_cases e : a.ion = j
    · rw [own_cons_same l e, vals, vals, List.filter_cons, if_pos (by simpa using e)]
      have hp : put g a j = put h a j := by unfold put; rw [hgh]
      rw [ih (put g a) (put h a) hp]
      rw [show put g a a.ion = put h a a.ion by rw [e]; exact hp]
    · rw [own_cons_other l e, vals, List.filter_cons, if_neg (by simpa using e)]
      refine ih g (put h a) ?_
      unfold put
      rw [if_neg (fun x => e x.symm)]
      exact hgh
theorem rowMax_ge (xs : List Int) : ∀ m : Int, m ≤ rowMax m xs ∧ ∀ x ∈ xs, x ≤ rowMax m xs := by
  induction xs with
  | nil => intro m; exact ⟨Int.le_refl _, fun x hx => by cases hx⟩
  | cons y xs ih =>
    intro m
    have hs := mx_spec m y
    obtain ⟨i1, i2⟩ := ih (mx m y)
    show m ≤ rowMax (mx m y) xs ∧ ∀ x ∈ y :: xs, x ≤ rowMax (mx m y) xs
    refine ⟨by omega, fun x hx => ?_⟩
    rcases List.mem_cons.1 hx with e | e
    · subst e; omega
    · exact i2 x e
theorem rowMax_mem (xs : List Int) : ∀ m : Int, rowMax m xs = m ∨ rowMax m xs ∈ xs := by
  induction xs with
  | nil => intro m; exact .inl rfl
  | cons y xs ih =>
    intro m
    have hs := mx_spec m y
    show rowMax (mx m y) xs = m ∨ rowMax (mx m y) xs ∈ y :: xs
    rcases ih (mx m y) with h | h
    · rw [h]
      rcases hs.2.2 with e | e
      · exact .inl e
      · right; rw [e]; simp
    · exact .inr (List.mem_cons_of_mem _ h)
/-- The greatest heat of the ions 0 .. k - 1, each ion's own acts alone. -/
def farTo (l : List HAct) : Nat → Int
  | 0 => 0
  | k + 1 => mx (farTo l k) (peakTo (own (k : Int) l) (own (k : Int) l).length)
theorem farTo_map (l : List HAct) (n : Nat) : farTo l n = rowMax 0 ((List.range n).map fun (k : Nat) => peakTo (own (k : Int) l) (own (k : Int) l).length) := by
  induction n with
  | zero => rfl
  | succ n ih => rw [farTo, ih, List.range_succ, List.map_append, List.map_singleton, rowMax_snoc]
theorem far_law {n : Nat} {l : List HAct} (hv : ∀ a ∈ l, 0 ≤ a.ion ∧ a.ion < n) : farTo l n = peakTo l l.length := by
  rw [farTo_map, peak_vals l l.length (Nat.le_refl _), List.take_length]
  have hp : ∀ k : Nat, peakTo (own (k : Int) l) (own (k : Int) l).length = rowMax 0 (((vals cold l).filter (fun p => decide (p.1 = (k : Int)))).map (·.2)) := fun k => by
    rw [peak_vals _ _ (Nat.le_refl _), List.take_length, vals_own (k : Int) l cold cold rfl]
  have hge := rowMax_ge ((vals cold l).map (·.2)) 0
  have hions : ∀ (m : List HAct) (h : Int → Int), (∀ a ∈ m, 0 ≤ a.ion ∧ a.ion < n) → ∀ p ∈ vals h m, 0 ≤ p.1 ∧ p.1 < n := by
    intro m
    induction m with
    | nil => intro h _ p hp; cases hp
    | cons a m ih =>
      intro h hv p hp
      rcases List.mem_cons.1 hp with e | e
      · subst e; exact hv a (by simp)
      · exact ih _ (fun b hb => hv b (by simp [hb])) p e
  refine rowMax_eq _ _ _ hge.1 (fun x hx => ?_) ?_
  · obtain ⟨k, _, rfl⟩ := List.mem_map.1 hx
    rw [hp]
    rcases rowMax_mem (((vals cold l).filter (fun p => decide (p.1 = (k : Int)))).map (·.2)) 0 with h | h
    · rw [h]; exact hge.1
    · obtain ⟨p, hp, e⟩ := List.mem_map.1 h
      rw [← e]
      exact hge.2 _ (List.mem_map.2 ⟨p, (List.mem_filter.1 hp).1, rfl⟩)
  · rcases rowMax_mem ((vals cold l).map (·.2)) 0 with h | h
    · exact .inl h.symm
    · obtain ⟨p, hpm, e⟩ := List.mem_map.1 h
      obtain ⟨b0, b1⟩ := hions l cold hv p hpm
      refine .inr (List.mem_map.2 ⟨p.1.toNat, List.mem_range.2 (by omega), ?_⟩)
      have hk : ((p.1.toNat : Nat) : Int) = p.1 := by omega
      rw [hp, hk]
      have hg2 := rowMax_ge (((vals cold l).filter (fun x => decide (x.1 = p.1))).map (·.2)) 0
      refine rowMax_eq _ _ _ hge.1 (fun x hx => ?_) (.inr ?_)
      · obtain ⟨u, hu, rfl⟩ := List.mem_map.1 hx
        exact hge.2 _ (List.mem_map.2 ⟨u, (List.mem_filter.1 hu).1, rfl⟩)
      · rw [← e]
        exact List.mem_map.2 ⟨p, List.mem_filter.2 ⟨hpm, by simp⟩, rfl⟩
end Go.Proofs.Ytkeolmipdoeljaa
