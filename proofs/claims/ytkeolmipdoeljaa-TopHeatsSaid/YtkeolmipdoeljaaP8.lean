/-
  PLAIN LAWS: the greatest heat; the gates that are too hot are at least as many as the coolings.
-/
import Derived.Test.YtkeolmipdoeljaaP7
import Derived.Test.YtkeolmipdoeljaaW24
namespace Go.Proofs.Ytkeolmipdoeljaa
open Heat

/-- The greater of two. -/
def mx (a b : Int) : Int := if a < b then b else a
theorem mx_spec (a b : Int) : a ≤ mx a b ∧ b ≤ mx a b ∧ (mx a b = a ∨ mx a b = b) := by unfold mx; split <;> omega
/-- The greatest heat behind one of the first q acts, of the act's own ion. -/
def peakTo (l : List HAct) : Nat → Int
  | 0 => 0
  | q + 1 => match l[q]? with
    | none => peakTo l q
    | some a => mx (peakTo l q) (heats cold (l.take (q + 1)) a.ion)
theorem peakTo_succ {l : List HAct} {q : Nat} (h : q < l.length) : peakTo l (q + 1) = mx (peakTo l q) (heats cold (l.take (q + 1)) l[q].ion) := by
  rw [peakTo, List.getElem?_eq_getElem h]
def peakN (n : Int) (l : List HAct) : Int := if validate n l = 0 then peakTo l l.length else 0
/-- The greatest of some numbers. -/
def rowMax (m : Int) (xs : List Int) : Int := xs.foldl mx m
theorem rowMax_eq (xs : List Int) : ∀ (m M : Int), m ≤ M → (∀ x ∈ xs, x ≤ M) → (m = M ∨ M ∈ xs) → rowMax m xs = M := by
  induction xs with
  | nil => intro m M _ _ h; rcases h with h | h; exact h; cases h
  | cons x xs ih =>
    intro m M h1 h2 h3
    have hs := mx_spec m x
    have hx := h2 x (by simp)
    show rowMax (mx m x) xs = M
    refine ih _ M (by omega) (fun y hy => h2 y (by simp [hy])) ?_
    rcases h3 with h | h
    · left; omega
    · rcases List.mem_cons.1 h with e | e
      · left; omega
      · exact .inr e
theorem rowMax_snoc (m : Int) (xs : List Int) (x : Int) : rowMax m (xs ++ [x]) = mx (rowMax m xs) x := by simp [rowMax]
/-- The reference's: over the rows of all heats. -/
def peakR (n : Nat) (l : List HAct) : Nat → Int
  | 0 => 0
  | q + 1 => rowMax (peakR n l q) ((List.range n).map fun j => heats cold (l.take (q + 1)) (j : Nat))
theorem peak_bd {l : List HAct} (hm : Mild l) : ∀ q, q ≤ l.length → 0 ≤ peakTo l q ∧ peakTo l q ≤ 100 * q ∧ ∀ j, heats cold (l.take q) j ≤ peakTo l q := by
  intro q
  induction q with
  | zero => intro _; exact ⟨Int.le_refl _, by simp [peakTo], fun j => by simp [heats_nil, cold, peakTo]⟩
  | succ q ih =>
    intro hq
    obtain ⟨i1, i2, i3⟩ := ih (by omega)
    have hq' : q < l.length := by omega
    rw [peakTo_succ hq']
    have hs := mx_spec (peakTo l q) (heats cold (l.take (q + 1)) l[q].ion)
    have hb := heats_cold_bd (l.take (q + 1)) (hm.take _) l[q].ion
    have hl : (l.take (q + 1)).length = q + 1 := by rw [List.length_take]; omega
    rw [hl] at hb
    refine ⟨by omega, by omega, fun j => ?_⟩
    by_cases e : j = l[q].ion
    · subst e; exact hs.2.1
    · have h1 : heats cold (l.take (q + 1)) j = heats cold (l.take q) j := by rw [heats_take cold l q hq', put, if_neg e]
      have := i3 j
      omega
theorem peakR_eq {n : Nat} {l : List HAct} (hm : Mild l) (hv : ∀ a ∈ l, 0 ≤ a.ion ∧ a.ion < n) : ∀ q, q ≤ l.length → peakR n l q = peakTo l q := by
  intro q
  induction q with
  | zero => intro _; rfl
  | succ q ih =>
    intro hq
    have hq' : q < l.length := by omega
    have hi := hv _ (List.getElem_mem hq')
    rw [peakR, ih (by omega)]
    have hs := mx_spec (peakTo l q) (heats cold (l.take (q + 1)) l[q].ion)
    rw [← peakTo_succ hq'] at hs
    refine rowMax_eq _ _ _ hs.1 (fun x hx => ?_) ?_
    · obtain ⟨j, _, rfl⟩ := List.mem_map.1 hx
      exact (peak_bd hm (q + 1) hq).2.2 _
    · rcases hs.2.2 with h | h
      · exact .inl h.symm
      · refine .inr (List.mem_map.2 ⟨l[q].ion.toNat, List.mem_range.2 (by omega), ?_⟩)
        rw [h]
        congr 1
        omega
/-! ### What the laws over all ions want -/
theorem least_le_peak {l : List HAct} (hm : Mild l) : ∀ q, q ≤ l.length → leastTo l q ≤ peakTo l q := by
  intro q
  induction q with
  | zero => intro _; exact Int.le_refl _
  | succ q ih =>
    intro hq
    have hq' : q < l.length := by omega
    have h1 := ih (by omega)
    have h2 := (peak_bd hm q (by omega)).2.2 l[q].ion
    have hs := mx_spec (peakTo l q) (heats cold (l.take (q + 1)) l[q].ion)
    rw [peakTo_succ hq', leastTo, List.getElem?_eq_getElem hq', before_eq l q hq']
    split <;> omega
end Go.Proofs.Ytkeolmipdoeljaa
