/-
  PLAIN LAW: the program's table of beginnings finds the same as the reference's greedy match.
-/
import Derived.Test.YtkeolmipdoeljaaP3
namespace Go.Proofs.Ytkeolmipdoeljaa
open Heat

theorem left_snoc_keep {l m : List HAct} {c : Nat} (a : HAct) (h : Heat.Left l m c) : Heat.Left (l ++ [a]) (m ++ [a]) c := by
  induction h with
  | nil => exact Heat.Left.keep a Heat.Left.nil
  | keep b _ ih => exact Heat.Left.keep b ih
  | drop b hb _ ih => exact Heat.Left.drop b hb ih
theorem left_snoc_drop {l m : List HAct} {c : Nat} {a : HAct} (ha : a.kind = 2) (h : Heat.Left l m c) : Heat.Left l (m ++ [a]) (c + 1) := by
  induction h with
  | nil => exact Heat.Left.drop a ha Heat.Left.nil
  | keep b _ ih => exact Heat.Left.keep b ih
  | drop b hb _ ih => exact Heat.Left.drop b hb ih
theorem left_snoc_inv {a : HAct} : ∀ (m x : List HAct) (c : Nat), Heat.Left x (m ++ [a]) c → (a.kind = 2 ∧ ∃ c', Heat.Left x m c') ∨ (∃ x' c', x = x' ++ [a] ∧ Heat.Left x' m c') := by
  intro m
  induction m with
  | nil =>
    intro x c h
    rw [List.nil_append] at h
    cases h with
    | keep _ h => cases h; exact .inr ⟨[], 0, rfl, Heat.Left.nil⟩
    | drop _ hb h => cases h; exact .inl ⟨hb, 0, Heat.Left.nil⟩
  | cons b m ih =>
    intro x c h
    rw [List.cons_append] at h
    cases h with
    | keep _ h =>
      rcases ih _ _ h with ⟨ha, c', h'⟩ | ⟨x', c', rfl, h'⟩
      · exact .inl ⟨ha, c', Heat.Left.keep b h'⟩
      · exact .inr ⟨b :: x', c', rfl, Heat.Left.keep b h'⟩
    | drop _ hb h =>
      rcases ih _ _ h with ⟨ha, c', h'⟩ | ⟨x', c', rfl, h'⟩
      · exact .inl ⟨ha, _, Heat.Left.drop b hb h'⟩
      · exact .inr ⟨x', _, rfl, Heat.Left.drop b hb h'⟩

/-- One row of the table out of the one before it. -/
def prevOk (f : Nat → Bool) (l : List HAct) (a : HAct) : Nat → Bool
  | 0 => false
  | k + 1 => f k && decide (l[k]? = some a)
def canNext (f : Nat → Bool) (l : List HAct) (a : HAct) (k : Nat) : Bool := (f k && a.kind == 2) || prevOk f l a k
/-- After the acts m: are the first k of l left of them? -/
def can (l : List HAct) : List HAct → Nat → Nat → Bool
  | _, 0 => fun k => k == 0
  | m, i + 1 => match m[i]? with
    | none => fun _ => false
    | some a => canNext (can l m i) l a
theorem can_succ (l m : List HAct) (i : Nat) (hi : i < m.length) : can l m (i + 1) = canNext (can l m i) l m[i] := by
  rw [can, List.getElem?_eq_getElem hi]

theorem can_iff (l m : List HAct) : ∀ i, i ≤ m.length → ∀ k, k ≤ l.length → (can l m i k = true ↔ ∃ c, Heat.Left (l.take k) (m.take i) c) := by
  intro i
  induction i with
  | zero =>
    intro _ k hk
    rw [can, List.take_zero]
    constructor
    · intro h
      have : k = 0 := by simpa using h
      subst this
      exact ⟨0, Heat.Left.nil⟩
    · rintro ⟨c, h⟩
      have := h.length
      rw [List.length_take, List.length_nil] at this
      have : k = 0 := by omega
      subst this
      rfl
  | succ i ih =>
    intro hi k hk
    have him : i < m.length := by omega
    have ihi := ih (by omega)
    have hm : m.take (i + 1) = m.take i ++ [m[i]] := by rw [List.take_add_one, List.getElem?_eq_getElem him]; rfl
    rw [can_succ l m i him, hm, canNext, Bool.or_eq_true, Bool.and_eq_true, ihi k hk, beq_iff_eq]
    constructor
    · rintro (⟨⟨c, h⟩, ha⟩ | h)
      · exact ⟨_, left_snoc_drop ha h⟩
      · cases k with
        | zero => rw [prevOk] at h; cases h
        | succ k =>
          rw [prevOk, Bool.and_eq_true, ihi k (by omega), decide_eq_true_eq, List.getElem?_eq_getElem (show k < l.length by omega)] at h
          obtain ⟨⟨c, h1⟩, h2⟩ := h
          have hl : l.take (k + 1) = l.take k ++ [m[i]] := by rw [List.take_add_one, List.getElem?_eq_getElem (show k < l.length by omega), h2]; rfl
          rw [hl]
          exact ⟨c, left_snoc_keep _ h1⟩
    · rintro ⟨c, h⟩
      rcases left_snoc_inv _ _ _ h with ⟨ha, h'⟩ | ⟨x', c', hx, h'⟩
      · exact .inl ⟨h', ha⟩
      · refine .inr ?_
        cases k with
        | zero => simp at hx
        | succ k =>
          have hl : l.take (k + 1) = l.take k ++ [l[k]] := by rw [List.take_add_one, List.getElem?_eq_getElem (show k < l.length by omega)]; rfl
          rw [hl] at hx
          have h1 := List.append_inj' hx rfl
          rw [prevOk, Bool.and_eq_true, ihi k (by omega), decide_eq_true_eq, List.getElem?_eq_getElem (show k < l.length by omega)]
          refine ⟨⟨c', by rw [h1.1]; exact h'⟩, ?_⟩
          have := (List.cons.inj h1.2).1
          rw [this]
theorem can_greedy (l m : List HAct) : can l m m.length l.length = greedy l m := by
  have h := can_iff l m m.length (Nat.le_refl _) l.length (Nat.le_refl _)
  rw [List.take_length, List.take_length] at h
  cases hg : greedy l m with
  | true => exact h.2 (left_of_greedy _ _ hg)
  | false =>
    rw [Bool.eq_false_iff]
    intro hc
    obtain ⟨c, hl⟩ := h.1 hc
    rw [greedy_of_left _ _ _ hl] at hg
    cases hg
end Go.Proofs.Ytkeolmipdoeljaa
