/-
  PLAIN LAW: the greedy match finds what coolings left out leave; the plan with coolings put in passes.
-/
import Derived.Test.YtkeolmipdoeljaaW14
namespace Go.Proofs.Ytkeolmipdoeljaa
open Heat

theorem left_drop {a : HAct} {l m : List HAct} {k : Nat} (ha : a.kind = 2) (h : Heat.Left (a :: l) m k) : ∃ k', Heat.Left l m k' := by
  generalize e : a :: l = x at h
  induction h with
  | nil => cases e
  | keep b h ih =>
    injection e with e1 e2
    subst e1 e2
    exact ⟨_, Heat.Left.drop a ha h⟩
  | drop b hb h ih =>
    obtain ⟨k', h'⟩ := ih e
    exact ⟨_, Heat.Left.drop b hb h'⟩
theorem greedy_of_left : ∀ (m l : List HAct) (k : Nat), Heat.Left l m k → greedy l m = true := by
  intro m
  induction m with
  | nil =>
    intro l k h
    cases h
    rfl
  | cons b m ih =>
    intro l k h
    cases l with
    | nil =>
      cases h with
      | drop _ hb h => rw [greedy, hb, ih _ _ h]; rfl
    | cons a l =>
      rw [greedy]
      by_cases e : b = a
      · rw [if_pos e]
        cases h with
        | keep _ h => exact ih _ _ h
        | drop _ hb h =>
          obtain ⟨k', h'⟩ := left_drop (e ▸ hb) h
          exact ih _ _ h'
      · rw [if_neg e]
        cases h with
        | keep _ h => exact absurd rfl e
        | drop _ hb h => rw [hb, ih _ _ h]; rfl
theorem left_of_greedy : ∀ (m l : List HAct), greedy l m = true → ∃ k, Heat.Left l m k := by
  intro m
  induction m with
  | nil =>
    intro l h
    cases l with
    | nil => exact ⟨0, Heat.Left.nil⟩
    | cons a l => rw [greedy] at h; cases h
  | cons b m ih =>
    intro l h
    cases l with
    | nil =>
      rw [greedy, Bool.and_eq_true] at h
      obtain ⟨k, h'⟩ := ih _ h.2
      exact ⟨_, Heat.Left.drop b (by simpa using h.1) h'⟩
    | cons a l =>
      rw [greedy] at h
      by_cases e : b = a
      · rw [if_pos e] at h
        obtain ⟨k, h'⟩ := ih _ h
        subst e
        exact ⟨_, Heat.Left.keep b h'⟩
      · rw [if_neg e, Bool.and_eq_true] at h
        obtain ⟨k, h'⟩ := ih _ h.2
        exact ⟨_, Heat.Left.drop b (by simpa using h.1) h'⟩

theorem checkErr_insert {n : Int} {l : List HAct} {limit : Int} (h : limited n l limit = 0) : checkErr n l (putIn limit cold l) limit = 0 := by
  obtain ⟨⟨h1, h2, h3, h4⟩, h5, h6⟩ := limited_ok h
  have hlen := putIn_length limit l cold
  have hc := cnt_le limit l cold
  rw [checkErr, if_neg (by simpa using h), if_neg (by omega), if_neg (by rw [areActs_insert h4]; decide), if_neg (by rw [greedy_of_left _ _ _ (putIn_left limit l cold)]; decide), if_neg (by rw [hot, hot_insert h5]; simp)]
theorem checkN_insert {n : Int} {l : List HAct} {limit : Int} (h : limited n l limit = 0) : checkN n l (putIn limit cold l) limit = (cnt limit cold l : Int) := by
  have hlen := putIn_length limit l cold
  rw [checkN, if_pos (checkErr_insert h)]
  omega
end Go.Proofs.Ytkeolmipdoeljaa
