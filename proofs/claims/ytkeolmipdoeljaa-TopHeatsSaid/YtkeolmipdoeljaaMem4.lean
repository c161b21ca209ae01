/-
  MORE WORDS FOR MEMORY: a store into a row of the call's own; Clone of acts.
-/
import Derived.Lib.SliceRun
import Derived.Test.YtkeolmipdoeljaaW13
namespace Go.Proofs.Ytkeolmipdoeljaa
open Go.RowKit Heat

theorem own_set {w : World} {base g n c j sz : Nat} {e : TypeId} {xs : List Value} (h : w.ownsRow base e sz (.slice (some ⟨g, 0, none⟩) n c) n xs) (u : Value) :
    (w.setCell ⟨g, j, none⟩ u).ownsRow base e sz (.slice (some ⟨g, 0, none⟩) n c) n (xs.set j u) := by
  obtain ⟨h1, h2⟩ := h
  refine ⟨by simpa using h1, ?_⟩
  rcases h2 with ⟨h2, _⟩ | ⟨g', cap, cur, hv, hg, hh, h3, h4, h5, h6⟩
  · cases h2
  · injection hv with a b d
    injection a with a
    injection a with a
    subst a
    subst d
    refine .inr ⟨g, c, _, rfl, hg, blk_set hh j u, h3, h4, by simpa using h5, ?_⟩
    rw [← h6, Array.toList_setIfInBounds, List.take_set]

theorem set_append_right {α : Type} (l m : List α) (k : Nat) (x : α) : (l ++ m).set (l.length + k) x = l ++ m.set k x := by
  rw [List.set_append_right _ _ (by omega)]
  congr 2
  omega
theorem actCells_set_heat (l : List HAct) (i : Nat) (hi : i < l.length) (x : Int) : (actCells l).set (i * 3 + 2) (.int .i64 x) = actCells (l.set i ⟨l[i].kind, l[i].ion, x⟩) := by
  induction l generalizing i with
  | nil => simp at hi
  | cons a l ih =>
    cases i with
    | zero => rfl
    | succ i =>
      have e : (i + 1) * 3 + 2 = (i * 3 + 2) + 1 + 1 + 1 := by omega
      have := ih i (by simpa using hi)
      simp only [actCells, List.flatMap_cons, actCell, List.cons_append, List.nil_append, List.set_cons_succ, List.getElem_cons_succ, e] at *
      rw [this]
theorem actCells_set (l : List HAct) (i : Nat) (hi : i < l.length) (a : HAct) : (((actCells l).set (i * 3) (.int .i64 a.kind)).set (i * 3 + 1) (.int .i64 a.ion)).set (i * 3 + 2) (.int .i64 a.heat) = actCells (l.set i a) := by
  induction l generalizing i with
  | nil => simp at hi
  | cons b l ih =>
    cases i with
    | zero => rfl
    | succ i =>
      have e0 : (i + 1) * 3 = (i * 3) + 1 + 1 + 1 := by omega
      have e1 : (i + 1) * 3 + 1 = (i * 3 + 1) + 1 + 1 + 1 := by omega
      have e2 : (i + 1) * 3 + 2 = (i * 3 + 2) + 1 + 1 + 1 := by omega
      have := ih i (by simpa using hi)
      rw [e2, e1, e0]
      simp only [actCells, List.flatMap_cons, actCell, List.cons_append, List.nil_append, List.set_cons_succ] at *
      rw [this]

theorem q22 (w : World) (a : Option Addr) (n c n' c' : Nat) : (binOp .eql 22 (.slice a n c) (.slice none n' c')).run Try.prog w = .ok (.bool a.isNone) w := Lib.run_eql_slice_nil w _ _ a n c n' c' Try.underlying22
set_option maxRecDepth 100000 in
/-- slices.Clone of acts. -/
theorem pClone (A : Option Addr) (k c : Nat) (l : List HAct) (w : World) (hl : l.length ≤ 1000) (B : Nat) (hB : B ≤ w.heap.size) (hr : Rd w B 3 A k (actCells l)) :
    Calls Try.prog 68 #[.slice A k c] w fun e w' => ∃ v, e = .returned v ∧ w'.ownsRow w.heap.size 48 3 v k (actCells l) ∧ Below w.heap.size w w' := by
  obtain rfl := hr.act_len
  have qT := q22
  cases A with
  | none =>
    have hl0 : l.length = 0 := by
      rcases Nat.eq_zero_or_pos l.length with h | h
      · exact h
      · obtain ⟨_, _, h, _⟩ := hr.2 h; cases h
    have hl1 : l = [] := List.eq_nil_of_length_eq_zero hl0
    subst hl1
    go_enter Try.func68, Try.ntmps68
    go_wp2
    go_ret
    exact ⟨_, rfl, World.ownsRow_nil _ _ _ _, Below.refl _ _⟩
  | some a =>
    have HO := Lib.hid (show (w.alloc (.cells #[] 48)).ownsRow w.heap.size 48 3 (.slice (some ⟨w.heap.size, 0, none⟩) 0 0) 0 [] from own_empty (blk_new w 48 #[]) (Nat.le_refl _))
    have HB := Lib.hid ((Below.refl w.heap.size w).alloc (Nat.le_refl _) (.cells #[] 48))
    have HR := hr.alloc hB (.cells #[] 48)
    go_enter Try.func68, Try.ntmps68
    go_wp2_with (at_builtin; go_must (refine appN rfl (.tmp 5) (.tmp 6) 22 rfl 48 _ 3 24 E22 w.heap.size _ _ _ rfl HO.out B (some a) l.length c (actCells l) rfl HR (actCells_one _) (by omega) (by simp) ?_); intro v4 w4 hown4 hg4)
    go_ret
    exact ⟨_, rfl, by simpa using hown4, below_own HB.out (by simp) HO.out (Nat.le_refl _) hg4⟩
end Go.Proofs.Ytkeolmipdoeljaa
