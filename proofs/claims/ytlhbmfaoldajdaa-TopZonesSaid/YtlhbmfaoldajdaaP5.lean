/-
  THE SEARCH, plain: how far each node lies.
-/
import Derived.Test.YtlhbmfaoldajdaaP4
namespace Go.Proofs.Ytlhbmfaoldajdaa
/-- No node is farther than its number. -/
def Deep (T : List Nd) : Prop := ∀ (i : Nat) x, T[i]? = some x → x.d ≤ i
theorem Deep.visM {T : List Nd} {now : List Int} {d : Int} {m : Int × Int} (h : Deep T) (hd : d < T.length) : Deep (visM now d T m) := by
  unfold Ytlhbmfaoldajdaa.visM
  split
  · exact h
  · intro i x hx
    rcases Nat.lt_or_ge i T.length with hi | hi
    · rw [List.getElem?_append_left hi] at hx; exact h i x hx
    · rw [List.getElem?_append_right hi] at hx
      obtain ⟨h1, h2⟩ := List.getElem?_eq_some_iff.1 hx
      simp at h1
      have h0 : i - T.length = 0 := by omega
      simp only [h0, List.getElem_cons_zero] at h2
      subst h2
      show d + 1 ≤ (i : Int)
      omega
theorem visM_len (now : List Int) (d : Int) (T : List Nd) (m : Int × Int) : T.length ≤ (visM now d T m).length := by
  unfold visM
  split <;> simp
theorem visTo_len (Z : Int) (L : List (Int × Int)) (now : List Int) (d : Int) (T : List Nd) : ∀ j, j ≤ (movesL Z L now).length → T.length ≤ (visTo Z L now d T j).length
  | 0, _ => by rw [visTo_zero]; exact Nat.le_refl _
  | j + 1, hj => by
    rw [visTo_succ (by omega)]
    exact Nat.le_trans (visTo_len Z L now d T j (by omega)) (visM_len _ _ _ _)
theorem Deep.visTo {Z : Int} {L : List (Int × Int)} {T : List Nd} {now : List Int} {d : Int} (h : Deep T) (hd : d < T.length) : ∀ j, j ≤ (movesL Z L now).length → Deep (visTo Z L now d T j)
  | 0, _ => by rw [visTo_zero]; exact h
  | j + 1, hj => by
    rw [visTo_succ (by omega)]
    refine (Deep.visTo h hd j (by omega)).visM ?_
    have := visTo_len Z L now d T j (by omega)
    omega
theorem deep_bfs (Z : Int) (L : List (Int × Int)) (s : List Int) : ∀ q, Deep (bfsTo Z L s q)
  | 0 => by
    intro i x hx
    obtain ⟨h1, h2⟩ := List.getElem?_eq_some_iff.1 hx
    simp [bfsTo] at h1
    subst h1
    simp [bfsTo] at h2
    subst h2
    exact Int.le_refl _
  | q + 1 => by
    have ih := deep_bfs Z L s q
    rw [bfsTo]
    cases hg : (bfsTo Z L s q)[q]? with
    | none => exact ih
    | some x =>
      have h1 := ih q x hg
      have h2 := (List.getElem?_eq_some_iff.1 hg).1
      exact ih.visTo (by omega) _ (Nat.le_refl _)
/-- The node of a place stays what it is. -/
theorem visM_pre (now : List Int) (d : Int) (T : List Nd) (m : Int × Int) : ∃ r, visM now d T m = T ++ r := by
  unfold visM
  split
  · exact ⟨[], by simp⟩
  · exact ⟨_, rfl⟩
theorem visTo_pre (Z : Int) (L : List (Int × Int)) (now : List Int) (d : Int) (T : List Nd) : ∀ j, j ≤ (movesL Z L now).length → ∃ r, visTo Z L now d T j = T ++ r
  | 0, _ => ⟨[], by rw [visTo_zero]; simp⟩
  | j + 1, hj => by
    obtain ⟨r, hr⟩ := visTo_pre Z L now d T j (by omega)
    obtain ⟨r', hr'⟩ := visM_pre now d (visTo Z L now d T j) (movesL Z L now)[j]
    exact ⟨r ++ r', by rw [visTo_succ (by omega), hr', hr, List.append_assoc]⟩
end Go.Proofs.Ytlhbmfaoldajdaa
