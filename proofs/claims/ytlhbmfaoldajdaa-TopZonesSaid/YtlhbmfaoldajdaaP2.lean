/-
  CHAINS, plain.
-/
import Derived.Test.YtlhbmfaoldajdaaP1
namespace Go.Proofs.Ytlhbmfaoldajdaa
/-- One zone more, as long as there is a new one. -/
def chStep (Z : Int) (L : List (Int × Int)) (out : List Int) : List Int := match (nearL Z L (out.getLastD 0)).find? (fun z => !decide (z ∈ out)) with
  | none => out
  | some z => out ++ [z]
def chSt (Z : Int) (L : List (Int × Int)) (a : Int) : Nat → List Int
  | 0 => [a]
  | k + 1 => chStep Z L (chSt Z L a k)
def chainL (Z : Int) (L : List (Int × Int)) (a : Int) : List Int := chSt Z L a 6
/-- The place of the first new one. -/
def newI (Z : Int) (L : List (Int × Int)) (out : List Int) : Int := plcI (fun z => !decide (z ∈ out)) (nearL Z L (out.getLastD 0))
theorem find_plcI {α : Type} {p : α → Bool} : ∀ (l : List α), (plcI p l < 0 ∧ l.find? p = none) ∨ ∃ i, ∃ h : i < l.length, plcI p l = (i : Int) ∧ l.find? p = some l[i]
  | [] => .inl ⟨by simp [plcI], rfl⟩
  | a :: l => by
    by_cases h : p a = true
    · right
      exact ⟨0, by simp, by simp [plcI, h], by simp [h]⟩
    · rcases find_plcI (p := p) l with ⟨h1, h2⟩ | ⟨i, hi, h1, h2⟩
      · left
        refine ⟨by rw [plcI, if_neg h, if_pos h1]; decide, by rw [List.find?_cons_of_neg h, h2]⟩
      · right
        refine ⟨i + 1, by simpa using hi, by rw [plcI, if_neg h, if_neg (by omega), h1]; rfl, by rw [List.find?_cons_of_neg h, h2]; rfl⟩
theorem chStep_none {Z : Int} {L : List (Int × Int)} {out : List Int} (h : newI Z L out < 0) : chStep Z L out = out := by
  rcases find_plcI (p := fun z => !decide (z ∈ out)) (nearL Z L (out.getLastD 0)) with ⟨_, h2⟩ | ⟨i, hi, h1, _⟩
  · rw [chStep, h2]
  · unfold newI at h; omega
theorem chStep_some {Z : Int} {L : List (Int × Int)} {out : List Int} (h : 0 ≤ newI Z L out) : ∃ i, ∃ hi : i < (nearL Z L (out.getLastD 0)).length, newI Z L out = (i : Int) ∧ chStep Z L out = out ++ [(nearL Z L (out.getLastD 0))[i]] ∧ (nearL Z L (out.getLastD 0))[i] ∉ out := by
  rcases find_plcI (p := fun z => !decide (z ∈ out)) (nearL Z L (out.getLastD 0)) with ⟨h1, _⟩ | ⟨i, hi, h1, h2⟩
  · unfold newI at h; omega
  · refine ⟨i, hi, h1, by rw [chStep, h2], ?_⟩
    have := List.find?_some h2
    simpa using this
theorem chSt_stay {Z : Int} {L : List (Int × Int)} {a : Int} {k : Nat} (h : chStep Z L (chSt Z L a k) = chSt Z L a k) : ∀ j, k ≤ j → chSt Z L a j = chSt Z L a k
  | 0, hj => by have : k = 0 := by omega
                subst this; rfl
  | j + 1, hj => by
    rcases Nat.lt_or_ge k (j + 1) with h1 | h1
    · rw [chSt, chSt_stay h j (by omega), h]
    · have : k = j + 1 := by omega
      subst this; rfl
/-- What a chain is on the way: all different zones, each one near the one before it. -/
def ChOk (Z : Int) (L : List (Int × Int)) (out : List Int) : Prop := out.Nodup ∧ (∀ z ∈ out, 0 ≤ z ∧ z < Z) ∧ ∀ (i : Nat) (h : i + 1 < out.length), lk L (out[i]'(by omega)) out[i + 1] = true
theorem getLastD_last {α : Type} {l : List α} {d : α} (h : 0 < l.length) : l.getLastD d = l[l.length - 1]'(by omega) := by
  rw [List.getLastD_eq_getLast?, List.getLast?_eq_getElem?, List.getElem?_eq_getElem (by omega)]; rfl
theorem ChOk.one {Z : Int} {L : List (Int × Int)} {a : Int} (h : 0 ≤ a ∧ a < Z) : ChOk Z L [a] := ⟨by simp, fun z hz => by rw [List.mem_singleton.1 hz]; exact h, fun i hi => by simp at hi⟩
theorem ChOk.step {Z : Int} {L : List (Int × Int)} {out : List Int} (h : ChOk Z L out) (hp : 0 < out.length) : ChOk Z L (chStep Z L out) := by
  by_cases hn : newI Z L out < 0
  · rw [chStep_none hn]; exact h
  · obtain ⟨i, hi, _, e, hno⟩ := chStep_some (Z := Z) (L := L) (out := out) (by omega)
    have hm := mem_nearL.1 (List.getElem_mem hi)
    obtain ⟨y, hy⟩ : ∃ y, y = (nearL Z L (out.getLastD 0))[i] := ⟨_, rfl⟩
    rw [← hy] at hm hno e
    rw [getLastD_last hp] at hm
    rw [e]
    refine ⟨?_, ?_, ?_⟩
    · rw [List.nodup_append]
      exact ⟨h.1, by simp, fun x hx z hz e' => by rw [List.mem_singleton] at hz; subst hz; subst e'; exact hno hx⟩
    · intro z hz
      rcases List.mem_append.1 hz with hz | hz
      · exact h.2.1 z hz
      · rw [List.mem_singleton.1 hz]; exact hm.1
    · intro j hj
      rw [List.length_append, List.length_singleton] at hj
      rcases Nat.lt_or_ge (j + 1) out.length with h1 | h1
      · rw [List.getElem_append_left h1, List.getElem_append_left (by omega)]
        exact h.2.2 j h1
      · have hj' : j = out.length - 1 := by omega
        subst hj'
        have e1 : (out ++ [y])[out.length - 1]'(by simp; omega) = out[out.length - 1]'(by omega) := List.getElem_append_left (by omega)
        have e2 : (out ++ [y])[out.length - 1 + 1]'(by simp; omega) = y := by
          rw [List.getElem_append_right (show out.length ≤ out.length - 1 + 1 by omega)]
          simp
        rw [e1, e2]
        exact hm.2
theorem nodup_le {α : Type} [DecidableEq α] : ∀ {l m : List α}, l.Nodup → (∀ a ∈ l, a ∈ m) → l.length ≤ m.length
  | [], _, _, _ => Nat.zero_le _
  | a :: l, m, h, hm => by
    rw [List.nodup_cons] at h
    have h1 := nodup_le (l := l) (m := m.erase a) h.2 (fun b hb => by
      rw [List.mem_erase_of_ne (by rintro rfl; exact h.1 hb)]
      exact hm b (by simp [hb]))
    have ha := hm a (by simp)
    rw [List.length_erase_of_mem ha] at h1
    have : 0 < m.length := List.length_pos_of_mem ha
    simp only [List.length_cons]
    omega
theorem zones_le {Z : Int} {out : List Int} (h1 : out.Nodup) (h2 : ∀ z ∈ out, 0 ≤ z ∧ z < Z) : out.length ≤ Z.toNat := by
  have := nodup_le h1 (m := zonesL Z) (fun z hz => mem_zonesL.2 (h2 z hz))
  rwa [zonesL_len] at this
theorem chSt_ok {Z : Int} {L : List (Int × Int)} {a : Int} (h : 0 ≤ a ∧ a < Z) : ∀ k, ChOk Z L (chSt Z L a k) ∧ 0 < (chSt Z L a k).length
  | 0 => ⟨ChOk.one h, by simp [chSt]⟩
  | k + 1 => by
    obtain ⟨h1, h2⟩ := chSt_ok (L := L) h k
    refine ⟨h1.step h2, ?_⟩
    rw [chSt]
    by_cases hn : newI Z L (chSt Z L a k) < 0
    · rw [chStep_none hn]; exact h2
    · obtain ⟨i, hi, _, e, _⟩ := chStep_some (Z := Z) (L := L) (out := chSt Z L a k) (by omega)
      rw [e]; simp
end Go.Proofs.Ytlhbmfaoldajdaa
