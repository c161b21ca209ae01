/-
  THE SEARCH, plain: runs of moves; where a node comes from.
-/
import Derived.Test.YtlhbmfaoldajdaaP5
namespace Go.Proofs.Ytlhbmfaoldajdaa
/-- A run of legal moves from one place to another. -/
inductive Run (Z : Int) (L : List (Int × Int)) : List Int → List (Int × Int) → List Int → Prop
  | nil (s : List Int) : Run Z L s [] s
  | cons {s t : List Int} {m : Int × Int} {p : List (Int × Int)} (h : refuseE Z L s m = 0) (r : Run Z L (doM s m) p t) : Run Z L s (m :: p) t
section
variable {Z : Int} {L : List (Int × Int)} {s t v : List Int} {m : Int × Int} {p q : List (Int × Int)}
theorem nowAt_cons (s : List Int) (m : Int × Int) (p : List (Int × Int)) (q : Nat) : nowAt s (m :: p) (q + 1) = nowAt (doM s m) p q := by simp [nowAt]
theorem run_iff : ∀ {p : List (Int × Int)} {s t : List Int}, Run Z L s p t ↔ good Z L s p ∧ nowAt s p p.length = t
  | [], s, t => by
    constructor
    · intro h; cases h; exact ⟨fun q h => absurd h (by simp), by simp [nowAt]⟩
    · rintro ⟨_, h⟩; simp [nowAt] at h; subst h; exact .nil s
  | m :: p, s, t => by
    constructor
    · intro h
      cases h with
      | cons h r =>
        obtain ⟨h1, h2⟩ := run_iff.1 r
        refine ⟨fun q hq => ?_, by rw [List.length_cons, nowAt_cons]; exact h2⟩
        cases q with
        | zero => simpa [nowAt] using h
        | succ q => rw [nowAt_cons]; exact h1 q (by simpa using hq)
    · rintro ⟨h1, h2⟩
      rw [List.length_cons, nowAt_cons] at h2
      refine .cons (by have := h1 0 (by simp); simpa [nowAt] using this) (run_iff.2 ⟨fun q hq => ?_, h2⟩)
      have := h1 (q + 1) (by simpa using hq)
      rw [nowAt_cons] at this
      simpa using this
theorem Run.append (h : Run Z L s p t) (h' : Run Z L t q v) : Run Z L s (p ++ q) v := by
  induction h with
  | nil => exact h'
  | cons h _ ih => exact .cons h (ih h')
theorem Run.snoc (h : Run Z L s p t) (hm : refuseE Z L t m = 0) : Run Z L s (p ++ [m]) (doM t m) := h.append (.cons hm (.nil _))
theorem Run.plOk {n : Nat} (h : Run Z L s p t) (hs : PlOk Z n s) : PlOk Z n t := by
  induction h with
  | nil => exact hs
  | cons h _ ih => exact ih (hs.move h)
end
/-- Each node is the start, or comes from a node by a legal move. -/
def Par (Z : Int) (L : List (Int × Int)) (s : List Int) (T : List Nd) : Prop := ∀ x ∈ T, (x.d = 0 ∧ x.p = s) ∨ ∃ y ∈ T, x.k = key4 y.p ∧ x.d = y.d + 1 ∧ refuseE Z L y.p x.m = 0 ∧ x.p = doM y.p x.m
theorem Par.visM {Z : Int} {L : List (Int × Int)} {s : List Int} {T : List Nd} {x0 : Nd} {m : Int × Int} (h : Par Z L s T) (hx : x0 ∈ T) (hm : refuseE Z L x0.p m = 0) : Par Z L s (visM x0.p x0.d T m) := by
  unfold Ytlhbmfaoldajdaa.visM
  split
  · exact h
  · intro x hx'
    rcases List.mem_append.1 hx' with h1 | h1
    · rcases h x h1 with h2 | ⟨y, hy, h2⟩
      · exact .inl h2
      · exact .inr ⟨y, List.mem_append_left _ hy, h2⟩
    · rw [List.mem_singleton] at h1
      subst h1
      exact .inr ⟨x0, List.mem_append_left _ hx, rfl, rfl, hm, rfl⟩
theorem Par.visTo {Z : Int} {L : List (Int × Int)} {s : List Int} {T : List Nd} {x0 : Nd} (h : Par Z L s T) (hx : x0 ∈ T) : ∀ j, j ≤ (movesL Z L x0.p).length → Par Z L s (visTo Z L x0.p x0.d T j)
  | 0, _ => by rw [visTo_zero]; exact h
  | j + 1, hj => by
    rw [visTo_succ (by omega)]
    obtain ⟨r, hr⟩ := visTo_pre Z L x0.p x0.d T j (by omega)
    exact (Par.visTo h hx j (by omega)).visM (by rw [hr]; exact List.mem_append_left _ hx) (mem_movesL.1 (List.getElem_mem _))
theorem par_bfs (Z : Int) (L : List (Int × Int)) (s : List Int) : ∀ q, Par Z L s (bfsTo Z L s q)
  | 0 => fun x hx => by simp [bfsTo] at hx; subst hx; exact .inl ⟨rfl, rfl⟩
  | q + 1 => by
    have ih := par_bfs Z L s q
    rw [bfsTo]
    cases hg : (bfsTo Z L s q)[q]? with
    | none => exact ih
    | some x => exact ih.visTo (List.mem_of_getElem? hg) _ (Nat.le_refl _)
end Go.Proofs.Ytlhbmfaoldajdaa
