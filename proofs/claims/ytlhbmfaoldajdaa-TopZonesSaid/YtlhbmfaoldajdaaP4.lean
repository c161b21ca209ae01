/-
  THE SEARCH, plain: which places are reached, in which order, from where.
-/
import Derived.Test.YtlhbmfaoldajdaaP3
namespace Go.Proofs.Ytlhbmfaoldajdaa
/-- How a place was reached: the key of the place before, the move, the number of moves. -/
structure Nd where
  p : List Int
  k : List Int
  m : Int × Int
  d : Int
/-- A place on four places. -/
def key4 (s : List Int) : List Int := s ++ List.replicate (4 - s.length) (-1)
def visM (now : List Int) (d : Int) (T : List Nd) (m : Int × Int) : List Nd := if doM now m ∈ T.map (·.p) then T else T ++ [⟨doM now m, key4 now, m, d + 1⟩]
/-- The first j moves of a place, tried. -/
def visTo (Z : Int) (L : List (Int × Int)) (now : List Int) (d : Int) (T : List Nd) (j : Nat) : List Nd := ((movesL Z L now).take j).foldl (visM now d) T
def visit (Z : Int) (L : List (Int × Int)) (now : List Int) (d : Int) (T : List Nd) : List Nd := visTo Z L now d T (movesL Z L now).length
theorem visTo_zero (Z : Int) (L : List (Int × Int)) (now : List Int) (d : Int) (T : List Nd) : visTo Z L now d T 0 = T := by simp [visTo]
theorem visTo_succ {Z : Int} {L : List (Int × Int)} {now : List Int} {d : Int} {T : List Nd} {j : Nat} (h : j < (movesL Z L now).length) : visTo Z L now d T (j + 1) = visM now d (visTo Z L now d T j) (movesL Z L now)[j] := by
  rw [visTo, take_snoc' _ j h, List.foldl_append]; rfl
/-- The search behind q visits. -/
def bfsTo (Z : Int) (L : List (Int × Int)) (s : List Int) : Nat → List Nd
  | 0 => [⟨s, [0, 0, 0, 0], (0, 0), 0⟩]
  | q + 1 => match (bfsTo Z L s q)[q]? with
    | none => bfsTo Z L s q
    | some n => visit Z L n.p n.d (bfsTo Z L s q)
theorem bfsTo_succ {Z : Int} {L : List (Int × Int)} {s : List Int} {q : Nat} (h : q < (bfsTo Z L s q).length) : bfsTo Z L s (q + 1) = visit Z L (bfsTo Z L s q)[q].p (bfsTo Z L s q)[q].d (bfsTo Z L s q) := by
  rw [bfsTo, List.getElem?_eq_getElem h]
def bfsL (Z : Int) (L : List (Int × Int)) (s : List Int) : List Nd := bfsTo Z L s 1296
theorem bfsTo_stay {Z : Int} {L : List (Int × Int)} {s : List Int} {q : Nat} (h : (bfsTo Z L s q).length ≤ q) : ∀ r, q ≤ r → bfsTo Z L s r = bfsTo Z L s q
  | 0, hr => by have : q = 0 := by omega
                subst this; rfl
  | r + 1, hr => by
    rcases Nat.lt_or_ge q (r + 1) with h1 | h1
    · have ih := bfsTo_stay h r (by omega)
      rw [bfsTo, ih, List.getElem?_eq_none (by omega)]
    · have : q = r + 1 := by omega
      subst this; rfl

/-! ## What holds of the search -/
/-- A place of n ions in a trap. -/
def PlOk (Z : Int) (n : Nat) (s : List Int) : Prop := s.length = n ∧ (∀ z ∈ s, 0 ≤ z ∧ z < Z) ∧ s.Nodup
theorem PlOk.of {Z : Int} {s : List Int} (h : placedE Z s = 0) : PlOk Z s.length s := ⟨rfl, (placedE_ok h).2.1, (placedE_ok h).2.2⟩
theorem nodup_set {l : List Int} {i : Nat} {x : Int} (h : l.Nodup) (hx : x ∉ l) : (l.set i x).Nodup := by
  induction l generalizing i with
  | nil => simp
  | cons a l ih =>
    rw [List.nodup_cons] at h
    rw [List.mem_cons, not_or] at hx
    cases i with
    | zero => rw [List.set_cons_zero, List.nodup_cons]; exact ⟨hx.2, h.2⟩
    | succ i =>
      rw [List.set_cons_succ, List.nodup_cons]
      refine ⟨fun hm => ?_, ih h.2 hx.2⟩
      rcases List.mem_or_eq_of_mem_set hm with hm | hm
      · exact h.1 hm
      · exact hx.1 hm.symm
theorem PlOk.move {Z : Int} {L : List (Int × Int)} {n : Nat} {s : List Int} {m : Int × Int} (h : PlOk Z n s) (hm : refuseE Z L s m = 0) : PlOk Z n (doM s m) := by
  obtain ⟨i, h1, hi, hz, hl, hn⟩ := refuseE_ok hm
  refine ⟨by rw [doM_len]; exact h.1, fun z hz' => ?_, nodup_set h.2.2 hn⟩
  rcases List.mem_or_eq_of_mem_set hz' with h2 | h2
  · exact h.2.1 z h2
  · rw [h2]; exact hz
/-- All lists of so many zones. -/
def allZ : Nat → List (List Int)
  | 0 => [[]]
  | n + 1 => (allZ n).flatMap fun p => [0, 1, 2, 3, 4, 5].map fun (z : Int) => z :: p
theorem mem_allZ : ∀ {n : Nat} {s : List Int}, s.length = n → (∀ z ∈ s, 0 ≤ z ∧ z < 6) → s ∈ allZ n
  | 0, s, h, _ => by rw [List.eq_nil_of_length_eq_zero h]; simp [allZ]
  | n + 1, [], h, _ => by simp at h
  | n + 1, z :: s, h, hz => by
    have ih := mem_allZ (n := n) (s := s) (by simpa using h) (fun x hx => hz x (List.mem_cons_of_mem _ hx))
    rw [allZ, List.mem_flatMap]
    refine ⟨s, ih, ?_⟩
    have := hz z (by simp)
    obtain ⟨k, rfl⟩ := Int.eq_ofNat_of_zero_le this.1
    have hk : k < 6 := by omega
    match k, hk with
    | 0, _ => simp
    | 1, _ => simp
    | 2, _ => simp
    | 3, _ => simp
    | 4, _ => simp
    | 5, _ => simp
theorem allZ_len : ∀ n, (allZ n).length = 6 ^ n
  | 0 => rfl
  | n + 1 => by
    rw [allZ, List.length_flatMap]
    have : ∀ l : List (List Int), (l.map fun p => ([0, 1, 2, 3, 4, 5].map fun (z : Int) => z :: p).length).sum = l.length * 6 := by
      intro l
      induction l with
      | nil => simp
      | cons p l ih => rw [List.map_cons, List.sum_cons, ih]; simp; omega
    rw [this, allZ_len n, Nat.pow_succ]
theorem places_le {Z : Int} {n : Nat} {P : List (List Int)} (hZ : Z ≤ 6) (hn : n ≤ 4) (h1 : P.Nodup) (h2 : ∀ s ∈ P, PlOk Z n s) : P.length ≤ 1296 := by
  have := nodup_le h1 (m := allZ n) (fun s hs => mem_allZ (h2 s hs).1 (fun z hz => by have := (h2 s hs).2.1 z hz; omega))
  rw [allZ_len] at this
  have h4 : 6 ^ n ≤ 6 ^ 4 := Nat.pow_le_pow_right (by decide) hn
  have : 6 ^ 4 = 1296 := rfl
  omega
/-- What holds of the nodes: all different places in the trap. -/
def Tidy (Z : Int) (n : Nat) (T : List Nd) : Prop := (T.map (·.p)).Nodup ∧ (∀ x ∈ T, PlOk Z n x.p ∧ x.k.length = 4 ∧ 0 ≤ x.d)
theorem key4_len {s : List Int} (h : s.length ≤ 4) : (key4 s).length = 4 := by simp [key4]; omega
theorem Tidy.visM {Z : Int} {L : List (Int × Int)} {n : Nat} {T : List Nd} {now : List Int} {d : Int} {m : Int × Int} (h : Tidy Z n T) (hp : PlOk Z n now) (hn : n ≤ 4) (hd : 0 ≤ d) (hm : refuseE Z L now m = 0) : Tidy Z n (visM now d T m) := by
  unfold Ytlhbmfaoldajdaa.visM
  split
  · exact h
  · rename_i hno
    refine ⟨?_, fun x hx => ?_⟩
    · rw [List.map_append, List.nodup_append]
      exact ⟨h.1, by simp, fun a ha b hb e => by simp at hb; subst hb; subst e; exact hno ha⟩
    · rcases List.mem_append.1 hx with hx | hx
      · exact h.2 x hx
      · rw [List.mem_singleton] at hx
        subst hx
        exact ⟨hp.move hm, key4_len (by rw [hp.1]; exact hn), by show 0 ≤ d + 1; omega⟩
theorem Tidy.visTo {Z : Int} {L : List (Int × Int)} {n : Nat} {T : List Nd} {now : List Int} {d : Int} (h : Tidy Z n T) (hp : PlOk Z n now) (hn : n ≤ 4) (hd : 0 ≤ d) : ∀ j, j ≤ (movesL Z L now).length → Tidy Z n (visTo Z L now d T j)
  | 0, _ => by rw [visTo_zero]; exact h
  | j + 1, hj => by
    rw [visTo_succ (by omega)]
    exact (Tidy.visTo h hp hn hd j (by omega)).visM hp hn hd (mem_movesL.1 (List.getElem_mem _))
theorem tidy_bfs {Z : Int} {L : List (Int × Int)} {s : List Int} (hp : PlOk Z s.length s) (hn : s.length ≤ 4) : ∀ q, Tidy Z s.length (bfsTo Z L s q)
  | 0 => ⟨by simp [bfsTo], fun x hx => by simp [bfsTo] at hx; subst hx; exact ⟨hp, rfl, Int.le_refl _⟩⟩
  | q + 1 => by
    have ih := tidy_bfs (L := L) hp hn q
    rw [bfsTo]
    cases hg : (bfsTo Z L s q)[q]? with
    | none => exact ih
    | some x =>
      obtain ⟨h1, h2, h3⟩ := ih.2 x (List.mem_of_getElem? hg)
      exact ih.visTo h1 hn h3 _ (Nat.le_refl _)
theorem Tidy.len {Z : Int} {n : Nat} {T : List Nd} (h : Tidy Z n T) (hZ : Z ≤ 6) (hn : n ≤ 4) : T.length ≤ 1296 := by
  have := places_le hZ hn h.1 (fun s hs => by obtain ⟨x, hx, rfl⟩ := List.mem_map.1 hs; exact (h.2 x hx).1)
  simpa using this
end Go.Proofs.Ytlhbmfaoldajdaa
