/-
  ALL LISTS OF A LENGTH with numbers within a bound, one after another. (No program is named.)
-/
namespace Go.Proofs.Ytejjogpgolgdgaa
namespace Pulse
theorem take_snoc' {α : Type} (l : List α) (q : Nat) (h : q < l.length) : l.take (q + 1) = l.take q ++ [l[q]] := by rw [List.take_add_one, List.getElem?_eq_getElem h]; rfl
def Forces (F : Int) (p : List Int) : Prop := ∀ f ∈ p, -F ≤ f ∧ f ≤ F
theorem Forces.tail {F f : Int} {p : List Int} (h : Forces F (f :: p)) : Forces F p := fun g hg => h g (by simp [hg])
theorem Forces.take {F : Int} {p : List Int} (h : Forces F p) (k : Nat) : Forces F (p.take k) := fun g hg => h g (List.mem_of_mem_take hg)
/-- The forces -F, .., F. -/
def digs (F : Nat) : List Int := (List.range (2 * F + 1)).map fun (i : Nat) => (i : Int) - (F : Int)
theorem digs_len (F : Nat) : (digs F).length = 2 * F + 1 := by simp [digs]
theorem digs_get (F i : Nat) (h : i < (digs F).length) : (digs F)[i] = (i : Int) - F := by simp [digs]
theorem mem_digs {F : Nat} {f : Int} : f ∈ digs F ↔ -(F : Int) ≤ f ∧ f ≤ F := by
  unfold digs
  rw [List.mem_map]
  constructor
  · rintro ⟨i, hi, rfl⟩
    rw [List.mem_range] at hi
    omega
  · intro h
    exact ⟨(f + F).toNat, by rw [List.mem_range]; omega, by omega⟩
/-- All pulses of length n, the last place the fastest (as the reference makes them). -/
def allP (F : Nat) : Nat → List (List Int)
  | 0 => [[]]
  | n + 1 => (allP F n).flatMap fun p => (digs F).map fun f => p ++ [f]
theorem mem_allP {F : Nat} : ∀ {n : Nat} {p : List Int}, p ∈ allP F n ↔ p.length = n ∧ Forces F p := by
  intro n
  induction n with
  | zero =>
    intro p
    rw [allP, List.mem_singleton]
    constructor
    · rintro rfl; exact ⟨rfl, fun f hf => by cases hf⟩
    · rintro ⟨h, _⟩; exact List.eq_nil_of_length_eq_zero h
  | succ n ih =>
    intro p
    rw [allP, List.mem_flatMap]
    constructor
    · rintro ⟨q, hq, hp⟩
      obtain ⟨f, hf, rfl⟩ := List.mem_map.1 hp
      obtain ⟨h1, h2⟩ := ih.1 hq
      refine ⟨by simp [h1], fun g hg => ?_⟩
      rcases List.mem_append.1 hg with h | h
      · exact h2 g h
      · rw [List.mem_singleton.1 h]; exact mem_digs.1 hf
    · rintro ⟨h1, h2⟩
      have hne : p ≠ [] := by intro e; subst e; simp at h1
      refine ⟨p.dropLast, ih.2 ⟨by simp [h1], fun f hf => h2 f ((List.dropLast_sublist p).subset hf)⟩, List.mem_map.2 ⟨p.getLast hne, mem_digs.2 (h2 _ (List.getLast_mem hne)), List.dropLast_concat_getLast hne⟩⟩

/-- The next pulse: the last place that is not at its end one more, the places behind it at their beginning. -/
def nxt (F : Int) : List Int → Option (List Int)
  | [] => none
  | f :: p => match nxt F p with
    | some p' => some (f :: p')
    | none => if f = F then none else some ((f + 1) :: p.map fun _ => -F)
theorem nxt_top {F : Int} {p : List Int} (h : ∀ f ∈ p, f = F) : nxt F p = none := by
  induction p with
  | nil => rfl
  | cons f p ih => rw [nxt, ih fun g hg => h g (by simp [hg])]; simp [h f (by simp)]
theorem nxt_at {F f : Int} {p : List Int} (hf : f ≠ F) (h : ∀ g ∈ p, g = F) : ∀ a : List Int, nxt F (a ++ f :: p) = some (a ++ (f + 1) :: List.replicate p.length (-F)) := by
  intro a
  induction a with
  | nil => rw [List.nil_append, nxt, nxt_top h]; simp [hf, List.map_const']
  | cons b a ih => rw [List.cons_append, nxt, ih]; rfl
/-- The same list, the first place the slowest. -/
def allC (F : Nat) : Nat → List (List Int)
  | 0 => [[]]
  | n + 1 => (digs F).flatMap fun f => (allC F n).map fun p => f :: p
theorem allC_snoc (F : Nat) : ∀ n, allC F (n + 1) = (allC F n).flatMap fun p => (digs F).map fun f => p ++ [f] := by
  intro n
  induction n with
  | zero => simp [allC, List.flatMap_singleton', List.map_eq_flatMap]
  | succ n ih =>
    have e : allC F (n + 2) = (digs F).flatMap fun f => (allC F (n + 1)).map fun p => f :: p := rfl
    rw [e]
    conv => lhs; rw [ih]
    conv => rhs; rw [show allC F (n + 1) = (digs F).flatMap fun f => (allC F n).map fun p => f :: p from rfl]
    rw [List.flatMap_assoc]
    congr 1
    funext f
    rw [List.map_flatMap, List.flatMap_map]
    congr 1
    funext p
    rw [List.map_map]
    rfl
theorem allP_eq (F : Nat) : ∀ n, allP F n = allC F n := by
  intro n
  induction n with
  | zero => rfl
  | succ n ih => rw [allP, ih, allC_snoc]
/-- Each is followed by its next one; the last has none. -/
def Steps (F : Int) : List (List Int) → Prop
  | [] => True
  | [p] => nxt F p = none
  | p :: q :: l => nxt F p = some q ∧ Steps F (q :: l)
theorem steps_get {F : Int} : ∀ {l : List (List Int)}, Steps F l → ∀ i (h : i < l.length), nxt F l[i] = l[i + 1]? := by
  intro l
  induction l with
  | nil => intro _ i h; simp at h
  | cons p l ih =>
    intro hs i h
    cases l with
    | nil =>
      have : i = 0 := by simp at h; omega
      subst this
      exact hs
    | cons q l =>
      cases i with
      | zero => exact hs.1
      | succ i => exact ih hs.2 i (by simpa using h)
theorem steps_append {F : Int} : ∀ (l m : List (List Int)) (q : List Int), (∀ i (h : i + 1 < l.length), nxt F l[i] = some l[i + 1]) → (∀ p, l.getLast? = some p → nxt F p = some q) → Steps F (q :: m) → Steps F (l ++ q :: m) := by
  intro l
  induction l with
  | nil => intro m q _ _ h; exact h
  | cons p l ih =>
    intro m q h1 h2 h3
    cases l with
    | nil => exact ⟨h2 p rfl, h3⟩
    | cons r l =>
      refine ⟨h1 0 (by simp), ih m q (fun i h => h1 (i + 1) (by simpa using h)) (fun p hp => h2 p (by simpa using hp)) h3⟩
theorem steps_map {F : Int} {f : Int} : ∀ {l : List (List Int)}, Steps F l → ∀ i (h : i + 1 < (l.map (f :: ·)).length), nxt F (l.map (f :: ·))[i] = some (l.map (f :: ·))[i + 1] := by
  intro l hs i h
  have h' : i + 1 < l.length := by simpa using h
  have := steps_get hs i (by omega)
  rw [List.getElem?_eq_getElem h'] at this
  rw [List.getElem_map, List.getElem_map, nxt, this]
theorem allC_ends (F n : Nat) : (allC F n).head? = some (List.replicate n (-(F : Int))) ∧ (allC F n).getLast? = some (List.replicate n (F : Int)) := by
  induction n with
  | zero => exact ⟨rfl, rfl⟩
  | succ n ih =>
    have hd : digs F = -(F : Int) :: (digs F).tail := by
      have h : (digs F).length = 2 * F + 1 := digs_len F
      cases hc : digs F with
      | nil => rw [hc] at h; simp at h
      | cons a t =>
        have h0 := digs_get F 0 (by omega)
        have : a = -(F : Int) := by
          have : (digs F)[0]'(by omega) = a := by simp [hc]
          rw [← this, h0]; omega
        rw [this]; rfl
    have hl : digs F = (digs F).dropLast ++ [(F : Int)] := by
      have h : (digs F).length = 2 * F + 1 := digs_len F
      have hne : digs F ≠ [] := by intro e; rw [e] at h; simp at h
      have := List.dropLast_concat_getLast hne
      rw [← this]
      congr 1
      · simp
      · rw [List.getLast_eq_getElem]
        rw [digs_get]
        simp only [digs_len]
        congr 1
        omega
    refine ⟨?_, ?_⟩
    · rw [allC, hd, List.flatMap_cons, List.head?_append, List.head?_map, ih.1]; rfl
    · rw [allC, hl, List.flatMap_append, List.flatMap_cons, List.flatMap_nil, List.append_nil, List.getLast?_append, List.getLast?_map, ih.2]; rfl
theorem last_step {F : Int} (A : List (List Int)) (q : List Int) (hm : ∀ i (h : i + 1 < (A ++ [q]).length), nxt F (A ++ [q])[i] = some (A ++ [q])[i + 1]) (p : List Int) (hp : A.getLast? = some p) : nxt F p = some q := by
  have hne : A ≠ [] := by intro e; rw [e] at hp; simp at hp
  have hpos := List.length_pos_iff.2 hne
  have := hm (A.length - 1) (by simp; omega)
  rw [List.getElem_append_left (by omega)] at this
  simp only [show A.length - 1 + 1 = A.length by omega, List.getElem_concat_length] at this
  rw [List.getLast?_eq_getElem?, List.getElem?_eq_getElem (by omega)] at hp
  injection hp with hp
  rw [← hp]
  exact this
theorem steps_blocks (F n : Nat) (hn : Steps F (allC F n)) : ∀ (k : Nat) (l : List Int), (∀ i (h : i < l.length), l[i] = (F : Int) - k + i) → l.length = k + 1 → Steps F (l.flatMap fun f => (allC F n).map fun p => f :: p) := by
  obtain ⟨e1, e2⟩ := allC_ends F n
  intro k
  induction k with
  | zero =>
    intro l hl hk
    obtain ⟨f, rfl⟩ := List.length_eq_one_iff.1 hk
    have hf : f = F := by have := hl 0 (by simp); simpa using this
    subst hf
    rw [List.flatMap_cons, List.flatMap_nil, List.append_nil]
    have hm := steps_map (f := (F : Int)) hn
    obtain ⟨a, ha⟩ : ∃ a, (allC F n) = a ++ [List.replicate n (F : Int)] := by
      refine ⟨(allC F n).dropLast, ?_⟩
      have hne : allC F n ≠ [] := by intro e; rw [e] at e2; simp at e2
      have := List.dropLast_concat_getLast hne
      rw [List.getLast?_eq_some_getLast hne] at e2
      injection e2 with e2
      rw [e2] at this
      exact this.symm
    generalize allC F n = C at *
    subst ha
    rw [show (a ++ [List.replicate n (F : Int)]).map (fun p => (F : Int) :: p) = a.map (fun p => (F : Int) :: p) ++ [(F : Int) :: List.replicate n (F : Int)] by simp]
    have hm : ∀ i (h : i + 1 < (a.map (fun p => (F : Int) :: p) ++ [(F : Int) :: List.replicate n (F : Int)]).length), nxt F (a.map (fun p => (F : Int) :: p) ++ [(F : Int) :: List.replicate n (F : Int)])[i] = some (a.map (fun p => (F : Int) :: p) ++ [(F : Int) :: List.replicate n (F : Int)])[i + 1] := by
      have e : (a ++ [List.replicate n (F : Int)]).map (fun p => (F : Int) :: p) = a.map (fun p => (F : Int) :: p) ++ [(F : Int) :: List.replicate n (F : Int)] := by simp
      intro i h
      have := hm i (by rw [e]; exact h)
      simpa only [e] using this
    refine steps_append _ [] _ (fun i h => ?_) (fun p hp => ?_) ?_
    · have := hm i (by simp at h ⊢; omega)
      rw [List.getElem_append_left (by omega), List.getElem_append_left h] at this
      exact this
    · exact last_step _ _ hm p hp
    · show nxt F ((F : Int) :: List.replicate n (F : Int)) = none
      refine nxt_top fun f hf => ?_
      rcases List.mem_cons.1 hf with h | h
      · exact h
      · exact (List.mem_replicate.1 h).2
  | succ k ih =>
    intro l hl hk
    cases l with
    | nil => simp at hk
    | cons f l =>
      have hf : f = (F : Int) - (k + 1 : Nat) := by have := hl 0 (by simp); simpa using this
      have hi := ih l (fun i h => by have := hl (i + 1) (by simpa using h); rw [List.getElem_cons_succ] at this; rw [this]; omega) (by simpa using hk)
      rw [List.flatMap_cons]
      have hh : (l.flatMap fun f => (allC F n).map fun p => f :: p).head? = some ((f + 1) :: List.replicate n (-(F : Int))) := by
        cases l with
        | nil => simp at hk
        | cons g l =>
          have hg : g = f + 1 := by have := hl 1 (by simp); simp at this; omega
          rw [List.flatMap_cons, List.head?_append, List.head?_map, e1, hg]; rfl
      generalize (l.flatMap fun f => (allC F n).map fun p => f :: p) = L at hi hh
      cases L with
      | nil => simp at hh
      | cons q L =>
        injection hh with hq
        subst hq
        refine steps_append _ L _ (steps_map hn) (fun p hp => ?_) hi
        rw [List.getLast?_map, e2] at hp
        injection hp with hp
        rw [← hp]
        have hne : f ≠ F := by omega
        have := nxt_at (F := (F : Int)) (p := List.replicate n (F : Int)) hne (fun g hg => (List.mem_replicate.1 hg).2) []
        simpa using this
theorem steps_all (F n : Nat) : Steps F (allC F n) := by
  induction n with
  | zero => rfl
  | succ n ih =>
    refine steps_blocks F n ih (2 * F) (digs F) (fun i h => ?_) (digs_len F)
    rw [digs_get]
    omega
theorem allP_nxt (F n i : Nat) (h : i < (allP F n).length) : nxt F (allP F n)[i] = (allP F n)[i + 1]? := by
  simp only [allP_eq] at h ⊢
  exact steps_get (steps_all F n) i h
theorem allP_head (F n : Nat) : ∃ h : 0 < (allP F n).length, (allP F n)[0] = List.replicate n (-(F : Int)) := by
  have h := (allC_ends F n).1
  rw [← allP_eq] at h
  cases hl : allP F n with
  | nil => rw [hl] at h; simp at h
  | cons a l => rw [hl] at h; injection h with h; exact ⟨by simp, by simpa using h⟩
theorem allP_len (F : Nat) : ∀ n, (allP F n).length = (2 * F + 1) ^ n := by
  intro n
  induction n with
  | zero => rfl
  | succ n ih =>
    rw [allP, List.length_flatMap]
    have : ∀ l : List (List Int), (l.map fun p => ((digs F).map fun f => p ++ [f]).length).sum = l.length * (2 * F + 1) := by
      intro l
      induction l with
      | nil => simp
      | cons p l ih => rw [List.map_cons, List.sum_cons, ih, List.length_map, digs_len, List.length_cons, Nat.add_mul]; omega
    rw [this, ih, Nat.pow_succ]
theorem allP_nodup (F : Nat) : ∀ n, (allP F n).Nodup := by
  have hd : (digs F).Nodup := by
    unfold digs
    rw [List.nodup_iff_pairwise_ne, List.pairwise_map]
    refine List.Pairwise.imp ?_ (List.nodup_range (n := 2 * F + 1))
    intro a b h e
    exact h (by omega)
  intro n
  induction n with
  | zero => simp [allP]
  | succ n ih =>
    rw [allP, List.nodup_iff_pairwise_ne, List.pairwise_flatMap]
    refine ⟨fun p _ => ?_, ?_⟩
    · rw [List.pairwise_map]
      exact List.Pairwise.imp (fun h e => h (by simpa using e)) hd
    · refine List.Pairwise.imp ?_ ih
      intro p q h x hx y hy e
      obtain ⟨f, _, rfl⟩ := List.mem_map.1 hx
      obtain ⟨g, _, rfl⟩ := List.mem_map.1 hy
      exact h (List.append_inj' e rfl).1
end Pulse
end Go.Proofs.Ytejjogpgolgdgaa
