/-
  PLAIN LAWS OF COURSES. No program is named.
-/
import Derived.Test.YtejjogpgolgdgaaP3
import Derived.Test.YtejjogpgolgdgaaW27
namespace Go.Proofs.Ytejjogpgolgdgaa
open Go.RowKit Pulse

theorem absI_sub (a b : Int) : absI (a - b) = absI (b - a) := by unfold absI; omega
theorem jumpL_comm (a b : List Int) : jumpL a b = jumpL b a := by
  have h : ∀ (a b : List Int) (n : Int), (subL a b).foldl (fun n a => max n (absI a)) n = (subL b a).foldl (fun n a => max n (absI a)) n := by
    intro a
    induction a with
    | nil => intro b n; cases b <;> rfl
    | cons x a ih =>
      intro b n
      cases b with
      | nil => rfl
      | cons y b =>
        simp only [subL, List.zipWith_cons_cons, List.foldl_cons] at ih ⊢
        rw [absI_sub x y]
        exact ih b _
  exact h a b 0
theorem jumpL_self (a : List Int) : jumpL a a = 0 := (jumpL_zero rfl).2 rfl

/-- The greatest jump of neighbors. -/
def jumpC : List (List Int) → Int
  | [] => 0
  | [_] => 0
  | v :: u :: c => max (jumpL v u) (jumpC (u :: c))
theorem jumpC_nn : ∀ c, 0 ≤ jumpC c
  | [] => Int.le_refl _
  | [_] => Int.le_refl _
  | v :: u :: c => by have := jumpC_nn (u :: c); rw [jumpC]; omega
theorem jumpC_snoc : ∀ (c : List (List Int)) (u v : List Int), jumpC (c ++ [u] ++ [v]) = max (jumpC (c ++ [u])) (jumpL u v)
  | [], u, v => by simp [jumpC]; omega
  | [a], u, v => by simp [jumpC]; omega
  | a :: b :: c, u, v => by
    have := jumpC_snoc (b :: c) u v
    simp only [List.cons_append] at this ⊢
    rw [jumpC, this, jumpC]
    omega
theorem jumpC_rev : ∀ c, jumpC c.reverse = jumpC c
  | [] => rfl
  | [_] => rfl
  | v :: u :: c => by
    have := jumpC_rev (u :: c)
    rw [List.reverse_cons] at this
    rw [List.reverse_cons, List.reverse_cons, jumpC_snoc, this, jumpC, jumpL_comm u v]
    omega
theorem jumpC_init (c : List (List Int)) (v : List Int) : jumpC c ≤ jumpC (c ++ [v]) := by
  rcases List.eq_nil_or_concat c with rfl | ⟨d, u, rfl⟩
  · exact Int.le_refl _
  · rw [List.concat_eq_append, jumpC_snoc]; omega

/-- Voltages for each wish. -/
def IsC (g : List (List Int)) : List (List Int) → List (List Int) → Prop
  | [], [] => True
  | l :: row, v :: c => v ∈ makeL g l ∧ IsC g row c
  | [], _ :: _ => False
  | _ :: _, [] => False
theorem IsC.len {g : List (List Int)} : ∀ {row c : List (List Int)}, IsC g row c → c.length = row.length
  | [], [], _ => rfl
  | l :: row, v :: c, h => by rw [List.length_cons, List.length_cons, IsC.len h.2]
  | [], _ :: _, h => False.elim h
  | _ :: _, [], h => False.elim h
theorem isC_app {g : List (List Int)} : ∀ {row c row' c' : List (List Int)}, c.length = row.length → (IsC g (row ++ row') (c ++ c') ↔ IsC g row c ∧ IsC g row' c')
  | [], [], _, _, _ => by simp [IsC]
  | l :: row, v :: c, row', c', h => by
    have := isC_app (g := g) (row := row) (c := c) (row' := row') (c' := c') (by simpa using h)
    simp only [List.cons_append, IsC, this, and_assoc]
  | [], _ :: _, _, _, h => by simp at h
  | _ :: _, [], _, _, h => by simp at h
theorem isC_one {g : List (List Int)} {l v : List Int} : IsC g [l] [v] ↔ v ∈ makeL g l := by simp [IsC]
theorem isC_snoc {g row c : List (List Int)} {l v : List Int} : IsC g (row ++ [l]) (c ++ [v]) ↔ IsC g row c ∧ v ∈ makeL g l := by
  constructor
  · intro h
    have hl := h.len
    have h1 := (isC_app (g := g) (row := row) (c := c) (row' := [l]) (c' := [v]) (by simpa using hl)).1 h
    exact ⟨h1.1, isC_one.1 h1.2⟩
  · intro h
    exact (isC_app h.1.len).2 ⟨h.1, isC_one.2 h.2⟩
theorem IsC.rev {g : List (List Int)} : ∀ {row c : List (List Int)}, IsC g row c → IsC g row.reverse c.reverse
  | [], [], _ => trivial
  | l :: row, v :: c, h => by
    rw [List.reverse_cons, List.reverse_cons]
    exact isC_snoc.2 ⟨IsC.rev h.2, h.1⟩
  | [], _ :: _, h => False.elim h
  | _ :: _, [], h => False.elim h
theorem isC_ex {g : List (List Int)} : ∀ {row : List (List Int)}, (∃ c, IsC g row c) ↔ ∀ l ∈ row, 0 < (makeL g l).length
  | [] => by constructor; · intro _ l h; cases h
             · intro _; exact ⟨[], trivial⟩
  | l :: row => by
    have ih := isC_ex (g := g) (row := row)
    constructor
    · rintro ⟨c, hc⟩ x hx
      cases c with
      | nil => exact False.elim hc
      | cons v c =>
        rcases List.mem_cons.1 hx with rfl | hx
        · exact List.length_pos_of_mem hc.1
        · exact ih.1 ⟨c, hc.2⟩ x hx
    · intro h
      obtain ⟨c, hc⟩ := ih.2 (fun x hx => h x (List.mem_cons_of_mem _ hx))
      exact ⟨(makeL g l)[0]'(h l (by simp)) :: c, List.getElem_mem _, hc⟩
theorem isC_get {g : List (List Int)} : ∀ {row c : List (List Int)}, c.length = row.length → (IsC g row c ↔ ∀ (i : Nat) (h : i < row.length) (h' : i < c.length), c[i] ∈ makeL g row[i])
  | [], [], _ => by simp [IsC]
  | l :: row, v :: c, h => by
    have ih := isC_get (g := g) (row := row) (c := c) (by simpa using h)
    simp only [IsC, ih]
    constructor
    · rintro ⟨h1, h2⟩ i h h'
      cases i with
      | zero => exact h1
      | succ i => exact h2 i (by simpa using h) (by simpa using h')
    · intro h
      exact ⟨h 0 (by simp) (by simp), fun i h1 h2 => h (i + 1) (by simpa using h1) (by simpa using h2)⟩
  | [], _ :: _, h => by simp at h
  | _ :: _, [], h => by simp at h

/-! ## The ends are courses' ends -/
theorem pick_neg {prev : List End} {v : List Int} : ∀ k, k ≤ prev.length → 0 < k → 0 ≤ (pick prev v k).2
  | 0, _, h => absurd h (by omega)
  | k + 1, h, _ => by
    rw [pick_succ (List.getElem?_eq_getElem (show k < prev.length by omega))]
    split
    · show 0 ≤ (k : Int); omega
    · rename_i hc
      have : ¬ (pick prev v k).2 < 0 := fun h => hc (.inl h)
      omega
theorem pick_at {prev : List End} {v : List Int} : ∀ k, k ≤ prev.length → 0 ≤ (pick prev v k).2 → ∃ i, ∃ h : i < prev.length, (pick prev v k).2 = (i : Int) ∧ (pick prev v k).1 = max prev[i].j (jumpL prev[i].v v)
  | 0, _, h => absurd h (by simp [pick])
  | k + 1, h, h0 => by
    have hk : k < prev.length := by omega
    rw [pick_succ (List.getElem?_eq_getElem hk)] at h0 ⊢
    split
    · exact ⟨k, hk, rfl, rfl⟩
    · rename_i hc
      rw [if_neg hc] at h0
      exact pick_at k (by omega) h0
theorem pick_min {prev : List End} {v : List Int} : ∀ k, k ≤ prev.length → ∀ i (h : i < prev.length), i < k → (pick prev v k).1 ≤ max prev[i].j (jumpL prev[i].v v)
  | 0, _, _, _, h => absurd h (by omega)
  | k + 1, h, i, hi, hik => by
    have hk : k < prev.length := by omega
    have ih := pick_min (v := v) k (by omega) i hi
    rw [pick_succ (List.getElem?_eq_getElem hk)]
    split
    · rename_i hc
      rcases Nat.lt_or_ge i k with h1 | h1
      · have h2 := ih h1
        have h3 := pick_neg (prev := prev) (v := v) k (by omega) (by omega)
        rcases hc with hc | hc
        · exact absurd hc (by omega)
        · exact Int.le_trans (Int.le_of_lt hc) h2
      · obtain rfl : i = k := by omega
        exact Int.le_refl _
    · rename_i hc
      rcases Nat.lt_or_ge i k with h1 | h1
      · exact ih h1
      · obtain rfl : i = k := by omega
        exact Int.not_lt.1 fun h => hc (.inr h)
theorem mem_nextAll {first : Bool} {prev : List End} {M : List (List Int)} {e : End} : e ∈ nextTo first prev M M.length ↔ ∃ v ∈ M, nx first prev v = some e := by
  rw [nextTo, List.take_length, List.mem_filterMap]
theorem row_take {row : List (List Int)} {q : Nat} (h : q < row.length) : row.take (q + 1) = row.take q ++ [row.getD q []] := by
  rw [take_snoc_l row q h]; simp [List.getD, List.getElem?_eq_getElem h]
where take_snoc_l {α : Type} (l : List α) (q : Nat) (h : q < l.length) : l.take (q + 1) = l.take q ++ [l[q]] := by rw [List.take_add_one, List.getElem?_eq_getElem h]; rfl
theorem lastEnds_zero (g row : List (List Int)) : lastEnds g row 0 = [] := rfl
/-- Each end has a course with its jump; the end before it lies where it says. -/
theorem ends_back {g row : List (List Int)} {q : Nat} {e : End} (he : e ∈ lastEnds g row (q + 1)) :
    e.v ∈ makeL g (row.getD q []) ∧ (q = 0 → e.j = 0 ∧ e.b = -1) ∧ (0 < q → ∃ i, ∃ h : i < (lastEnds g row q).length, e.b = (i : Int) ∧ e.j = max (lastEnds g row q)[i].j (jumpL (lastEnds g row q)[i].v e.v)) := by
  rw [lastEnds_succ] at he
  obtain ⟨v, hv, hx⟩ := mem_nextAll.1 he
  unfold nx at hx
  split at hx
  · rename_i hc
    injection hx with hx
    subst hx
    refine ⟨hv, fun h => ?_, fun h => ?_⟩
    · subst h
      rw [lastEnds_zero]
      exact ⟨rfl, rfl⟩
    · have hc' : 0 ≤ (pick (lastEnds g row q) v (lastEnds g row q).length).2 := by
        simpa [show ¬ q = 0 by omega] using hc
      obtain ⟨i, hi, h1, h2⟩ := pick_at _ (Nat.le_refl _) hc'
      exact ⟨i, hi, h1, h2⟩
  · cases hx
theorem ends_have {g row : List (List Int)} : ∀ (q : Nat), q < row.length → ∀ e ∈ lastEnds g row (q + 1), ∃ c, IsC g (row.take (q + 1)) (c ++ [e.v]) ∧ jumpC (c ++ [e.v]) = e.j
  | 0, h, e, he => by
    obtain ⟨h1, h2, _⟩ := ends_back he
    refine ⟨[], ?_, ?_⟩
    · rw [row_take h, List.take_zero]; exact isC_one.2 h1
    · rw [(h2 rfl).1]; rfl
  | q + 1, h, e, he => by
    obtain ⟨h1, _, h3⟩ := ends_back he
    obtain ⟨i, hi, _, hj⟩ := h3 (by omega)
    obtain ⟨c, hc, hcj⟩ := ends_have q (by omega) _ (List.getElem_mem hi)
    refine ⟨c ++ [(lastEnds g row (q + 1))[i].v], ?_, ?_⟩
    · rw [row_take h]; exact isC_snoc.2 ⟨hc, h1⟩
    · rw [jumpC_snoc, hcj, hj]
/-- Each course ends at one of the ends, which has no greater jump. -/
theorem ends_all {g row : List (List Int)} : ∀ (q : Nat), q < row.length → ∀ c v, IsC g (row.take (q + 1)) (c ++ [v]) → ∃ e ∈ lastEnds g row (q + 1), e.v = v ∧ e.j ≤ jumpC (c ++ [v])
  | 0, h, c, v, hc => by
    rw [row_take h] at hc
    have hv := (isC_snoc.1 hc).2
    refine ⟨⟨v, 0, -1⟩, ?_, rfl, jumpC_nn _⟩
    rw [lastEnds_succ, mem_nextAll]
    exact ⟨v, hv, by rw [lastEnds_zero]; rfl⟩
  | q + 1, h, c, v, hc => by
    rw [row_take h] at hc
    obtain ⟨hc, hv⟩ := isC_snoc.1 hc
    have hcl := hc.len
    rw [List.length_take] at hcl
    rcases List.eq_nil_or_concat c with rfl | ⟨d, u, rfl⟩
    · simp at hcl; omega
    rw [List.concat_eq_append] at hc ⊢
    obtain ⟨y, hy, rfl, hyj⟩ := ends_all q (by omega) d u hc
    obtain ⟨i, hi, rfl⟩ := List.getElem_of_mem hy
    have hp := pick_neg (v := v) (prev := lastEnds g row (q + 1)) _ (Nat.le_refl _) (by omega)
    have hm := pick_min (v := v) (prev := lastEnds g row (q + 1)) _ (Nat.le_refl _) i hi hi
    refine ⟨⟨v, (pick (lastEnds g row (q + 1)) v (lastEnds g row (q + 1)).length).1, (pick (lastEnds g row (q + 1)) v (lastEnds g row (q + 1)).length).2⟩, ?_, rfl, ?_⟩
    · rw [lastEnds_succ g row (q + 1), mem_nextAll]
      exact ⟨v, hv, by rw [nx, if_pos (by simp; omega)]⟩
    · rw [jumpC_snoc]
      show (pick (lastEnds g row (q + 1)) v (lastEnds g row (q + 1)).length).1 ≤ _
      omega

/-! ## The smallest jump -/
theorem bestTo_min {es : List End} : ∀ k, k ≤ es.length → ∀ i (h : i < es.length), i < k → ∃ b, ∃ hb : b < es.length, bestTo es k = (b : Int) ∧ es[b].j ≤ es[i].j
  | 0, _, _, _, h => absurd h (by omega)
  | k + 1, h, i, hi, hik => by
    have hk : k < es.length := by omega
    rw [bestTo_succ (List.getElem?_eq_getElem hk)]
    by_cases h0 : k = 0
    · subst h0
      obtain rfl : i = 0 := by omega
      exact ⟨0, hk, rfl, Int.le_refl _⟩
    · have hb := bestTo_bd es k (by omega)
      have hp := bestTo_pos es k (by omega) (by omega)
      obtain ⟨m, hm⟩ := Int.eq_ofNat_of_zero_le hp
      have hmk : m < es.length := by omega
      have hg : ((es.map (·.j)).getD (bestTo es k).toNat 0) = es[m].j := by rw [hm]; simp [List.getD, List.getElem?_eq_getElem hmk]
      rw [hg]
      have ih := bestTo_min k (by omega) i hi
      have ih0 : i < k → es[m].j ≤ es[i].j := fun h => by
        obtain ⟨b, hb, e1, e2⟩ := ih h
        have : b = m := by omega
        subst this
        exact e2
      split
      · rename_i hc
        have hc : es[k].j < es[m].j := hc.resolve_left (by omega)
        refine ⟨k, hk, rfl, ?_⟩
        rcases Nat.lt_or_ge i k with h1 | h1
        · have := ih0 h1; omega
        · obtain rfl : i = k := by omega
          exact Int.le_refl _
      · rename_i hc
        refine ⟨m, hmk, by omega, ?_⟩
        rcases Nat.lt_or_ge i k with h1 | h1
        · exact ih0 h1
        · obtain rfl : i = k := by omega
          exact Int.not_lt.1 fun h => hc (.inr h)
theorem bestI_ok {es : List End} (h : 0 < es.length) : ∃ b, ∃ hb : b < es.length, bestI es = (b : Int) ∧ ∀ e ∈ es, es[b].j ≤ e.j := by
  have h1 := bestTo_bd es es.length (Nat.le_refl _)
  have h2 := bestTo_pos es es.length (Nat.le_refl _) h
  obtain ⟨b, hb⟩ := Int.eq_ofNat_of_zero_le h2
  have hbl : b < es.length := by omega
  refine ⟨b, hbl, hb, fun e he => ?_⟩
  obtain ⟨i, hi, rfl⟩ := List.getElem_of_mem he
  obtain ⟨c, hc, e1, e2⟩ := bestTo_min es.length (Nat.le_refl _) i hi hi
  have : c = b := by omega
  subst this
  exact e2
/-- Smooth is true exactly if there is a course; its number is the smallest jump. -/
theorem smooth_law {g row : List (List Int)} (h : rowE g row = 0) :
    (smoothIs g row = true ↔ ∃ c, IsC g row c) ∧ (smoothIs g row = true → (∃ c, IsC g row c ∧ jumpC c = smoothN g row) ∧ ∀ c, IsC g row c → smoothN g row ≤ jumpC c) := by
  obtain ⟨hv, h1, h5, _⟩ := rowE_ok h
  obtain ⟨q, hq⟩ : ∃ q, row.length = q + 1 := ⟨row.length - 1, by omega⟩
  have ht : row.take (q + 1) = row := by rw [← hq, List.take_length]
  have hE : lastE g row = lastEnds g row (q + 1) := by rw [lastE, hq]
  have hhave := ends_have (g := g) (row := row) q (by omega)
  have hall := ends_all (g := g) (row := row) q (by omega)
  rw [ht, ← hE] at hhave hall
  have hall' : ∀ c, IsC g row c → ∃ e ∈ lastE g row, e.j ≤ jumpC c := by
    intro c hc
    have hl := hc.len
    rcases List.eq_nil_or_concat c with rfl | ⟨d, u, rfl⟩
    · simp at hl; omega
    · rw [List.concat_eq_append] at hc ⊢
      obtain ⟨e, he, _, hj⟩ := hall d u hc
      exact ⟨e, he, hj⟩
  have hs : smoothIs g row = decide (0 < (lastE g row).length) := by rw [smoothIs, h]; rfl
  refine ⟨?_, fun hsm => ?_⟩
  · rw [hs, decide_eq_true_eq]
    constructor
    · intro hp
      obtain ⟨c, hc, _⟩ := hhave _ (List.getElem_mem hp)
      exact ⟨_, hc⟩
    · rintro ⟨c, hc⟩
      obtain ⟨e, he, _⟩ := hall' c hc
      exact List.length_pos_of_mem he
  · have hp : 0 < (lastE g row).length := by simpa [hs] using hsm
    obtain ⟨b, hb, hbe, hmin⟩ := bestI_ok hp
    have hN : smoothN g row = (lastE g row)[b].j := by rw [smoothN, if_pos hsm, hbe]; simp [List.getD, List.getElem?_eq_getElem hb]
    rw [hN]
    refine ⟨?_, fun c hc => ?_⟩
    · obtain ⟨c, hc, hcj⟩ := hhave _ (List.getElem_mem hb)
      exact ⟨_, hc, hcj⟩
    · obtain ⟨e, he, hj⟩ := hall' c hc
      have := hmin e he
      omega
theorem smoothN_else {g row : List (List Int)} (h : smoothIs g row = false) : smoothN g row = 0 := by rw [smoothN, h]; rfl
theorem smooth_eq {g row row' : List (List Int)} (h : rowE g row = 0) (h' : rowE g row' = 0) (hab : ∀ c, IsC g row c → ∃ c', IsC g row' c' ∧ jumpC c' ≤ jumpC c) (hba : ∀ c, IsC g row' c → ∃ c', IsC g row c' ∧ jumpC c' ≤ jumpC c) : smoothIs g row' = smoothIs g row ∧ smoothN g row' = smoothN g row := by
  obtain ⟨a1, a2⟩ := smooth_law h
  obtain ⟨b1, b2⟩ := smooth_law h'
  have hi : smoothIs g row' = true ↔ smoothIs g row = true := by
    rw [a1, b1]
    constructor
    · rintro ⟨c, hc⟩; obtain ⟨c', hc', _⟩ := hba c hc; exact ⟨c', hc'⟩
    · rintro ⟨c, hc⟩; obtain ⟨c', hc', _⟩ := hab c hc; exact ⟨c', hc'⟩
  by_cases hs : smoothIs g row = true
  · have hs' := hi.2 hs
    refine ⟨by rw [hs, hs'], ?_⟩
    obtain ⟨⟨c, hc, hcj⟩, hm⟩ := a2 hs
    obtain ⟨⟨d, hd, hdj⟩, hm'⟩ := b2 hs'
    obtain ⟨c', hc', hcj'⟩ := hab c hc
    obtain ⟨d', hd', hdj'⟩ := hba d hd
    have := hm d' hd'
    have := hm' c' hc'
    omega
  · have hs0 : smoothIs g row = false := by simpa using hs
    have hs' : smoothIs g row' = false := by
      cases hx : smoothIs g row' with
      | false => rfl
      | true => exact absurd (hi.1 hx) hs
    rw [hs0, hs', smoothN_else hs0, smoothN_else hs']
    exact ⟨rfl, rfl⟩
theorem rowE_of {g row : List (List Int)} (hv : vldG g = 0) (h1 : 1 ≤ row.length) (h5 : row.length ≤ 5) (hw : ∀ l ∈ row, wOk g l = true) : rowE g row = 0 := by
  rw [rowE, if_pos hv, if_pos (by simp only [Bool.and_eq_true, decide_eq_true_eq, List.all_eq_true]; exact ⟨⟨h1, h5⟩, hw⟩)]
theorem rowE_rev {g row : List (List Int)} (h : rowE g row = 0) : rowE g row.reverse = 0 := by
  obtain ⟨hv, h1, h5, hw⟩ := rowE_ok h
  exact rowE_of hv (by simpa using h1) (by simpa using h5) (fun l hl => hw l (by simpa using hl))
theorem rowE_init {g row : List (List Int)} (h : rowE g row = 0) (h2 : 2 ≤ row.length) : rowE g (row.take (row.length - 1)) = 0 := by
  obtain ⟨hv, h1, h5, hw⟩ := rowE_ok h
  exact rowE_of hv (by simp; omega) (by simp; omega) (fun l hl => hw l (List.mem_of_mem_take hl))
/-- A row from the end on. -/
theorem smooth_rev {g row : List (List Int)} (h : rowE g row = 0) : smoothIs g row.reverse = smoothIs g row ∧ smoothN g row.reverse = smoothN g row :=
  smooth_eq h (rowE_rev h) (fun c hc => ⟨c.reverse, hc.rev, by rw [jumpC_rev]; exact Int.le_refl _⟩) (fun c hc => ⟨c.reverse, by have := hc.rev; rwa [List.reverse_reverse] at this, by rw [jumpC_rev]; exact Int.le_refl _⟩)
/-- The beginning of a row. -/
theorem smooth_init {g row : List (List Int)} (h : rowE g row = 0) (h2 : 2 ≤ row.length) (hs : smoothIs g row = true) : smoothIs g (row.take (row.length - 1)) = true ∧ smoothN g (row.take (row.length - 1)) ≤ smoothN g row := by
  obtain ⟨a1, a2⟩ := smooth_law h
  obtain ⟨b1, b2⟩ := smooth_law (rowE_init h h2)
  obtain ⟨⟨c, hc, hcj⟩, _⟩ := a2 hs
  obtain ⟨q, hq⟩ : ∃ q, row.length = q + 1 := ⟨row.length - 1, by omega⟩
  have hcl := hc.len
  rcases List.eq_nil_or_concat c with rfl | ⟨d, u, rfl⟩
  · simp at hcl; omega
  rw [List.concat_eq_append] at hc hcj
  have ht : row = row.take q ++ [row.getD q []] := by rw [← row_take (by omega), ← hq, List.take_length]
  rw [show row.length - 1 = q by omega] at b1 b2 ⊢
  rw [ht] at hc
  have hd := (isC_snoc.1 hc).1
  have hb := b1.2 ⟨d, hd⟩
  refine ⟨hb, ?_⟩
  have := (b2 hb).2 d hd
  have := jumpC_init d u
  omega
/-- There is a course exactly if each wish has voltages. -/
theorem smooth_each {g row : List (List Int)} (h : rowE g row = 0) : smoothIs g row = row.all (fun l => decide (0 < waysN g l)) := by
  obtain ⟨a1, _⟩ := smooth_law h
  obtain ⟨hv, _, _, hw⟩ := rowE_ok h
  rw [Bool.eq_iff_iff, a1, isC_ex, List.all_eq_true]
  constructor
  · intro h1 l hl
    have := h1 l hl
    rw [decide_eq_true_eq, waysN, if_pos (wishE_of hv (hw l hl))]
    omega
  · intro h1 l hl
    have := h1 l hl
    rw [decide_eq_true_eq, waysN, if_pos (wishE_of hv (hw l hl))] at this
    omega
end Go.Proofs.Ytejjogpgolgdgaa
