/-
  PLAIN LAWS OF COURSES, second part: the reference's way. No program is named.
-/
import Derived.Test.YtejjogpgolgdgaaP4
namespace Go.Proofs.Ytejjogpgolgdgaa
open Go.RowKit Pulse

def nearB (m : Int) (now : List (List Int)) (v : List Int) : Bool := now.any fun u => decide (jumpL u v ≤ m)
def stepTo (m : Int) (now M : List (List Int)) (k : Nat) : List (List Int) := (M.take k).filter (nearB m now)
theorem stepTo_succ {m : Int} {now M : List (List Int)} {k : Nat} (h : k < M.length) : stepTo m now M (k + 1) = stepTo m now M k ++ (if nearB m now M[k] = true then [M[k]] else []) := by
  unfold stepTo
  rw [take_snoc' _ k h, List.filter_append, List.filter_cons, List.filter_nil]
/-- The voltages at which a course with jumps of at most m can be behind wish i. -/
def nowL (g row : List (List Int)) (m : Int) : Nat → List (List Int)
  | 0 => makeL g (row.getD 0 [])
  | i + 1 => stepTo m (nowL g row m i) (makeL g (row.getD (i + 1) [])) (makeL g (row.getD (i + 1) [])).length
theorem nowL_rows {g row : List (List Int)} {m : Int} : ∀ {i : Nat}, ∀ v ∈ nowL g row m i, v.length = wid g ∧ Forces 3 v
  | 0, v, h => makeL_rows h
  | i + 1, v, h => by
    rw [nowL, stepTo, List.take_length] at h
    exact makeL_rows (List.mem_filter.1 h).1
theorem nowL_len {g row : List (List Int)} {m : Int} (hv : vldG g = 0) : ∀ i : Nat, (nowL g row m i).length ≤ 343
  | 0 => makeL_len hv
  | i + 1 => by
    rw [nowL, stepTo, List.take_length]
    exact Nat.le_trans (List.length_filter_le _ _) (makeL_len hv)
theorem mem_nowL {g row : List (List Int)} {m : Int} (hm : 0 ≤ m) : ∀ {i : Nat} {v : List Int}, i < row.length → (v ∈ nowL g row m i ↔ ∃ c, IsC g (row.take (i + 1)) (c ++ [v]) ∧ jumpC (c ++ [v]) ≤ m)
  | 0, v, hi => by
    rw [nowL, row_take hi]
    constructor
    · intro h
      exact ⟨[], isC_snoc.2 ⟨by rw [List.take_zero]; trivial, h⟩, hm⟩
    · rintro ⟨c, hc, _⟩
      exact (isC_snoc.1 hc).2
  | i + 1, v, hi => by
    have ih := @mem_nowL g row m hm i
    rw [nowL, stepTo, List.take_length, List.mem_filter, row_take hi]
    constructor
    · rintro ⟨h1, h2⟩
      obtain ⟨u, hu, hj⟩ := List.any_eq_true.1 h2
      rw [decide_eq_true_eq] at hj
      obtain ⟨c, hc, hcj⟩ := (ih (by omega)).1 hu
      exact ⟨c ++ [u], isC_snoc.2 ⟨hc, h1⟩, by rw [jumpC_snoc]; omega⟩
    · rintro ⟨c, hc, hcj⟩
      obtain ⟨hc, h1⟩ := isC_snoc.1 hc
      refine ⟨h1, ?_⟩
      have hcl := hc.len
      rw [List.length_take] at hcl
      rcases List.eq_nil_or_concat c with rfl | ⟨d, u, rfl⟩
      · simp at hcl; omega
      rw [List.concat_eq_append] at hc hcj
      rw [jumpC_snoc] at hcj
      exact List.any_eq_true.2 ⟨u, (ih (by omega)).2 ⟨d, hc, by omega⟩, by rw [decide_eq_true_eq]; omega⟩
theorem smoothN_bd (g row : List (List Int)) : 0 ≤ smoothN g row ∧ smoothN g row ≤ 6 := by
  by_cases hs : smoothIs g row = true
  · have h : rowE g row = 0 := by simp only [smoothIs, Bool.and_eq_true, decide_eq_true_eq] at hs; exact hs.1
    have hv := (rowE_ok h).1
    obtain ⟨⟨c, hc, hj⟩, _⟩ := (smooth_law h).2 hs
    have h1 := jumpC_nn c
    have hl := hc.len
    rw [← hj]
    refine ⟨h1, ?_⟩
    have hm : ∀ v ∈ c, Forces 3 v := fun v hv => by
      obtain ⟨i, hi, rfl⟩ := List.getElem_of_mem hv
      exact (mem_makeL.1 ((isC_get hl).1 hc i (by omega) hi)).1.2
    clear hj h1 hl hc
    induction c with
    | nil => simp [jumpC]
    | cons v c ih =>
      cases c with
      | nil => simp [jumpC]
      | cons u c =>
        have h1 := ih (fun x hx => hm x (List.mem_cons_of_mem _ hx))
        have h2 := jumpL_le (x := 3) (y := 3) (by decide) (by decide) (hm v (by simp)) (hm u (by simp))
        rw [jumpC]; omega
  · rw [smoothN, if_neg hs]; omega
theorem nowL_some {g row : List (List Int)} {m : Int} (hm : 0 ≤ m) {q : Nat} (hq : row.length = q + 1) : 0 < (nowL g row m q).length ↔ ∃ c, IsC g row c ∧ jumpC c ≤ m := by
  have ht : row.take (q + 1) = row := by rw [← hq, List.take_length]
  have hmem := fun v => @mem_nowL g row m hm q v (by omega)
  rw [ht] at hmem
  constructor
  · intro h
    obtain ⟨c, hc⟩ := (hmem _).1 (List.getElem_mem h)
    exact ⟨_, hc⟩
  · rintro ⟨c, hc, hj⟩
    have hcl := hc.len
    rcases List.eq_nil_or_concat c with rfl | ⟨d, u, rfl⟩
    · simp at hcl; omega
    rw [List.concat_eq_append] at hc hj
    exact List.length_pos_of_mem ((hmem u).2 ⟨d, hc, hj⟩)
theorem smooth_first {g row : List (List Int)} {m q : Nat} (h : rowE g row = 0) (hq : row.length = q + 1) (hno : ∀ i : Nat, i < m → (nowL g row i q).length = 0) (hyes : 0 < (nowL g row m q).length) : smoothIs g row = true ∧ smoothN g row = m := by
  obtain ⟨a1, a2⟩ := smooth_law h
  obtain ⟨c, hc, hj⟩ := (nowL_some (by omega) hq).1 hyes
  have hs := a1.2 ⟨c, hc⟩
  obtain ⟨⟨d, hd, hdj⟩, hmin⟩ := a2 hs
  refine ⟨hs, ?_⟩
  have h1 := hmin c hc
  have h0 := jumpC_nn d
  rcases Int.lt_trichotomy (smoothN g row) m with h2 | h2 | h2
  · exfalso
    obtain ⟨i, hi⟩ := Int.eq_ofNat_of_zero_le (show 0 ≤ smoothN g row by omega)
    have := hno i (by omega)
    have h3 := (nowL_some (g := g) (m := (i : Int)) (by omega) hq).2 ⟨d, hd, by omega⟩
    omega
  · exact h2
  · omega
theorem smooth_none {g row : List (List Int)} {m q : Nat} (h : rowE g row = 0) (hq : row.length = q + 1) (hm : m = 7) (hno : ∀ i : Nat, i < m → (nowL g row i q).length = 0) : smoothIs g row = false := by
  rw [Bool.eq_false_iff]
  intro hs
  obtain ⟨⟨d, hd, hdj⟩, _⟩ := (smooth_law h).2 hs
  have hb := smoothN_bd g row
  have := hno 6 (by omega)
  have h3 := (nowL_some (g := g) (m := ((6 : Nat) : Int)) (by omega) hq).2 ⟨d, hd, by omega⟩
  omega
theorem near_take {m : Int} {now : List (List Int)} {v : List Int} {j : Nat} (h : j < now.length) : nearB m (now.take (j + 1)) v = (nearB m (now.take j) v || decide (jumpL now[j] v ≤ m)) := by
  unfold nearB
  rw [take_snoc' _ j h, List.any_append]; simp
theorem near_of {m : Int} {now : List (List Int)} {v : List Int} {j : Nat} (h : j < now.length) (hj : jumpL now[j] v ≤ m) : nearB m now v = true := List.any_eq_true.2 ⟨_, List.getElem_mem h, by rwa [decide_eq_true_eq]⟩
end Go.Proofs.Ytejjogpgolgdgaa
