/-
  MERGED: W24.
-/
import Derived.Test.YtejjogpgolgdgaaK2
import Derived.Test.YtejjogpgolgdgaaK11
/-
  THE ENDS OF COURSES, plain: for each wish of a row the ends with the smallest jumps.
-/
namespace Go.Proofs.Ytejjogpgolgdgaa
open Go.RowKit Pulse

/-- The smallest jump of v behind the first k of the ends, and which end has it first; (0, -1) for none. -/
def pick (prev : List End) (v : List Int) : Nat → Int × Int
  | 0 => (0, -1)
  | k + 1 => match prev[k]? with
    | none => pick prev v k
    | some y => if (pick prev v k).2 < 0 ∨ max y.j (jumpL y.v v) < (pick prev v k).1 then (max y.j (jumpL y.v v), (k : Int)) else pick prev v k
theorem pick_succ {prev : List End} {v : List Int} {k : Nat} {y : End} (h : prev[k]? = some y) : pick prev v (k + 1) = if (pick prev v k).2 < 0 ∨ max y.j (jumpL y.v v) < (pick prev v k).1 then (max y.j (jumpL y.v v), (k : Int)) else pick prev v k := by
  rw [pick, h]
def nx (first : Bool) (prev : List End) (v : List Int) : Option End :=
  if (first || decide (0 ≤ (pick prev v prev.length).2)) = true then some ⟨v, (pick prev v prev.length).1, (pick prev v prev.length).2⟩ else none
def nextTo (first : Bool) (prev : List End) (M : List (List Int)) (j : Nat) : List End := (M.take j).filterMap (nx first prev)
theorem nextTo_succ {first : Bool} {prev : List End} {M : List (List Int)} {j : Nat} {v : List Int} (h : M[j]? = some v) : nextTo first prev M (j + 1) = nextTo first prev M j ++ (nx first prev v).toList := by
  obtain ⟨h1, h2⟩ := List.getElem?_eq_some_iff.1 h
  unfold nextTo
  rw [take_snoc' _ j h1, h2, List.filterMap_append]
  congr 1
def endsTo (g : List (List Int)) (row : List (List Int)) : Nat → List (List End)
  | 0 => []
  | q + 1 => endsTo g row q ++ [nextTo (decide (q = 0)) ((endsTo g row q).getLastD []) (makeL g (row.getD q [])) (makeL g (row.getD q [])).length]
theorem endsTo_len (g row : List (List Int)) : ∀ q, (endsTo g row q).length = q
  | 0 => rfl
  | q + 1 => by rw [endsTo, List.length_append, endsTo_len g row q]; rfl
/-- The ends behind wish q. -/
def lastEnds (g row : List (List Int)) (q : Nat) : List End := (endsTo g row q).getLastD []
theorem lastEnds_succ (g row : List (List Int)) (q : Nat) : lastEnds g row (q + 1) = nextTo (decide (q = 0)) (lastEnds g row q) (makeL g (row.getD q [])) (makeL g (row.getD q [])).length := by
  rw [lastEnds, endsTo]; simp [lastEnds]
theorem endsTo_succ (g row : List (List Int)) (q : Nat) : endsTo g row (q + 1) = endsTo g row q ++ [lastEnds g row (q + 1)] := by
  rw [lastEnds_succ]; rfl
theorem endsTo_get (g row : List (List Int)) : ∀ (q i : Nat), i < q → (endsTo g row q)[i]? = some (lastEnds g row (i + 1))
  | 0, i, h => absurd h (by omega)
  | q + 1, i, h => by
    rw [endsTo_succ]
    rcases Nat.lt_or_ge i q with hi | hi
    · rw [List.getElem?_append_left (by rw [endsTo_len]; exact hi)]; exact endsTo_get g row q i hi
    · obtain rfl : i = q := by omega
      rw [List.getElem?_append_right (by rw [endsTo_len]; exact Nat.le_refl _), endsTo_len]; simp

/-- What an end of gains is. -/
def EndOk (n : Nat) (e : End) : Prop := e.v.length = n ∧ Forces 3 e.v ∧ 0 ≤ e.j ∧ e.j ≤ 6 ∧ -1 ≤ e.b ∧ e.b ≤ 342
theorem pick_ok {prev : List End} {v : List Int} {n : Nat} (hp : ∀ e ∈ prev, EndOk n e) (hl : prev.length ≤ 343) (hv : Forces 3 v) : ∀ k, k ≤ prev.length → 0 ≤ (pick prev v k).1 ∧ (pick prev v k).1 ≤ 6 ∧ -1 ≤ (pick prev v k).2 ∧ (pick prev v k).2 < k
  | 0, _ => by simp [pick]
  | k + 1, h => by
    have ih := pick_ok hp hl hv k (by omega)
    have hg : prev[k]? = some prev[k] := List.getElem?_eq_getElem (by omega)
    have he := hp _ (List.getElem_mem (show k < prev.length by omega))
    have h1 := jumpL_nn prev[k].v v
    have h2 := jumpL_le (x := 3) (y := 3) (by decide) (by decide) he.2.1 hv
    have h3 := he.2.2.1
    have h4 := he.2.2.2.1
    rw [pick_succ hg]
    split
    · refine ⟨?_, ?_, ?_, ?_⟩
      · show 0 ≤ max _ _; omega
      · show max _ _ ≤ 6; omega
      · show -1 ≤ (k : Int); omega
      · show (k : Int) < _; omega
    · exact ⟨ih.1, ih.2.1, ih.2.2.1, by omega⟩
theorem nextTo_len (first : Bool) (prev : List End) (M : List (List Int)) (j : Nat) : (nextTo first prev M j).length ≤ M.length := by
  refine Nat.le_trans (List.length_filterMap_le _ _) ?_
  rw [List.length_take]; omega
theorem nextTo_ok {first : Bool} {prev : List End} {M : List (List Int)} {n : Nat} (hp : ∀ e ∈ prev, EndOk n e) (hl : prev.length ≤ 343) (hM : ∀ v ∈ M, v.length = n ∧ Forces 3 v) (j : Nat) : ∀ e ∈ nextTo first prev M j, EndOk n e := by
  intro e he
  obtain ⟨v, hv, hx⟩ := List.mem_filterMap.1 he
  have hvm := hM v (List.mem_of_mem_take hv)
  unfold nx at hx
  split at hx
  · injection hx with hx
    subst hx
    have := pick_ok hp hl hvm.2 prev.length (Nat.le_refl _)
    exact ⟨hvm.1, hvm.2, this.1, this.2.1, this.2.2.1, by show (pick prev v prev.length).2 ≤ 342; omega⟩
  · cases hx
theorem makeL_rows {g : List (List Int)} {l v : List Int} (h : v ∈ makeL g l) : v.length = wid g ∧ Forces 3 v := (mem_makeL.1 h).1
theorem lastEnds_ok {g row : List (List Int)} (hg : vldG g = 0) : ∀ q, (∀ e ∈ lastEnds g row q, EndOk (wid g) e) ∧ (lastEnds g row q).length ≤ 343
  | 0 => ⟨fun e he => by simp [lastEnds, endsTo] at he, by simp [lastEnds, endsTo]⟩
  | q + 1 => by
    obtain ⟨h1, h2⟩ := lastEnds_ok (row := row) hg q
    rw [lastEnds_succ]
    refine ⟨nextTo_ok h1 h2 (fun v hv => makeL_rows hv) _, ?_⟩
    have := nextTo_len (decide (q = 0)) (lastEnds g row q) (makeL g (row.getD q [])) (makeL g (row.getD q [])).length
    have := makeL_len (l := row.getD q []) hg
    omega
end Go.Proofs.Ytejjogpgolgdgaa
