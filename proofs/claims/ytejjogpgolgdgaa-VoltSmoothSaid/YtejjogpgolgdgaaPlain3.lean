/-
  THE PLAIN LAWS OF PULSES, third part: the search's own step.
-/
import Derived.Test.YtejjogpgolgdgaaPlain2
namespace Go.Proofs.Ytejjogpgolgdgaa
namespace Pulse

/-- The first j places of p, then the beginning. -/
def rowL (F : Int) (p : List Int) (j : Nat) : List Int := p.take j ++ List.replicate (p.length - j) (-F)
theorem rowL_len {F : Int} {p : List Int} {j : Nat} (h : j ≤ p.length) : (rowL F p j).length = p.length := by simp [rowL]; omega
theorem rowL_all (F : Int) (p : List Int) : rowL F p p.length = p := by simp [rowL]
theorem rowL_get {F : Int} {p : List Int} {j : Nat} (h : j < p.length) : (rowL F p (j + 1))[j]? = p[j]? := by
  unfold rowL
  rw [List.getElem?_append_left (by simp; omega), List.getElem?_take]
  simp
theorem rowL_set {F : Int} {p : List Int} {j : Nat} (h : j < p.length) (x : Int) : (rowL F p (j + 1)).set j x = p.take j ++ x :: List.replicate (p.length - (j + 1)) (-F) := by
  unfold rowL
  have e : p.take (j + 1) = p.take j ++ [p[j]] := take_snoc' p j h
  rw [e, List.append_assoc, List.set_append_right _ _ (by simp; omega)]
  simp [Nat.min_eq_left (Nat.le_of_lt h)]
theorem rowL_back {F : Int} {p : List Int} {j : Nat} (h : j < p.length) : (rowL F p (j + 1)).set j (-F) = rowL F p j := by
  rw [rowL_set h, rowL]
  rw [show p.length - j = (p.length - (j + 1)) + 1 by omega, List.replicate_succ]
theorem nxt_row {F : Int} {p : List Int} {j : Nat} (h : j < p.length) (hf : p[j] ≠ F) (hd : ∀ f ∈ p.drop (j + 1), f = F) : nxt F p = some ((rowL F p (j + 1)).set j (p[j] + 1)) := by
  have e : p = p.take j ++ p[j] :: p.drop (j + 1) := by
    conv => lhs; rw [← List.take_append_drop j p]
    rw [List.drop_eq_getElem_cons h]
  have := nxt_at hf hd (p.take j)
  rw [← e] at this
  rw [this, rowL_set h, List.length_drop]
theorem drop_step {F : Int} {p : List Int} {j : Nat} (h : j < p.length) (hf : p[j] = F) (hd : ∀ f ∈ p.drop (j + 1), f = F) : ∀ f ∈ p.drop j, f = F := by
  rw [List.drop_eq_getElem_cons h]
  intro f hm
  rcases List.mem_cons.1 hm with e | e
  · rw [e, hf]
  · exact hd f e
theorem nxt_none {F : Int} {p : List Int} (hd : ∀ f ∈ p.drop 0, f = F) : nxt F p = none := nxt_top (by simpa using hd)
/-- The place of a list among lists. -/
def pos (p : List Int) : List (List Int) → Nat
  | [] => 0
  | q :: l => if q = p then 0 else pos p l + 1
theorem pos_get : ∀ {l : List (List Int)}, l.Nodup → ∀ i (h : i < l.length), pos l[i] l = i := by
  intro l
  induction l with
  | nil => intro _ i h; simp at h
  | cons q l ih =>
    intro hn i h
    rw [List.nodup_cons] at hn
    cases i with
    | zero => simp [pos]
    | succ i =>
      have h' : i < l.length := by simpa using h
      rw [List.getElem_cons_succ, pos, if_neg (fun e => hn.1 (by rw [e]; exact List.getElem_mem h')), ih hn.2 i h']
end Pulse
end Go.Proofs.Ytejjogpgolgdgaa
