/-
  PLAIN LAWS OF FIELDS. No program is named.
-/
import Derived.Test.YtejjogpgolgdgaaPlain3
namespace Go.Proofs.Ytejjogpgolgdgaa
namespace Pulse

/-- The sum of the products. -/
def dot : List Int → List Int → Int
  | a :: l, b :: v => a * b + dot l v
  | _, _ => 0
/-- The field of voltages. -/
def fieldL (g : List (List Int)) (v : List Int) : List Int := g.map fun l => dot l v
theorem fieldL_len (g : List (List Int)) (v : List Int) : (fieldL g v).length = g.length := by simp [fieldL]
theorem dot_nil_right (l : List Int) : dot l [] = 0 := by cases l <;> rfl
theorem dot_snoc {l v : List Int} (a b : Int) (h : l.length = v.length) : dot (l ++ [a]) (v ++ [b]) = dot l v + a * b := by
  induction l generalizing v with
  | nil =>
    cases v with
    | nil => simp [dot]
    | cons _ _ => simp at h
  | cons x l ih =>
    cases v with
    | nil => simp at h
    | cons y v =>
      have := ih (v := v) (by simpa using h)
      simp only [List.cons_append, dot, this]
      omega
theorem dot_take {l v : List Int} {q : Nat} (h : q < l.length) (h' : q < v.length) : dot (l.take (q + 1)) (v.take (q + 1)) = dot (l.take q) (v.take q) + l[q] * v[q] := by
  rw [take_snoc' l q h, take_snoc' v q h', dot_snoc _ _ (by simp; omega)]
theorem mul_bd {a b A B : Int} (hA : 0 ≤ A) (ha : -A ≤ a ∧ a ≤ A) (hb : -B ≤ b ∧ b ≤ B) : -(A * B) ≤ a * b ∧ a * b ≤ A * B := by
  have hB : 0 ≤ B := by omega
  have h1 : (A - a) * (B - b) ≥ 0 := Int.mul_nonneg (by omega) (by omega)
  have h2 : (A + a) * (B + b) ≥ 0 := Int.mul_nonneg (by omega) (by omega)
  have h3 : (A - a) * (B + b) ≥ 0 := Int.mul_nonneg (by omega) (by omega)
  have h4 : (A + a) * (B - b) ≥ 0 := Int.mul_nonneg (by omega) (by omega)
  simp only [Int.sub_mul, Int.add_mul, Int.mul_sub, Int.mul_add] at h1 h2 h3 h4
  omega
theorem dot_bd : ∀ {l v : List Int}, Forces 9 l → Forces 3 v → -(27 * (l.length : Int)) ≤ dot l v ∧ dot l v ≤ 27 * (l.length : Int)
  | [], v, _, _ => by simp [dot]
  | a :: l, [], _, _ => by simp [dot]; omega
  | a :: l, b :: v, h, h' => by
    have h1 := dot_bd (l := l) (v := v) h.tail h'.tail
    have h2 := mul_bd (A := 9) (B := 3) (by decide) (h a (by simp)) (h' b (by simp))
    simp only [dot, List.length_cons]
    omega
theorem dot_bd3 {l v : List Int} (h : Forces 9 l) (h' : Forces 3 v) (hl : l.length ≤ 3) : -81 ≤ dot l v ∧ dot l v ≤ 81 := by
  have := dot_bd h h'; omega
theorem fieldL_take (g : List (List Int)) (v : List Int) (q : Nat) : fieldL (g.take q) v = (fieldL g v).take q := by simp [fieldL]
theorem fieldL_succ (g : List (List Int)) (v : List Int) {q : Nat} (h : q < g.length) : fieldL (g.take (q + 1)) v = fieldL (g.take q) v ++ [dot g[q] v] := by
  rw [take_snoc' g q h, fieldL, List.map_append]; rfl
end Pulse
end Go.Proofs.Ytejjogpgolgdgaa
