/-
  THE PLAIN LAWS OF PULSES: paths, areas, sums. Nothing is imported.
-/
namespace Go.Proofs.Ytnoocdannfeidaa
namespace Pulse

/-- A point. -/
@[ext] structure V where
  x : Int
  y : Int
deriving DecidableEq

def V.add (a b : V) : V := ⟨a.x + b.x, a.y + b.y⟩
def V.sm (f : Int) (a : V) : V := ⟨f * a.x, f * a.y⟩
def V.zero : V := ⟨0, 0⟩
def V.e1 : V := ⟨1, 0⟩
/-- A quarter turn. -/
def V.rot (a : V) : V := ⟨-a.y, a.x⟩
def V.conj (a : V) : V := ⟨a.x, -a.y⟩
def rotN : Nat → V → V
  | 0, v => v
  | n + 1, v => (rotN n v).rot
def cross (a b : V) : Int := a.x * b.y - a.y * b.x

theorem rotN_add (a b : Nat) (v : V) : rotN (a + b) v = rotN a (rotN b v) := by
  induction a with
  | zero => simp [rotN]
  | succ a ih => rw [show a + 1 + b = a + b + 1 by omega, rotN, rotN, ih]
theorem rotN_four (v : V) : rotN 4 v = v := by simp [rotN, V.rot]
theorem rotN_mod4 (n : Nat) (v : V) : rotN n v = rotN (n % 4) v := by
  induction n using Nat.strongRecOn with
  | _ n ih =>
    by_cases h : n < 4
    · rw [Nat.mod_eq_of_lt h]
    · rw [show n = 4 + (n - 4) by omega, rotN_add, rotN_four, ih (n - 4) (by omega)]
      congr 1
      omega
theorem rotN_congr {a b : Nat} (h : a % 4 = b % 4) (v : V) : rotN a v = rotN b v := by rw [rotN_mod4 a, rotN_mod4 b, h]
theorem rotN_lin (n : Nat) (a b : V) : rotN n (a.add b) = (rotN n a).add (rotN n b) := by
  induction n with
  | zero => rfl
  | succ n ih => rw [rotN, ih, rotN, rotN]; simp [V.rot, V.add]; omega
theorem rotN_sm (n : Nat) (f : Int) (a : V) : rotN n (a.sm f) = (rotN n a).sm f := by
  induction n with
  | zero => rfl
  | succ n ih => rw [rotN, ih, rotN]; simp [V.rot, V.sm, Int.mul_neg]
theorem rotN_zero (n : Nat) : rotN n V.zero = V.zero := by
  induction n with
  | zero => rfl
  | succ n ih => rw [rotN, ih]; rfl
theorem rotN_eq_zero {n : Nat} {v : V} (h : rotN n v = V.zero) : v = V.zero := by
  have h1 : rotN (3 * n) (rotN n v) = v := by
    rw [← rotN_add]
    have := rotN_congr (a := 3 * n + n) (b := 0) (by omega) v
    rw [this]; rfl
  rw [← h1, h, rotN_zero]
theorem cross_rot (a b : V) : cross a.rot b.rot = cross a b := by
  simp only [cross, V.rot, Int.neg_mul, Int.mul_neg]; rw [Int.mul_comm a.y b.x]; omega
theorem cross_rotN (n : Nat) (a b : V) : cross (rotN n a) (rotN n b) = cross a b := by
  induction n with
  | zero => rfl
  | succ n ih => rw [rotN, rotN, cross_rot, ih]
theorem cross_add_left (a b c : V) : cross (a.add b) c = cross a c + cross b c := by
  simp only [cross, V.add, Int.add_mul]; omega
theorem cross_add_right (a b c : V) : cross a (b.add c) = cross a b + cross a c := by
  simp only [cross, V.add, Int.mul_add]; omega
theorem cross_sm_left (f : Int) (a b : V) : cross (a.sm f) b = f * cross a b := by
  simp only [cross, V.sm, Int.mul_assoc, Int.mul_sub]
theorem cross_sm_right (f : Int) (a b : V) : cross a (b.sm f) = f * cross a b := by
  simp only [cross, V.sm, Int.mul_sub]; rw [Int.mul_left_comm, Int.mul_left_comm a.y]
theorem cross_self (a : V) : cross a a = 0 := by simp only [cross]; rw [Int.mul_comm]; omega
theorem cross_swap (a b : V) : cross a b = - cross b a := by simp only [cross]; rw [Int.mul_comm a.x, Int.mul_comm a.y]; omega
theorem cross_conj (a b : V) : cross a.conj b.conj = - cross a b := by simp only [cross, V.conj, Int.mul_neg, Int.neg_mul]; omega
theorem cross_zero_left (a : V) : cross V.zero a = 0 := by simp [cross, V.zero]
theorem cross_zero_right (a : V) : cross a V.zero = 0 := by simp [cross, V.zero]
theorem add_zero' (a : V) : a.add V.zero = a := by simp [V.add, V.zero]
theorem zero_add' (a : V) : V.zero.add a = a := by simp [V.add, V.zero]
theorem add_assoc' (a b c : V) : (a.add b).add c = a.add (b.add c) := by simp [V.add]; omega
theorem conj_add (a b : V) : (a.add b).conj = a.conj.add b.conj := by simp [V.conj, V.add]; omega
theorem conj_sm (f : Int) (a : V) : (a.sm f).conj = a.conj.sm f := by simp [V.conj, V.sm, Int.mul_neg]
theorem conj_conj (a : V) : a.conj.conj = a := by simp [V.conj]
/-- A turn by n, looked at in the mirror, is a turn by 3 n. -/
theorem conj_rotN (n : Nat) (v : V) : (rotN n v).conj = rotN (3 * n) v.conj := by
  induction n with
  | zero => rfl
  | succ n ih =>
    rw [rotN, show 3 * (n + 1) = 3 + 3 * n by omega, rotN_add, ← ih]
    simp [rotN, V.rot, V.conj]

/-- The end of a path. -/
def endL (m : Nat) : List Int → V
  | [] => V.zero
  | f :: p => (V.e1.sm f).add (rotN m (endL m p))
/-- The area of a path. -/
def areaL (m : Nat) : List Int → Int
  | [] => 0
  | f :: p => areaL m p + f * cross V.e1 (rotN m (endL m p))
/-- The sum of a path's points. -/
def sumL (m : Nat) : List Int → V
  | [] => V.zero
  | f :: p => (V.e1.sm ((p.length + 1 : Nat) * f)).add (rotN m (sumL m p))

theorem endL_append (m : Nat) (p q : List Int) : endL m (p ++ q) = (endL m p).add (rotN (m * p.length) (endL m q)) := by
  induction p with
  | nil => simp [endL, rotN, zero_add']
  | cons f p ih =>
    rw [List.cons_append, endL, endL, ih, rotN_lin, ← rotN_add, add_assoc', List.length_cons, show m + m * p.length = m * (p.length + 1) by rw [Nat.mul_add]; omega]
theorem areaL_append (m : Nat) (p q : List Int) : areaL m (p ++ q) = areaL m p + areaL m q + cross (endL m p) (rotN (m * p.length) (endL m q)) := by
  induction p with
  | nil => simp [areaL, endL, cross_zero_left]
  | cons f p ih =>
    rw [List.cons_append, areaL, areaL, endL, ih, endL_append, rotN_lin, cross_add_left, cross_add_right, ← rotN_add, List.length_cons,
      show m * (p.length + 1) = m + m * p.length by rw [Nat.mul_add]; omega, cross_sm_left, Int.mul_add]
    have h := cross_rotN m (endL m p) (rotN (m * p.length) (endL m q))
    rw [← rotN_add] at h
    rw [h]
    omega
theorem endL_snoc (m : Nat) (p : List Int) (f : Int) : endL m (p ++ [f]) = (endL m p).add ((rotN (m * p.length) V.e1).sm f) := by
  rw [endL_append, endL, endL, rotN_zero, add_zero', rotN_sm]
theorem areaL_snoc (m : Nat) (p : List Int) (f : Int) : areaL m (p ++ [f]) = areaL m p + cross (endL m p) (endL m (p ++ [f])) := by
  have e0 : endL m [] = V.zero := rfl
  have e1 : endL m [f] = V.e1.sm f := by rw [endL, e0, rotN_zero, add_zero']
  have e2 : areaL m [f] = 0 := by rw [areaL, e0, rotN_zero, cross_zero_right, areaL]; omega
  rw [areaL_append, endL_snoc, e1, e2, cross_add_right, cross_self, rotN_sm]
  omega
theorem areaL_snoc' (m : Nat) (p : List Int) (f : Int) : areaL m (p ++ [f]) = areaL m p + cross (endL m p) ((rotN (m * p.length) V.e1).sm f) := by
  rw [areaL_snoc, endL_snoc, cross_add_right, cross_self]; omega
theorem sm_add (a b : Int) (v : V) : v.sm (a + b) = (v.sm a).add (v.sm b) := by simp [V.sm, V.add, Int.add_mul]
theorem sumL_snoc (m : Nat) (p : List Int) (f : Int) : sumL m (p ++ [f]) = (sumL m p).add (endL m (p ++ [f])) := by
  induction p with
  | nil => simp [sumL, endL, rotN_zero, add_zero', zero_add']
  | cons g p ih =>
    rw [List.cons_append, sumL, sumL, endL, ih, rotN_lin, List.length_append, List.length_cons, List.length_nil]
    have e : (((p.length + (0 + 1) + 1 : Nat) : Int) * g) = ((p.length + 1 : Nat) : Int) * g + g := by
      rw [show ((p.length + (0 + 1) + 1 : Nat) : Int) = ((p.length + 1 : Nat) : Int) + 1 by omega, Int.add_mul, Int.one_mul]
    rw [e, sm_add]
    simp only [V.add, V.mk.injEq]
    omega
theorem take_snoc' {α : Type} (l : List α) (q : Nat) (h : q < l.length) : l.take (q + 1) = l.take q ++ [l[q]] := by
  rw [List.take_add_one, List.getElem?_eq_getElem h]; rfl

/-! ### The opposite mode -/
theorem endL_conj (m m' : Nat) (h : m' % 4 = (3 * m) % 4) (p : List Int) : endL m' p = (endL m p).conj := by
  induction p with
  | nil => rfl
  | cons f p ih =>
    rw [endL, endL, ih, conj_add, conj_sm, conj_rotN, rotN_congr h]
    rfl
theorem areaL_conj (m m' : Nat) (h : m' % 4 = (3 * m) % 4) (p : List Int) : areaL m' p = - areaL m p := by
  induction p with
  | nil => rfl
  | cons f p ih =>
    rw [areaL, areaL, ih, endL_conj m m' h, rotN_congr h, ← conj_rotN]
    have e : cross V.e1 (rotN m (endL m p)).conj = - cross V.e1 (rotN m (endL m p)) := cross_conj V.e1 _
    rw [e, Int.mul_neg]
    omega

/-! ### Multiplied; added -/
theorem endL_scale (m : Nat) (b : Int) (p : List Int) : endL m (p.map (· * b)) = (endL m p).sm b := by
  induction p with
  | nil => simp [endL, V.sm, V.zero]
  | cons f p ih =>
    rw [List.map_cons, endL, endL, ih, rotN_sm]
    simp only [V.sm, V.add, V.e1, V.mk.injEq, Int.mul_add, Int.mul_one, Int.mul_zero]
    rw [Int.mul_comm f b]
    exact ⟨rfl, trivial⟩
theorem areaL_scale (m : Nat) (b : Int) (p : List Int) : areaL m (p.map (· * b)) = areaL m p * b * b := by
  induction p with
  | nil => simp [areaL]
  | cons f p ih =>
    rw [List.map_cons, areaL, areaL, ih, endL_scale, rotN_sm, cross_sm_right]
    generalize cross V.e1 (rotN m (endL m p)) = c
    rw [Int.add_mul, Int.add_mul]
    congr 1
    rw [Int.mul_assoc f b, Int.mul_left_comm f b, Int.mul_comm b (f * (b * c)), Int.mul_comm b c, ← Int.mul_assoc f c b]
theorem endL_add (m : Nat) : ∀ p q : List Int, p.length = q.length → endL m (List.zipWith (· + ·) p q) = (endL m p).add (endL m q) := by
  intro p
  induction p with
  | nil => intro q h; cases q with | nil => rfl | cons _ _ => cases h
  | cons f p ih =>
    intro q h
    cases q with
    | nil => cases h
    | cons g q =>
      rw [List.zipWith_cons_cons, endL, endL, endL, ih q (by simpa using h), rotN_lin, sm_add]
      simp only [V.add, V.mk.injEq]
      omega

/-! ### From the end on -/
theorem endL_reverse (m : Nat) (p : List Int) : endL m p.reverse = rotN (m * p.length + 3 * m) (endL m p).conj := by
  induction p with
  | nil => rw [List.reverse_nil, endL]; exact (rotN_zero _).symm
  | cons f p ih =>
    rw [List.reverse_cons, endL_snoc, ih, endL, conj_add, conj_sm, conj_rotN, rotN_lin, rotN_sm, ← rotN_add, List.length_cons, List.length_reverse]
    rw [rotN_congr (a := m * (p.length + 1) + 3 * m) (b := m * p.length) (by rw [Nat.mul_add]; omega)]
    rw [rotN_congr (a := m * (p.length + 1) + 3 * m + 3 * m) (b := m * p.length + 3 * m) (by rw [Nat.mul_add]; omega)]
    simp only [V.add, V.mk.injEq, V.e1, V.conj, Int.neg_zero]
    omega
theorem areaL_reverse (m : Nat) (p : List Int) : areaL m p.reverse = areaL m p := by
  induction p with
  | nil => rfl
  | cons f p ih =>
    rw [List.reverse_cons, areaL_snoc', ih, areaL, cross_sm_right, endL_reverse, List.length_reverse]
    congr 2
    rw [rotN_add]
    rw [cross_rotN, cross_swap]
    have h : rotN m (rotN (3 * m) (endL m p).conj) = (endL m p).conj := by
      rw [← rotN_add, rotN_congr (b := 0) (by omega)]; rfl
    have h2 := cross_rotN m V.e1 (rotN (3 * m) (endL m p).conj)
    rw [h] at h2
    rw [← h2]
    have h3 := cross_conj (rotN (3 * m) V.e1) (endL m p)
    rw [conj_rotN, rotN_congr (a := 3 * (3 * m)) (b := m) (by omega), show V.e1.conj = V.e1 from rfl] at h3
    rw [h3]
    have h4 := cross_rotN m (rotN (3 * m) V.e1) (endL m p)
    rw [← rotN_add, rotN_congr (a := m + 3 * m) (b := 0) (by omega)] at h4
    rw [← h4]
    simp [rotN]
theorem endL_reverse_zero (m : Nat) (p : List Int) : endL m p.reverse = V.zero ↔ endL m p = V.zero := by
  have one : ∀ p, endL m p = V.zero → endL m p.reverse = V.zero := fun p h => by rw [endL_reverse, h]; exact rotN_zero _
  refine ⟨fun h => ?_, one p⟩
  have := one _ h
  rwa [List.reverse_reverse] at this

/-! ### Behind segments without force -/
theorem endL_zeros (m k : Nat) : endL m (List.replicate k 0) = V.zero := by
  induction k with
  | zero => rfl
  | succ k ih => rw [List.replicate_succ, endL, ih, rotN_zero]; rfl
theorem areaL_zeros (m k : Nat) : areaL m (List.replicate k 0) = 0 := by
  induction k with
  | zero => rfl
  | succ k ih => rw [List.replicate_succ, areaL, ih]; omega
theorem endL_delay (m k : Nat) (p : List Int) : endL m (List.replicate k 0 ++ p) = rotN (m * k) (endL m p) := by
  rw [endL_append, endL_zeros, zero_add', List.length_replicate]
theorem areaL_delay (m k : Nat) (p : List Int) : areaL m (List.replicate k 0 ++ p) = areaL m p := by
  rw [areaL_append, endL_zeros, areaL_zeros, cross_zero_left]; omega

/-! ### Even modes -/
theorem endL_even_y (m : Nat) (h : m % 2 = 0) (p : List Int) : (endL m p).y = 0 ∧ (rotN m (endL m p)).y = 0 := by
  induction p with
  | nil => exact ⟨rfl, by rw [endL, rotN_zero]; rfl⟩
  | cons f p ih =>
    rw [endL]
    have h2 : ∀ v : V, v.y = 0 → (rotN m v).y = 0 := fun v hv => by
      rcases (show m % 4 = 0 ∨ m % 4 = 2 by omega) with e | e
      · rw [rotN_congr (b := 0) e]; exact hv
      · rw [rotN_congr (b := 2) e]; simp [rotN, V.rot, hv]
    have h1 : ((V.e1.sm f).add (rotN m (endL m p))).y = 0 := by simp [V.add, V.sm, V.e1, ih.2]
    exact ⟨h1, h2 _ h1⟩
theorem areaL_even (m : Nat) (h : m % 2 = 0) (p : List Int) : areaL m p = 0 := by
  induction p with
  | nil => rfl
  | cons f p ih => rw [areaL, ih, cross, (endL_even_y m h p).2]; simp [V.e1]

/-! ### Every second force turned: the opposite mode -/
def alt : List Int → List Int
  | [] => []
  | [f] => [f]
  | f :: g :: p => f :: -g :: alt p

/-! ### Bounds -/
def Forces (F : Int) (p : List Int) : Prop := ∀ f ∈ p, -F ≤ f ∧ f ≤ F
theorem Forces.tail {F f : Int} {p : List Int} (h : Forces F (f :: p)) : Forces F p := fun g hg => h g (by simp [hg])
theorem Forces.take {F : Int} {p : List Int} (h : Forces F p) (k : Nat) : Forces F (p.take k) := fun g hg => h g (List.mem_of_mem_take hg)
def Wi (B : Int) (v : V) : Prop := -B ≤ v.x ∧ v.x ≤ B ∧ -B ≤ v.y ∧ v.y ≤ B
theorem Wi.rot {B : Int} {v : V} (h : Wi B v) : Wi B v.rot := by unfold Wi V.rot at *; dsimp only; omega
theorem Wi.rotN {B : Int} {v : V} (h : Wi B v) (n : Nat) : Wi B (rotN n v) := by
  induction n with
  | zero => exact h
  | succ n ih => exact ih.rot
theorem Wi.mono {B B' : Int} {v : V} (h : Wi B v) (hB : B ≤ B') : Wi B' v := by unfold Wi at *; omega
theorem wi_e1 : Wi 1 V.e1 := by unfold Wi V.e1; decide
theorem endL_wi {F : Int} (hF : 0 ≤ F) (m : Nat) (p : List Int) (h : Forces F p) : Wi (F * p.length) (endL m p) := by
  induction p with
  | nil => unfold Wi endL V.zero; simp
  | cons f p ih =>
    have h1 := (ih h.tail).rotN m
    have h2 := h f (by simp)
    rw [endL]
    unfold Wi V.add V.sm V.e1 at *
    simp only [List.length_cons, Int.mul_one, Int.mul_zero]
    have e : F * ((p.length + 1 : Nat) : Int) = F * p.length + F := by rw [show ((p.length + 1 : Nat) : Int) = (p.length : Int) + 1 by omega, Int.mul_add, Int.mul_one]
    rw [e]
    omega
theorem mul_bd {a b A B : Int} (hA : 0 ≤ A) (ha : -A ≤ a ∧ a ≤ A) (hb : -B ≤ b ∧ b ≤ B) : -(A * B) ≤ a * b ∧ a * b ≤ A * B := by
  have hB : 0 ≤ B := by omega
  rcases Int.le_total 0 a with h1 | h1 <;> rcases Int.le_total 0 b with h2 | h2
  · have := Int.mul_le_mul ha.2 hb.2 h2 hA
    have := Int.mul_nonneg h1 h2
    omega
  · have h3 := Int.mul_le_mul ha.2 (show -b ≤ B by omega) (by omega) hA
    have h4 := Int.mul_nonneg h1 (show 0 ≤ -b by omega)
    rw [Int.mul_neg] at h3 h4
    omega
  · have h3 := Int.mul_le_mul (show -a ≤ A by omega) hb.2 h2 hA
    have h4 := Int.mul_nonneg (show 0 ≤ -a by omega) h2
    rw [Int.neg_mul] at h3 h4
    omega
  · have h3 := Int.mul_le_mul (show -a ≤ A by omega) (show -b ≤ B by omega) (by omega) hA
    have h4 := Int.mul_nonneg (show 0 ≤ -a by omega) (show 0 ≤ -b by omega)
    rw [Int.neg_mul, Int.mul_neg, Int.neg_neg] at h3 h4
    omega
theorem cross_bd {A B : Int} {a b : V} (hA : 0 ≤ A) (ha : Wi A a) (hb : Wi B b) : -(2 * (A * B)) ≤ cross a b ∧ cross a b ≤ 2 * (A * B) := by
  unfold Wi at *
  have h1 := mul_bd hA ⟨ha.1, ha.2.1⟩ ⟨hb.2.2.1, hb.2.2.2⟩
  have h2 := mul_bd hA ⟨ha.2.2.1, ha.2.2.2⟩ ⟨hb.1, hb.2.1⟩
  unfold cross
  omega
end Pulse
end Go.Proofs.Ytnoocdannfeidaa
