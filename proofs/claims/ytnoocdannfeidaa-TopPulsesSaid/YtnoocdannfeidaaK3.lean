/-
  MERGED: Plain, Plain2.
-/
/-
  THE PLAIN LAWS OF PULSES: paths, areas, sums. Nothing is imported.
-/
namespace Go.Proofs.Ytnoocdannfeidaa
namespace Pulse

/-- A point. -/
@[ext] structure V where
  x : Int
  y : Int
deriving DecidableEq

def V.add (a b : V) : V := ⟨a.x + b.x, a.y + b.y⟩
def V.sm (f : Int) (a : V) : V := ⟨f * a.x, f * a.y⟩
def V.zero : V := ⟨0, 0⟩
def V.e1 : V := ⟨1, 0⟩
/-- A quarter turn. -/
def V.rot (a : V) : V := ⟨-a.y, a.x⟩
def V.conj (a : V) : V := ⟨a.x, -a.y⟩
def rotN : Nat → V → V
  | 0, v => v
  | n + 1, v => (rotN n v).rot
def cross (a b : V) : Int := a.x * b.y - a.y * b.x

theorem rotN_add (a b : Nat) (v : V) : rotN (a + b) v = rotN a (rotN b v) := by
  induction a with
  | zero => simp [rotN]
  | succ a ih => rw [show a + 1 + b = a + b + 1 by omega, rotN, rotN, ih]
theorem rotN_four (v : V) : rotN 4 v = v := by simp [rotN, V.rot]
theorem rotN_mod4 (n : Nat) (v : V) : rotN n v = rotN (n % 4) v := by
  induction n using Nat.strongRecOn with
  | _ n ih =>
    by_cases h : n < 4
    · rw [Nat.mod_eq_of_lt h]
    · rw [show n = 4 + (n - 4) by omega, rotN_add, rotN_four, ih (n - 4) (by omega)]
      congr 1
      omega
theorem rotN_congr {a b : Nat} (h : a % 4 = b % 4) (v : V) : rotN a v = rotN b v := by rw [rotN_mod4 a, rotN_mod4 b, h]
theorem rotN_lin (n : Nat) (a b : V) : rotN n (a.add b) = (rotN n a).add (rotN n b) := by
  induction n with
  | zero => rfl
  | succ n ih => rw [rotN, ih, rotN, rotN]; simp [V.rot, V.add]; omega
theorem rotN_sm (n : Nat) (f : Int) (a : V) : rotN n (a.sm f) = (rotN n a).sm f := by
  induction n with
  | zero => rfl
  | succ n ih => rw [rotN, ih, rotN]; simp [V.rot, V.sm, Int.mul_neg]
theorem rotN_zero (n : Nat) : rotN n V.zero = V.zero := by
  induction n with
  | zero => rfl
  | succ n ih => rw [rotN, ih]; rfl
theorem rotN_eq_zero {n : Nat} {v : V} (h : rotN n v = V.zero) : v = V.zero := by
  have h1 : rotN (3 * n) (rotN n v) = v := by
    rw [← rotN_add]
    have := rotN_congr (a := 3 * n + n) (b := 0) (by omega) v
    rw [this]; rfl
  rw [← h1, h, rotN_zero]
theorem cross_rot (a b : V) : cross a.rot b.rot = cross a b := by
  simp only [cross, V.rot, Int.neg_mul, Int.mul_neg]; rw [Int.mul_comm a.y b.x]; omega
theorem cross_rotN (n : Nat) (a b : V) : cross (rotN n a) (rotN n b) = cross a b := by
  induction n with
  | zero => rfl
  | succ n ih => rw [rotN, rotN, cross_rot, ih]
theorem cross_add_left (a b c : V) : cross (a.add b) c = cross a c + cross b c := by
  simp only [cross, V.add, Int.add_mul]; omega
theorem cross_add_right (a b c : V) : cross a (b.add c) = cross a b + cross a c := by
  simp only [cross, V.add, Int.mul_add]; omega
theorem cross_sm_left (f : Int) (a b : V) : cross (a.sm f) b = f * cross a b := by
  simp only [cross, V.sm, Int.mul_assoc, Int.mul_sub]
theorem cross_sm_right (f : Int) (a b : V) : cross a (b.sm f) = f * cross a b := by
  simp only [cross, V.sm, Int.mul_sub]; rw [Int.mul_left_comm, Int.mul_left_comm a.y]
theorem cross_self (a : V) : cross a a = 0 := by simp only [cross]; rw [Int.mul_comm]; omega
theorem cross_swap (a b : V) : cross a b = - cross b a := by simp only [cross]; rw [Int.mul_comm a.x, Int.mul_comm a.y]; omega
theorem cross_conj (a b : V) : cross a.conj b.conj = - cross a b := by simp only [cross, V.conj, Int.mul_neg, Int.neg_mul]; omega
theorem cross_zero_left (a : V) : cross V.zero a = 0 := by simp [cross, V.zero]
theorem cross_zero_right (a : V) : cross a V.zero = 0 := by simp [cross, V.zero]
theorem add_zero' (a : V) : a.add V.zero = a := by simp [V.add, V.zero]
theorem zero_add' (a : V) : V.zero.add a = a := by simp [V.add, V.zero]
theorem add_assoc' (a b c : V) : (a.add b).add c = a.add (b.add c) := by simp [V.add]; omega
theorem conj_add (a b : V) : (a.add b).conj = a.conj.add b.conj := by simp [V.conj, V.add]; omega
theorem conj_sm (f : Int) (a : V) : (a.sm f).conj = a.conj.sm f := by simp [V.conj, V.sm, Int.mul_neg]
theorem conj_conj (a : V) : a.conj.conj = a := by simp [V.conj]
/-- A turn by n, looked at in the mirror, is a turn by 3 n. -/
theorem conj_rotN (n : Nat) (v : V) : (rotN n v).conj = rotN (3 * n) v.conj := by
  induction n with
  | zero => rfl
  | succ n ih =>
    rw [rotN, show 3 * (n + 1) = 3 + 3 * n by omega, rotN_add, ← ih]
    simp [rotN, V.rot, V.conj]

/-- The end of a path. -/
def endL (m : Nat) : List Int → V
  | [] => V.zero
  | f :: p => (V.e1.sm f).add (rotN m (endL m p))
/-- The area of a path. -/
def areaL (m : Nat) : List Int → Int
  | [] => 0
  | f :: p => areaL m p + f * cross V.e1 (rotN m (endL m p))
/-- The sum of a path's points. -/
def sumL (m : Nat) : List Int → V
  | [] => V.zero
  | f :: p => (V.e1.sm ((p.length + 1 : Nat) * f)).add (rotN m (sumL m p))

theorem endL_append (m : Nat) (p q : List Int) : endL m (p ++ q) = (endL m p).add (rotN (m * p.length) (endL m q)) := by
  induction p with
  | nil => simp [endL, rotN, zero_add']
  | cons f p ih =>
    rw [List.cons_append, endL, endL, ih, rotN_lin, ← rotN_add, add_assoc', List.length_cons, show m + m * p.length = m * (p.length + 1) by rw [Nat.mul_add]; omega]
theorem areaL_append (m : Nat) (p q : List Int) : areaL m (p ++ q) = areaL m p + areaL m q + cross (endL m p) (rotN (m * p.length) (endL m q)) := by
  induction p with
  | nil => simp [areaL, endL, cross_zero_left]
  | cons f p ih =>
    rw [List.cons_append, areaL, areaL, endL, ih, endL_append, rotN_lin, cross_add_left, cross_add_right, ← rotN_add, List.length_cons,
      show m * (p.length + 1) = m + m * p.length by rw [Nat.mul_add]; omega, cross_sm_left, Int.mul_add]
    have h := cross_rotN m (endL m p) (rotN (m * p.length) (endL m q))
    rw [← rotN_add] at h
    rw [h]
    omega
theorem endL_snoc (m : Nat) (p : List Int) (f : Int) : endL m (p ++ [f]) = (endL m p).add ((rotN (m * p.length) V.e1).sm f) := by
  rw [endL_append, endL, endL, rotN_zero, add_zero', rotN_sm]
theorem areaL_snoc (m : Nat) (p : List Int) (f : Int) : areaL m (p ++ [f]) = areaL m p + cross (endL m p) (endL m (p ++ [f])) := by
  have e0 : endL m [] = V.zero := rfl
  have e1 : endL m [f] = V.e1.sm f := by rw [endL, e0, rotN_zero, add_zero']
  have e2 : areaL m [f] = 0 := by rw [areaL, e0, rotN_zero, cross_zero_right, areaL]; omega
  rw [areaL_append, endL_snoc, e1, e2, cross_add_right, cross_self, rotN_sm]
  omega
theorem areaL_snoc' (m : Nat) (p : List Int) (f : Int) : areaL m (p ++ [f]) = areaL m p + cross (endL m p) ((rotN (m * p.length) V.e1).sm f) := by
  rw [areaL_snoc, endL_snoc, cross_add_right, cross_self]; omega
theorem sm_add (a b : Int) (v : V) : v.sm (a + b) = (v.sm a).add (v.sm b) := by simp [V.sm, V.add, Int.add_mul]
theorem sumL_snoc (m : Nat) (p : List Int) (f : Int) : sumL m (p ++ [f]) = (sumL m p).add (endL m (p ++ [f])) := by
  induction p with
  | nil => simp [sumL, endL, rotN_zero, add_zero', zero_add']
  | cons g p ih =>
    rw [List.cons_append, sumL, sumL, endL, ih, rotN_lin, List.length_append, List.length_cons, List.length_nil]
    have e : (((p.length + (0 + 1) + 1 : Nat) : Int) * g) = ((p.length + 1 : Nat) : Int) * g + g := by
      rw [show ((p.length + (0 + 1) + 1 : Nat) : Int) = ((p.length + 1 : Nat) : Int) + 1 by omega, Int.add_mul, Int.one_mul]
    rw [e, sm_add]
    simp only [V.add, V.mk.injEq]
    omega
theorem take_snoc' {α : Type} (l : List α) (q : Nat) (h : q < l.length) : l.take (q + 1) = l.take q ++ [l[q]] := by
  rw [List.take_add_one, List.getElem?_eq_getElem h]; rfl

/-! ### The opposite mode -/
theorem endL_conj (m m' : Nat) (h : m' % 4 = (3 * m) % 4) (p : List Int) : endL m' p = (endL m p).conj := by
  induction p with
  | nil => rfl
  | cons f p ih =>
    rw [endL, endL, ih, conj_add, conj_sm, conj_rotN, rotN_congr h]
    rfl
theorem areaL_conj (m m' : Nat) (h : m' % 4 = (3 * m) % 4) (p : List Int) : areaL m' p = - areaL m p := by
  induction p with
  | nil => rfl
  | cons f p ih =>
    rw [areaL, areaL, ih, endL_conj m m' h, rotN_congr h, ← conj_rotN]
    have e : cross V.e1 (rotN m (endL m p)).conj = - cross V.e1 (rotN m (endL m p)) := cross_conj V.e1 _
    rw [e, Int.mul_neg]
    omega

/-! ### Multiplied; added -/
theorem endL_scale (m : Nat) (b : Int) (p : List Int) : endL m (p.map (· * b)) = (endL m p).sm b := by
  induction p with
  | nil => simp [endL, V.sm, V.zero]
  | cons f p ih =>
    rw [List.map_cons, endL, endL, ih, rotN_sm]
    simp only [V.sm, V.add, V.e1, V.mk.injEq, Int.mul_add, Int.mul_one, Int.mul_zero]
    rw [Int.mul_comm f b]
    exact ⟨rfl, trivial⟩
theorem areaL_scale (m : Nat) (b : Int) (p : List Int) : areaL m (p.map (· * b)) = areaL m p * b * b := by
  induction p with
  | nil => simp [areaL]
  | cons f p ih =>
    rw [List.map_cons, areaL, areaL, ih, endL_scale, rotN_sm, cross_sm_right]
    generalize cross V.e1 (rotN m (endL m p)) = c
    rw [Int.add_mul, Int.add_mul]
    congr 1
    rw [Int.mul_assoc f b, Int.mul_left_comm f b, Int.mul_comm b (f * (b * c)), Int.mul_comm b c, ← Int.mul_assoc f c b]
theorem endL_add (m : Nat) : ∀ p q : List Int, p.length = q.length → endL m (List.zipWith (· + ·) p q) = (endL m p).add (endL m q) := by
  intro p
  induction p with
  | nil => intro q h; cases q with | nil => rfl | cons _ _ => cases h
  | cons f p ih =>
    intro q h
    cases q with
    | nil => cases h
    | cons g q =>
      rw [List.zipWith_cons_cons, endL, endL, endL, ih q (by simpa using h), rotN_lin, sm_add]
      simp only [V.add, V.mk.injEq]
      omega

/-! ### From the end on -/
theorem endL_reverse (m : Nat) (p : List Int) : endL m p.reverse = rotN (m * p.length + 3 * m) (endL m p).conj := by
  induction p with
  | nil => rw [List.reverse_nil, endL]; exact (rotN_zero _).symm
  | cons f p ih =>
    rw [List.reverse_cons, endL_snoc, ih, endL, conj_add, conj_sm, conj_rotN, rotN_lin, rotN_sm, ← rotN_add, List.length_cons, List.length_reverse]
    rw [rotN_congr (a := m * (p.length + 1) + 3 * m) (b := m * p.length) (by rw [Nat.mul_add]; omega)]
    rw [rotN_congr (a := m * (p.length + 1) + 3 * m + 3 * m) (b := m * p.length + 3 * m) (by rw [Nat.mul_add]; omega)]
    simp only [V.add, V.mk.injEq, V.e1, V.conj, Int.neg_zero]
    omega
theorem areaL_reverse (m : Nat) (p : List Int) : areaL m p.reverse = areaL m p := by
  induction p with
  | nil => rfl
  | cons f p ih =>
    rw [List.reverse_cons, areaL_snoc', ih, areaL, cross_sm_right, endL_reverse, List.length_reverse]
    congr 2
    rw [rotN_add]
    rw [cross_rotN, cross_swap]
    have h : rotN m (rotN (3 * m) (endL m p).conj) = (endL m p).conj := by
      rw [← rotN_add, rotN_congr (b := 0) (by omega)]; rfl
    have h2 := cross_rotN m V.e1 (rotN (3 * m) (endL m p).conj)
    rw [h] at h2
    rw [← h2]
    have h3 := cross_conj (rotN (3 * m) V.e1) (endL m p)
    rw [conj_rotN, rotN_congr (a := 3 * (3 * m)) (b := m) (by omega), show V.e1.conj = V.e1 from rfl] at h3
    rw [h3]
    have h4 := cross_rotN m (rotN (3 * m) V.e1) (endL m p)
    rw [← rotN_add, rotN_congr (a := m + 3 * m) (b := 0) (by omega)] at h4
    rw [← h4]
    simp [rotN]
theorem endL_reverse_zero (m : Nat) (p : List Int) : endL m p.reverse = V.zero ↔ endL m p = V.zero := by
  have one : ∀ p, endL m p = V.zero → endL m p.reverse = V.zero := fun p h => by rw [endL_reverse, h]; exact rotN_zero _
  refine ⟨fun h => ?_, one p⟩
  have := one _ h
  rwa [List.reverse_reverse] at this

/-! ### Behind segments without force -/
theorem endL_zeros (m k : Nat) : endL m (List.replicate k 0) = V.zero := by
  induction k with
  | zero => rfl
  | succ k ih => rw [List.replicate_succ, endL, ih, rotN_zero]; rfl
theorem areaL_zeros (m k : Nat) : areaL m (List.replicate k 0) = 0 := by
  induction k with
  | zero => rfl
  | succ k ih => rw [List.replicate_succ, areaL, ih]; omega
theorem endL_delay (m k : Nat) (p : List Int) : endL m (List.replicate k 0 ++ p) = rotN (m * k) (endL m p) := by
  rw [endL_append, endL_zeros, zero_add', List.length_replicate]
theorem areaL_delay (m k : Nat) (p : List Int) : areaL m (List.replicate k 0 ++ p) = areaL m p := by
  rw [areaL_append, endL_zeros, areaL_zeros, cross_zero_left]; omega

/-! ### Even modes -/
theorem endL_even_y (m : Nat) (h : m % 2 = 0) (p : List Int) : (endL m p).y = 0 ∧ (rotN m (endL m p)).y = 0 := by
  induction p with
  | nil => exact ⟨rfl, by rw [endL, rotN_zero]; rfl⟩
  | cons f p ih =>
    rw [endL]
    have h2 : ∀ v : V, v.y = 0 → (rotN m v).y = 0 := fun v hv => by
      rcases (show m % 4 = 0 ∨ m % 4 = 2 by omega) with e | e
      · rw [rotN_congr (b := 0) e]; exact hv
      · rw [rotN_congr (b := 2) e]; simp [rotN, V.rot, hv]
    have h1 : ((V.e1.sm f).add (rotN m (endL m p))).y = 0 := by simp [V.add, V.sm, V.e1, ih.2]
    exact ⟨h1, h2 _ h1⟩
theorem areaL_even (m : Nat) (h : m % 2 = 0) (p : List Int) : areaL m p = 0 := by
  induction p with
  | nil => rfl
  | cons f p ih => rw [areaL, ih, cross, (endL_even_y m h p).2]; simp [V.e1]

/-! ### Every second force turned: the opposite mode -/
def alt : List Int → List Int
  | [] => []
  | [f] => [f]
  | f :: g :: p => f :: -g :: alt p

/-! ### Bounds -/
def Forces (F : Int) (p : List Int) : Prop := ∀ f ∈ p, -F ≤ f ∧ f ≤ F
theorem Forces.tail {F f : Int} {p : List Int} (h : Forces F (f :: p)) : Forces F p := fun g hg => h g (by simp [hg])
theorem Forces.take {F : Int} {p : List Int} (h : Forces F p) (k : Nat) : Forces F (p.take k) := fun g hg => h g (List.mem_of_mem_take hg)
def Wi (B : Int) (v : V) : Prop := -B ≤ v.x ∧ v.x ≤ B ∧ -B ≤ v.y ∧ v.y ≤ B
theorem Wi.rot {B : Int} {v : V} (h : Wi B v) : Wi B v.rot := by unfold Wi V.rot at *; dsimp only; omega
theorem Wi.rotN {B : Int} {v : V} (h : Wi B v) (n : Nat) : Wi B (rotN n v) := by
  induction n with
  | zero => exact h
  | succ n ih => exact ih.rot
theorem Wi.mono {B B' : Int} {v : V} (h : Wi B v) (hB : B ≤ B') : Wi B' v := by unfold Wi at *; omega
theorem wi_e1 : Wi 1 V.e1 := by unfold Wi V.e1; decide
theorem endL_wi {F : Int} (hF : 0 ≤ F) (m : Nat) (p : List Int) (h : Forces F p) : Wi (F * p.length) (endL m p) := by
  induction p with
  | nil => unfold Wi endL V.zero; simp
  | cons f p ih =>
    have h1 := (ih h.tail).rotN m
    have h2 := h f (by simp)
    rw [endL]
    unfold Wi V.add V.sm V.e1 at *
    simp only [List.length_cons, Int.mul_one, Int.mul_zero]
    have e : F * ((p.length + 1 : Nat) : Int) = F * p.length + F := by rw [show ((p.length + 1 : Nat) : Int) = (p.length : Int) + 1 by omega, Int.mul_add, Int.mul_one]
    rw [e]
    omega
theorem mul_bd {a b A B : Int} (hA : 0 ≤ A) (ha : -A ≤ a ∧ a ≤ A) (hb : -B ≤ b ∧ b ≤ B) : -(A * B) ≤ a * b ∧ a * b ≤ A * B := by
  have hB : 0 ≤ B := by omega
  rcases Int.le_total 0 a with h1 | h1 <;> rcases Int.le_total 0 b with h2 | h2
  · have := Int.mul_le_mul ha.2 hb.2 h2 hA
    have := Int.mul_nonneg h1 h2
    omega
  · have h3 := Int.mul_le_mul ha.2 (show -b ≤ B by omega) (by omega) hA
    have h4 := Int.mul_nonneg h1 (show 0 ≤ -b by omega)
    rw [Int.mul_neg] at h3 h4
    omega
  · have h3 := Int.mul_le_mul (show -a ≤ A by omega) hb.2 h2 hA
    have h4 := Int.mul_nonneg (show 0 ≤ -a by omega) h2
    rw [Int.neg_mul] at h3 h4
    omega
  · have h3 := Int.mul_le_mul (show -a ≤ A by omega) (show -b ≤ B by omega) (by omega) hA
    have h4 := Int.mul_nonneg (show 0 ≤ -a by omega) (show 0 ≤ -b by omega)
    rw [Int.neg_mul, Int.mul_neg, Int.neg_neg] at h3 h4
    omega
theorem cross_bd {A B : Int} {a b : V} (hA : 0 ≤ A) (ha : Wi A a) (hb : Wi B b) : -(2 * (A * B)) ≤ cross a b ∧ cross a b ≤ 2 * (A * B) := by
  unfold Wi at *
  have h1 := mul_bd hA ⟨ha.1, ha.2.1⟩ ⟨hb.2.2.1, hb.2.2.2⟩
  have h2 := mul_bd hA ⟨ha.2.2.1, ha.2.2.2⟩ ⟨hb.1, hb.2.1⟩
  unfold cross
  omega
end Pulse
end Go.Proofs.Ytnoocdannfeidaa

/-
  THE PLAIN LAWS OF PULSES, second part: all pulses of a length, one after another; which are found.
-/
namespace Go.Proofs.Ytnoocdannfeidaa
namespace Pulse

/-- The forces -F, .., F. -/
def digs (F : Nat) : List Int := (List.range (2 * F + 1)).map fun (i : Nat) => (i : Int) - (F : Int)
theorem digs_len (F : Nat) : (digs F).length = 2 * F + 1 := by simp [digs]
theorem digs_get (F i : Nat) (h : i < (digs F).length) : (digs F)[i] = (i : Int) - F := by simp [digs]
theorem mem_digs {F : Nat} {f : Int} : f ∈ digs F ↔ -(F : Int) ≤ f ∧ f ≤ F := by
  unfold digs
  rw [List.mem_map]
  constructor
  · rintro ⟨i, hi, rfl⟩
    rw [List.mem_range] at hi
    omega
  · intro h
    exact ⟨(f + F).toNat, by rw [List.mem_range]; omega, by omega⟩
/-- All pulses of length n, the last place the fastest (as the reference makes them). -/
def allP (F : Nat) : Nat → List (List Int)
  | 0 => [[]]
  | n + 1 => (allP F n).flatMap fun p => (digs F).map fun f => p ++ [f]
theorem mem_allP {F : Nat} : ∀ {n : Nat} {p : List Int}, p ∈ allP F n ↔ p.length = n ∧ Forces F p := by
  intro n
  induction n with
  | zero =>
    intro p
    rw [allP, List.mem_singleton]
    constructor
    · rintro rfl; exact ⟨rfl, fun f hf => by cases hf⟩
    · rintro ⟨h, _⟩; exact List.eq_nil_of_length_eq_zero h
  | succ n ih =>
    intro p
    rw [allP, List.mem_flatMap]
    constructor
    · rintro ⟨q, hq, hp⟩
      obtain ⟨f, hf, rfl⟩ := List.mem_map.1 hp
      obtain ⟨h1, h2⟩ := ih.1 hq
      refine ⟨by simp [h1], fun g hg => ?_⟩
      rcases List.mem_append.1 hg with h | h
      · exact h2 g h
      · rw [List.mem_singleton.1 h]; exact mem_digs.1 hf
    · rintro ⟨h1, h2⟩
      have hne : p ≠ [] := by intro e; subst e; simp at h1
      refine ⟨p.dropLast, ih.2 ⟨by simp [h1], fun f hf => h2 f ((List.dropLast_sublist p).subset hf)⟩, List.mem_map.2 ⟨p.getLast hne, mem_digs.2 (h2 _ (List.getLast_mem hne)), List.dropLast_concat_getLast hne⟩⟩

/-- The next pulse: the last place that is not at its end one more, the places behind it at their beginning. -/
def nxt (F : Int) : List Int → Option (List Int)
  | [] => none
  | f :: p => match nxt F p with
    | some p' => some (f :: p')
    | none => if f = F then none else some ((f + 1) :: p.map fun _ => -F)
theorem nxt_top {F : Int} {p : List Int} (h : ∀ f ∈ p, f = F) : nxt F p = none := by
  induction p with
  | nil => rfl
  | cons f p ih => rw [nxt, ih fun g hg => h g (by simp [hg])]; simp [h f (by simp)]
theorem nxt_at {F f : Int} {p : List Int} (hf : f ≠ F) (h : ∀ g ∈ p, g = F) : ∀ a : List Int, nxt F (a ++ f :: p) = some (a ++ (f + 1) :: List.replicate p.length (-F)) := by
  intro a
  induction a with
  | nil => rw [List.nil_append, nxt, nxt_top h]; simp [hf, List.map_const']
  | cons b a ih => rw [List.cons_append, nxt, ih]; rfl
/-- The same list, the first place the slowest. -/
def allC (F : Nat) : Nat → List (List Int)
  | 0 => [[]]
  | n + 1 => (digs F).flatMap fun f => (allC F n).map fun p => f :: p
theorem allC_snoc (F : Nat) : ∀ n, allC F (n + 1) = (allC F n).flatMap fun p => (digs F).map fun f => p ++ [f] := by
  intro n
  induction n with
  | zero => simp [allC, List.flatMap_singleton', List.map_eq_flatMap]
  | succ n ih =>
    have e : allC F (n + 2) = (digs F).flatMap fun f => (allC F (n + 1)).map fun p => f :: p := rfl
    rw [e]
    conv => lhs; rw [ih]
    conv => rhs; rw [show allC F (n + 1) = (digs F).flatMap fun f => (allC F n).map fun p => f :: p from rfl]
    rw [List.flatMap_assoc]
    congr 1
    funext f
    rw [List.map_flatMap, List.flatMap_map]
    congr 1
    funext p
    rw [List.map_map]
    rfl
theorem allP_eq (F : Nat) : ∀ n, allP F n = allC F n := by
  intro n
  induction n with
  | zero => rfl
  | succ n ih => rw [allP, ih, allC_snoc]
/-- Each is followed by its next one; the last has none. -/
def Steps (F : Int) : List (List Int) → Prop
  | [] => True
  | [p] => nxt F p = none
  | p :: q :: l => nxt F p = some q ∧ Steps F (q :: l)
theorem steps_get {F : Int} : ∀ {l : List (List Int)}, Steps F l → ∀ i (h : i < l.length), nxt F l[i] = l[i + 1]? := by
  intro l
  induction l with
  | nil => intro _ i h; simp at h
  | cons p l ih =>
    intro hs i h
    cases l with
    | nil =>
      have : i = 0 := by simp at h; omega
      subst this
      exact hs
    | cons q l =>
      cases i with
      | zero => exact hs.1
      | succ i => exact ih hs.2 i (by simpa using h)
theorem steps_append {F : Int} : ∀ (l m : List (List Int)) (q : List Int), (∀ i (h : i + 1 < l.length), nxt F l[i] = some l[i + 1]) → (∀ p, l.getLast? = some p → nxt F p = some q) → Steps F (q :: m) → Steps F (l ++ q :: m) := by
  intro l
  induction l with
  | nil => intro m q _ _ h; exact h
  | cons p l ih =>
    intro m q h1 h2 h3
    cases l with
    | nil => exact ⟨h2 p rfl, h3⟩
    | cons r l =>
      refine ⟨h1 0 (by simp), ih m q (fun i h => h1 (i + 1) (by simpa using h)) (fun p hp => h2 p (by simpa using hp)) h3⟩
theorem steps_map {F : Int} {f : Int} : ∀ {l : List (List Int)}, Steps F l → ∀ i (h : i + 1 < (l.map (f :: ·)).length), nxt F (l.map (f :: ·))[i] = some (l.map (f :: ·))[i + 1] := by
  intro l hs i h
  have h' : i + 1 < l.length := by simpa using h
  have := steps_get hs i (by omega)
  rw [List.getElem?_eq_getElem h'] at this
  rw [List.getElem_map, List.getElem_map, nxt, this]
theorem allC_ends (F n : Nat) : (allC F n).head? = some (List.replicate n (-(F : Int))) ∧ (allC F n).getLast? = some (List.replicate n (F : Int)) := by
  induction n with
  | zero => exact ⟨rfl, rfl⟩
  | succ n ih =>
    have hd : digs F = -(F : Int) :: (digs F).tail := by
      have h : (digs F).length = 2 * F + 1 := digs_len F
      cases hc : digs F with
      | nil => rw [hc] at h; simp at h
      | cons a t =>
        have h0 := digs_get F 0 (by omega)
        have : a = -(F : Int) := by
          have : (digs F)[0]'(by omega) = a := by simp [hc]
          rw [← this, h0]; omega
        rw [this]; rfl
    have hl : digs F = (digs F).dropLast ++ [(F : Int)] := by
      have h : (digs F).length = 2 * F + 1 := digs_len F
      have hne : digs F ≠ [] := by intro e; rw [e] at h; simp at h
      have := List.dropLast_concat_getLast hne
      rw [← this]
      congr 1
      · simp
      · rw [List.getLast_eq_getElem]
        rw [digs_get]
        simp only [digs_len]
        congr 1
        omega
    refine ⟨?_, ?_⟩
    · rw [allC, hd, List.flatMap_cons, List.head?_append, List.head?_map, ih.1]; rfl
    · rw [allC, hl, List.flatMap_append, List.flatMap_cons, List.flatMap_nil, List.append_nil, List.getLast?_append, List.getLast?_map, ih.2]; rfl
theorem last_step {F : Int} (A : List (List Int)) (q : List Int) (hm : ∀ i (h : i + 1 < (A ++ [q]).length), nxt F (A ++ [q])[i] = some (A ++ [q])[i + 1]) (p : List Int) (hp : A.getLast? = some p) : nxt F p = some q := by
  have hne : A ≠ [] := by intro e; rw [e] at hp; simp at hp
  have hpos := List.length_pos_iff.2 hne
  have := hm (A.length - 1) (by simp; omega)
  rw [List.getElem_append_left (by omega)] at this
  simp only [show A.length - 1 + 1 = A.length by omega, List.getElem_concat_length] at this
  rw [List.getLast?_eq_getElem?, List.getElem?_eq_getElem (by omega)] at hp
  injection hp with hp
  rw [← hp]
  exact this
theorem steps_blocks (F n : Nat) (hn : Steps F (allC F n)) : ∀ (k : Nat) (l : List Int), (∀ i (h : i < l.length), l[i] = (F : Int) - k + i) → l.length = k + 1 → Steps F (l.flatMap fun f => (allC F n).map fun p => f :: p) := by
  obtain ⟨e1, e2⟩ := allC_ends F n
  intro k
  induction k with
  | zero =>
    intro l hl hk
    obtain ⟨f, rfl⟩ := List.length_eq_one_iff.1 hk
    have hf : f = F := by have := hl 0 (by simp); simpa using this
    subst hf
    rw [List.flatMap_cons, List.flatMap_nil, List.append_nil]
    have hm := steps_map (f := (F : Int)) hn
    obtain ⟨a, ha⟩ : ∃ a, (allC F n) = a ++ [List.replicate n (F : Int)] := by
      refine ⟨(allC F n).dropLast, ?_⟩
      have hne : allC F n ≠ [] := by intro e; rw [e] at e2; simp at e2
      have := List.dropLast_concat_getLast hne
      rw [List.getLast?_eq_some_getLast hne] at e2
      injection e2 with e2
      rw [e2] at this
      exact this.symm
    generalize allC F n = C at *
    subst ha
    rw [show (a ++ [List.replicate n (F : Int)]).map (fun p => (F : Int) :: p) = a.map (fun p => (F : Int) :: p) ++ [(F : Int) :: List.replicate n (F : Int)] by simp]
    have hm : ∀ i (h : i + 1 < (a.map (fun p => (F : Int) :: p) ++ [(F : Int) :: List.replicate n (F : Int)]).length), nxt F (a.map (fun p => (F : Int) :: p) ++ [(F : Int) :: List.replicate n (F : Int)])[i] = some (a.map (fun p => (F : Int) :: p) ++ [(F : Int) :: List.replicate n (F : Int)])[i + 1] := by
      have e : (a ++ [List.replicate n (F : Int)]).map (fun p => (F : Int) :: p) = a.map (fun p => (F : Int) :: p) ++ [(F : Int) :: List.replicate n (F : Int)] := by simp
      intro i h
      have := hm i (by rw [e]; exact h)
      simpa only [e] using this
    refine steps_append _ [] _ (fun i h => ?_) (fun p hp => ?_) ?_
    · have := hm i (by simp at h ⊢; omega)
      rw [List.getElem_append_left (by omega), List.getElem_append_left h] at this
      exact this
    · exact last_step _ _ hm p hp
    · show nxt F ((F : Int) :: List.replicate n (F : Int)) = none
      refine nxt_top fun f hf => ?_
      rcases List.mem_cons.1 hf with h | h
      · exact h
      · exact (List.mem_replicate.1 h).2
  | succ k ih =>
    intro l hl hk
    cases l with
    | nil => simp at hk
    | cons f l =>
      have hf : f = (F : Int) - (k + 1 : Nat) := by have := hl 0 (by simp); simpa using this
      have hi := ih l (fun i h => by have := hl (i + 1) (by simpa using h); rw [List.getElem_cons_succ] at this; rw [this]; omega) (by simpa using hk)
      rw [List.flatMap_cons]
      have hh : (l.flatMap fun f => (allC F n).map fun p => f :: p).head? = some ((f + 1) :: List.replicate n (-(F : Int))) := by
        cases l with
        | nil => simp at hk
        | cons g l =>
          have hg : g = f + 1 := by have := hl 1 (by simp); simp at this; omega
          rw [List.flatMap_cons, List.head?_append, List.head?_map, e1, hg]; rfl
      generalize (l.flatMap fun f => (allC F n).map fun p => f :: p) = L at hi hh
      cases L with
      | nil => simp at hh
      | cons q L =>
        injection hh with hq
        subst hq
        refine steps_append _ L _ (steps_map hn) (fun p hp => ?_) hi
        rw [List.getLast?_map, e2] at hp
        injection hp with hp
        rw [← hp]
        have hne : f ≠ F := by omega
        have := nxt_at (F := (F : Int)) (p := List.replicate n (F : Int)) hne (fun g hg => (List.mem_replicate.1 hg).2) []
        simpa using this
theorem steps_all (F n : Nat) : Steps F (allC F n) := by
  induction n with
  | zero => rfl
  | succ n ih =>
    refine steps_blocks F n ih (2 * F) (digs F) (fun i h => ?_) (digs_len F)
    rw [digs_get]
    omega
theorem allP_nxt (F n i : Nat) (h : i < (allP F n).length) : nxt F (allP F n)[i] = (allP F n)[i + 1]? := by
  simp only [allP_eq] at h ⊢
  exact steps_get (steps_all F n) i h
theorem allP_head (F n : Nat) : ∃ h : 0 < (allP F n).length, (allP F n)[0] = List.replicate n (-(F : Int)) := by
  have h := (allC_ends F n).1
  rw [← allP_eq] at h
  cases hl : allP F n with
  | nil => rw [hl] at h; simp at h
  | cons a l => rw [hl] at h; injection h with h; exact ⟨by simp, by simpa using h⟩
theorem allP_len (F : Nat) : ∀ n, (allP F n).length = (2 * F + 1) ^ n := by
  intro n
  induction n with
  | zero => rfl
  | succ n ih =>
    rw [allP, List.length_flatMap]
    have : ∀ l : List (List Int), (l.map fun p => ((digs F).map fun f => p ++ [f]).length).sum = l.length * (2 * F + 1) := by
      intro l
      induction l with
      | nil => simp
      | cons p l ih => rw [List.map_cons, List.sum_cons, ih, List.length_map, digs_len, List.length_cons, Nat.add_mul]; omega
    rw [this, ih, Nat.pow_succ]
theorem allP_nodup (F : Nat) : ∀ n, (allP F n).Nodup := by
  have hd : (digs F).Nodup := by
    unfold digs
    rw [List.nodup_iff_pairwise_ne, List.pairwise_map]
    refine List.Pairwise.imp ?_ (List.nodup_range (n := 2 * F + 1))
    intro a b h e
    exact h (by omega)
  intro n
  induction n with
  | zero => simp [allP]
  | succ n ih =>
    rw [allP, List.nodup_iff_pairwise_ne, List.pairwise_flatMap]
    refine ⟨fun p _ => ?_, ?_⟩
    · rw [List.pairwise_map]
      exact List.Pairwise.imp (fun h e => h (by simpa using e)) hd
    · refine List.Pairwise.imp ?_ ih
      intro p q h x hx y hy e
      obtain ⟨f, _, rfl⟩ := List.mem_map.1 hx
      obtain ⟨g, _, rfl⟩ := List.mem_map.1 hy
      exact h (List.append_inj' e rfl).1
end Pulse
end Go.Proofs.Ytnoocdannfeidaa
