/-
  PLAIN LAWS OF RAMPS. No program is named.
-/
import Derived.Test.YtejjogpgolgdgaaP1
namespace Go.Proofs.Ytejjogpgolgdgaa
open Go.RowKit Pulse

/-- x moved towards y by at most m. -/
def mv (m x y : Int) : Int := x + max (-m) (min m (y - x))
theorem mv_zero (x y : Int) : mv 0 x y = x := by unfold mv; omega
theorem mv_step {m s x y : Int} (hm : 0 ≤ m) (hs : 0 ≤ s) : mv s (mv m x y) y = mv (m + s) x y := by unfold mv; omega
theorem mv_clamp (s x y : Int) : x + max (-s) (min s (y - x)) = mv s x y := rfl
theorem mv_up {s x y : Int} (hs : 0 ≤ s) (h : x < y) : min y (x + s) = mv s x y := by unfold mv; omega
theorem mv_down {s x y : Int} (hs : 0 ≤ s) (h : ¬ x < y) : max y (x - s) = mv s x y := by unfold mv; omega
theorem mv_eq {m x y : Int} (hm : 0 ≤ m) : mv m x y = y ↔ absI (x - y) ≤ m := by unfold mv absI; omega
theorem mv_bd {m x y b : Int} (hm : 0 ≤ m) (hx : -b ≤ x ∧ x ≤ b) (hy : -b ≤ y ∧ y ≤ b) : -b ≤ mv m x y ∧ mv m x y ≤ b := by unfold mv; omega
theorem mv_near {m s x y : Int} (hm : 0 ≤ m) (hs : 0 ≤ s) : absI (mv m x y - mv (m + s) x y) ≤ s := by unfold mv absI; omega
theorem mv_far {m s x y : Int} (hm : 0 ≤ m) (hs : 1 ≤ s) (h : m < absI (x - y)) : 1 ≤ absI (mv m x y - mv (m + s) x y) := by unfold mv absI at *; omega
/-- All numbers moved. -/
def mvL (m : Int) (a b : List Int) : List Int := List.zipWith (mv m) a b
theorem mvL_len {m : Int} {a b : List Int} (h : a.length = b.length) : (mvL m a b).length = a.length := by simp [mvL]; omega
theorem mvL_get {m : Int} {a b : List Int} {q : Nat} (h : q < a.length) (h' : q < b.length) (h2 : q < (mvL m a b).length) : (mvL m a b)[q] = mv m a[q] b[q] := by simp [mvL]
theorem mvL_zero : ∀ {a b : List Int}, a.length = b.length → mvL 0 a b = a
  | [], _, _ => by simp [mvL]
  | a :: l, [], h => by simp at h
  | a :: l, b :: m, h => by
    have := mvL_zero (a := l) (b := m) (by simpa using h)
    unfold mvL at this ⊢
    rw [List.zipWith_cons_cons, mv_zero, this]
theorem mvL_forces {m b : Int} {l r : List Int} (hm : 0 ≤ m) (h : Forces b l) (h' : Forces b r) : Forces b (mvL m l r) := by
  intro a ha
  obtain ⟨i, hi, rfl⟩ := List.getElem_of_mem ha
  have h1 : i < l.length := by simp [mvL] at hi; omega
  have h2 : i < r.length := by simp [mvL] at hi; omega
  rw [mvL_get h1 h2]
  exact mv_bd hm (h _ (List.getElem_mem h1)) (h' _ (List.getElem_mem h2))
theorem sizeL_le_iff {l : List Int} {m : Int} (hm : 0 ≤ m) : sizeL l ≤ m ↔ ∀ a ∈ l, absI a ≤ m := by
  constructor
  · intro h a ha
    have := sizeL_mem ha
    omega
  · intro h
    exact sizeL_le hm (fun a ha => by have := h a ha; unfold absI at this; omega)
theorem jumpL_le_iff {a b : List Int} {m : Int} (hm : 0 ≤ m) (hl : a.length = b.length) : jumpL a b ≤ m ↔ ∀ (q : Nat) (h : q < a.length), absI (a[q] - b[q]'(by omega)) ≤ m := by
  rw [jumpL, sizeL_le_iff hm]
  have hlen : (subL a b).length = a.length := subL_len hl.symm
  constructor
  · intro h q hq
    have := h _ (List.getElem_mem (l := subL a b) (n := q) (by omega))
    rwa [subL_get hq (by omega)] at this
  · intro h x hx
    obtain ⟨i, hi, rfl⟩ := List.getElem_of_mem hx
    rw [subL_get (by omega) (by omega)]
    exact h i (by omega)
/-- The end is reached as soon as the jump is no greater. -/
theorem mvL_eq {a b : List Int} {m : Int} (hm : 0 ≤ m) (hl : a.length = b.length) : mvL m a b = b ↔ jumpL a b ≤ m := by
  rw [jumpL_le_iff hm hl]
  constructor
  · intro h q hq
    have h1 : (mvL m a b)[q]'(by rw [mvL_len hl]; exact hq) = b[q]'(by omega) := by simp only [h]
    rw [mvL_get hq (by omega)] at h1
    exact (mv_eq hm).1 h1
  · intro h
    refine List.ext_getElem (by rw [mvL_len hl, hl]) fun i h1 h2 => ?_
    rw [mvL_get (by omega) h2]
    exact (mv_eq hm).2 (h i (by omega))
theorem mvL_step {a b : List Int} {m s : Int} (hm : 0 ≤ m) (hs : 0 ≤ s) (hl : a.length = b.length) {q : Nat} (h : q < a.length) (h2 : q < (mvL m a b).length) (h3 : q < (mvL (m + s) a b).length) : mv s ((mvL m a b)[q]) (b[q]'(by omega)) = (mvL (m + s) a b)[q] := by
  rw [mvL_get h (by omega), mvL_get h (by omega), mv_step hm hs]
theorem jump_near {a b : List Int} {m s : Int} (hm : 0 ≤ m) (hs : 0 ≤ s) (hl : a.length = b.length) : jumpL (mvL m a b) (mvL (m + s) a b) ≤ s := by
  have h1 := mvL_len (m := m) hl
  have h2 := mvL_len (m := m + s) hl
  rw [jumpL_le_iff hs (by omega)]
  intro q hq
  rw [mvL_get (by omega) (by omega), mvL_get (by omega) (by omega)]
  exact mv_near hm hs
theorem jump_far {a b : List Int} {m s : Int} (hm : 0 ≤ m) (hs : 1 ≤ s) (hl : a.length = b.length) (h : m < jumpL a b) : 1 ≤ jumpL (mvL m a b) (mvL (m + s) a b) := by
  have h1 := mvL_len (m := m) hl
  have h2 := mvL_len (m := m + s) hl
  refine Int.not_lt.1 fun hc => ?_
  have h0 : jumpL (mvL m a b) (mvL (m + s) a b) ≤ 0 := by omega
  rw [jumpL_le_iff (by omega) (by omega)] at h0
  refine absurd ((jumpL_le_iff hm hl).2 fun q hq => ?_) (by omega)
  have h3 := h0 q (by omega)
  rw [mvL_get (by omega) (by omega), mvL_get (by omega) (by omega)] at h3
  refine Int.not_lt.1 fun hc2 => ?_
  have := mv_far hm hs hc2
  omega

/-! ## The ramp -/
/-- The k-th voltages of the ramp. -/
def rampAt (a b : List Int) (s : Int) (k : Nat) : List Int := mvL ((k : Int) * s) a b
/-- The ramp's first k voltages. -/
def rampTo (a b : List Int) (s : Int) (k : Nat) : List (List Int) := (List.range k).map (rampAt a b s)
theorem rampTo_succ (a b : List Int) (s : Int) (k : Nat) : rampTo a b s (k + 1) = rampTo a b s k ++ [rampAt a b s k] := by
  rw [rampTo, List.range_succ, List.map_append]; rfl
theorem rampTo_len (a b : List Int) (s : Int) (k : Nat) : (rampTo a b s k).length = k := by simp [rampTo]
theorem kmul {k : Nat} {s : Int} (hs : 0 ≤ s) : 0 ≤ (k : Int) * s := Int.mul_nonneg (by omega) hs
theorem ksucc (k : Nat) (s : Int) : ((k + 1 : Nat) : Int) * s = (k : Int) * s + s := by rw [Int.natCast_add, Int.add_mul]; simp
/-- How many steps there are. -/
def rampN (a b : List Int) (s : Int) : Int := (jumpL a b + s - 1) / s
theorem rampN_iff {a b : List Int} {s : Int} (hs : 1 ≤ s) (k : Nat) : jumpL a b ≤ (k : Int) * s ↔ rampN a b s ≤ (k : Int) := by
  unfold rampN
  have h1 : ∀ k : Int, (jumpL a b + s - 1) / s < k + 1 ↔ jumpL a b + s - 1 < (k + 1) * s := fun k => Int.ediv_lt_iff_lt_mul (by omega)
  have h2 := h1 k
  rw [Int.add_mul, Int.one_mul] at h2
  omega
theorem rampN_nn {a b : List Int} {s : Int} (hs : 1 ≤ s) : 0 ≤ rampN a b s := Int.ediv_nonneg (by have := jumpL_nn a b; omega) (by omega)
theorem rampN_le {a b : List Int} {s : Int} (hs : 1 ≤ s) (h : jumpL a b ≤ 6) : rampN a b s ≤ 6 := by
  have := (rampN_iff (a := a) (b := b) hs 6).1 (by have : s * 1 ≤ s * 6 := Int.mul_le_mul_of_nonneg_left (by omega) (by omega); omega)
  omega
/-- Voltages on the way from the k-th to the next ones: the first q are the next. -/
def between (a b : List Int) (s : Int) (k q : Nat) : List Int := (rampAt a b s (k + 1)).take q ++ (rampAt a b s k).drop q
section
variable {a b : List Int} {s : Int}
theorem rampAt_len (hl : a.length = b.length) (k : Nat) : (rampAt a b s k).length = a.length := mvL_len hl
theorem rampAt_forces {x : Int} (hs : 1 ≤ s) (h : Forces x a) (h' : Forces x b) (k : Nat) : Forces x (rampAt a b s k) := mvL_forces (kmul (by omega)) h h'
theorem rampAt_zero (hl : a.length = b.length) : rampAt a b s 0 = a := by rw [rampAt]; simpa using mvL_zero hl
theorem rampAt_end (hs : 1 ≤ s) (hl : a.length = b.length) (k : Nat) : rampAt a b s k = b ↔ rampN a b s ≤ (k : Int) := by
  rw [rampAt, mvL_eq (kmul (by omega)) hl, rampN_iff hs]
theorem between_zero (hl : a.length = b.length) (k : Nat) : between a b s k 0 = rampAt a b s k := by simp [between]
theorem between_all (hl : a.length = b.length) (k : Nat) : between a b s k a.length = rampAt a b s (k + 1) := by
  rw [between, List.take_of_length_le (by rw [rampAt_len hl]; exact Nat.le_refl _), List.drop_of_length_le (by rw [rampAt_len hl]; exact Nat.le_refl _), List.append_nil]
theorem between_len (hl : a.length = b.length) (k : Nat) {q : Nat} (hq : q ≤ a.length) : (between a b s k q).length = a.length := by
  simp only [between, List.length_append, List.length_take, List.length_drop, rampAt_len hl]; omega
theorem between_take_len (hl : a.length = b.length) (k : Nat) {q : Nat} (hq : q ≤ a.length) : ((rampAt a b s (k + 1)).take q).length = q := by
  rw [List.length_take, rampAt_len hl]; omega
theorem between_get (hl : a.length = b.length) (k : Nat) {q : Nat} (h : q < a.length) (h' : q < (between a b s k q).length) : (between a b s k q)[q] = (rampAt a b s k)[q]'(by rw [rampAt_len hl]; exact h) := by
  have e := between_take_len (s := s) hl k (Nat.le_of_lt h)
  simp only [between]
  rw [List.getElem_append_right (by rw [e]; exact Nat.le_refl _)]
  simp only [List.getElem_drop, e, Nat.sub_self, Nat.add_zero]
theorem between_set (hs : 1 ≤ s) (hl : a.length = b.length) (k : Nat) {q : Nat} (h : q < a.length) : (between a b s k q).set q (mv s ((rampAt a b s k)[q]'(by rw [rampAt_len hl]; exact h)) (b[q]'(by omega))) = between a b s k (q + 1) := by
  have e := between_take_len (s := s) hl k (Nat.le_of_lt h)
  have h1 : q < (rampAt a b s (k + 1)).length := by rw [rampAt_len hl]; exact h
  have h2 : q < (rampAt a b s k).length := by rw [rampAt_len hl]; exact h
  have hv : mv s ((rampAt a b s k)[q]) (b[q]'(by omega)) = (rampAt a b s (k + 1))[q] := by
    simp only [rampAt, ksucc]
    exact mvL_step (kmul (by omega)) (by omega) hl h _ _
  rw [hv, between, between, List.set_append_right _ _ (by rw [e]; exact Nat.le_refl _), e, Nat.sub_self, take_snoc' _ q h1, List.drop_eq_getElem_cons h2, List.set_cons_zero, List.append_assoc]
  rfl
theorem ramp_jump (hs : 1 ≤ s) (hl : a.length = b.length) (k : Nat) (hk : (k : Int) < rampN a b s) : jumpL (rampAt a b s k) (rampAt a b s (k + 1)) ≤ s ∧ 1 ≤ jumpL (rampAt a b s k) (rampAt a b s (k + 1)) := by
  simp only [rampAt, ksucc]
  refine ⟨jump_near (kmul (by omega)) (by omega) hl, jump_far (kmul (by omega)) hs hl ?_⟩
  have := (rampN_iff (a := a) (b := b) hs k)
  omega
end
end Go.Proofs.Ytejjogpgolgdgaa
