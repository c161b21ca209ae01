/-
  PLAIN LAWS: the coolings are those of all ions; without coolings, and one plan behind another.
-/
import Derived.Test.YtkeolmipdoeljaaW18
import Derived.Test.YtkeolmipdoeljaaW11
namespace Go.Proofs.Ytkeolmipdoeljaa
open Heat

theorem keep_own (ion : Int) (l : List HAct) : keep (notOf ion) l = own ion l := by
  unfold keep own
  congr 1
  funext a
  by_cases h : a.ion = ion <;> simp [notOf, h]
theorem cnt_own (L j : Int) (m : List HAct) : (∀ a ∈ m, a.ion = j) → ∀ h : Int → Int, cnt L h m = one L (h j) m := by
  induction m with
  | nil => intro _ h; rfl
  | cons a m ih =>
    intro hm h
    have ha := hm a (by simp)
    have hm' : ∀ b ∈ m, b.ion = j := fun b hb => hm b (by simp [hb])
    simp only [cnt, one, ha]
    split
    · rw [ih hm']
      congr 2
      subst ha
      simp [put, cool, Heat.step]
    · rw [ih hm']
      congr 1
      subst ha
      simp [put]
theorem parts_sum (L : Int) (n : Nat) (l : List HAct) (h : areActs n l = true) : sumTo (fun j => cnt L cold (own j l)) n = cnt L cold l := by
  rw [cnt_eq_sum L n l cold (fun a ha => by
    have := areActs_iff.1 h a ha
    simp only [isAct, decide_eq_true_eq] at this
    omega)]
  refine sumTo_congr n fun i _ => ?_
  exact cnt_own L i (own i l) (fun a ha => by simpa using (List.mem_filter.1 ha).2) cold
theorem sumTo_up (f : Int → Nat) (k m : Nat) (h : k ≤ m) : sumTo f k ≤ sumTo f m := by
  induction m with
  | zero => obtain rfl : k = 0 := by omega
            exact Nat.le_refl _
  | succ m ih =>
    by_cases e : k = m + 1
    · subst e; exact Nat.le_refl _
    · have := ih (by omega)
      simp only [sumTo]
      omega
theorem validate_sub {n : Int} {l m : List HAct} (h : validate n l = 0) (hs : ∀ a ∈ m, a ∈ l) (hl : m.length ≤ l.length) : validate n m = 0 := by
  obtain ⟨h1, h2, h3, h4⟩ := validate_ok h
  rw [validate, if_pos ⟨h1, h2⟩, if_neg (by omega), if_pos (areActs_iff.2 fun a ha => areActs_iff.1 h4 a (hs a ha))]
theorem limited_sub {n : Int} {l m : List HAct} {L : Int} (h : limited n l L = 0) (hs : ∀ a ∈ m, a ∈ l) (hl : m.length ≤ l.length) : limited n m L = 0 := by
  have hv : validate n l = 0 := by unfold limited at h; split at h; assumption; omega
  obtain ⟨_, h5, h6⟩ := limited_ok h
  rw [limited, if_pos (validate_sub hv hs hl), if_pos ⟨h5, h6⟩]
theorem keep_sub (p : HAct → Bool) (l : List HAct) : ∀ a ∈ keep p l, a ∈ l := fun _ ha => (List.mem_filter.1 ha).1
theorem keep_left (l : List HAct) : ∃ k, Heat.Left (keep isCool l) l k := by
  induction l with
  | nil => exact ⟨0, Heat.Left.nil⟩
  | cons a l ih =>
    obtain ⟨k, h⟩ := ih
    by_cases c : isCool a = true
    · refine ⟨k + 1, ?_⟩
      have e : keep isCool (a :: l) = keep isCool l := by simp [keep, c]
      rw [e]
      exact Heat.Left.drop a (by simpa [isCool] using c) h
    · refine ⟨k, ?_⟩
      have e : keep isCool (a :: l) = a :: keep isCool l := by simp [keep, c]
      rw [e]
      exact Heat.Left.keep a h
theorem uncool_law {n : Int} {l : List HAct} {L : Int} (h : limited n l L = 0) : limited n (keep isCool l) L = 0 ∧ cnt L cold l ≤ cnt L cold (keep isCool l) ∧ cnt L cold (keep isCool l) + (keep isCool l).length ≤ cnt L cold l + l.length := by
  obtain ⟨k, hk⟩ := keep_left l
  obtain ⟨⟨h1, h2, h3, h4⟩, h5, h6⟩ := limited_ok h
  have := cnt_left L hk (mild_of h4).warm 4 ((actBounds h4).2 4 (by omega))
  have hlen := hk.length
  exact ⟨limited_sub h (keep_sub _ _) (keep_len _ _), this.2, by omega⟩
end Go.Proofs.Ytkeolmipdoeljaa
