/-
  WALK: Reverse of ints; Back of the program.
-/
import Derived.Test.YtnoocdannfeidaaW28
import Derived.BigRegion
import Derived.ChangeAlike
namespace Go.Proofs.Ytnoocdannfeidaa
open Go.RowKit Pulse

theorem own_frozen {w : World} {base g n c sz : Nat} {e : TypeId} {xs : List Value} (h : w.ownsRow base e sz (.slice (some ⟨g, 0, none⟩) n c) n xs) (i : Nat) : w.frozen? ⟨g, i, none⟩ = false := by
  obtain ⟨h1, h2⟩ := h
  rcases h2 with ⟨h2, _⟩ | ⟨g', cap, cur, hv, hg, hh, _⟩
  · cases h2
  · injection hv with a b d
    injection a with a
    injection a with a
    subst a
    exact blk_frozen hh i
theorem own_int {w : World} {base g n c : Nat} {l : List Int} (h : w.ownsRow base 3 1 (.slice (some ⟨g, 0, none⟩) n c) n (ints l)) {i : Nat} (hi : i < l.length) : w.cell? ⟨g, i, none⟩ = some (.int .i64 l[i]) := by
  have h1 := h.1
  simp at h1
  exact (h.cellAt i (by simp; omega)).trans (by simp [hi])
theorem own_seti {w : World} {base g n c i : Nat} {l : List Int} (h : w.ownsRow base 3 1 (.slice (some ⟨g, 0, none⟩) n c) n (ints l)) (x : Int) : (w.setCell ⟨g, i, none⟩ (.int .i64 x)).ownsRow base 3 1 (.slice (some ⟨g, 0, none⟩) n c) n (ints (l.set i x)) := by
  have := own_set (j := i) h (.int .i64 x)
  rwa [show (ints l).set i (.int .i64 x) = ints (l.set i x) by simp [ints, List.map_set]] at this
/-- The first q and the last q turned around. -/
def RevTo (l m : List Int) (q : Nat) : Prop := m.length = l.length ∧ ∀ j, j < l.length → m.getD j 0 = if j < q ∨ l.length - q ≤ j then l.getD (l.length - 1 - j) 0 else l.getD j 0
theorem revTo_zero (l : List Int) : RevTo l l 0 := ⟨rfl, fun j hj => by rw [if_neg (by omega)]⟩
theorem getD_set (m : List Int) (i j : Nat) (x : Int) (hi : i < m.length) : (m.set i x).getD j 0 = if i = j then x else m.getD j 0 := by
  simp only [List.getD_eq_getElem?_getD, List.getElem?_set]
  split
  · simp [hi]
  · rfl
theorem revTo_succ {l m : List Int} {q : Nat} (h : RevTo l m q) (hq : q + q + 1 < l.length) (x y : Int) (hx : x = m.getD (l.length - 1 - q) 0) (hy : y = m.getD q 0) : RevTo l ((m.set q x).set (l.length - 1 - q) y) (q + 1) := by
  obtain ⟨h1, h2⟩ := h
  refine ⟨by simpa using h1, fun j hj => ?_⟩
  rw [getD_set _ _ _ _ (by simp; omega), getD_set _ _ _ _ (by omega)]
  have e1 := h2 q (by omega)
  have e2 := h2 (l.length - 1 - q) (by omega)
  rw [if_neg (by omega)] at e1 e2
  by_cases a : l.length - 1 - q = j
  · subst a
    rw [if_pos rfl, if_pos (by omega), hy, e1]
    congr 1
    omega
  · rw [if_neg a]
    by_cases b : q = j
    · subst b
      rw [if_pos rfl, if_pos (by omega), hx, e2]
    · rw [if_neg b, h2 j hj]
      by_cases c : j < q ∨ l.length - q ≤ j
      · rw [if_pos c, if_pos (by omega)]
      · rw [if_neg c, if_neg (by omega)]
theorem revTo_end {l m : List Int} {q : Nat} (h : RevTo l m q) (hq : l.length ≤ q + q + 1) : m = l.reverse := by
  obtain ⟨h1, h2⟩ := h
  refine List.ext_getElem (by simpa using h1) fun j hj hj' => ?_
  have := h2 j (by omega)
  rw [List.getElem_reverse]
  have e1 : m.getD j 0 = m[j] := by simp [hj]
  have e2 : l.getD (l.length - 1 - j) 0 = l[l.length - 1 - j]'(by omega) := by simp [show l.length - 1 - j < l.length by omega]
  rw [e1] at this
  rw [this]
  by_cases c : j < q ∨ l.length - q ≤ j
  · rw [if_pos c, e2]
  · rw [if_neg c]
    have : j = l.length - 1 - j := by omega
    rw [← e2, ← this]

set_option maxRecDepth 100000 in
set_option maxHeartbeats 2000000 in
theorem pReverse (A : Option Addr) (c : Nat) (l : List Int) (w : World) (hl : l.length ≤ 1000) (base : Nat) (hB : base ≤ w.heap.size) (hown : w.ownsRow base 3 1 (.slice A l.length c) l.length (ints l)) :
    Calls Try.prog 82 #[.slice A l.length c] w fun e w' => (∃ v, e = .returned v) ∧ w'.ownsRow base 3 1 (.slice A l.length c) l.length (ints l.reverse) ∧ Below base w w' := by
  go_enter Try.func82, Try.ntmps82
  go_wp2
  go_loopw [2, 3] (fun a b wr => ∃ (q : Nat) (m : List Int), a = .int .i64 q ∧ b = .int .i64 ((l.length : Int) - 1 - q) ∧ q + q ≤ l.length ∧ m.length = l.length ∧ Hid (RevTo l m q) ∧ wr.ownsRow base 3 1 (.slice A l.length c) l.length (ints m) ∧ Below base w wr) (fun a _ _ => l.length - (intOf a).toNat)
  case atStart => exact ⟨0, l, rfl, by go_num, by omega, rfl, revTo_zero l, hown, Below.refl _ _⟩
  case round =>
    clear hown
    obtain ⟨q, m, rfl, rfl, hq, hml, HT, hown, hb⟩ := hrel
    by_cases hlt : q + q + 1 < l.length
    · obtain ⟨g, cap, hv, hg1, hg2⟩ := hown.form (by omega)
      simp only [Value.slice.injEq, true_and] at hv
      obtain ⟨rfl, rfl⟩ := hv
      obtain ⟨r, hr⟩ : ∃ r : Nat, r = l.length - 1 - q := ⟨_, rfl⟩
      rw [show (l.length : Int) - 1 - q = (r : Int) by omega]
      have hqr : q < r := by omega
      have hrl : r < l.length := by omega
      have c1 := own_int hown (i := q) (by omega)
      have c2 := own_int hown (i := r) (by omega)
      have f1 := own_frozen hown q
      have f2 := own_frozen hown r
      have HS := Lib.hid (revTo_succ HT.out hlt m[r] m[q] (by rw [← hr]; simp [show r < m.length by omega]) (by simp [show q < m.length by omega]))
      rw [← hr] at HS
      have HO := Lib.hid (own_seti (i := r) (own_seti (i := q) hown m[r]) m[q])
      have HB := Lib.hid ((hb.setCell (p := ⟨g, q, none⟩) hg1 (.int .i64 m[r])).setCell (p := ⟨g, r, none⟩) hg1 (.int .i64 m[q]))
      have HR := Lib.hid hr
      have HML := Lib.hid hml
      clear hown hb HT
      generalize m[q] = x at *
      generalize m[r] = y at *
      clear hr
      have d1 : decide ((q : Int) < (r : Int)) = true := by simp; omega
      have n1 : ¬ q = r := by omega
      go_wp2
      go_region
      go_wp2
      go_roundw
      case rel => exact ⟨q + 1, (m.set q y).set r x, by go_num, by have := HR.out; go_num, by omega, by simpa using HML.out, HS.out, HO.out, HB.out.drew⟩
      case measure => simp [intOf]; omega
    · have d1 : decide ((q : Int) < (l.length : Int) - 1 - q) = false := by simp; omega
      have HM := Lib.hid (revTo_end HT.out (by omega))
      have HO := Lib.hid hown
      clear hown
      go_wp2
      go_end0
      exact ⟨⟨_, rfl⟩, by rw [← HM.out]; exact HO.out, hb⟩
end Go.Proofs.Ytnoocdannfeidaa
