/-
  WALK: Reverse of moves.
-/
import Derived.Test.YtlhbmfaoldajdaaW7
import Derived.BigRegion
import Derived.ChangeAlike
namespace Go.Proofs.Ytlhbmfaoldajdaa
open Go.RowKit

section
variable {α : Type} {d : α}
/-- The first q and the last q turned around. -/
def RevTo (d : α) (l m : List α) (q : Nat) : Prop := m.length = l.length ∧ ∀ j, j < l.length → m.getD j d = if j < q ∨ l.length - q ≤ j then l.getD (l.length - 1 - j) d else l.getD j d
theorem revTo_zero (l : List α) : RevTo d l l 0 := ⟨rfl, fun j hj => by rw [if_neg (by omega)]⟩
theorem getD_set' (m : List α) (i j : Nat) (x : α) (hi : i < m.length) : (m.set i x).getD j d = if i = j then x else m.getD j d := by
  simp only [List.getD_eq_getElem?_getD, List.getElem?_set]
  split
  · simp [hi]
  · rfl
theorem revTo_succ {l m : List α} {q : Nat} (h : RevTo d l m q) (hq : q + q + 1 < l.length) (x y : α) (hx : x = m.getD (l.length - 1 - q) d) (hy : y = m.getD q d) : RevTo d l ((m.set q x).set (l.length - 1 - q) y) (q + 1) := by
  obtain ⟨h1, h2⟩ := h
  refine ⟨by simpa using h1, fun j hj => ?_⟩
  rw [getD_set' _ _ _ _ (by simp; omega), getD_set' _ _ _ _ (by omega)]
  have e1 := h2 q (by omega)
  have e2 := h2 (l.length - 1 - q) (by omega)
  rw [if_neg (by omega)] at e1 e2
  by_cases a : l.length - 1 - q = j
  · subst a
    rw [if_pos rfl, if_pos (by omega), hy, e1]
    congr 1
    omega
  · rw [if_neg a]
    by_cases b : q = j
    · subst b
      rw [if_pos rfl, if_pos (by omega), hx, e2]
    · rw [if_neg b, h2 j hj]
      by_cases c : j < q ∨ l.length - q ≤ j
      · rw [if_pos c, if_pos (by omega)]
      · rw [if_neg c, if_neg (by omega)]
theorem revTo_end {l m : List α} {q : Nat} (h : RevTo d l m q) (hq : l.length ≤ q + q + 1) : m = l.reverse := by
  obtain ⟨h1, h2⟩ := h
  refine List.ext_getElem (by simpa using h1) fun j hj hj' => ?_
  have := h2 j (by omega)
  rw [List.getElem_reverse]
  have e1 : m.getD j d = m[j] := by simp [hj]
  have e2 : l.getD (l.length - 1 - j) d = l[l.length - 1 - j]'(by omega) := by simp [show l.length - 1 - j < l.length by omega]
  rw [e1] at this
  rw [this]
  by_cases c : j < q ∨ l.length - q ≤ j
  · rw [if_pos c, e2]
  · rw [if_neg c]
    have : j = l.length - 1 - j := by omega
    rw [← e2, ← this]
end
theorem prs_set : ∀ (l : List (Int × Int)) (i : Nat) (a b : Int), ((prs l).set (i * 2) (.int .i64 a)).set (i * 2 + 1) (.int .i64 b) = prs (l.set i (a, b))
  | [], i, a, b => by simp [prs]
  | p :: l, 0, a, b => by simp [prs]
  | p :: l, i + 1, a, b => by
    rw [prs_cons, show (i + 1) * 2 = i * 2 + 1 + 1 by omega, List.set_cons_succ, List.set_cons_succ, List.set_cons_succ, List.set_cons_succ, prs_set l i a b, List.set_cons_succ, prs_cons]
theorem own_setp {w : World} {base g n c i : Nat} {l : List (Int × Int)} (h : w.ownsRow base 57 2 (.slice (some ⟨g, 0, none⟩) n c) n (prs l)) (a b : Int) : ((w.setCell ⟨g, i * 2, none⟩ (.int .i64 a)).setCell ⟨g, i * 2 + 1, none⟩ (.int .i64 b)).ownsRow base 57 2 (.slice (some ⟨g, 0, none⟩) n c) n (prs (l.set i (a, b))) := by
  have := own_set (j := i * 2 + 1) (own_set (j := i * 2) h (.int .i64 a)) (.int .i64 b)
  rwa [prs_set] at this
theorem own_pr {w : World} {base g n c : Nat} {l : List (Int × Int)} (h : w.ownsRow base 57 2 (.slice (some ⟨g, 0, none⟩) n c) n (prs l)) {i : Nat} (hi : i < l.length) : w.cell? ⟨g, i * 2, none⟩ = some (.int .i64 l[i].1) ∧ w.cell? ⟨g, i * 2 + 1, none⟩ = some (.int .i64 l[i].2) := by
  have h1 := h.1
  rw [prs_len] at h1
  obtain ⟨g1, g2⟩ := prs_get hi
  exact ⟨(h.cellAt (i * 2) (by omega)).trans g1, (h.cellAt (i * 2 + 1) (by omega)).trans g2⟩

set_option maxRecDepth 100000 in
set_option maxHeartbeats 2000000 in
theorem pReverse (A : Option Addr) (c : Nat) (l : List (Int × Int)) (w : World) (hl : l.length ≤ 2000) (base : Nat) (hB : base ≤ w.heap.size) (hown : w.ownsRow base 57 2 (.slice A l.length c) l.length (prs l)) :
    Calls Try.prog 25 #[.slice A l.length c] w fun e w' => (∃ v, e = .returned v) ∧ w'.ownsRow base 57 2 (.slice A l.length c) l.length (prs l.reverse) ∧ Below base w w' := by
  go_enter Try.func25, Try.ntmps25
  go_wp2
  go_loopw [2, 3] (fun a b wr => ∃ (q : Nat) (m : List (Int × Int)), a = .int .i64 q ∧ b = .int .i64 ((l.length : Int) - 1 - q) ∧ q + q ≤ l.length ∧ m.length = l.length ∧ Hid (RevTo (0, 0) l m q) ∧ wr.ownsRow base 57 2 (.slice A l.length c) l.length (prs m) ∧ Below base w wr) (fun a _ _ => l.length - (intOf a).toNat)
  case atStart => exact ⟨0, l, rfl, by go_num, by omega, rfl, revTo_zero l, hown, Below.refl _ _⟩
  case round =>
    clear hown
    obtain ⟨q, m, rfl, rfl, hq, hml, HT, hown, hb⟩ := hrel
    by_cases hlt : q + q + 1 < l.length
    · obtain ⟨g, cap, hv, hg1, hg2⟩ := hown.form (by omega)
      simp only [Value.slice.injEq, true_and] at hv
      obtain ⟨rfl, rfl⟩ := hv
      obtain ⟨r, hr⟩ : ∃ r : Nat, r = l.length - 1 - q := ⟨_, rfl⟩
      rw [show (l.length : Int) - 1 - q = (r : Int) by omega]
      have hqr : q < r := by omega
      have hrl : r < l.length := by omega
      obtain ⟨c1, c1'⟩ := own_pr hown (i := q) (by omega)
      obtain ⟨c2, c2'⟩ := own_pr hown (i := r) (by omega)
      have f1 := own_frozen hown (q * 2)
      have f1' := own_frozen hown (q * 2 + 1)
      have f2 := own_frozen hown (r * 2)
      have f2' := own_frozen hown (r * 2 + 1)
      have HS := Lib.hid (revTo_succ HT.out hlt m[r] m[q] (by rw [← hr]; simp [show r < m.length by omega]) (by simp [show q < m.length by omega]))
      rw [← hr] at HS
      have HO := Lib.hid (own_setp (i := r) (own_setp (i := q) hown m[r].1 m[r].2) m[q].1 m[q].2)
      have HB := Lib.hid ((((hb.setCell (p := ⟨g, q * 2, none⟩) hg1 (.int .i64 m[r].1)).setCell (p := ⟨g, q * 2 + 1, none⟩) hg1 (.int .i64 m[r].2)).setCell (p := ⟨g, r * 2, none⟩) hg1 (.int .i64 m[q].1)).setCell (p := ⟨g, r * 2 + 1, none⟩) hg1 (.int .i64 m[q].2))
      have HR := Lib.hid hr
      have HML := Lib.hid hml
      clear hown hb HT
      generalize m[q] = x at *
      generalize m[r] = y at *
      obtain ⟨x1, x2⟩ := x
      obtain ⟨y1, y2⟩ := y
      clear hr
      have d1 : decide ((q : Int) < (r : Int)) = true := by simp; omega
      have n1 : ¬ q = r := by omega
      have n2 : ¬ q * 2 = r * 2 := by omega
      have n3 : ¬ q * 2 + 1 = r * 2 := by omega
      have n4 : ¬ q * 2 = r * 2 + 1 := by omega
      have n5 : ¬ q * 2 + 1 = r * 2 + 1 := by omega
      go_wp2
      go_region
      go_wp2
      go_roundw
      case rel => exact ⟨q + 1, (m.set q (y1, y2)).set r (x1, x2), by go_num, by have := HR.out; go_num, by omega, by simpa using HML.out, HS.out, HO.out, HB.out.drew⟩
      case measure => simp [intOf]; omega
    · have d1 : decide ((q : Int) < (l.length : Int) - 1 - q) = false := by simp; omega
      have HM := Lib.hid (revTo_end HT.out (by omega))
      have HO := Lib.hid hown
      clear hown
      go_wp2
      go_end0
      exact ⟨⟨_, rfl⟩, by rw [← HM.out]; exact HO.out, hb⟩
end Go.Proofs.Ytlhbmfaoldajdaa
