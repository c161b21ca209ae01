/-
  WALKS: two lists of lists held against each other.
-/
import Derived.Test.YtkeolmipdoeljaaW28
namespace Go.Proofs.Ytkeolmipdoeljaa
open Go.RowKit Heat

/-- Two slices that read as the same numbers. -/
def SameRow (w : World) (B : Nat) (v u : Value) : Prop := ∃ (g c g' c' : Nat) (xs : List Int), xs.length ≤ 1000 ∧ v = .slice (some ⟨g, 0, none⟩) xs.length c ∧ u = .slice (some ⟨g', 0, none⟩) xs.length c' ∧ Rd w B 1 (some ⟨g, 0, none⟩) xs.length (ints xs) ∧ Rd w B 1 (some ⟨g', 0, none⟩) xs.length (ints xs)

set_option maxRecDepth 100000 in
set_option maxHeartbeats 2000000 in
theorem rSameLists (A A' : Option Addr) (k c c' : Nat) (vs us : List Value) (w : World) (hk : k ≤ 1000) (B : Nat) (hB : B ≤ w.heap.size) (hr : Rd w B 1 A k vs) (hr' : Rd w B 1 A' k us)
    (hs : ∀ i (h : i < vs.length) (h' : i < us.length), SameRow w B vs[i] us[i]) :
    Calls Try.prog 44 #[.slice A k c, .slice A' k c'] w fun e w' => e = .returned (.bool true) ∧ Below w.heap.size w w' := by
  have l1 : vs.length = k := by have := hr.1; omega
  have l2 : us.length = k := by have := hr'.1; omega
  have HS := Lib.hid hs
  clear hs
  go_enter Try.func44, Try.ntmps44
  go_wp2
  go_loopw [5] (fun j wr => ∃ q : Nat, q ≤ k ∧ j = .int .i64 q ∧ Below w.heap.size w wr) (fun j _ => k - (intOf j).toNat)
  case atStart => exact ⟨0, Nat.zero_le _, rfl, Below.refl _ _⟩
  case round =>
    obtain ⟨q, hq, rfl, hb⟩ := hrel
    have hsz := hb.size
    by_cases hlt : q < k
    · obtain ⟨b, o, rfl, hb1, hc1⟩ := (hr.below' hb hB).2 (by omega)
      obtain ⟨b', o', rfl, hb2, hc2⟩ := (hr'.below' hb hB).2 (by omega)
      obtain ⟨g, cg, g', cg', xs, hxl, e1, e2, r1, r2⟩ := HS.out q (by omega) (by omega)
      have d1 := hc1 q vs[q] (List.getElem?_eq_getElem (by omega))
      have d2 := hc2 q us[q] (List.getElem?_eq_getElem (by omega))
      rw [e1] at d1
      rw [e2] at d2
      have s1 := (r1.below' hb hB).more (show B ≤ wr.drew.heap.size by simp; omega)
      have s2 := (r2.below' hb hB).more (show B ≤ wr.drew.heap.size by simp; omega)
      have HD := Lib.hid (hb.drew)
      clear hc1 hc2 e1 e2
      have hqi : (q : Int) < (k : Int) := by omega
      have hq0 : (0 : Int) ≤ (q : Int) := by omega
      go_wp2
      refine wp_region_qtail 8 (by kernel_rfl) (by kernel_rfl) ?_
      simp only [List.take_succ_cons, List.take_zero, List.drop_succ_cons, List.drop_zero]
      repeat (go_big_quiet_step (fail))
      refine wpQuiet_nil ?_
      go_wp2_with fail
      refine (rSameInts (some ⟨g, 0, none⟩) (some ⟨g', 0, none⟩) xs.length xs.length cg cg' xs xs _ hxl hxl wr.drew.heap.size (Nat.le_refl _) s1 s2).mono ?_
      rw [decide_eq_true (rfl : xs = xs)]
      rintro e w2 ⟨rfl, hb2⟩
      go_wp2
      go_roundw
      case rel => exact ⟨q + 1, by omega, by go_num, HD.out.trans (hb2.mono (by simp; omega))⟩
      case measure => simp [intOf]; omega
    · obtain rfl : q = k := by omega
      go_wp2
      go_ret
      exact ⟨rfl, hb⟩
end Go.Proofs.Ytkeolmipdoeljaa
