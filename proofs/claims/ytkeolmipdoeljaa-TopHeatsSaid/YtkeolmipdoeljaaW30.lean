/-
  What two answers of Trace have alike.
-/
import Derived.Test.YtkeolmipdoeljaaW29
namespace Go.Proofs.Ytkeolmipdoeljaa
open Go.RowKit Heat

theorem trace_same {W : World} {b b' : Nat} {n : Int} {l : List HAct} {A A' : Option Addr} {vs us : List Value} {c c' : Nat}
    (h : TraceOk W b n l (.slice A vs.length c) vs) (h' : TraceOk W b' n l (.slice A' us.length c') us) :
    vs.length ≤ 1000 ∧ us.length = vs.length ∧ Rd W W.heap.size 1 A' vs.length us ∧ Rd W W.heap.size 1 A vs.length vs ∧
      ∀ i (h : i < vs.length) (h' : i < us.length), SameRow W W.heap.size vs[i] us[i] := by
  by_cases hv : validate n l = 0
  · obtain ⟨h1, h2, h3, h4⟩ := validate_ok hv
    obtain ⟨e1, r1⟩ := h.2.1 hv
    obtain ⟨e2, r2⟩ := h'.2.1 hv
    have e : us.length = vs.length := by omega
    have d2 := Rd.of_own h'.1
    rw [e] at d2
    refine ⟨by omega, e, d2, Rd.of_own h.1, fun i hi hi' => ?_⟩
    have hn : 0 < n.toNat := by omega
    obtain ⟨g, c, x1, _, y1, _⟩ := r1.get hi hn
    obtain ⟨g', c', x2, _, y2, _⟩ := r2.get hi' hn
    have hl := hts_len n.toNat (heats cold (l.take (i + 1)))
    refine ⟨g, c, g', c', hts n.toNat (heats cold (l.take (i + 1))), by omega, by rw [hl]; exact x1, by rw [hl]; exact x2, by rw [hl]; exact y1, by rw [hl]; exact y2⟩
  · have e1 := h.2.2 hv
    have e2 := h'.2.2 hv
    subst e1 e2
    exact ⟨by simp, rfl, Rd.of_own h'.1, Rd.of_own h.1, fun i hi => absurd hi (by simp)⟩
end Go.Proofs.Ytkeolmipdoeljaa
