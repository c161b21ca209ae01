/-
  PLAIN LAWS: gains without an electrode have no more fields; a table that is written into.
-/
import Derived.Test.YtejjogpgolgdgaaP1
import Derived.Test.YtejjogpgolgdgaaW33
namespace Go.Proofs.Ytejjogpgolgdgaa
open Go.RowKit Pulse

def putZ (x : Nat) (v : List Int) : List Int := v.take x ++ 0 :: v.drop x
theorem dot_cut : ∀ (x : Nat) (l v : List Int), x < l.length → dot (cutL x l) v = dot l (putZ x v)
  | 0, a :: l, v, _ => by simp [cutL, putZ, dot]
  | x + 1, a :: l, [], h => by simp [putZ, dot_nil_right, dot]
  | x + 1, a :: l, b :: v, h => by
    have := dot_cut x l v (by simpa using h)
    simp only [cutL, putZ] at this ⊢
    rw [List.take_succ_cons, List.drop_succ_cons, List.take_succ_cons, List.drop_succ_cons, List.cons_append, List.cons_append, dot, dot, this]
  | _, [], _, h => by simp at h
theorem fieldL_cut {x : Nat} {g : List (List Int)} {v : List Int} (h : ∀ l ∈ g, x < l.length) : fieldL (g.map (cutL x)) v = fieldL g (putZ x v) := by
  simp only [fieldL, List.map_map]
  exact List.map_congr_left fun l hl => dot_cut x l v (h l hl)
theorem putZ_len {x : Nat} {v : List Int} (h : x ≤ v.length) : (putZ x v).length = v.length + 1 := by simp [putZ]; omega
theorem putZ_forces {x : Nat} {v : List Int} {b : Int} (hb : 0 ≤ b) (h : Forces b v) : Forces b (putZ x v) := by
  intro a ha
  rcases List.mem_append.1 ha with ha | ha
  · exact h a (List.mem_of_mem_take ha)
  · rcases List.mem_cons.1 ha with rfl | ha
    · omega
    · exact h a (List.mem_of_mem_drop ha)
theorem withE_ok {g : List (List Int)} {wire : Int} (h : withE g wire = 0) : vldG g = 0 ∧ 0 ≤ wire ∧ wire < (wid g : Int) ∧ wid g ≠ 1 := by
  by_cases hv : vldG g = 0
  · rw [withE, if_pos hv] at h
    by_cases h1 : wire < 0 ∨ (wid g : Int) ≤ wire
    · rw [if_pos h1] at h; omega
    · rw [if_neg h1] at h
      by_cases h2 : wid g = 1
      · rw [if_pos h2] at h; omega
      · exact ⟨hv, by omega, by omega, h2⟩
  · rw [withE, if_neg hv] at h
    exact absurd h hv
theorem withT_len {g : List (List Int)} {wire : Int} : (withT g wire).length ≤ g.length := by
  unfold withT; split <;> simp
theorem withT_sm {g : List (List Int)} {wire : Int} (hs : Sm g) : Sm (withT g wire) := by
  refine ⟨Nat.le_trans withT_len hs.1, fun l hl => ?_⟩
  unfold withT at hl
  split at hl
  · obtain ⟨r, hr, rfl⟩ := List.mem_map.1 hl
    have := hs.2 r hr
    simp only [cutL, List.length_append, List.length_take, List.length_drop]
    omega
  · cases hl
/-- What is left behind the cut. -/
theorem less {g : List (List Int)} {wire : Int} (h : withE g wire = 0) :
    vldG (withT g wire) = 0 ∧ fieldsN (withT g wire) ≤ fieldsN g ∧ (∀ l ∈ withT g wire, 0 < l.length) ∧ (withT g wire).length ≤ 3 ∧ fieldsN g ≤ 343 ∧ 0 ≤ fieldsN (withT g wire) := by
  obtain ⟨hv, h0, h1, h2⟩ := withE_ok h
  obtain ⟨g1, g2, g3, g4, g5⟩ := vldG_ok hv
  obtain ⟨x, rfl⟩ : ∃ x : Nat, wire = (x : Int) := ⟨wire.toNat, by omega⟩
  have ht : withT g (x : Int) = g.map (cutL x) := by rw [withT, if_pos h]; rfl
  rw [ht]
  have hx : x < wid g := by omega
  have hxl : ∀ l ∈ g, x < l.length := fun l hl => by rw [(g5 l hl).1]; exact hx
  have hrow : ∀ l ∈ g.map (cutL x), l.length = wid g - 1 ∧ Forces 9 l := by
    intro l hl
    obtain ⟨r, hr, rfl⟩ := List.mem_map.1 hl
    refine ⟨by rw [cutL_len (hxl r hr), (g5 r hr).1], fun a ha => ?_⟩
    rcases List.mem_append.1 ha with ha | ha
    · exact (g5 r hr).2 a (List.mem_of_mem_take ha)
    · exact (g5 r hr).2 a (List.mem_of_mem_drop ha)
  have hlen : (g.map (cutL x)).length = g.length := by simp
  have hwid : wid (g.map (cutL x)) = wid g - 1 := by
    rw [wid_zero (by rw [hlen]; omega)]
    exact (hrow _ (List.getElem_mem _)).1
  have hv' : vldG (g.map (cutL x)) = 0 := by
    rw [vldG, if_pos]
    simp only [okG, Bool.and_eq_true, decide_eq_true_eq, List.all_eq_true, hwid]
    refine ⟨⟨⟨⟨by omega, by omega⟩, by omega⟩, by omega⟩, fun l hl => ?_⟩
    simp only [withinB, isIn, Bool.and_eq_true, decide_eq_true_eq, List.all_eq_true]
    exact ⟨by have := (hrow l hl).1; omega, fun a ha => (hrow l hl).2 a ha⟩
  refine ⟨hv', ?_, fun l hl => by have := (hrow l hl).1; omega, by omega, ?_, by have := (fields_bd hv').1; omega⟩
  · rw [fieldsN, fieldsN, if_pos hv, if_pos hv', cntTo, cntTo, fieldsTo_all, fieldsTo_all]
    have := nodup_le (l := firsts ((allV (wid (g.map (cutL x)))).map (fieldL (g.map (cutL x))))) (m := firsts ((allV (wid g)).map (fieldL g))) (nodup_firsts _) (fun f hf => by
      obtain ⟨v, hv, rfl⟩ := List.mem_map.1 (mem_firsts.1 hf)
      obtain ⟨v1, v2⟩ := mem_allP.1 hv
      rw [hwid] at v1
      rw [mem_firsts, fieldL_cut hxl]
      exact List.mem_map.2 ⟨putZ x v, mem_allP.2 ⟨by rw [putZ_len (by omega)]; omega, putZ_forces (by decide) v2⟩, rfl⟩)
    omega
  · have h1 := (fields_bd hv).2.1
    have h2 : (7 : Int) ^ wid g ≤ 343 := by
      have : ∀ k : Nat, k ≤ 3 → (7 : Int) ^ k ≤ 343 := fun k hk => by
        match k, hk with
        | 0, _ => decide
        | 1, _ => decide
        | 2, _ => decide
        | 3, _ => decide
      exact this _ g4
    omega

/-! ## Writing into the rows -/
/-- The first cell of a header's row holds a number and may be written; its block lies at or beyond base, and is not the headers' own. -/
def WrAt (w : World) (base gu : Nat) (v : Value) : Prop := ∃ b off n c z, v = .slice (some ⟨b, off, none⟩) (n + 1) c ∧ base ≤ b ∧ b ≠ gu ∧ w.cell? ⟨b, off, none⟩ = some (.int .i64 z) ∧ w.frozen? ⟨b, off, none⟩ = false
theorem WrAt.set {w : World} {base gu : Nat} {v : Value} (h : WrAt w base gu v) (p : Addr) (hf : w.frozen? p = false) (hc : ∃ z, w.cell? p = some (.int .i64 z)) (y : Int) : WrAt (w.setCell p (.int .i64 y)) base gu v := by
  obtain ⟨b, off, n, c, z, e, h1, h2, h3, h4⟩ := h
  by_cases hp : p = ⟨b, off, none⟩
  · refine ⟨b, off, n, c, y, e, h1, h2, ?_, by rw [World.frozen?_setCell]; exact h4⟩
    rw [hp]
    exact World.cell?_setCell_same _ _ _ (by rw [h3])
  · exact ⟨b, off, n, c, z, e, h1, h2, by rw [World.cell?_setCell_other _ _ _ _ hp]; exact h3, by rw [World.frozen?_setCell]; exact h4⟩
theorem OwnS.wr {w : World} {base gu n c : Nat} {ps : List (List Int)} (h : OwnS w base (.slice (some ⟨gu, 0, none⟩) n c) ps) (hp : ∀ l ∈ ps, 0 < l.length) : ∃ vs, w.ownsRow base 23 1 (.slice (some ⟨gu, 0, none⟩) n c) ps.length vs ∧ vs.length = ps.length ∧ ∀ v ∈ vs, WrAt w base gu v := by
  obtain ⟨vs, h1, h2, h3⟩ := h
  refine ⟨vs, h1, h2.1, fun v hv => ?_⟩
  obtain ⟨i, hi, rfl⟩ := List.getElem_of_mem hv
  have hi' : i < ps.length := by rw [← h2.1]; exact hi
  obtain ⟨A, c', e, e1, e2, e3, e4⟩ := h2.2 i _ _ (List.getElem?_eq_getElem hi) (List.getElem?_eq_getElem hi')
  have hpos := hp _ (List.getElem_mem hi')
  obtain ⟨b, off, rfl, hb, hc⟩ := e3.int hpos
  obtain ⟨s1, s2, s3⟩ := h3 _ hv b off _ _ e
  have hX := e4 b off none hpos rfl
  exact ⟨b, off, ps[i].length - 1, c', _, by rw [e]; congr 1; omega, Nat.le_of_not_lt fun h => hX (.inl h), fun h => hX (.inr (by rw [h]; rfl)), by simpa using hc, s3⟩
end Go.Proofs.Ytejjogpgolgdgaa
