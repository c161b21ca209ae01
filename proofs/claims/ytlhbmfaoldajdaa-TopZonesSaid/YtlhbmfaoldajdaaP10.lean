/-
  WHAT THE STATEMENT ASKS, plain.
-/
import Derived.Test.YtlhbmfaoldajdaaP9
import Derived.Test.YtlhbmfaoldajdaaW21
namespace Go.Proofs.Ytlhbmfaoldajdaa
section
variable {Z : Int} {L : List (Int × Int)} {s t : List Int} {p : List (Int × Int)} {n : Nat}
theorem PlOk.place (hv : vldT Z L = 0) (h : PlOk Z n s) (hn : n ≤ 4) : placeE Z L s = 0 := by
  rw [placeE, if_pos hv]
  exact placedE_of (by rw [h.1]; exact hn) h.2.1 h.2.2
theorem pair_of (hs : placeE Z L s = 0) (ht : placeE Z L t = 0) (h : s.length = t.length) : pairZ Z L s t = 0 := by
  rw [pairZ, if_pos hs, if_pos (placeE_ok ht).2, if_pos h]
theorem pair_to (h : pairZ Z L s t = 0) : placeE Z L s = 0 ∧ placeE Z L t = 0 ∧ s.length = t.length := by
  obtain ⟨h1, h2, h3⟩ := pairZ_ok h
  exact ⟨h1, by rw [placeE, if_pos (placeE_ok h1).1]; exact h2, h3⟩
theorem nodeOf_mem {T : List Nd} {q : List Int} (h : q ∈ T.map (·.p)) : ∃ x, nodeOf T q = some x := by
  cases hf : nodeOf T q with
  | some x => exact ⟨x, rfl⟩
  | none =>
    obtain ⟨y, hy, he⟩ := List.mem_map.1 h
    have := List.find?_eq_none.1 hf y hy
    simp [he] at this
theorem farB_of (h : pairZ Z L s t = 0) (hr : Run Z L s p t) : farB Z L s t = true := by
  obtain ⟨h1, _, _⟩ := pairZ_ok h
  obtain ⟨_, z2, z3, z4⟩ := PlOk.of_place h1
  obtain ⟨x, hx⟩ := nodeOf_mem (bfs_run z4 z2 z3 hr)
  rw [farB, if_pos h, hx]; rfl
theorem far_node (h : pairZ Z L s t = 0) (hf : farB Z L s t = true) : ∃ x ∈ bfsL Z L s, x.p = t ∧ farN Z L s t = x.d := by
  rw [farB, if_pos h] at hf
  cases hn : nodeOf (bfsL Z L s) t with
  | none => rw [hn] at hf; cases hf
  | some x =>
    obtain ⟨h1, h2⟩ := nodeOf_some hn
    exact ⟨x, h1, h2, by rw [farN, if_pos h, hn]; rfl⟩
theorem far_spec (h : pairZ Z L s t = 0) (hf : farB Z L s t = true) : (∃ p, Run Z L s p t ∧ (p.length : Int) = farN Z L s t) ∧ ∀ p, Run Z L s p t → farN Z L s t ≤ (p.length : Int) := by
  obtain ⟨h1, _, _⟩ := pairZ_ok h
  obtain ⟨_, z2, z3, z4⟩ := PlOk.of_place h1
  obtain ⟨x, hx, e1, e2⟩ := far_node h hf
  obtain ⟨h3, h4⟩ := bfs_node z4 z2 z3 hx
  rw [e1] at h3 h4
  rw [e2]
  exact ⟨h3, h4⟩
theorem far_small (h : pairZ Z L s t = 0) (hf : farB Z L s t = true) : farN Z L s t ≤ 359 := by
  obtain ⟨h1, _, _⟩ := pairZ_ok h
  obtain ⟨_, z2, z3, z4⟩ := PlOk.of_place h1
  obtain ⟨x, hx, _, e2⟩ := far_node h hf
  obtain ⟨j, hj, hje⟩ := List.getElem_of_mem hx
  have h3 := deep_bfs Z L s 1296 j x (by show (bfsL Z L s)[j]? = _; rw [← hje]; exact List.getElem?_eq_getElem hj)
  have h4 := (bfsL_tidy h1).len360 z2 z3
  omega
theorem reach_le (hs : placeE Z L s = 0) (ht : placeE Z L t = 0) (hr : Run Z L s p t) : (bfsL Z L t).length ≤ (bfsL Z L s).length := by
  obtain ⟨_, z2, z3, z4⟩ := PlOk.of_place hs
  obtain ⟨_, _, y3, y4⟩ := PlOk.of_place ht
  have := nodup_le (bfsL_tidy ht).1 (m := (bfsL Z L s).map (·.p)) (fun q hq => by
    obtain ⟨x, hx, rfl⟩ := List.mem_map.1 hq
    obtain ⟨⟨q, hq, _⟩, _⟩ := bfs_node y4 z2 y3 hx
    exact bfs_run z4 z2 z3 (hr.append hq))
  simpa using this
theorem reach_eq (hs : placeE Z L s = 0) (ht : placeE Z L t = 0) (hr : Run Z L s p t) : reachN Z L t = reachN Z L s := by
  obtain ⟨_, _, _, z4⟩ := PlOk.of_place hs
  have h1 := reach_le hs ht hr
  have h2 := reach_le ht hs (run_back hr z4)
  rw [reachN, reachN, if_pos hs, if_pos ht]
  omega
theorem run_place (hs : placeE Z L s = 0) (hr : Run Z L s p t) : placeE Z L t = 0 ∧ t.length = s.length ∧ pairZ Z L s t = 0 := by
  obtain ⟨_, z2, z3, z4⟩ := PlOk.of_place hs
  have h := hr.plOk z4
  have hp := h.place (placeE_ok hs).1 z3
  exact ⟨hp, h.1, pair_of hs hp h.1.symm⟩
theorem seq_same (hs : placeE Z L s = 0) (ht : placeE Z L t = 0) (hr : Run Z L s p t) : seqB Z L t = seqB Z L s ∧ seqF Z L t = seqF Z L s := by
  obtain ⟨z1, z2, z3, z4⟩ := PlOk.of_place hs
  refine ⟨by rw [seqB, seqB, hs, ht], ?_⟩
  rw [seqF, seqF, if_pos hs, if_pos ht]
  cases ho : (ordP Z L).2 with
  | true => exact seq_run z1 ho hr z4
  | false => rw [seqR, seqR, ho]; rfl
/-- Of a plan that can be done. -/
theorem plan_facts (h : planB Z L s p) : pairZ Z L s (nowAt s p p.length) = 0 ∧ farB Z L s (nowAt s p p.length) = true ∧ farN Z L s (nowAt s p p.length) ≤ (p.length : Int) ∧ planB Z L (nowAt s p p.length) (backL s p) ∧ (backL s p).length = p.length ∧ nowAt (nowAt s p p.length) (backL s p) (backL s p).length = s ∧ placeE Z L (nowAt s p p.length) = 0 ∧ reachN Z L (nowAt s p p.length) = reachN Z L s ∧ seqB Z L (nowAt s p p.length) = seqB Z L s ∧ seqF Z L (nowAt s p p.length) = seqF Z L s := by
  obtain ⟨h1, h2, h3⟩ := h
  obtain ⟨t, ht⟩ : ∃ t, t = nowAt s p p.length := ⟨_, rfl⟩
  have hr : Run Z L s p t := run_iff.2 ⟨h3, ht.symm⟩
  rw [← ht]
  obtain ⟨e1, e2, e3⟩ := run_place h1 hr
  obtain ⟨_, _, _, z4⟩ := PlOk.of_place h1
  have hb := run_iff.1 (run_back hr z4)
  have hf := farB_of e3 hr
  have hsq := seq_same h1 e1 hr
  exact ⟨e3, hf, (far_spec e3 hf).2 p hr, ⟨e1, by rw [backL_len]; exact h2, hb.1⟩, backL_len s p, hb.2, e1, reach_eq h1 e1 hr, hsq.1, hsq.2⟩
/-- Of two places, one of which reaches the other one. -/
theorem far_facts (h : pairZ Z L s t = 0) (hf : farB Z L s t = true) : reachN Z L t = reachN Z L s ∧ pairZ Z L t s = 0 ∧ farB Z L t s = true ∧ farN Z L t s = farN Z L s t ∧ seqF Z L t = seqF Z L s := by
  obtain ⟨h1, h2, h3⟩ := pair_to h
  obtain ⟨⟨p, hr, hl⟩, hm⟩ := far_spec h hf
  obtain ⟨_, _, _, z4⟩ := PlOk.of_place h1
  obtain ⟨_, _, _, y4⟩ := PlOk.of_place h2
  have hp := pair_of h2 h1 h3.symm
  have hb := run_back hr z4
  have hf2 := farB_of hp hb
  refine ⟨reach_eq h1 h2 hr, hp, hf2, ?_, (seq_same h1 h2 hr).2⟩
  obtain ⟨⟨q, hq, hql⟩, hm2⟩ := far_spec hp hf2
  have a1 := hm2 _ hb
  have a2 := hm _ (run_back hq y4)
  rw [backL_len] at a1 a2
  omega
theorem way_facts (h : pairZ Z L s t = 0) (hf : farB Z L s t = true) (hr : Run Z L s p t) (hl : (p.length : Int) = farN Z L s t) : planB Z L s p ∧ nowAt s p p.length = t := by
  have h1 := (pair_to h).1
  have h2 := far_small h hf
  obtain ⟨h3, h4⟩ := run_iff.1 hr
  exact ⟨⟨h1, by omega, h3⟩, h4⟩
theorem far_long (h : pairZ Z L s t = 0) (hf : farB Z L s t = true) {m : Int} (hm : ∀ x ∈ bfsL Z L s, x.d ≤ m) : farN Z L s t ≤ m := by
  obtain ⟨x, hx, _, e⟩ := far_node h hf
  rw [e]; exact hm x hx
theorem seq_back (h : pairZ Z L s t = 0) (ho : seqB Z L s = true) (hn : (s.length : Int) ≠ Z) (he : seqF Z L t = seqF Z L s) : farB Z L s t = true := by
  obtain ⟨h1, h2, h3⟩ := pair_to h
  obtain ⟨z1, _, _, z4⟩ := PlOk.of_place h1
  obtain ⟨_, _, _, y4⟩ := PlOk.of_place h2
  rw [← h3] at y4
  rw [seqB, decide_eq_true h1, Bool.true_and] at ho
  rw [seqF, seqF, if_pos h1, if_pos h2] at he
  obtain ⟨p, hr⟩ := run_seq z1 ho z4 y4 hn he
  exact farB_of h hr
theorem seqB_other (h : pairZ Z L s t = 0) (ho : seqB Z L s = true) : seqB Z L t = true := by
  obtain ⟨h1, h2, _⟩ := pair_to h
  rw [seqB, h1] at ho
  rw [seqB, h2]; exact ho
theorem seq_len (hs : placeE Z L s = 0) : (seqF Z L s).length ≤ 6 := by
  obtain ⟨z1, z2, _, _⟩ := PlOk.of_place hs
  have hrot : ∀ l : List Int, (rotZ l).length = l.length := fun l => by
    obtain ⟨a, b, e1, e2⟩ := rotZ_ex l
    rw [e2, e1]; simp; omega
  rw [seqF, if_pos hs, seqR]
  split
  · unfold ordP
    split
    · exact Nat.le_trans (seqIn_len _ _) (lineP_len z1 z2)
    · rw [hrot]
      exact Nat.le_trans (seqIn_len _ _) (ringP_len z1 z2)
  · simp
end
theorem place_known : placeE 4 [(0, 1), (1, 2), (2, 3), (0, 3)] [0, 2] = 0 := by decide +kernel
theorem search_known : (bfsTo 4 [(0, 1), (1, 2), (2, 3), (0, 3)] [0, 2] 12).length = 12 := by decide +kernel
theorem reach_known : reachN 4 [(0, 1), (1, 2), (2, 3), (0, 3)] [0, 2] = 12 := by
  rw [reachN, if_pos place_known, show bfsL 4 [(0, 1), (1, 2), (2, 3), (0, 3)] [0, 2] = bfsTo 4 [(0, 1), (1, 2), (2, 3), (0, 3)] [0, 2] 12 from bfsTo_stay (Nat.le_of_eq search_known) 1296 (by omega), search_known]
  rfl
end Go.Proofs.Ytlhbmfaoldajdaa
