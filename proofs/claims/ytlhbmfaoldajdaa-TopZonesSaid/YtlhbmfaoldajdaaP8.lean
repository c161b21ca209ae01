/-
  LINES AND RINGS, plain: the links are those of the order and no others.
-/
import Derived.Test.YtlhbmfaoldajdaaP7
namespace Go.Proofs.Ytlhbmfaoldajdaa
def pr (a b : Int) : Int × Int := (min a b, max a b)
theorem pr_comm (a b : Int) : pr a b = pr b a := by unfold pr; rw [Int.min_comm, Int.max_comm]
theorem pr_eq {a b c d : Int} (h : pr a b = pr c d) : (a = c ∧ b = d) ∨ (a = d ∧ b = c) := by
  unfold pr at h
  injection h with h1 h2
  omega
theorem lk_pr (L : List (Int × Int)) (a b : Int) : lk L a b = true ↔ pr a b ∈ L := by unfold lk pr; exact decide_eq_true_iff
theorem get_inj {α : Type} {l : List α} (h : l.Nodup) {i j : Nat} (hi : i < l.length) (hj : j < l.length) (e : l[i] = l[j]) : i = j := by
  have hp := List.pairwise_iff_getElem.1 h
  rcases Nat.lt_trichotomy i j with h1 | h1 | h1
  · exact absurd e (hp i j hi hj h1)
  · exact h1
  · exact absurd e.symm (hp j i hj hi h1)
/-- An order of the zones: a line's or a ring's. -/
structure Way (Z : Int) (L : List (Int × Int)) (zs : List Int) (ring : Bool) : Prop where
  nd : zs.Nodup
  mem : ∀ z, z ∈ zs ↔ 0 ≤ z ∧ z < Z
  len : (zs.length : Int) = Z
  adj : ∀ (i : Nat) (h : i + 1 < zs.length), lk L (zs[i]'(by omega)) zs[i + 1] = true
  wrap : ring = true → ∃ h : 2 < zs.length, lk L (zs[0]'(by omega)) (zs[zs.length - 1]'(by omega)) = true
  only : ∀ (i j : Nat) (hi : i < zs.length) (hj : j < zs.length), lk L zs[i] zs[j] = true → j = i + 1 ∨ i = j + 1 ∨ (ring = true ∧ ((i = 0 ∧ j + 1 = zs.length) ∨ (j = 0 ∧ i + 1 = zs.length)))
theorem zonesL_nodup (Z : Int) : (zonesL Z).Nodup := by
  unfold zonesL
  refine (List.pairwise_map).2 ?_
  exact (List.nodup_range).imp (fun h e => h (by omega))
theorem all_zones {Z : Int} {zs : List Int} (h1 : zs.Nodup) (h2 : ∀ z ∈ zs, 0 ≤ z ∧ z < Z) (h3 : (zs.length : Int) = Z) (z : Int) : z ∈ zs ↔ 0 ≤ z ∧ z < Z := by
  refine ⟨h2 z, fun hz => ?_⟩
  by_cases hm : z ∈ zs
  · exact hm
  · have := zones_le (Z := Z) (out := z :: zs) (List.nodup_cons.2 ⟨hm, h1⟩) (fun y hy => by rcases List.mem_cons.1 hy with rfl | hy; exact hz; exact h2 y hy)
    simp at this
    omega
/-- As many different ones of a list as it has: all of them. -/
theorem sub_all {P L : List (Int × Int)} (h1 : P.Nodup) (h2 : ∀ x ∈ P, x ∈ L) (h3 : L.length ≤ P.length) : ∀ x ∈ L, x ∈ P := by
  intro x hx
  by_cases hm : x ∈ P
  · exact hm
  · have := nodup_le (l := x :: P) (m := L) (List.nodup_cons.2 ⟨hm, h1⟩) (fun y hy => by rcases List.mem_cons.1 hy with rfl | hy; exact hx; exact h2 y hy)
    simp at this
    omega
theorem sub_one {P L : List (Int × Int)} (h1 : P.Nodup) (h2 : ∀ x ∈ P, x ∈ L) (h3 : L.length ≤ P.length + 1) {x y : Int × Int} (hx : x ∈ L) (hy : y ∈ L) (hxp : x ∉ P) (hyp : y ∉ P) : x = y := by
  by_cases e : x = y
  · exact e
  · have := nodup_le (l := x :: y :: P) (m := L) (List.nodup_cons.2 ⟨by rw [List.mem_cons, not_or]; exact ⟨e, hxp⟩, List.nodup_cons.2 ⟨hyp, h1⟩⟩) (fun u hu => by
      rcases List.mem_cons.1 hu with rfl | hu
      · exact hx
      · rcases List.mem_cons.1 hu with rfl | hu
        · exact hy
        · exact h2 u hu)
    simp at this
    omega
/-- The pairs of neighbours. -/
def nbs (zs : List Int) (m : Nat) : List (Int × Int) := (List.range m).map fun i => pr (zs.getD i 0) (zs.getD (if i + 1 < zs.length then i + 1 else 0) 0)
theorem getD_at {zs : List Int} {i : Nat} (h : i < zs.length) : zs.getD i 0 = zs[i] := by simp [List.getD, List.getElem?_eq_getElem h]
theorem nbs_len (zs : List Int) (m : Nat) : (nbs zs m).length = m := by simp [nbs]
theorem nbs_nodup {zs : List Int} {m : Nat} (h : zs.Nodup) (hm : m + 1 = zs.length ∨ (m = zs.length ∧ 3 ≤ zs.length)) : (nbs zs m).Nodup := by
  unfold nbs
  refine (List.pairwise_map).2 ?_
  refine (List.pairwise_iff_getElem).2 fun i j hi hj hij e => ?_
  rw [List.length_range] at hi hj
  rw [List.getElem_range, List.getElem_range] at e
  have b1 : (if i + 1 < zs.length then i + 1 else 0) < zs.length := by split <;> omega
  have b2 : (if j + 1 < zs.length then j + 1 else 0) < zs.length := by split <;> omega
  rw [getD_at (show i < zs.length by omega), getD_at (show j < zs.length by omega), getD_at b1, getD_at b2] at e
  rcases pr_eq e with ⟨e1, _⟩ | ⟨e1, e2⟩
  · have := get_inj h _ _ e1; omega
  · have h1 := get_inj h _ _ e1
    have h2 := get_inj h _ _ e2
    split at h1 <;> split at h2 <;> omega
theorem mem_nbs {zs : List Int} {m : Nat} {x : Int × Int} (h : x ∈ nbs zs m) : ∃ i, i < m ∧ x = pr (zs.getD i 0) (zs.getD (if i + 1 < zs.length then i + 1 else 0) 0) := by
  obtain ⟨i, hi, e⟩ := List.mem_map.1 h
  exact ⟨i, List.mem_range.1 hi, e.symm⟩
/-- What a link is, if all links are those of neighbours. -/
theorem only_of {zs : List Int} {m : Nat} {L : List (Int × Int)} (h : zs.Nodup) (hm : m ≤ zs.length) (hL : ∀ x ∈ L, x ∈ nbs zs m) {i j : Nat} (hi : i < zs.length) (hj : j < zs.length) (hl : lk L zs[i] zs[j] = true) : j = i + 1 ∨ i = j + 1 ∨ (m = zs.length ∧ ((i = 0 ∧ j + 1 = zs.length) ∨ (j = 0 ∧ i + 1 = zs.length))) := by
  obtain ⟨q, hq, e⟩ := mem_nbs (hL _ ((lk_pr L _ _).1 hl))
  have b1 : (if q + 1 < zs.length then q + 1 else 0) < zs.length := by split <;> omega
  rw [getD_at (show q < zs.length by omega), getD_at b1] at e
  rcases pr_eq e with ⟨e1, e2⟩ | ⟨e1, e2⟩
  · have h1 := get_inj h _ _ e1
    have h2 := get_inj h _ _ e2
    split at h2 <;> omega
  · have h1 := get_inj h _ _ e1
    have h2 := get_inj h _ _ e2
    split at h1 <;> omega
theorem chainL_ok {Z : Int} {L : List (Int × Int)} {a : Int} (h : 0 ≤ a ∧ a < Z) : ChOk Z L (chainL Z L a) := (chSt_ok h 6).1
theorem nbs_line {zs : List Int} {L : List (Int × Int)} (h : ∀ (i : Nat) (h : i + 1 < zs.length), lk L (zs[i]'(by omega)) zs[i + 1] = true) : ∀ x ∈ nbs zs (zs.length - 1), x ∈ L := by
  intro x hx
  obtain ⟨i, hi, rfl⟩ := mem_nbs hx
  have hi' : i + 1 < zs.length := by omega
  rw [if_pos hi', getD_at (show i < zs.length by omega), getD_at hi']
  exact (lk_pr L _ _).1 (h i hi')
theorem way_line {Z : Int} {L : List (Int × Int)} {zs : List Int} (hz : 1 ≤ Z) (h : ChOk Z L zs) (hl : (zs.length : Int) = Z) (hL : (L.length : Int) = Z - 1) : Way Z L zs false := by
  obtain ⟨h1, h2, h3⟩ := h
  have hn := nbs_nodup (m := zs.length - 1) h1 (by omega)
  have hs := sub_all hn (nbs_line h3) (by rw [nbs_len]; omega)
  exact ⟨h1, all_zones h1 h2 hl, hl, h3, fun h => (by cases h), fun i j hi hj hk => by
    rcases only_of h1 (by omega) hs hi hj hk with h | h | h
    · exact .inl h
    · exact .inr (.inl h)
    · omega⟩
/-- One more neighbour. -/
theorem other_near {Z : Int} {L : List (Int × Int)} {z y : Int} (h : (nearL Z L z).length = 2) : ∃ u, u ≠ y ∧ (0 ≤ u ∧ u < Z) ∧ lk L z u = true := by
  have hn : (nearL Z L z).Nodup := (zonesL_nodup Z).filter _
  obtain ⟨l, hl⟩ : ∃ l, l = nearL Z L z := ⟨_, rfl⟩
  rw [← hl] at h hn
  match l, h with
  | [a, b], _ =>
    have ha := mem_nearL.1 (show a ∈ nearL Z L z by rw [← hl]; simp)
    have hb := mem_nearL.1 (show b ∈ nearL Z L z by rw [← hl]; simp)
    by_cases e : a = y
    · refine ⟨b, fun e2 => ?_, hb.1, hb.2⟩
      subst e e2
      simp at hn
    · exact ⟨a, e, ha.1, ha.2⟩
theorem way_ring {Z : Int} {L : List (Int × Int)} {zs : List Int} (hz : 3 ≤ Z) (h : ChOk Z L zs) (hl : (zs.length : Int) = Z) (hL : (L.length : Int) = Z) (hd : ∀ z, 0 ≤ z ∧ z < Z → (nearL Z L z).length = 2) : Way Z L zs true := by
  obtain ⟨h1, h2, h3⟩ := h
  have hn := nbs_nodup (m := zs.length - 1) h1 (by omega)
  have hsub := nbs_line h3
  have hall := all_zones h1 h2 hl
  have hb0 : 0 < zs.length := by omega
  have hb1 : zs.length - 1 < zs.length := by omega
  have hw : lk L (zs[0]'hb0) (zs[zs.length - 1]'hb1) = true := by
    obtain ⟨y, hy1, hy2, hy3⟩ := other_near (y := zs[1]'(by omega)) (hd (zs[0]'hb0) (h2 _ (List.getElem_mem _)))
    obtain ⟨u, hu1, hu2, hu3⟩ := other_near (y := zs[zs.length - 2]'(by omega)) (hd (zs[zs.length - 1]'hb1) (h2 _ (List.getElem_mem _)))
    have n1 : pr (zs[0]'hb0) y ∉ nbs zs (zs.length - 1) := by
      intro hm
      obtain ⟨i, hi, e⟩ := mem_nbs hm
      have hi' : i + 1 < zs.length := by omega
      rw [if_pos hi', getD_at (show i < zs.length by omega), getD_at hi'] at e
      rcases pr_eq e with ⟨e1, e2⟩ | ⟨e1, e2⟩
      · have := get_inj h1 _ _ e1
        subst this
        exact hy1 e2
      · have := get_inj h1 _ _ e1
        omega
    have n2 : pr (zs[zs.length - 1]'hb1) u ∉ nbs zs (zs.length - 1) := by
      intro hm
      obtain ⟨i, hi, e⟩ := mem_nbs hm
      have hi' : i + 1 < zs.length := by omega
      rw [if_pos hi', getD_at (show i < zs.length by omega), getD_at hi'] at e
      rcases pr_eq e with ⟨e1, e2⟩ | ⟨e1, e2⟩
      · have := get_inj h1 _ _ e1
        omega
      · have := get_inj h1 _ _ e1
        have hi2 : i = zs.length - 2 := by omega
        subst hi2
        exact hu1 e2
    have e := sub_one hn hsub (by rw [nbs_len]; omega) ((lk_pr L _ _).1 hy3) ((lk_pr L _ _).1 hu3) n1 n2
    rcases pr_eq e with ⟨e1, _⟩ | ⟨_, e2⟩
    · have := get_inj h1 _ _ e1
      omega
    · rw [e2] at hy3; exact hy3
  have hsub2 : ∀ x ∈ nbs zs zs.length, x ∈ L := by
    intro x hx
    obtain ⟨i, hi, rfl⟩ := mem_nbs hx
    by_cases hi' : i + 1 < zs.length
    · rw [if_pos hi', getD_at (show i < zs.length by omega), getD_at hi']
      exact (lk_pr L _ _).1 (h3 i hi')
    · rw [if_neg hi', getD_at (show i < zs.length by omega), getD_at hb0, pr_comm]
      have hi2 : i = zs.length - 1 := by omega
      subst hi2
      exact (lk_pr L _ _).1 hw
  have hs := sub_all (nbs_nodup (m := zs.length) h1 (by omega)) hsub2 (by rw [nbs_len]; omega)
  exact ⟨h1, hall, hl, h3, fun _ => ⟨by omega, hw⟩, fun i j hi hj hk => by
    rcases only_of h1 (Nat.le_refl _) hs hi hj hk with h | h | h
    · exact .inl h
    · exact .inr (.inl h)
    · exact .inr (.inr ⟨rfl, h.2⟩)⟩
theorem way_lineP {Z : Int} {L : List (Int × Int)} (hz : 1 ≤ Z) (h : (lineP Z L).2 = true) : Way Z L (lineP Z L).1 false := by
  unfold lineP at h ⊢
  split at h
  · rename_i hL
    rw [if_pos hL]
    cases hf : (zonesL Z).find? (endB Z L) with
    | none => rw [hf] at h; cases h
    | some z =>
      rw [hf] at h
      have h : decide (((chainL Z L z).length : Int) = Z) = true := h
      exact way_line hz (chainL_ok (mem_zonesL.1 (List.mem_of_find?_eq_some hf))) (of_decide_eq_true h) hL
  · cases h
theorem way_ringP {Z : Int} {L : List (Int × Int)} (h : (ringP Z L).2 = true) : Way Z L (ringP Z L).1 true := by
  unfold ringP at h ⊢
  split at h
  · rename_i hr
    rw [if_pos hr]
    simp only [ringOk, Bool.and_eq_true, decide_eq_true_eq] at hr
    obtain ⟨h1, h2, h3, h4⟩ := hr
    have hc := chainL_ok (L := L) (show (0 : Int) ≤ 0 ∧ 0 < Z by omega)
    have hle := zones_le hc.1 hc.2.1
    show Way Z L (chainL Z L 0) true
    refine way_ring h1 hc (by omega) h2 (fun z hz => ?_)
    have := List.all_eq_true.1 h3 z (mem_zonesL.2 hz)
    simpa [twoB] using this
  · cases h
end Go.Proofs.Ytlhbmfaoldajdaa
