/-
  PLAIN LAWS of the statements about ways, calms, counts and makes. No walk.
-/
import Derived.Test.YtejjogpgolgdgaaLVolts
import Derived.Test.YtejjogpgolgdgaaLFields
namespace Go.Proofs.Ytejjogpgolgdgaa
open Go.RowKit Pulse

theorem nodup_le {α : Type} [DecidableEq α] : ∀ {l m : List α}, l.Nodup → (∀ a ∈ l, a ∈ m) → l.length ≤ m.length
  | [], _, _, _ => Nat.zero_le _
  | a :: l, m, h, hm => by
    rw [List.nodup_cons] at h
    have h1 := nodup_le (l := l) (m := m.erase a) h.2 (fun b hb => by
      rw [List.mem_erase_of_ne (by rintro rfl; exact h.1 hb)]
      exact hm b (by simp [hb]))
    have ha := hm a (by simp)
    rw [List.length_erase_of_mem ha] at h1
    have : 0 < m.length := List.length_pos_of_mem ha
    simp only [List.length_cons]
    omega
theorem foldl_max_mem (l : List Int) : ∀ (n : Int) (a : Int), a ∈ l → absI a ≤ l.foldl (fun n a => max n (absI a)) n := by
  induction l with
  | nil => intro n a h; cases h
  | cons b l ih =>
    intro n a h
    rw [List.foldl_cons]
    rcases List.mem_cons.1 h with rfl | h
    · have := foldl_ge l (max n (absI a)); omega
    · exact ih _ a h
theorem sizeL_mem {l : List Int} {a : Int} (h : a ∈ l) : absI a ≤ sizeL l := foldl_max_mem l 0 a h
theorem absI_zero {a : Int} : absI a = 0 ↔ a = 0 := by unfold absI; omega
theorem absI_neg (a : Int) : absI (-a) = absI a := by unfold absI; omega
theorem sizeL_zero {l : List Int} : sizeL l = 0 ↔ ∀ a ∈ l, a = 0 := by
  constructor
  · intro h a ha
    have h1 := sizeL_mem ha
    have h2 : 0 ≤ absI a := by unfold absI; omega
    exact absI_zero.1 (by omega)
  · intro h
    have := sizeL_le (l := l) (b := 0) (by omega) (fun a ha => by have := h a ha; omega)
    have := sizeL_nn l
    omega
theorem subL_zero : ∀ {a b : List Int}, a.length = b.length → ((∀ x ∈ subL a b, x = 0) ↔ a = b)
  | [], [], _ => by simp [subL]
  | [], b :: l, h => by simp at h
  | a :: l, [], h => by simp at h
  | a :: l, b :: m, h => by
    have ih := subL_zero (a := l) (b := m) (by simpa using h)
    unfold subL at ih ⊢
    rw [List.zipWith_cons_cons, List.cons.injEq]
    constructor
    · intro hx
      exact ⟨by have := hx (a - b) (by simp); omega, ih.1 fun x hm => hx x (by simp [hm])⟩
    · rintro ⟨rfl, h2⟩ x hx
      rcases List.mem_cons.1 hx with rfl | hx
      · omega
      · exact ih.2 h2 x hx
theorem jumpL_zero {a b : List Int} (h : a.length = b.length) : jumpL a b = 0 ↔ a = b := by rw [jumpL, sizeL_zero, subL_zero h]
/-- The nearest of the first q. -/
theorem nearAt_min (g : List (List Int)) (l : List Int) : ∀ (q : Nat), q ≤ (allV (wid g)).length → ∀ n p, nearAt g l q = some (n, p) → (n = farL g l p ∧ p ∈ allV (wid g)) ∧ ∀ j v, j < q → (allV (wid g))[j]? = some v → n ≤ farL g l v := by
  intro q
  induction q with
  | zero => intro _ n p h; simp [nearAt] at h
  | succ q ih =>
    intro hq n p h
    have hlt : q < (allV (wid g)).length := by omega
    have hget : (allV (wid g))[q]? = some (allV (wid g))[q] := List.getElem?_eq_getElem hlt
    rw [nearAt_succ hget] at h
    have hmem : (allV (wid g))[q] ∈ allV (wid g) := List.getElem_mem hlt
    obtain ⟨u, hu⟩ : ∃ u, u = (allV (wid g))[q] := ⟨_, rfl⟩
    rw [← hu] at h hget hmem
    cases he : nearAt g l q with
    | none =>
      rw [he] at h
      simp only [nearF, Option.some.injEq, Prod.mk.injEq] at h
      obtain ⟨rfl, rfl⟩ := h
      refine ⟨⟨rfl, hmem⟩, fun j v hj hv => ?_⟩
      rcases Nat.lt_or_ge j q with hjq | hjq
      · have : 0 < q := by omega
        obtain ⟨n', p', e⟩ := nearAt_some g l q this (by omega)
        rw [he] at e; cases e
      · obtain rfl : j = q := by omega
        rw [hget] at hv
        cases hv
        omega
    | some x =>
      obtain ⟨m, u'⟩ := x
      have ih' := ih (by omega) m u' he
      rw [he] at h
      simp only [nearF] at h
      split at h
      · rename_i hc
        simp only [Option.some.injEq, Prod.mk.injEq] at h
        obtain ⟨rfl, rfl⟩ := h
        refine ⟨⟨rfl, hmem⟩, fun j v hj hv => ?_⟩
        rcases Nat.lt_or_ge j q with hjq | hjq
        · have := ih'.2 j v hjq hv; omega
        · obtain rfl : j = q := by omega
          rw [hget] at hv
          cases hv
          omega
      · rename_i hc
        simp only [Option.some.injEq, Prod.mk.injEq] at h
        obtain ⟨rfl, rfl⟩ := h
        refine ⟨ih'.1, fun j v hj hv => ?_⟩
        rcases Nat.lt_or_ge j q with hjq | hjq
        · exact ih'.2 j v hjq hv
        · obtain rfl : j = q := by omega
          rw [hget] at hv
          cases hv
          omega
theorem nearO_min {g : List (List Int)} {l : List Int} : ∃ n p, nearO g l = some (n, p) ∧ n = farL g l p ∧ p ∈ allV (wid g) ∧ ∀ v ∈ allV (wid g), n ≤ farL g l v := by
  obtain ⟨n, p, h⟩ := nearO_some g l
  have := nearAt_min g l _ (Nat.le_refl _) n p h
  refine ⟨n, p, h, this.1.1, this.1.2, fun v hv => ?_⟩
  obtain ⟨j, hj, rfl⟩ := List.getElem_of_mem hv
  exact this.2 j _ hj (List.getElem?_eq_getElem hj)
theorem near_bd (g : List (List Int)) (l : List Int) : 0 ≤ nearN g l ∧ (nearL g l).length ≤ 1000 := by
  by_cases h : wishE g l = 0
  · obtain ⟨n, p, e, e1, e2, e3⟩ := nearO_min (g := g) (l := l)
    rw [nearN, nearL, if_pos h, if_pos h, e]
    have := (mem_allP.1 e2).1
    have := (vldG_ok (wishE_ok h).1).2.2.2.1
    exact ⟨by show 0 ≤ n; rw [e1]; exact jumpL_nn _ _, by show p.length ≤ 1000; omega⟩
  · rw [nearN, nearL, if_neg h, if_neg h]; simp
theorem calms {g : List (List Int)} {l : List Int} (h : wishE g l = 0) : voltsIs g l = decide (nearN g l = 0) := by
  obtain ⟨n, p, e, e1, e2, e3⟩ := nearO_min (g := g) (l := l)
  have hlen := (wOk_ok (wishE_ok h).2).1
  have hz : ∀ v, farL g l v = 0 ↔ fieldL g v = l := fun v => jumpL_zero (by rw [fieldL_len]; omega)
  have hn : nearN g l = n := by rw [nearN, if_pos h, e]; rfl
  rw [voltsIs, h, hn]
  simp only [decide_true, Bool.true_and]
  refine decide_eq_decide.2 ⟨fun hp => ?_, fun hp => ?_⟩
  · have hm : (makeL g l)[0] ∈ makeL g l := List.getElem_mem hp
    obtain ⟨hv, hf⟩ := mem_makeL.1 hm
    have := e3 _ (mem_allP.2 hv)
    rw [(hz _).2 hf] at this
    have := jumpL_nn (fieldL g p) l
    unfold farL at e1
    omega
  · exact List.length_pos_of_mem (mem_makeL.2 ⟨mem_allP.1 e2, (hz p).1 (by omega)⟩)

/-! ## The opposite wish -/
def negL (l : List Int) : List Int := l.map fun a => -a
theorem negL_len (l : List Int) : (negL l).length = l.length := by simp [negL]
theorem negL_negL (l : List Int) : negL (negL l) = l := by simp [negL, Function.comp_def]
theorem negL_forces {b : Int} {l : List Int} (h : Forces b l) : Forces b (negL l) := by
  intro a ha
  obtain ⟨x, hx, rfl⟩ := List.mem_map.1 ha
  have := h x hx
  omega
theorem negL_snoc (l : List Int) (a : Int) : negL (l ++ [a]) = negL l ++ [-a] := by simp [negL]
theorem negL_take (l : List Int) {q : Nat} (h : q < l.length) : negL (l.take (q + 1)) = negL (l.take q) ++ [-l[q]] := by rw [take_snoc' l q h, negL_snoc]
theorem dot_neg : ∀ (l v : List Int), dot l (negL v) = -dot l v
  | [], v => by simp [dot]
  | a :: l, [] => by simp [dot, negL]
  | a :: l, b :: v => by
    have := dot_neg l v
    simp only [negL] at this ⊢
    rw [List.map_cons, dot, dot, this, Int.mul_neg]
    omega
theorem fieldL_neg (g : List (List Int)) (v : List Int) : fieldL g (negL v) = negL (fieldL g v) := by
  simp only [fieldL, negL, List.map_map]
  exact List.map_congr_left fun l _ => dot_neg l v
theorem negL_inj {a b : List Int} (h : negL a = negL b) : a = b := by rw [← negL_negL a, h, negL_negL]
theorem nodup_map' {α β : Type} {f : α → β} (hf : ∀ a b, f a = f b → a = b) {l : List α} (h : l.Nodup) : (l.map f).Nodup := by
  rw [List.nodup_iff_pairwise_ne, List.pairwise_map]
  exact List.Pairwise.imp (fun hab e => hab (hf _ _ e)) (List.nodup_iff_pairwise_ne.1 h)
theorem makeL_nodup (g : List (List Int)) (l : List Int) : (makeL g l).Nodup := List.Nodup.sublist List.filter_sublist (allP_nodup 3 _)
theorem makeL_neg_le (g : List (List Int)) (l : List Int) : (makeL g l).length ≤ (makeL g (negL l)).length := by
  have := nodup_le (l := (makeL g l).map negL) (m := makeL g (negL l)) (nodup_map' (fun _ _ => negL_inj) (makeL_nodup g l)) (fun a ha => by
    obtain ⟨v, hv, rfl⟩ := List.mem_map.1 ha
    obtain ⟨⟨h1, h2⟩, h3⟩ := mem_makeL.1 hv
    exact mem_makeL.2 ⟨⟨by rw [negL_len]; exact h1, negL_forces h2⟩, by rw [fieldL_neg, h3]⟩)
  rwa [List.length_map] at this
theorem makeL_neg (g : List (List Int)) (l : List Int) : (makeL g (negL l)).length = (makeL g l).length := by
  have h1 := makeL_neg_le g l
  have h2 := makeL_neg_le g (negL l)
  rw [negL_negL] at h2
  omega
theorem wOk_of {g : List (List Int)} {l : List Int} (h : l.length = g.length) (h' : Forces 1000 l) : wOk g l = true := by
  simp only [wOk, withinB, isIn, Bool.and_eq_true, decide_eq_true_eq, List.all_eq_true]
  exact ⟨by omega, fun a ha => h' a ha⟩
theorem vOk_of {g : List (List Int)} {l : List Int} (h : l.length = wid g) (h' : Forces 3 l) : vOk g l = true := by
  simp only [vOk, withinB, isIn, Bool.and_eq_true, decide_eq_true_eq, List.all_eq_true]
  exact ⟨by omega, fun a ha => h' a ha⟩
theorem wishE_of {g : List (List Int)} {l : List Int} (h : vldG g = 0) (h' : wOk g l = true) : wishE g l = 0 := by rw [wishE, if_pos h, if_pos h']
theorem wishE_neg {g : List (List Int)} {l : List Int} (h : wishE g l = 0) : wishE g (negL l) = 0 := by
  obtain ⟨h1, h2⟩ := wishE_ok h
  obtain ⟨h3, h4⟩ := wOk_ok h2
  exact wishE_of h1 (wOk_of (by rw [negL_len]; exact h3) (negL_forces h4))
theorem waysN_neg {g : List (List Int)} {l : List Int} (h : wishE g l = 0) : waysN g (negL l) = waysN g l := by
  rw [waysN, waysN, if_pos h, if_pos (wishE_neg h), makeL_neg]

/-! ## How many fields -/
theorem fieldsTo_all (g : List (List Int)) : fieldsTo g (allV (wid g)).length = (allV (wid g)).map (fieldL g) := by rw [fieldsTo, List.take_length]
theorem dot_zero : ∀ (l : List Int) (n : Nat), dot l (List.replicate n 0) = 0
  | [], n => by simp [dot]
  | a :: l, 0 => by simp [dot]
  | a :: l, n + 1 => by rw [List.replicate_succ, dot, dot_zero l n]; simp
theorem fieldL_zero (g : List (List Int)) (n : Nat) : fieldL g (List.replicate n 0) = zerosL g.length := by
  refine List.ext_getElem (by rw [fieldL_len, zerosL, List.length_replicate]) fun i h1 h2 => ?_
  simp [fieldL, zerosL, dot_zero]
theorem quiet_ok {g : List (List Int)} (h : quietIs g = true) : vldG g = 0 ∧ ∃ v ∈ allV (wid g), fieldL g v = zerosL g.length ∧ 0 < sizeL v := by
  unfold quietIs quietO at h
  split at h
  · rename_i hv
    refine ⟨hv, ?_⟩
    cases hf : (makeL g (zerosL g.length)).find? (fun v => decide (0 < sizeL v)) with
    | none => rw [hf] at h; cases h
    | some v =>
      have h1 := List.mem_of_find?_eq_some hf
      have h2 := List.find?_some hf
      obtain ⟨h3, h4⟩ := mem_makeL.1 h1
      exact ⟨v, mem_allP.2 h3, h4, by simpa using h2⟩
  · cases h
/-- The number of fields, and the number of voltages. -/
theorem fields_bd {g : List (List Int)} (h : vldG g = 0) : 1 ≤ fieldsN g ∧ fieldsN g ≤ (7 : Int) ^ wid g ∧ (quietIs g = true → fieldsN g < (7 : Int) ^ wid g) := by
  have hlen : ((allV (wid g)).length : Int) = (7 : Int) ^ wid g := by rw [allP_len]; simp
  have hpos := allV_pos (wid g)
  rw [fieldsN, if_pos h, cntTo, fieldsTo_all]
  refine ⟨?_, ?_, fun hq => ?_⟩
  · have hm : fieldL g (allV (wid g))[0] ∈ firsts ((allV (wid g)).map (fieldL g)) := mem_firsts.2 (List.mem_map.2 ⟨_, List.getElem_mem hpos, rfl⟩)
    have := List.length_pos_of_mem hm
    omega
  · have := firsts_le ((allV (wid g)).map (fieldL g))
    rw [List.length_map] at this
    omega
  · obtain ⟨_, v, hv, hf, hs⟩ := quiet_ok hq
    obtain ⟨z, hz⟩ : ∃ z : List Int, z = List.replicate (wid g) 0 := ⟨_, rfl⟩
    have hzm : z ∈ allV (wid g) := mem_allP.2 ⟨by rw [hz, List.length_replicate], fun a ha => by rw [hz] at ha; have := List.eq_of_mem_replicate ha; omega⟩
    have hzf : fieldL g z = zerosL g.length := by rw [hz, fieldL_zero]
    have hne : v ≠ z := by
      rintro rfl
      have := (sizeL_zero (l := v)).2 (fun a ha => by rw [hz] at ha; exact List.eq_of_mem_replicate ha)
      omega
    have := nodup_le (l := firsts ((allV (wid g)).map (fieldL g))) (m := ((allV (wid g)).erase z).map (fieldL g)) (nodup_firsts _) (fun f hfm => by
      obtain ⟨u, hu, rfl⟩ := List.mem_map.1 (mem_firsts.1 hfm)
      by_cases e : u = z
      · subst e
        exact List.mem_map.2 ⟨v, (List.mem_erase_of_ne hne).2 hv, by rw [hf, hzf]⟩
      · exact List.mem_map.2 ⟨u, (List.mem_erase_of_ne e).2 hu, rfl⟩)
    rw [List.length_map, List.length_erase_of_mem hzm] at this
    omega

/-! ## What voltages make -/
theorem minS_foldl (M : List (List Int)) : ∀ n : Int, M.foldl (fun n v => min n (sizeL v)) n ≤ n ∧ ∀ v ∈ M, M.foldl (fun n v => min n (sizeL v)) n ≤ sizeL v := by
  induction M with
  | nil => intro n; exact ⟨Int.le_refl _, fun v h => by cases h⟩
  | cons a M ih =>
    intro n
    have := ih (min n (sizeL a))
    rw [List.foldl_cons]
    refine ⟨by omega, fun v hv => ?_⟩
    rcases List.mem_cons.1 hv with rfl | hv
    · omega
    · exact this.2 v hv
theorem calmM_le {M : List (List Int)} {v : List Int} (h : v ∈ M) : calmM M ≤ sizeL v := by
  have : M.length ≠ 0 := by have := List.length_pos_of_mem h; omega
  rw [calmM, if_neg this]
  exact (minS_foldl M 3).2 v h
theorem makes {g : List (List Int)} {v : List Int} (h : fieldE g v = 0) :
    wishE g (fieldL g v) = 0 ∧ 1 ≤ waysN g (fieldL g v) ∧ voltsIs g (fieldL g v) = true ∧ calmN g (fieldL g v) ≤ sizeL v ∧ checkE g (fieldL g v) v = 0 := by
  obtain ⟨h1, h2, h3⟩ := fieldE_ok h
  have hfit := fitG h1 h2 h3
  have hw : wishE g (fieldL g v) = 0 := wishE_of h1 (wOk_of (fieldL_len g v) (fun a ha => by have := fieldL_f hfit a ha; omega))
  have hm : v ∈ makeL g (fieldL g v) := mem_makeL.2 ⟨⟨h2, h3⟩, rfl⟩
  have hp := List.length_pos_of_mem hm
  refine ⟨hw, by rw [waysN, if_pos hw]; omega, by rw [voltsIs, hw]; simpa using hp, by rw [calmN, if_pos hw]; exact calmM_le hm, ?_⟩
  rw [checkE, if_pos hw, if_pos (vOk_of h2 h3), if_pos rfl]
end Go.Proofs.Ytejjogpgolgdgaa
