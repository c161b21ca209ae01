/-
  MERGED: P1, P3, P4.
-/
import Derived.Test.YtejjogpgolgdgaaK14
/-
  PLAIN LAWS of the statements about ways, calms, counts and makes. No walk.
-/
namespace Go.Proofs.Ytejjogpgolgdgaa
open Go.RowKit Pulse

theorem nodup_le {α : Type} [DecidableEq α] : ∀ {l m : List α}, l.Nodup → (∀ a ∈ l, a ∈ m) → l.length ≤ m.length
  | [], _, _, _ => Nat.zero_le _
  | a :: l, m, h, hm => by
    rw [List.nodup_cons] at h
    have h1 := nodup_le (l := l) (m := m.erase a) h.2 (fun b hb => by
      rw [List.mem_erase_of_ne (by rintro rfl; exact h.1 hb)]
      exact hm b (by simp [hb]))
    have ha := hm a (by simp)
    rw [List.length_erase_of_mem ha] at h1
    have : 0 < m.length := List.length_pos_of_mem ha
    simp only [List.length_cons]
    omega
theorem foldl_max_mem (l : List Int) : ∀ (n : Int) (a : Int), a ∈ l → absI a ≤ l.foldl (fun n a => max n (absI a)) n := by
  induction l with
  | nil => intro n a h; cases h
  | cons b l ih =>
    intro n a h
    rw [List.foldl_cons]
    rcases List.mem_cons.1 h with rfl | h
    · have := foldl_ge l (max n (absI a)); omega
    · exact ih _ a h
theorem sizeL_mem {l : List Int} {a : Int} (h : a ∈ l) : absI a ≤ sizeL l := foldl_max_mem l 0 a h
theorem absI_zero {a : Int} : absI a = 0 ↔ a = 0 := by unfold absI; omega
theorem absI_neg (a : Int) : absI (-a) = absI a := by unfold absI; omega
theorem sizeL_zero {l : List Int} : sizeL l = 0 ↔ ∀ a ∈ l, a = 0 := by
  constructor
  · intro h a ha
    have h1 := sizeL_mem ha
    have h2 : 0 ≤ absI a := by unfold absI; omega
    exact absI_zero.1 (by omega)
  · intro h
    have := sizeL_le (l := l) (b := 0) (by omega) (fun a ha => by have := h a ha; omega)
    have := sizeL_nn l
    omega
theorem subL_zero : ∀ {a b : List Int}, a.length = b.length → ((∀ x ∈ subL a b, x = 0) ↔ a = b)
  | [], [], _ => by simp [subL]
  | [], b :: l, h => by simp at h
  | a :: l, [], h => by simp at h
  | a :: l, b :: m, h => by
    have ih := subL_zero (a := l) (b := m) (by simpa using h)
    unfold subL at ih ⊢
    rw [List.zipWith_cons_cons, List.cons.injEq]
    constructor
    · intro hx
      exact ⟨by have := hx (a - b) (by simp); omega, ih.1 fun x hm => hx x (by simp [hm])⟩
    · rintro ⟨rfl, h2⟩ x hx
      rcases List.mem_cons.1 hx with rfl | hx
      · omega
      · exact ih.2 h2 x hx
theorem jumpL_zero {a b : List Int} (h : a.length = b.length) : jumpL a b = 0 ↔ a = b := by rw [jumpL, sizeL_zero, subL_zero h]
/-- The nearest of the first q. -/
theorem nearAt_min (g : List (List Int)) (l : List Int) : ∀ (q : Nat), q ≤ (allV (wid g)).length → ∀ n p, nearAt g l q = some (n, p) → (n = farL g l p ∧ p ∈ allV (wid g)) ∧ ∀ j v, j < q → (allV (wid g))[j]? = some v → n ≤ farL g l v := by
  intro q
  induction q with
  | zero => intro _ n p h; simp [nearAt] at h
  | succ q ih =>
    intro hq n p h
    have hlt : q < (allV (wid g)).length := by omega
    have hget : (allV (wid g))[q]? = some (allV (wid g))[q] := List.getElem?_eq_getElem hlt
    rw [nearAt_succ hget] at h
    have hmem : (allV (wid g))[q] ∈ allV (wid g) := List.getElem_mem hlt
    obtain ⟨u, hu⟩ : ∃ u, u = (allV (wid g))[q] := ⟨_, rfl⟩
    rw [← hu] at h hget hmem
    cases he : nearAt g l q with
    | none =>
      rw [he] at h
      simp only [nearF, Option.some.injEq, Prod.mk.injEq] at h
      obtain ⟨rfl, rfl⟩ := h
      refine ⟨⟨rfl, hmem⟩, fun j v hj hv => ?_⟩
      rcases Nat.lt_or_ge j q with hjq | hjq
      · have : 0 < q := by omega
        obtain ⟨n', p', e⟩ := nearAt_some g l q this (by omega)
        rw [he] at e; cases e
      · obtain rfl : j = q := by omega
        rw [hget] at hv
        cases hv
        omega
    | some x =>
      obtain ⟨m, u'⟩ := x
      have ih' := ih (by omega) m u' he
      rw [he] at h
      simp only [nearF] at h
      split at h
      · rename_i hc
        simp only [Option.some.injEq, Prod.mk.injEq] at h
        obtain ⟨rfl, rfl⟩ := h
        refine ⟨⟨rfl, hmem⟩, fun j v hj hv => ?_⟩
        rcases Nat.lt_or_ge j q with hjq | hjq
        · have := ih'.2 j v hjq hv; omega
        · obtain rfl : j = q := by omega
          rw [hget] at hv
          cases hv
          omega
      · rename_i hc
        simp only [Option.some.injEq, Prod.mk.injEq] at h
        obtain ⟨rfl, rfl⟩ := h
        refine ⟨ih'.1, fun j v hj hv => ?_⟩
        rcases Nat.lt_or_ge j q with hjq | hjq
        · exact ih'.2 j v hjq hv
        · obtain rfl : j = q := by omega
          rw [hget] at hv
          cases hv
          omega
theorem nearO_min {g : List (List Int)} {l : List Int} : ∃ n p, nearO g l = some (n, p) ∧ n = farL g l p ∧ p ∈ allV (wid g) ∧ ∀ v ∈ allV (wid g), n ≤ farL g l v := by
  obtain ⟨n, p, h⟩ := nearO_some g l
  have := nearAt_min g l _ (Nat.le_refl _) n p h
  refine ⟨n, p, h, this.1.1, this.1.2, fun v hv => ?_⟩
  obtain ⟨j, hj, rfl⟩ := List.getElem_of_mem hv
  exact this.2 j _ hj (List.getElem?_eq_getElem hj)
theorem near_bd (g : List (List Int)) (l : List Int) : 0 ≤ nearN g l ∧ (nearL g l).length ≤ 1000 := by
  by_cases h : wishE g l = 0
  · obtain ⟨n, p, e, e1, e2, e3⟩ := nearO_min (g := g) (l := l)
    rw [nearN, nearL, if_pos h, if_pos h, e]
    have := (mem_allP.1 e2).1
    have := (vldG_ok (wishE_ok h).1).2.2.2.1
    exact ⟨by show 0 ≤ n; rw [e1]; exact jumpL_nn _ _, by show p.length ≤ 1000; omega⟩
  · rw [nearN, nearL, if_neg h, if_neg h]; simp
theorem calms {g : List (List Int)} {l : List Int} (h : wishE g l = 0) : voltsIs g l = decide (nearN g l = 0) := by
  obtain ⟨n, p, e, e1, e2, e3⟩ := nearO_min (g := g) (l := l)
  have hlen := (wOk_ok (wishE_ok h).2).1
  have hz : ∀ v, farL g l v = 0 ↔ fieldL g v = l := fun v => jumpL_zero (by rw [fieldL_len]; omega)
  have hn : nearN g l = n := by rw [nearN, if_pos h, e]; rfl
  rw [voltsIs, h, hn]
  simp only [decide_true, Bool.true_and]
  refine decide_eq_decide.2 ⟨fun hp => ?_, fun hp => ?_⟩
  · have hm : (makeL g l)[0] ∈ makeL g l := List.getElem_mem hp
    obtain ⟨hv, hf⟩ := mem_makeL.1 hm
    have := e3 _ (mem_allP.2 hv)
    rw [(hz _).2 hf] at this
    have := jumpL_nn (fieldL g p) l
    unfold farL at e1
    omega
  · exact List.length_pos_of_mem (mem_makeL.2 ⟨mem_allP.1 e2, (hz p).1 (by omega)⟩)

/-! ## The opposite wish -/
def negL (l : List Int) : List Int := l.map fun a => -a
theorem negL_len (l : List Int) : (negL l).length = l.length := by simp [negL]
theorem negL_negL (l : List Int) : negL (negL l) = l := by simp [negL, Function.comp_def]
theorem negL_forces {b : Int} {l : List Int} (h : Forces b l) : Forces b (negL l) := by
  intro a ha
  obtain ⟨x, hx, rfl⟩ := List.mem_map.1 ha
  have := h x hx
  omega
theorem negL_snoc (l : List Int) (a : Int) : negL (l ++ [a]) = negL l ++ [-a] := by simp [negL]
theorem negL_take (l : List Int) {q : Nat} (h : q < l.length) : negL (l.take (q + 1)) = negL (l.take q) ++ [-l[q]] := by rw [take_snoc' l q h, negL_snoc]
theorem dot_neg : ∀ (l v : List Int), dot l (negL v) = -dot l v
  | [], v => by simp [dot]
  | a :: l, [] => by simp [dot, negL]
  | a :: l, b :: v => by
    have := dot_neg l v
    simp only [negL] at this ⊢
    rw [List.map_cons, dot, dot, this, Int.mul_neg]
    omega
theorem fieldL_neg (g : List (List Int)) (v : List Int) : fieldL g (negL v) = negL (fieldL g v) := by
  simp only [fieldL, negL, List.map_map]
  exact List.map_congr_left fun l _ => dot_neg l v
theorem negL_inj {a b : List Int} (h : negL a = negL b) : a = b := by rw [← negL_negL a, h, negL_negL]
theorem nodup_map' {α β : Type} {f : α → β} (hf : ∀ a b, f a = f b → a = b) {l : List α} (h : l.Nodup) : (l.map f).Nodup := by
  rw [List.nodup_iff_pairwise_ne, List.pairwise_map]
  exact List.Pairwise.imp (fun hab e => hab (hf _ _ e)) (List.nodup_iff_pairwise_ne.1 h)
theorem makeL_nodup (g : List (List Int)) (l : List Int) : (makeL g l).Nodup := List.Nodup.sublist List.filter_sublist (allP_nodup 3 _)
theorem makeL_neg_le (g : List (List Int)) (l : List Int) : (makeL g l).length ≤ (makeL g (negL l)).length := by
  have := nodup_le (l := (makeL g l).map negL) (m := makeL g (negL l)) (nodup_map' (fun _ _ => negL_inj) (makeL_nodup g l)) (fun a ha => by
    obtain ⟨v, hv, rfl⟩ := List.mem_map.1 ha
    obtain ⟨⟨h1, h2⟩, h3⟩ := mem_makeL.1 hv
    exact mem_makeL.2 ⟨⟨by rw [negL_len]; exact h1, negL_forces h2⟩, by rw [fieldL_neg, h3]⟩)
  rwa [List.length_map] at this
theorem makeL_neg (g : List (List Int)) (l : List Int) : (makeL g (negL l)).length = (makeL g l).length := by
  have h1 := makeL_neg_le g l
  have h2 := makeL_neg_le g (negL l)
  rw [negL_negL] at h2
  omega
theorem wOk_of {g : List (List Int)} {l : List Int} (h : l.length = g.length) (h' : Forces 1000 l) : wOk g l = true := by
  simp only [wOk, withinB, isIn, Bool.and_eq_true, decide_eq_true_eq, List.all_eq_true]
  exact ⟨by omega, fun a ha => h' a ha⟩
theorem vOk_of {g : List (List Int)} {l : List Int} (h : l.length = wid g) (h' : Forces 3 l) : vOk g l = true := by
  simp only [vOk, withinB, isIn, Bool.and_eq_true, decide_eq_true_eq, List.all_eq_true]
  exact ⟨by omega, fun a ha => h' a ha⟩
theorem wishE_of {g : List (List Int)} {l : List Int} (h : vldG g = 0) (h' : wOk g l = true) : wishE g l = 0 := by rw [wishE, if_pos h, if_pos h']
theorem wishE_neg {g : List (List Int)} {l : List Int} (h : wishE g l = 0) : wishE g (negL l) = 0 := by
  obtain ⟨h1, h2⟩ := wishE_ok h
  obtain ⟨h3, h4⟩ := wOk_ok h2
  exact wishE_of h1 (wOk_of (by rw [negL_len]; exact h3) (negL_forces h4))
theorem waysN_neg {g : List (List Int)} {l : List Int} (h : wishE g l = 0) : waysN g (negL l) = waysN g l := by
  rw [waysN, waysN, if_pos h, if_pos (wishE_neg h), makeL_neg]

/-! ## How many fields -/
theorem fieldsTo_all (g : List (List Int)) : fieldsTo g (allV (wid g)).length = (allV (wid g)).map (fieldL g) := by rw [fieldsTo, List.take_length]
theorem dot_zero : ∀ (l : List Int) (n : Nat), dot l (List.replicate n 0) = 0
  | [], n => by simp [dot]
  | a :: l, 0 => by simp [dot]
  | a :: l, n + 1 => by rw [List.replicate_succ, dot, dot_zero l n]; simp
theorem fieldL_zero (g : List (List Int)) (n : Nat) : fieldL g (List.replicate n 0) = zerosL g.length := by
  refine List.ext_getElem (by rw [fieldL_len, zerosL, List.length_replicate]) fun i h1 h2 => ?_
  simp [fieldL, zerosL, dot_zero]
theorem quiet_ok {g : List (List Int)} (h : quietIs g = true) : vldG g = 0 ∧ ∃ v ∈ allV (wid g), fieldL g v = zerosL g.length ∧ 0 < sizeL v := by
  unfold quietIs quietO at h
  split at h
  · rename_i hv
    refine ⟨hv, ?_⟩
    cases hf : (makeL g (zerosL g.length)).find? (fun v => decide (0 < sizeL v)) with
    | none => rw [hf] at h; cases h
    | some v =>
      have h1 := List.mem_of_find?_eq_some hf
      have h2 := List.find?_some hf
      obtain ⟨h3, h4⟩ := mem_makeL.1 h1
      exact ⟨v, mem_allP.2 h3, h4, by simpa using h2⟩
  · cases h
/-- The number of fields, and the number of voltages. -/
theorem fields_bd {g : List (List Int)} (h : vldG g = 0) : 1 ≤ fieldsN g ∧ fieldsN g ≤ (7 : Int) ^ wid g ∧ (quietIs g = true → fieldsN g < (7 : Int) ^ wid g) := by
  have hlen : ((allV (wid g)).length : Int) = (7 : Int) ^ wid g := by rw [allP_len]; simp
  have hpos := allV_pos (wid g)
  rw [fieldsN, if_pos h, cntTo, fieldsTo_all]
  refine ⟨?_, ?_, fun hq => ?_⟩
  · have hm : fieldL g (allV (wid g))[0] ∈ firsts ((allV (wid g)).map (fieldL g)) := mem_firsts.2 (List.mem_map.2 ⟨_, List.getElem_mem hpos, rfl⟩)
    have := List.length_pos_of_mem hm
    omega
  · have := firsts_le ((allV (wid g)).map (fieldL g))
    rw [List.length_map] at this
    omega
  · obtain ⟨_, v, hv, hf, hs⟩ := quiet_ok hq
    obtain ⟨z, hz⟩ : ∃ z : List Int, z = List.replicate (wid g) 0 := ⟨_, rfl⟩
    have hzm : z ∈ allV (wid g) := mem_allP.2 ⟨by rw [hz, List.length_replicate], fun a ha => by rw [hz] at ha; have := List.eq_of_mem_replicate ha; omega⟩
    have hzf : fieldL g z = zerosL g.length := by rw [hz, fieldL_zero]
    have hne : v ≠ z := by
      rintro rfl
      have := (sizeL_zero (l := v)).2 (fun a ha => by rw [hz] at ha; exact List.eq_of_mem_replicate ha)
      omega
    have := nodup_le (l := firsts ((allV (wid g)).map (fieldL g))) (m := ((allV (wid g)).erase z).map (fieldL g)) (nodup_firsts _) (fun f hfm => by
      obtain ⟨u, hu, rfl⟩ := List.mem_map.1 (mem_firsts.1 hfm)
      by_cases e : u = z
      · subst e
        exact List.mem_map.2 ⟨v, (List.mem_erase_of_ne hne).2 hv, by rw [hf, hzf]⟩
      · exact List.mem_map.2 ⟨u, (List.mem_erase_of_ne e).2 hu, rfl⟩)
    rw [List.length_map, List.length_erase_of_mem hzm] at this
    omega

/-! ## What voltages make -/
theorem minS_foldl (M : List (List Int)) : ∀ n : Int, M.foldl (fun n v => min n (sizeL v)) n ≤ n ∧ ∀ v ∈ M, M.foldl (fun n v => min n (sizeL v)) n ≤ sizeL v := by
  induction M with
  | nil => intro n; exact ⟨Int.le_refl _, fun v h => by cases h⟩
  | cons a M ih =>
    intro n
    have := ih (min n (sizeL a))
    rw [List.foldl_cons]
    refine ⟨by omega, fun v hv => ?_⟩
    rcases List.mem_cons.1 hv with rfl | hv
    · omega
    · exact this.2 v hv
theorem calmM_le {M : List (List Int)} {v : List Int} (h : v ∈ M) : calmM M ≤ sizeL v := by
  have : M.length ≠ 0 := by have := List.length_pos_of_mem h; omega
  rw [calmM, if_neg this]
  exact (minS_foldl M 3).2 v h
theorem makes {g : List (List Int)} {v : List Int} (h : fieldE g v = 0) :
    wishE g (fieldL g v) = 0 ∧ 1 ≤ waysN g (fieldL g v) ∧ voltsIs g (fieldL g v) = true ∧ calmN g (fieldL g v) ≤ sizeL v ∧ checkE g (fieldL g v) v = 0 := by
  obtain ⟨h1, h2, h3⟩ := fieldE_ok h
  have hfit := fitG h1 h2 h3
  have hw : wishE g (fieldL g v) = 0 := wishE_of h1 (wOk_of (fieldL_len g v) (fun a ha => by have := fieldL_f hfit a ha; omega))
  have hm : v ∈ makeL g (fieldL g v) := mem_makeL.2 ⟨⟨h2, h3⟩, rfl⟩
  have hp := List.length_pos_of_mem hm
  refine ⟨hw, by rw [waysN, if_pos hw]; omega, by rw [voltsIs, hw]; simpa using hp, by rw [calmN, if_pos hw]; exact calmM_le hm, ?_⟩
  rw [checkE, if_pos hw, if_pos (vOk_of h2 h3), if_pos rfl]
end Go.Proofs.Ytejjogpgolgdgaa

/-
  PLAIN LAWS OF RAMPS. No program is named.
-/
namespace Go.Proofs.Ytejjogpgolgdgaa
open Go.RowKit Pulse

/-- x moved towards y by at most m. -/
def mv (m x y : Int) : Int := x + max (-m) (min m (y - x))
theorem mv_zero (x y : Int) : mv 0 x y = x := by unfold mv; omega
theorem mv_step {m s x y : Int} (hm : 0 ≤ m) (hs : 0 ≤ s) : mv s (mv m x y) y = mv (m + s) x y := by unfold mv; omega
theorem mv_clamp (s x y : Int) : x + max (-s) (min s (y - x)) = mv s x y := rfl
theorem mv_up {s x y : Int} (hs : 0 ≤ s) (h : x < y) : min y (x + s) = mv s x y := by unfold mv; omega
theorem mv_down {s x y : Int} (hs : 0 ≤ s) (h : ¬ x < y) : max y (x - s) = mv s x y := by unfold mv; omega
theorem mv_eq {m x y : Int} (hm : 0 ≤ m) : mv m x y = y ↔ absI (x - y) ≤ m := by unfold mv absI; omega
theorem mv_bd {m x y b : Int} (hm : 0 ≤ m) (hx : -b ≤ x ∧ x ≤ b) (hy : -b ≤ y ∧ y ≤ b) : -b ≤ mv m x y ∧ mv m x y ≤ b := by unfold mv; omega
theorem mv_near {m s x y : Int} (hm : 0 ≤ m) (hs : 0 ≤ s) : absI (mv m x y - mv (m + s) x y) ≤ s := by unfold mv absI; omega
theorem mv_far {m s x y : Int} (hm : 0 ≤ m) (hs : 1 ≤ s) (h : m < absI (x - y)) : 1 ≤ absI (mv m x y - mv (m + s) x y) := by unfold mv absI at *; omega
/-- All numbers moved. -/
def mvL (m : Int) (a b : List Int) : List Int := List.zipWith (mv m) a b
theorem mvL_len {m : Int} {a b : List Int} (h : a.length = b.length) : (mvL m a b).length = a.length := by simp [mvL]; omega
theorem mvL_get {m : Int} {a b : List Int} {q : Nat} (h : q < a.length) (h' : q < b.length) (h2 : q < (mvL m a b).length) : (mvL m a b)[q] = mv m a[q] b[q] := by simp [mvL]
theorem mvL_zero : ∀ {a b : List Int}, a.length = b.length → mvL 0 a b = a
  | [], _, _ => by simp [mvL]
  | a :: l, [], h => by simp at h
  | a :: l, b :: m, h => by
    have := mvL_zero (a := l) (b := m) (by simpa using h)
    unfold mvL at this ⊢
    rw [List.zipWith_cons_cons, mv_zero, this]
theorem mvL_forces {m b : Int} {l r : List Int} (hm : 0 ≤ m) (h : Forces b l) (h' : Forces b r) : Forces b (mvL m l r) := by
  intro a ha
  obtain ⟨i, hi, rfl⟩ := List.getElem_of_mem ha
  have h1 : i < l.length := by simp [mvL] at hi; omega
  have h2 : i < r.length := by simp [mvL] at hi; omega
  rw [mvL_get h1 h2]
  exact mv_bd hm (h _ (List.getElem_mem h1)) (h' _ (List.getElem_mem h2))
theorem sizeL_le_iff {l : List Int} {m : Int} (hm : 0 ≤ m) : sizeL l ≤ m ↔ ∀ a ∈ l, absI a ≤ m := by
  constructor
  · intro h a ha
    have := sizeL_mem ha
    omega
  · intro h
    exact sizeL_le hm (fun a ha => by have := h a ha; unfold absI at this; omega)
theorem jumpL_le_iff {a b : List Int} {m : Int} (hm : 0 ≤ m) (hl : a.length = b.length) : jumpL a b ≤ m ↔ ∀ (q : Nat) (h : q < a.length), absI (a[q] - b[q]'(by omega)) ≤ m := by
  rw [jumpL, sizeL_le_iff hm]
  have hlen : (subL a b).length = a.length := subL_len hl.symm
  constructor
  · intro h q hq
    have := h _ (List.getElem_mem (l := subL a b) (n := q) (by omega))
    rwa [subL_get hq (by omega)] at this
  · intro h x hx
    obtain ⟨i, hi, rfl⟩ := List.getElem_of_mem hx
    rw [subL_get (by omega) (by omega)]
    exact h i (by omega)
/-- The end is reached as soon as the jump is no greater. -/
theorem mvL_eq {a b : List Int} {m : Int} (hm : 0 ≤ m) (hl : a.length = b.length) : mvL m a b = b ↔ jumpL a b ≤ m := by
  rw [jumpL_le_iff hm hl]
  constructor
  · intro h q hq
    have h1 : (mvL m a b)[q]'(by rw [mvL_len hl]; exact hq) = b[q]'(by omega) := by simp only [h]
    rw [mvL_get hq (by omega)] at h1
    exact (mv_eq hm).1 h1
  · intro h
    refine List.ext_getElem (by rw [mvL_len hl, hl]) fun i h1 h2 => ?_
    rw [mvL_get (by omega) h2]
    exact (mv_eq hm).2 (h i (by omega))
theorem mvL_step {a b : List Int} {m s : Int} (hm : 0 ≤ m) (hs : 0 ≤ s) (hl : a.length = b.length) {q : Nat} (h : q < a.length) (h2 : q < (mvL m a b).length) (h3 : q < (mvL (m + s) a b).length) : mv s ((mvL m a b)[q]) (b[q]'(by omega)) = (mvL (m + s) a b)[q] := by
  rw [mvL_get h (by omega), mvL_get h (by omega), mv_step hm hs]
theorem jump_near {a b : List Int} {m s : Int} (hm : 0 ≤ m) (hs : 0 ≤ s) (hl : a.length = b.length) : jumpL (mvL m a b) (mvL (m + s) a b) ≤ s := by
  have h1 := mvL_len (m := m) hl
  have h2 := mvL_len (m := m + s) hl
  rw [jumpL_le_iff hs (by omega)]
  intro q hq
  rw [mvL_get (by omega) (by omega), mvL_get (by omega) (by omega)]
  exact mv_near hm hs
theorem jump_far {a b : List Int} {m s : Int} (hm : 0 ≤ m) (hs : 1 ≤ s) (hl : a.length = b.length) (h : m < jumpL a b) : 1 ≤ jumpL (mvL m a b) (mvL (m + s) a b) := by
  have h1 := mvL_len (m := m) hl
  have h2 := mvL_len (m := m + s) hl
  refine Int.not_lt.1 fun hc => ?_
  have h0 : jumpL (mvL m a b) (mvL (m + s) a b) ≤ 0 := by omega
  rw [jumpL_le_iff (by omega) (by omega)] at h0
  refine absurd ((jumpL_le_iff hm hl).2 fun q hq => ?_) (by omega)
  have h3 := h0 q (by omega)
  rw [mvL_get (by omega) (by omega), mvL_get (by omega) (by omega)] at h3
  refine Int.not_lt.1 fun hc2 => ?_
  have := mv_far hm hs hc2
  omega

/-! ## The ramp -/
/-- The k-th voltages of the ramp. -/
def rampAt (a b : List Int) (s : Int) (k : Nat) : List Int := mvL ((k : Int) * s) a b
/-- The ramp's first k voltages. -/
def rampTo (a b : List Int) (s : Int) (k : Nat) : List (List Int) := (List.range k).map (rampAt a b s)
theorem rampTo_succ (a b : List Int) (s : Int) (k : Nat) : rampTo a b s (k + 1) = rampTo a b s k ++ [rampAt a b s k] := by
  rw [rampTo, List.range_succ, List.map_append]; rfl
theorem rampTo_len (a b : List Int) (s : Int) (k : Nat) : (rampTo a b s k).length = k := by simp [rampTo]
theorem kmul {k : Nat} {s : Int} (hs : 0 ≤ s) : 0 ≤ (k : Int) * s := Int.mul_nonneg (by omega) hs
theorem ksucc (k : Nat) (s : Int) : ((k + 1 : Nat) : Int) * s = (k : Int) * s + s := by rw [Int.natCast_add, Int.add_mul]; simp
/-- How many steps there are. -/
def rampN (a b : List Int) (s : Int) : Int := (jumpL a b + s - 1) / s
theorem rampN_iff {a b : List Int} {s : Int} (hs : 1 ≤ s) (k : Nat) : jumpL a b ≤ (k : Int) * s ↔ rampN a b s ≤ (k : Int) := by
  unfold rampN
  have h1 : ∀ k : Int, (jumpL a b + s - 1) / s < k + 1 ↔ jumpL a b + s - 1 < (k + 1) * s := fun k => Int.ediv_lt_iff_lt_mul (by omega)
  have h2 := h1 k
  rw [Int.add_mul, Int.one_mul] at h2
  omega
theorem rampN_nn {a b : List Int} {s : Int} (hs : 1 ≤ s) : 0 ≤ rampN a b s := Int.ediv_nonneg (by have := jumpL_nn a b; omega) (by omega)
theorem rampN_le {a b : List Int} {s : Int} (hs : 1 ≤ s) (h : jumpL a b ≤ 6) : rampN a b s ≤ 6 := by
  have := (rampN_iff (a := a) (b := b) hs 6).1 (by have : s * 1 ≤ s * 6 := Int.mul_le_mul_of_nonneg_left (by omega) (by omega); omega)
  omega
/-- Voltages on the way from the k-th to the next ones: the first q are the next. -/
def between (a b : List Int) (s : Int) (k q : Nat) : List Int := (rampAt a b s (k + 1)).take q ++ (rampAt a b s k).drop q
section
variable {a b : List Int} {s : Int}
theorem rampAt_len (hl : a.length = b.length) (k : Nat) : (rampAt a b s k).length = a.length := mvL_len hl
theorem rampAt_forces {x : Int} (hs : 1 ≤ s) (h : Forces x a) (h' : Forces x b) (k : Nat) : Forces x (rampAt a b s k) := mvL_forces (kmul (by omega)) h h'
theorem rampAt_zero (hl : a.length = b.length) : rampAt a b s 0 = a := by rw [rampAt]; simpa using mvL_zero hl
theorem rampAt_end (hs : 1 ≤ s) (hl : a.length = b.length) (k : Nat) : rampAt a b s k = b ↔ rampN a b s ≤ (k : Int) := by
  rw [rampAt, mvL_eq (kmul (by omega)) hl, rampN_iff hs]
theorem between_zero (hl : a.length = b.length) (k : Nat) : between a b s k 0 = rampAt a b s k := by simp [between]
theorem between_all (hl : a.length = b.length) (k : Nat) : between a b s k a.length = rampAt a b s (k + 1) := by
  rw [between, List.take_of_length_le (by rw [rampAt_len hl]; exact Nat.le_refl _), List.drop_of_length_le (by rw [rampAt_len hl]; exact Nat.le_refl _), List.append_nil]
theorem between_len (hl : a.length = b.length) (k : Nat) {q : Nat} (hq : q ≤ a.length) : (between a b s k q).length = a.length := by
  simp only [between, List.length_append, List.length_take, List.length_drop, rampAt_len hl]; omega
theorem between_take_len (hl : a.length = b.length) (k : Nat) {q : Nat} (hq : q ≤ a.length) : ((rampAt a b s (k + 1)).take q).length = q := by
  rw [List.length_take, rampAt_len hl]; omega
theorem between_get (hl : a.length = b.length) (k : Nat) {q : Nat} (h : q < a.length) (h' : q < (between a b s k q).length) : (between a b s k q)[q] = (rampAt a b s k)[q]'(by rw [rampAt_len hl]; exact h) := by
  have e := between_take_len (s := s) hl k (Nat.le_of_lt h)
  simp only [between]
  rw [List.getElem_append_right (by rw [e]; exact Nat.le_refl _)]
  simp only [List.getElem_drop, e, Nat.sub_self, Nat.add_zero]
theorem between_set (hs : 1 ≤ s) (hl : a.length = b.length) (k : Nat) {q : Nat} (h : q < a.length) : (between a b s k q).set q (mv s ((rampAt a b s k)[q]'(by rw [rampAt_len hl]; exact h)) (b[q]'(by omega))) = between a b s k (q + 1) := by
  have e := between_take_len (s := s) hl k (Nat.le_of_lt h)
  have h1 : q < (rampAt a b s (k + 1)).length := by rw [rampAt_len hl]; exact h
  have h2 : q < (rampAt a b s k).length := by rw [rampAt_len hl]; exact h
  have hv : mv s ((rampAt a b s k)[q]) (b[q]'(by omega)) = (rampAt a b s (k + 1))[q] := by
    simp only [rampAt, ksucc]
    exact mvL_step (kmul (by omega)) (by omega) hl h _ _
  rw [hv, between, between, List.set_append_right _ _ (by rw [e]; exact Nat.le_refl _), e, Nat.sub_self, take_snoc' _ q h1, List.drop_eq_getElem_cons h2, List.set_cons_zero, List.append_assoc]
  rfl
theorem ramp_jump (hs : 1 ≤ s) (hl : a.length = b.length) (k : Nat) (hk : (k : Int) < rampN a b s) : jumpL (rampAt a b s k) (rampAt a b s (k + 1)) ≤ s ∧ 1 ≤ jumpL (rampAt a b s k) (rampAt a b s (k + 1)) := by
  simp only [rampAt, ksucc]
  refine ⟨jump_near (kmul (by omega)) (by omega) hl, jump_far (kmul (by omega)) hs hl ?_⟩
  have := (rampN_iff (a := a) (b := b) hs k)
  omega
end
end Go.Proofs.Ytejjogpgolgdgaa

/-
  PLAIN LAWS OF COURSES. No program is named.
-/
namespace Go.Proofs.Ytejjogpgolgdgaa
open Go.RowKit Pulse

theorem absI_sub (a b : Int) : absI (a - b) = absI (b - a) := by unfold absI; omega
theorem jumpL_comm (a b : List Int) : jumpL a b = jumpL b a := by
  have h : ∀ (a b : List Int) (n : Int), (subL a b).foldl (fun n a => max n (absI a)) n = (subL b a).foldl (fun n a => max n (absI a)) n := by
    intro a
    induction a with
    | nil => intro b n; cases b <;> rfl
    | cons x a ih =>
      intro b n
      cases b with
      | nil => rfl
      | cons y b =>
        simp only [subL, List.zipWith_cons_cons, List.foldl_cons] at ih ⊢
        rw [absI_sub x y]
        exact ih b _
  exact h a b 0
theorem jumpL_self (a : List Int) : jumpL a a = 0 := (jumpL_zero rfl).2 rfl

/-- The greatest jump of neighbors. -/
def jumpC : List (List Int) → Int
  | [] => 0
  | [_] => 0
  | v :: u :: c => max (jumpL v u) (jumpC (u :: c))
theorem jumpC_nn : ∀ c, 0 ≤ jumpC c
  | [] => Int.le_refl _
  | [_] => Int.le_refl _
  | v :: u :: c => by have := jumpC_nn (u :: c); rw [jumpC]; omega
theorem jumpC_snoc : ∀ (c : List (List Int)) (u v : List Int), jumpC (c ++ [u] ++ [v]) = max (jumpC (c ++ [u])) (jumpL u v)
  | [], u, v => by simp [jumpC]; omega
  | [a], u, v => by simp [jumpC]; omega
  | a :: b :: c, u, v => by
    have := jumpC_snoc (b :: c) u v
    simp only [List.cons_append] at this ⊢
    rw [jumpC, this, jumpC]
    omega
theorem jumpC_rev : ∀ c, jumpC c.reverse = jumpC c
  | [] => rfl
  | [_] => rfl
  | v :: u :: c => by
    have := jumpC_rev (u :: c)
    rw [List.reverse_cons] at this
    rw [List.reverse_cons, List.reverse_cons, jumpC_snoc, this, jumpC, jumpL_comm u v]
    omega
theorem jumpC_init (c : List (List Int)) (v : List Int) : jumpC c ≤ jumpC (c ++ [v]) := by
  rcases List.eq_nil_or_concat c with rfl | ⟨d, u, rfl⟩
  · exact Int.le_refl _
  · rw [List.concat_eq_append, jumpC_snoc]; omega

/-- Voltages for each wish. -/
def IsC (g : List (List Int)) : List (List Int) → List (List Int) → Prop
  | [], [] => True
  | l :: row, v :: c => v ∈ makeL g l ∧ IsC g row c
  | [], _ :: _ => False
  | _ :: _, [] => False
theorem IsC.len {g : List (List Int)} : ∀ {row c : List (List Int)}, IsC g row c → c.length = row.length
  | [], [], _ => rfl
  | l :: row, v :: c, h => by rw [List.length_cons, List.length_cons, IsC.len h.2]
  | [], _ :: _, h => False.elim h
  | _ :: _, [], h => False.elim h
theorem isC_app {g : List (List Int)} : ∀ {row c row' c' : List (List Int)}, c.length = row.length → (IsC g (row ++ row') (c ++ c') ↔ IsC g row c ∧ IsC g row' c')
  | [], [], _, _, _ => by simp [IsC]
  | l :: row, v :: c, row', c', h => by
    have := isC_app (g := g) (row := row) (c := c) (row' := row') (c' := c') (by simpa using h)
    simp only [List.cons_append, IsC, this, and_assoc]
  | [], _ :: _, _, _, h => by simp at h
  | _ :: _, [], _, _, h => by simp at h
theorem isC_one {g : List (List Int)} {l v : List Int} : IsC g [l] [v] ↔ v ∈ makeL g l := by simp [IsC]
theorem isC_snoc {g row c : List (List Int)} {l v : List Int} : IsC g (row ++ [l]) (c ++ [v]) ↔ IsC g row c ∧ v ∈ makeL g l := by
  constructor
  · intro h
    have hl := h.len
    have h1 := (isC_app (g := g) (row := row) (c := c) (row' := [l]) (c' := [v]) (by simpa using hl)).1 h
    exact ⟨h1.1, isC_one.1 h1.2⟩
  · intro h
    exact (isC_app h.1.len).2 ⟨h.1, isC_one.2 h.2⟩
theorem IsC.rev {g : List (List Int)} : ∀ {row c : List (List Int)}, IsC g row c → IsC g row.reverse c.reverse
  | [], [], _ => trivial
  | l :: row, v :: c, h => by
    rw [List.reverse_cons, List.reverse_cons]
    exact isC_snoc.2 ⟨IsC.rev h.2, h.1⟩
  | [], _ :: _, h => False.elim h
  | _ :: _, [], h => False.elim h
theorem isC_ex {g : List (List Int)} : ∀ {row : List (List Int)}, (∃ c, IsC g row c) ↔ ∀ l ∈ row, 0 < (makeL g l).length
  | [] => by constructor; · intro _ l h; cases h
             · intro _; exact ⟨[], trivial⟩
  | l :: row => by
    have ih := isC_ex (g := g) (row := row)
    constructor
    · rintro ⟨c, hc⟩ x hx
      cases c with
      | nil => exact False.elim hc
      | cons v c =>
        rcases List.mem_cons.1 hx with rfl | hx
        · exact List.length_pos_of_mem hc.1
        · exact ih.1 ⟨c, hc.2⟩ x hx
    · intro h
      obtain ⟨c, hc⟩ := ih.2 (fun x hx => h x (List.mem_cons_of_mem _ hx))
      exact ⟨(makeL g l)[0]'(h l (by simp)) :: c, List.getElem_mem _, hc⟩
theorem isC_get {g : List (List Int)} : ∀ {row c : List (List Int)}, c.length = row.length → (IsC g row c ↔ ∀ (i : Nat) (h : i < row.length) (h' : i < c.length), c[i] ∈ makeL g row[i])
  | [], [], _ => by simp [IsC]
  | l :: row, v :: c, h => by
    have ih := isC_get (g := g) (row := row) (c := c) (by simpa using h)
    simp only [IsC, ih]
    constructor
    · rintro ⟨h1, h2⟩ i h h'
      cases i with
      | zero => exact h1
      | succ i => exact h2 i (by simpa using h) (by simpa using h')
    · intro h
      exact ⟨h 0 (by simp) (by simp), fun i h1 h2 => h (i + 1) (by simpa using h1) (by simpa using h2)⟩
  | [], _ :: _, h => by simp at h
  | _ :: _, [], h => by simp at h

/-! ## The ends are courses' ends -/
theorem pick_neg {prev : List End} {v : List Int} : ∀ k, k ≤ prev.length → 0 < k → 0 ≤ (pick prev v k).2
  | 0, _, h => absurd h (by omega)
  | k + 1, h, _ => by
    rw [pick_succ (List.getElem?_eq_getElem (show k < prev.length by omega))]
    split
    · show 0 ≤ (k : Int); omega
    · rename_i hc
      have : ¬ (pick prev v k).2 < 0 := fun h => hc (.inl h)
      omega
theorem pick_at {prev : List End} {v : List Int} : ∀ k, k ≤ prev.length → 0 ≤ (pick prev v k).2 → ∃ i, ∃ h : i < prev.length, (pick prev v k).2 = (i : Int) ∧ (pick prev v k).1 = max prev[i].j (jumpL prev[i].v v)
  | 0, _, h => absurd h (by simp [pick])
  | k + 1, h, h0 => by
    have hk : k < prev.length := by omega
    rw [pick_succ (List.getElem?_eq_getElem hk)] at h0 ⊢
    split
    · exact ⟨k, hk, rfl, rfl⟩
    · rename_i hc
      rw [if_neg hc] at h0
      exact pick_at k (by omega) h0
theorem pick_min {prev : List End} {v : List Int} : ∀ k, k ≤ prev.length → ∀ i (h : i < prev.length), i < k → (pick prev v k).1 ≤ max prev[i].j (jumpL prev[i].v v)
  | 0, _, _, _, h => absurd h (by omega)
  | k + 1, h, i, hi, hik => by
    have hk : k < prev.length := by omega
    have ih := pick_min (v := v) k (by omega) i hi
    rw [pick_succ (List.getElem?_eq_getElem hk)]
    split
    · rename_i hc
      rcases Nat.lt_or_ge i k with h1 | h1
      · have h2 := ih h1
        have h3 := pick_neg (prev := prev) (v := v) k (by omega) (by omega)
        rcases hc with hc | hc
        · exact absurd hc (by omega)
        · exact Int.le_trans (Int.le_of_lt hc) h2
      · obtain rfl : i = k := by omega
        exact Int.le_refl _
    · rename_i hc
      rcases Nat.lt_or_ge i k with h1 | h1
      · exact ih h1
      · obtain rfl : i = k := by omega
        exact Int.not_lt.1 fun h => hc (.inr h)
theorem mem_nextAll {first : Bool} {prev : List End} {M : List (List Int)} {e : End} : e ∈ nextTo first prev M M.length ↔ ∃ v ∈ M, nx first prev v = some e := by
  rw [nextTo, List.take_length, List.mem_filterMap]
theorem row_take {row : List (List Int)} {q : Nat} (h : q < row.length) : row.take (q + 1) = row.take q ++ [row.getD q []] := by
  rw [take_snoc_l row q h]; simp [List.getD, List.getElem?_eq_getElem h]
where take_snoc_l {α : Type} (l : List α) (q : Nat) (h : q < l.length) : l.take (q + 1) = l.take q ++ [l[q]] := by rw [List.take_add_one, List.getElem?_eq_getElem h]; rfl
theorem lastEnds_zero (g row : List (List Int)) : lastEnds g row 0 = [] := rfl
/-- Each end has a course with its jump; the end before it lies where it says. -/
theorem ends_back {g row : List (List Int)} {q : Nat} {e : End} (he : e ∈ lastEnds g row (q + 1)) :
    e.v ∈ makeL g (row.getD q []) ∧ (q = 0 → e.j = 0 ∧ e.b = -1) ∧ (0 < q → ∃ i, ∃ h : i < (lastEnds g row q).length, e.b = (i : Int) ∧ e.j = max (lastEnds g row q)[i].j (jumpL (lastEnds g row q)[i].v e.v)) := by
  rw [lastEnds_succ] at he
  obtain ⟨v, hv, hx⟩ := mem_nextAll.1 he
  unfold nx at hx
  split at hx
  · rename_i hc
    injection hx with hx
    subst hx
    refine ⟨hv, fun h => ?_, fun h => ?_⟩
    · subst h
      rw [lastEnds_zero]
      exact ⟨rfl, rfl⟩
    · have hc' : 0 ≤ (pick (lastEnds g row q) v (lastEnds g row q).length).2 := by
        simpa [show ¬ q = 0 by omega] using hc
      obtain ⟨i, hi, h1, h2⟩ := pick_at _ (Nat.le_refl _) hc'
      exact ⟨i, hi, h1, h2⟩
  · cases hx
theorem ends_have {g row : List (List Int)} : ∀ (q : Nat), q < row.length → ∀ e ∈ lastEnds g row (q + 1), ∃ c, IsC g (row.take (q + 1)) (c ++ [e.v]) ∧ jumpC (c ++ [e.v]) = e.j
  | 0, h, e, he => by
    obtain ⟨h1, h2, _⟩ := ends_back he
    refine ⟨[], ?_, ?_⟩
    · rw [row_take h, List.take_zero]; exact isC_one.2 h1
    · rw [(h2 rfl).1]; rfl
  | q + 1, h, e, he => by
    obtain ⟨h1, _, h3⟩ := ends_back he
    obtain ⟨i, hi, _, hj⟩ := h3 (by omega)
    obtain ⟨c, hc, hcj⟩ := ends_have q (by omega) _ (List.getElem_mem hi)
    refine ⟨c ++ [(lastEnds g row (q + 1))[i].v], ?_, ?_⟩
    · rw [row_take h]; exact isC_snoc.2 ⟨hc, h1⟩
    · rw [jumpC_snoc, hcj, hj]
/-- Each course ends at one of the ends, which has no greater jump. -/
theorem ends_all {g row : List (List Int)} : ∀ (q : Nat), q < row.length → ∀ c v, IsC g (row.take (q + 1)) (c ++ [v]) → ∃ e ∈ lastEnds g row (q + 1), e.v = v ∧ e.j ≤ jumpC (c ++ [v])
  | 0, h, c, v, hc => by
    rw [row_take h] at hc
    have hv := (isC_snoc.1 hc).2
    refine ⟨⟨v, 0, -1⟩, ?_, rfl, jumpC_nn _⟩
    rw [lastEnds_succ, mem_nextAll]
    exact ⟨v, hv, by rw [lastEnds_zero]; rfl⟩
  | q + 1, h, c, v, hc => by
    rw [row_take h] at hc
    obtain ⟨hc, hv⟩ := isC_snoc.1 hc
    have hcl := hc.len
    rw [List.length_take] at hcl
    rcases List.eq_nil_or_concat c with rfl | ⟨d, u, rfl⟩
    · simp at hcl; omega
    rw [List.concat_eq_append] at hc ⊢
    obtain ⟨y, hy, rfl, hyj⟩ := ends_all q (by omega) d u hc
    obtain ⟨i, hi, rfl⟩ := List.getElem_of_mem hy
    have hp := pick_neg (v := v) (prev := lastEnds g row (q + 1)) _ (Nat.le_refl _) (by omega)
    have hm := pick_min (v := v) (prev := lastEnds g row (q + 1)) _ (Nat.le_refl _) i hi hi
    refine ⟨⟨v, (pick (lastEnds g row (q + 1)) v (lastEnds g row (q + 1)).length).1, (pick (lastEnds g row (q + 1)) v (lastEnds g row (q + 1)).length).2⟩, ?_, rfl, ?_⟩
    · rw [lastEnds_succ g row (q + 1), mem_nextAll]
      exact ⟨v, hv, by rw [nx, if_pos (by simp; omega)]⟩
    · rw [jumpC_snoc]
      show (pick (lastEnds g row (q + 1)) v (lastEnds g row (q + 1)).length).1 ≤ _
      omega

/-! ## The smallest jump -/
theorem bestTo_min {es : List End} : ∀ k, k ≤ es.length → ∀ i (h : i < es.length), i < k → ∃ b, ∃ hb : b < es.length, bestTo es k = (b : Int) ∧ es[b].j ≤ es[i].j
  | 0, _, _, _, h => absurd h (by omega)
  | k + 1, h, i, hi, hik => by
    have hk : k < es.length := by omega
    rw [bestTo_succ (List.getElem?_eq_getElem hk)]
    by_cases h0 : k = 0
    · subst h0
      obtain rfl : i = 0 := by omega
      exact ⟨0, hk, rfl, Int.le_refl _⟩
    · have hb := bestTo_bd es k (by omega)
      have hp := bestTo_pos es k (by omega) (by omega)
      obtain ⟨m, hm⟩ := Int.eq_ofNat_of_zero_le hp
      have hmk : m < es.length := by omega
      have hg : ((es.map (·.j)).getD (bestTo es k).toNat 0) = es[m].j := by rw [hm]; simp [List.getD, List.getElem?_eq_getElem hmk]
      rw [hg]
      have ih := bestTo_min k (by omega) i hi
      have ih0 : i < k → es[m].j ≤ es[i].j := fun h => by
        obtain ⟨b, hb, e1, e2⟩ := ih h
        have : b = m := by omega
        subst this
        exact e2
      split
      · rename_i hc
        have hc : es[k].j < es[m].j := hc.resolve_left (by omega)
        refine ⟨k, hk, rfl, ?_⟩
        rcases Nat.lt_or_ge i k with h1 | h1
        · have := ih0 h1; omega
        · obtain rfl : i = k := by omega
          exact Int.le_refl _
      · rename_i hc
        refine ⟨m, hmk, by omega, ?_⟩
        rcases Nat.lt_or_ge i k with h1 | h1
        · exact ih0 h1
        · obtain rfl : i = k := by omega
          exact Int.not_lt.1 fun h => hc (.inr h)
theorem bestI_ok {es : List End} (h : 0 < es.length) : ∃ b, ∃ hb : b < es.length, bestI es = (b : Int) ∧ ∀ e ∈ es, es[b].j ≤ e.j := by
  have h1 := bestTo_bd es es.length (Nat.le_refl _)
  have h2 := bestTo_pos es es.length (Nat.le_refl _) h
  obtain ⟨b, hb⟩ := Int.eq_ofNat_of_zero_le h2
  have hbl : b < es.length := by omega
  refine ⟨b, hbl, hb, fun e he => ?_⟩
  obtain ⟨i, hi, rfl⟩ := List.getElem_of_mem he
  obtain ⟨c, hc, e1, e2⟩ := bestTo_min es.length (Nat.le_refl _) i hi hi
  have : c = b := by omega
  subst this
  exact e2
/-- Smooth is true exactly if there is a course; its number is the smallest jump. -/
theorem smooth_law {g row : List (List Int)} (h : rowE g row = 0) :
    (smoothIs g row = true ↔ ∃ c, IsC g row c) ∧ (smoothIs g row = true → (∃ c, IsC g row c ∧ jumpC c = smoothN g row) ∧ ∀ c, IsC g row c → smoothN g row ≤ jumpC c) := by
  obtain ⟨hv, h1, h5, _⟩ := rowE_ok h
  obtain ⟨q, hq⟩ : ∃ q, row.length = q + 1 := ⟨row.length - 1, by omega⟩
  have ht : row.take (q + 1) = row := by rw [← hq, List.take_length]
  have hE : lastE g row = lastEnds g row (q + 1) := by rw [lastE, hq]
  have hhave := ends_have (g := g) (row := row) q (by omega)
  have hall := ends_all (g := g) (row := row) q (by omega)
  rw [ht, ← hE] at hhave hall
  have hall' : ∀ c, IsC g row c → ∃ e ∈ lastE g row, e.j ≤ jumpC c := by
    intro c hc
    have hl := hc.len
    rcases List.eq_nil_or_concat c with rfl | ⟨d, u, rfl⟩
    · simp at hl; omega
    · rw [List.concat_eq_append] at hc ⊢
      obtain ⟨e, he, _, hj⟩ := hall d u hc
      exact ⟨e, he, hj⟩
  have hs : smoothIs g row = decide (0 < (lastE g row).length) := by rw [smoothIs, h]; rfl
  refine ⟨?_, fun hsm => ?_⟩
  · rw [hs, decide_eq_true_eq]
    constructor
    · intro hp
      obtain ⟨c, hc, _⟩ := hhave _ (List.getElem_mem hp)
      exact ⟨_, hc⟩
    · rintro ⟨c, hc⟩
      obtain ⟨e, he, _⟩ := hall' c hc
      exact List.length_pos_of_mem he
  · have hp : 0 < (lastE g row).length := by simpa [hs] using hsm
    obtain ⟨b, hb, hbe, hmin⟩ := bestI_ok hp
    have hN : smoothN g row = (lastE g row)[b].j := by rw [smoothN, if_pos hsm, hbe]; simp [List.getD, List.getElem?_eq_getElem hb]
    rw [hN]
    refine ⟨?_, fun c hc => ?_⟩
    · obtain ⟨c, hc, hcj⟩ := hhave _ (List.getElem_mem hb)
      exact ⟨_, hc, hcj⟩
    · obtain ⟨e, he, hj⟩ := hall' c hc
      have := hmin e he
      omega
theorem smoothN_else {g row : List (List Int)} (h : smoothIs g row = false) : smoothN g row = 0 := by rw [smoothN, h]; rfl
theorem smooth_eq {g row row' : List (List Int)} (h : rowE g row = 0) (h' : rowE g row' = 0) (hab : ∀ c, IsC g row c → ∃ c', IsC g row' c' ∧ jumpC c' ≤ jumpC c) (hba : ∀ c, IsC g row' c → ∃ c', IsC g row c' ∧ jumpC c' ≤ jumpC c) : smoothIs g row' = smoothIs g row ∧ smoothN g row' = smoothN g row := by
  obtain ⟨a1, a2⟩ := smooth_law h
  obtain ⟨b1, b2⟩ := smooth_law h'
  have hi : smoothIs g row' = true ↔ smoothIs g row = true := by
    rw [a1, b1]
    constructor
    · rintro ⟨c, hc⟩; obtain ⟨c', hc', _⟩ := hba c hc; exact ⟨c', hc'⟩
    · rintro ⟨c, hc⟩; obtain ⟨c', hc', _⟩ := hab c hc; exact ⟨c', hc'⟩
  by_cases hs : smoothIs g row = true
  · have hs' := hi.2 hs
    refine ⟨by rw [hs, hs'], ?_⟩
    obtain ⟨⟨c, hc, hcj⟩, hm⟩ := a2 hs
    obtain ⟨⟨d, hd, hdj⟩, hm'⟩ := b2 hs'
    obtain ⟨c', hc', hcj'⟩ := hab c hc
    obtain ⟨d', hd', hdj'⟩ := hba d hd
    have := hm d' hd'
    have := hm' c' hc'
    omega
  · have hs0 : smoothIs g row = false := by simpa using hs
    have hs' : smoothIs g row' = false := by
      cases hx : smoothIs g row' with
      | false => rfl
      | true => exact absurd (hi.1 hx) hs
    rw [hs0, hs', smoothN_else hs0, smoothN_else hs']
    exact ⟨rfl, rfl⟩
theorem rowE_of {g row : List (List Int)} (hv : vldG g = 0) (h1 : 1 ≤ row.length) (h5 : row.length ≤ 5) (hw : ∀ l ∈ row, wOk g l = true) : rowE g row = 0 := by
  rw [rowE, if_pos hv, if_pos (by simp only [Bool.and_eq_true, decide_eq_true_eq, List.all_eq_true]; exact ⟨⟨h1, h5⟩, hw⟩)]
theorem rowE_rev {g row : List (List Int)} (h : rowE g row = 0) : rowE g row.reverse = 0 := by
  obtain ⟨hv, h1, h5, hw⟩ := rowE_ok h
  exact rowE_of hv (by simpa using h1) (by simpa using h5) (fun l hl => hw l (by simpa using hl))
theorem rowE_init {g row : List (List Int)} (h : rowE g row = 0) (h2 : 2 ≤ row.length) : rowE g (row.take (row.length - 1)) = 0 := by
  obtain ⟨hv, h1, h5, hw⟩ := rowE_ok h
  exact rowE_of hv (by simp; omega) (by simp; omega) (fun l hl => hw l (List.mem_of_mem_take hl))
/-- A row from the end on. -/
theorem smooth_rev {g row : List (List Int)} (h : rowE g row = 0) : smoothIs g row.reverse = smoothIs g row ∧ smoothN g row.reverse = smoothN g row :=
  smooth_eq h (rowE_rev h) (fun c hc => ⟨c.reverse, hc.rev, by rw [jumpC_rev]; exact Int.le_refl _⟩) (fun c hc => ⟨c.reverse, by have := hc.rev; rwa [List.reverse_reverse] at this, by rw [jumpC_rev]; exact Int.le_refl _⟩)
/-- The beginning of a row. -/
theorem smooth_init {g row : List (List Int)} (h : rowE g row = 0) (h2 : 2 ≤ row.length) (hs : smoothIs g row = true) : smoothIs g (row.take (row.length - 1)) = true ∧ smoothN g (row.take (row.length - 1)) ≤ smoothN g row := by
  obtain ⟨a1, a2⟩ := smooth_law h
  obtain ⟨b1, b2⟩ := smooth_law (rowE_init h h2)
  obtain ⟨⟨c, hc, hcj⟩, _⟩ := a2 hs
  obtain ⟨q, hq⟩ : ∃ q, row.length = q + 1 := ⟨row.length - 1, by omega⟩
  have hcl := hc.len
  rcases List.eq_nil_or_concat c with rfl | ⟨d, u, rfl⟩
  · simp at hcl; omega
  rw [List.concat_eq_append] at hc hcj
  have ht : row = row.take q ++ [row.getD q []] := by rw [← row_take (by omega), ← hq, List.take_length]
  rw [show row.length - 1 = q by omega] at b1 b2 ⊢
  rw [ht] at hc
  have hd := (isC_snoc.1 hc).1
  have hb := b1.2 ⟨d, hd⟩
  refine ⟨hb, ?_⟩
  have := (b2 hb).2 d hd
  have := jumpC_init d u
  omega
/-- There is a course exactly if each wish has voltages. -/
theorem smooth_each {g row : List (List Int)} (h : rowE g row = 0) : smoothIs g row = row.all (fun l => decide (0 < waysN g l)) := by
  obtain ⟨a1, _⟩ := smooth_law h
  obtain ⟨hv, _, _, hw⟩ := rowE_ok h
  rw [Bool.eq_iff_iff, a1, isC_ex, List.all_eq_true]
  constructor
  · intro h1 l hl
    have := h1 l hl
    rw [decide_eq_true_eq, waysN, if_pos (wishE_of hv (hw l hl))]
    omega
  · intro h1 l hl
    have := h1 l hl
    rw [decide_eq_true_eq, waysN, if_pos (wishE_of hv (hw l hl))] at this
    omega
end Go.Proofs.Ytejjogpgolgdgaa
