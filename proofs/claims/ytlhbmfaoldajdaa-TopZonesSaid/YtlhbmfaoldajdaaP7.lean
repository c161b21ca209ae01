/-
  THE SEARCH, plain: it is closed under moves and finds the shortest way; plans lead back.
-/
import Derived.Test.YtlhbmfaoldajdaaP6
namespace Go.Proofs.Ytlhbmfaoldajdaa
theorem par_run {Z : Int} {L : List (Int × Int)} {s : List Int} {T : List Nd} {n : Nat} (hp : Par Z L s T) (hT : Tidy Z n T) : ∀ (k : Nat) (x : Nd), x ∈ T → x.d = (k : Int) → ∃ p, Run Z L s p x.p ∧ p.length = k
  | 0, x, hx, hd => by
    rcases hp x hx with ⟨_, h⟩ | ⟨y, hy, _, h2, _⟩
    · exact ⟨[], by rw [h]; exact .nil s, rfl⟩
    · have := (hT.2 y hy).2.2; omega
  | k + 1, x, hx, hd => by
    rcases hp x hx with ⟨h, _⟩ | ⟨y, hy, e1, e2, e3, e4⟩
    · omega
    · obtain ⟨p, hr, hl⟩ := par_run hp hT k y hy (by omega)
      exact ⟨p ++ [x.m], by rw [e4]; exact hr.snoc e3, by simp [hl]⟩
/-- The nodes lie in the order of their distances, none farther than one more than d. -/
def Vis (d : Int) (T : List Nd) : Prop := T.Pairwise (fun x y => x.d ≤ y.d) ∧ ∀ x ∈ T, x.d ≤ d + 1
theorem Vis.visM {now : List Int} {d : Int} {T : List Nd} {m : Int × Int} (h : Vis d T) : Vis d (visM now d T m) ∧ ∃ y ∈ visM now d T m, y.p = doM now m := by
  unfold Ytlhbmfaoldajdaa.visM
  split
  · rename_i hm
    obtain ⟨y, hy, he⟩ := List.mem_map.1 hm
    exact ⟨h, y, hy, he⟩
  · refine ⟨⟨?_, fun x hx => ?_⟩, _, List.mem_append_right _ (List.mem_singleton.2 rfl), rfl⟩
    · rw [List.pairwise_append]
      refine ⟨h.1, by simp, fun a ha b hb => ?_⟩
      rw [List.mem_singleton] at hb
      subst hb
      exact h.2 a ha
    · rcases List.mem_append.1 hx with hx | hx
      · exact h.2 x hx
      · rw [List.mem_singleton] at hx; subst hx; exact Int.le_refl _
theorem Vis.visTo {Z : Int} {L : List (Int × Int)} {now : List Int} {d : Int} {T : List Nd} (h : Vis d T) : ∀ j, j ≤ (movesL Z L now).length → Vis d (visTo Z L now d T j) ∧ ∀ i (_ : i < j) (hi' : i < (movesL Z L now).length), ∃ y ∈ visTo Z L now d T j, y.p = doM now (movesL Z L now)[i]
  | 0, _ => by rw [visTo_zero]; exact ⟨h, fun i hi => absurd hi (by omega)⟩
  | j + 1, hj => by
    obtain ⟨h1, h2⟩ := Vis.visTo (Z := Z) (L := L) (now := now) h j (by omega)
    rw [visTo_succ (by omega)]
    obtain ⟨h3, h4⟩ := h1.visM (now := now) (m := (movesL Z L now)[j])
    refine ⟨h3, fun i hi hi' => ?_⟩
    rcases Nat.lt_or_ge i j with hlt | hge
    · obtain ⟨y, hy, he⟩ := h2 i hlt hi'
      obtain ⟨r, hr⟩ := visM_pre now d (Ytlhbmfaoldajdaa.visTo Z L now d T j) (movesL Z L now)[j]
      exact ⟨y, by rw [hr]; exact List.mem_append_left _ hy, he⟩
    · have : i = j := by omega
      subst this
      exact h4
theorem pair_get {T : List Nd} (h : T.Pairwise (fun x y => x.d ≤ y.d)) {i j : Nat} {x y : Nd} (hij : i < j) (hx : T[i]? = some x) (hy : T[j]? = some y) : x.d ≤ y.d := by
  obtain ⟨hi, rfl⟩ := List.getElem?_eq_some_iff.1 hx
  obtain ⟨hj, rfl⟩ := List.getElem?_eq_some_iff.1 hy
  exact (List.pairwise_iff_getElem.1 h) i j hi hj hij
def Clo (Z : Int) (L : List (Int × Int)) (T : List Nd) (x : Nd) : Prop := ∀ m, refuseE Z L x.p m = 0 → ∃ y ∈ T, y.p = doM x.p m ∧ y.d ≤ x.d + 1
theorem bfs_inv (Z : Int) (L : List (Int × Int)) (s : List Int) : ∀ q, (bfsTo Z L s q).Pairwise (fun x y => x.d ≤ y.d) ∧ (∀ x, (bfsTo Z L s q)[q]? = some x → ∀ y ∈ bfsTo Z L s q, y.d ≤ x.d + 1) ∧ ∀ (i : Nat) (x : Nd), i < q → (bfsTo Z L s q)[i]? = some x → Clo Z L (bfsTo Z L s q) x
  | 0 => by
    refine ⟨by simp [bfsTo], fun x hx y hy => ?_, fun i x hi => absurd hi (by omega)⟩
    simp [bfsTo] at hx hy
    subst hx hy
    show (0 : Int) ≤ 0 + 1
    decide
  | q + 1 => by
    obtain ⟨h1, h2, h3⟩ := bfs_inv Z L s q
    rw [bfsTo]
    cases hg : (bfsTo Z L s q)[q]? with
    | none =>
      have hlen : (bfsTo Z L s q).length ≤ q := by rw [List.getElem?_eq_none_iff] at hg; exact hg
      show (bfsTo Z L s q).Pairwise _ ∧ _
      refine ⟨h1, fun x hx => ?_, fun i x hi hx => ?_⟩
      · obtain ⟨h, _⟩ := List.getElem?_eq_some_iff.1 hx
        have h : q + 1 < (bfsTo Z L s q).length := h
        omega
      · obtain ⟨h, _⟩ := List.getElem?_eq_some_iff.1 hx
        have h : i < (bfsTo Z L s q).length := h
        exact h3 i x (by omega) hx
    | some x =>
      have hv : Vis x.d (bfsTo Z L s q) := ⟨h1, h2 x hg⟩
      obtain ⟨h4, h5⟩ := hv.visTo (Z := Z) (L := L) (now := x.p) _ (Nat.le_refl _)
      obtain ⟨r, hr⟩ := visTo_pre Z L x.p x.d (bfsTo Z L s q) _ (Nat.le_refl _)
      have hql : q < (bfsTo Z L s q).length := (List.getElem?_eq_some_iff.1 hg).1
      show (visTo Z L x.p x.d (bfsTo Z L s q) _).Pairwise _ ∧ _
      have hq' : (visTo Z L x.p x.d (bfsTo Z L s q) (movesL Z L x.p).length)[q]? = some x := by
        rw [hr, List.getElem?_append_left hql]; exact hg
      refine ⟨h4.1, fun y hy z hz => ?_, fun i y hi hy m hm => ?_⟩
      · have h6 := pair_get h4.1 (Nat.lt_succ_self q) hq' hy
        have h7 := h4.2 z hz
        omega
      · rcases Nat.lt_or_ge i q with hlt | hge
        · have hy' : (bfsTo Z L s q)[i]? = some y := by
            show _ = some y
            have hy2 : (visTo Z L x.p x.d (bfsTo Z L s q) (movesL Z L x.p).length)[i]? = some y := hy
            rw [hr, List.getElem?_append_left (by omega)] at hy2
            exact hy2
          obtain ⟨z, hz, e1, e2⟩ := h3 i y hlt hy' m hm
          exact ⟨z, by show z ∈ visTo Z L x.p x.d (bfsTo Z L s q) (movesL Z L x.p).length; rw [hr]; exact List.mem_append_left _ hz, e1, e2⟩
        · have hiq : i = q := by omega
          subst hiq
          have hy2 : (visTo Z L x.p x.d (bfsTo Z L s i) (movesL Z L x.p).length)[i]? = some y := hy
          rw [hq'] at hy2
          injection hy2 with hy2
          subst hy2
          obtain ⟨j, hj, e⟩ := List.mem_iff_getElem.1 (mem_movesL.2 hm)
          obtain ⟨z, hz, e2⟩ := h5 j hj hj
          rw [e] at e2
          exact ⟨z, hz, e2, h4.2 z hz⟩
theorem bfs_closed {Z : Int} {L : List (Int × Int)} {s : List Int} (hp : PlOk Z s.length s) (hZ : Z ≤ 6) (hn : s.length ≤ 4) : ∀ x ∈ bfsL Z L s, Clo Z L (bfsL Z L s) x := by
  intro x hx
  have hl := (tidy_bfs (L := L) hp hn 1296).len hZ hn
  obtain ⟨i, hi, e⟩ := List.mem_iff_getElem.1 hx
  exact (bfs_inv Z L s 1296).2.2 i x (by unfold bfsL at hi; omega) (List.getElem?_eq_some_iff.2 ⟨hi, e⟩)
theorem bfs_start (Z : Int) (L : List (Int × Int)) (s : List Int) : ∀ q, ∃ x ∈ bfsTo Z L s q, x.p = s ∧ x.d = 0
  | 0 => ⟨⟨s, [0, 0, 0, 0], (0, 0), 0⟩, by simp [bfsTo], rfl, rfl⟩
  | q + 1 => by
    obtain ⟨x, hx, h⟩ := bfs_start Z L s q
    rw [bfsTo]
    cases hg : (bfsTo Z L s q)[q]? with
    | none => exact ⟨x, hx, h⟩
    | some y =>
      obtain ⟨r, hr⟩ := visTo_pre Z L y.p y.d (bfsTo Z L s q) _ (Nat.le_refl _)
      exact ⟨x, by show x ∈ visTo Z L y.p y.d (bfsTo Z L s q) (movesL Z L y.p).length; rw [hr]; exact List.mem_append_left _ hx, h⟩
theorem clo_run {Z : Int} {L : List (Int × Int)} {T : List Nd} (hc : ∀ x ∈ T, Clo Z L T x) {s t : List Int} {p : List (Int × Int)} (h : Run Z L s p t) : ∀ x ∈ T, x.p = s → ∃ y ∈ T, y.p = t ∧ y.d ≤ x.d + (p.length : Int) := by
  induction h with
  | nil s => intro x hx e; exact ⟨x, hx, e, by simp⟩
  | cons h _ ih =>
    intro x hx e
    subst e
    obtain ⟨y, hy, e1, e2⟩ := hc x hx _ h
    obtain ⟨z, hz, e3, e4⟩ := ih y hy e1
    exact ⟨z, hz, e3, by rw [List.length_cons]; push_cast; omega⟩
theorem nodup_inj {T : List Nd} (h : (T.map (·.p)).Nodup) : ∀ {x y : Nd}, x ∈ T → y ∈ T → x.p = y.p → x = y := by
  induction T with
  | nil => intro x y hx; cases hx
  | cons a T ih =>
    intro x y hx hy e
    rw [List.map_cons, List.nodup_cons] at h
    rcases List.mem_cons.1 hx with h1 | h1 <;> rcases List.mem_cons.1 hy with h2 | h2
    · rw [h1, h2]
    · exact absurd (List.mem_map.2 ⟨y, h2, by rw [← h1]; exact e.symm⟩) h.1
    · exact absurd (List.mem_map.2 ⟨x, h1, by rw [← h2]; exact e⟩) h.1
    · exact ih h.2 h1 h2 e
/-- A node of the search: a shortest run leads to it. -/
theorem bfs_node {Z : Int} {L : List (Int × Int)} {s : List Int} (hp : PlOk Z s.length s) (hZ : Z ≤ 6) (hn : s.length ≤ 4) {x : Nd} (hx : x ∈ bfsL Z L s) : (∃ p, Run Z L s p x.p ∧ (p.length : Int) = x.d) ∧ ∀ p, Run Z L s p x.p → x.d ≤ (p.length : Int) := by
  have hT := tidy_bfs (L := L) hp hn 1296
  have h0 := (hT.2 x hx).2.2
  constructor
  · obtain ⟨p, h1, h2⟩ := par_run (par_bfs Z L s 1296) hT x.d.toNat x hx (by omega)
    exact ⟨p, h1, by omega⟩
  · intro p hr
    obtain ⟨x0, hx0, e1, e2⟩ := bfs_start Z L s 1296
    obtain ⟨y, hy, e3, e4⟩ := clo_run (bfs_closed hp hZ hn) hr x0 hx0 e1
    have := nodup_inj hT.1 hy hx e3
    subst this
    omega
theorem bfs_run {Z : Int} {L : List (Int × Int)} {s t : List Int} (hp : PlOk Z s.length s) (hZ : Z ≤ 6) (hn : s.length ≤ 4) {p : List (Int × Int)} (hr : Run Z L s p t) : t ∈ (bfsL Z L s).map (·.p) := by
  obtain ⟨x0, hx0, e1, e2⟩ := bfs_start Z L s 1296
  obtain ⟨y, hy, e3, _⟩ := clo_run (bfs_closed hp hZ hn) hr x0 hx0 e1
  exact List.mem_map.2 ⟨y, hy, e3⟩

/-! ## The way back -/
theorem lk_comm (L : List (Int × Int)) (a b : Int) : lk L a b = lk L b a := by unfold lk; rw [Int.min_comm, Int.max_comm]
def revM (s : List Int) (m : Int × Int) : Int × Int := (m.1, s.getD m.1.toNat 0)
theorem rev_move {Z : Int} {L : List (Int × Int)} {s : List Int} {m : Int × Int} {n : Nat} (hs : PlOk Z n s) (h : refuseE Z L s m = 0) : refuseE Z L (doM s m) (revM s m) = 0 ∧ doM (doM s m) (revM s m) = s := by
  obtain ⟨i, h1, hi, hz, hl, hn⟩ := refuseE_ok h
  obtain ⟨m1, z⟩ := m
  simp only at h1 hz hl hn
  subst h1
  have hg : s.getD i 0 = s[i] := by simp [List.getD, List.getElem?_eq_getElem hi]
  have hrm : revM s ((i : Int), z) = ((i : Int), s[i]) := by unfold revM; simp [List.getElem?_eq_getElem hi]
  have hdo : doM s ((i : Int), z) = s.set i z := by simp [doM]
  rw [hrm, hdo]
  constructor
  · refine refuseE_of (by simpa using hi) (hs.2.1 _ (List.getElem_mem hi)) ?_ ?_
    · rw [List.getElem_set_self, lk_comm]; exact hl
    · intro hm
      rw [List.mem_iff_getElem] at hm
      obtain ⟨j, hj, e⟩ := hm
      rw [List.length_set] at hj
      rw [List.getElem_set] at e
      split at e
      · rename_i hij
        subst e
        exact hn (List.getElem_mem hi)
      · rename_i hij
        have := (List.pairwise_iff_getElem.1 hs.2.2)
        rcases Nat.lt_or_gt_of_ne hij with hlt | hgt
        · exact this i j hi hj hlt e.symm
        · exact this j i hj hi hgt e
  · show (s.set i z).set (i : Int).toNat s[i] = s
    rw [Int.toNat_natCast, List.set_set, List.set_getElem_self]
theorem backL_cons (s : List Int) (m : Int × Int) (p : List (Int × Int)) : backL s (m :: p) = backL (doM s m) p ++ [revM s m] := by
  have : ∀ q, backTo s (m :: p) (q + 1) = revM s m :: backTo (doM s m) p q := by
    intro q
    unfold backTo
    rw [List.range_succ_eq_map, List.map_cons, List.map_map]
    congr 1
  unfold backL
  rw [List.length_cons, this, List.reverse_cons]
theorem run_back {Z : Int} {L : List (Int × Int)} {s t : List Int} {p : List (Int × Int)} (h : Run Z L s p t) : ∀ {n : Nat}, PlOk Z n s → Run Z L t (backL s p) s := by
  induction h with
  | nil s => intro n _; simp [backL, backTo]; exact .nil s
  | cons h _ ih =>
    intro n hs
    rw [backL_cons]
    obtain ⟨h1, h2⟩ := rev_move hs h
    have := (ih (hs.move h)).snoc h1
    rw [h2] at this
    exact this
theorem backL_len (s : List Int) (p : List (Int × Int)) : (backL s p).length = p.length := by unfold backL; rw [List.length_reverse, backTo_len]

/-! ## How many places there are -/
def allD : Nat → List (List Int)
  | 0 => [[]]
  | n + 1 => (allD n).flatMap fun p => ([0, 1, 2, 3, 4, 5].filter fun (z : Int) => !decide (z ∈ p)).map fun z => z :: p
theorem mem_allD : ∀ {n : Nat} {s : List Int}, s.length = n → (∀ z ∈ s, 0 ≤ z ∧ z < 6) → s.Nodup → s ∈ allD n
  | 0, s, h, _, _ => by rw [List.eq_nil_of_length_eq_zero h]; simp [allD]
  | n + 1, [], h, _, _ => by simp at h
  | n + 1, z :: s, h, hz, hn => by
    rw [List.nodup_cons] at hn
    have ih := mem_allD (n := n) (s := s) (by simpa using h) (fun x hx => hz x (List.mem_cons_of_mem _ hx)) hn.2
    rw [allD, List.mem_flatMap]
    refine ⟨s, ih, List.mem_map.2 ⟨z, List.mem_filter.2 ⟨?_, by simpa using hn.1⟩, rfl⟩⟩
    have := hz z (by simp)
    obtain ⟨k, rfl⟩ := Int.eq_ofNat_of_zero_le this.1
    have hk : k < 6 := by omega
    match k, hk with
    | 0, _ => simp
    | 1, _ => simp
    | 2, _ => simp
    | 3, _ => simp
    | 4, _ => simp
    | 5, _ => simp
theorem allD_len : ∀ n, n ≤ 4 → (allD n).length ≤ 360
  | 0, _ => by decide
  | 1, _ => by decide
  | 2, _ => by decide +kernel
  | 3, _ => by decide +kernel
  | 4, _ => by decide +kernel
theorem Tidy.len360 {Z : Int} {n : Nat} {T : List Nd} (h : Tidy Z n T) (hZ : Z ≤ 6) (hn : n ≤ 4) : T.length ≤ 360 := by
  have := nodup_le h.1 (m := allD n) (fun s hs => by
    obtain ⟨x, hx, rfl⟩ := List.mem_map.1 hs
    obtain ⟨h1, h2, h3⟩ := (h.2 x hx).1
    exact mem_allD h1 (fun z hz => by have := h2 z hz; omega) h3)
  have h4 := allD_len n hn
  simp at this
  omega
end Go.Proofs.Ytlhbmfaoldajdaa
