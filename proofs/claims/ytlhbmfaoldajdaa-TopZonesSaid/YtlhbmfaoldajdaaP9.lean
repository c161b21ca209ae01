/-
  SEQUENCES, plain: a move keeps the sequence; places with one sequence reach each other.
-/
import Derived.Test.YtlhbmfaoldajdaaP8
namespace Go.Proofs.Ytlhbmfaoldajdaa
/-! ## Places along an order -/
def view (s zs : List Int) : List Int := zs.map (idxI s)
def nonB (i : Int) : Bool := decide (0 ≤ i)
theorem seqIn_view (s zs : List Int) : seqIn s zs = (view s zs).filter nonB := rfl
theorem idxI_eq {l : List Int} (h : l.Nodup) {k : Nat} (hk : k < l.length) {x : Int} (e : l[k] = x) : idxI l x = (k : Int) := idxI_at hk e (by
  intro hm
  obtain ⟨j, hj, e2⟩ := List.mem_iff_getElem.1 hm
  rw [List.getElem_take] at e2
  rw [List.length_take] at hj
  have := get_inj h (show j < l.length by omega) hk (e2.trans e.symm)
  omega)
theorem idxI_get {l : List Int} (h : l.Nodup) {x : Int} {k : Nat} (e : idxI l x = (k : Int)) : ∃ hk : k < l.length, l[k] = x := by
  have hm : x ∈ l := (idxI_ge l x).2.2.1 (by omega)
  obtain ⟨j, hj, e2⟩ := List.mem_iff_getElem.1 hm
  have := idxI_eq h hj e2
  have : j = k := by omega
  subst this
  exact ⟨hj, e2⟩
theorem not_mem_set {s : List Int} (h : s.Nodup) {i : Nat} (hi : i < s.length) {z : Int} (hz : z ∉ s) : s[i] ∉ s.set i z := by
  intro hm
  rw [List.mem_iff_getElem] at hm
  obtain ⟨j, hj, e⟩ := hm
  rw [List.length_set] at hj
  rw [List.getElem_set] at e
  split at e
  · subst e
    exact hz (List.getElem_mem hi)
  · rename_i hij
    exact hij (get_inj h hj hi e).symm
theorem idxI_set {s : List Int} (h : s.Nodup) {i : Nat} (hi : i < s.length) {z : Int} (hz : z ∉ s) (x : Int) : idxI (s.set i z) x = if x = z then (i : Int) else if x = s[i] then -1 else idxI s x := by
  have hn := nodup_set (i := i) h hz
  split
  · rename_i e
    subst e
    exact idxI_eq hn (k := i) (by simpa using hi) (by simp)
  · rename_i e1
    split
    · rename_i e2
      subst e2
      exact idxI_none (not_mem_set h hi hz)
    · rename_i e2
      by_cases hm : x ∈ s
      · obtain ⟨k, hk, e⟩ := List.mem_iff_getElem.1 hm
        have hne : i ≠ k := fun e3 => by subst e3; exact e2 e.symm
        rw [idxI_eq h hk e]
        exact idxI_eq hn (k := k) (by simpa using hk) (by rw [List.getElem_set_ne hne]; exact e)
      · rw [idxI_none hm]
        refine idxI_none fun hm2 => ?_
        rcases List.mem_or_eq_of_mem_set hm2 with h1 | h1
        · exact hm h1
        · exact e1 h1
section
variable {Z : Int} {L : List (Int × Int)} {zs : List Int} {r : Bool} {n : Nat} {s t : List Int}
theorem view_len (s zs : List Int) : (view s zs).length = zs.length := by simp [view]
theorem view_at {a : Nat} (h : a < zs.length) : (view s zs)[a]'(by rw [view_len]; exact h) = idxI s zs[a] := by simp [view]
theorem view_move (hw : Way Z L zs r) (hs : PlOk Z n s) {a b x : Nat} (ha : a < zs.length) (hb : b < zs.length) (hx : idxI s zs[a] = (x : Int)) (hf : idxI s zs[b] = -1) (hl : lk L zs[a] zs[b] = true) :
    refuseE Z L s ((x : Int), zs[b]) = 0 ∧ view (doM s ((x : Int), zs[b])) zs = ((view s zs).set a (-1)).set b (x : Int) := by
  obtain ⟨hk, e⟩ := idxI_get hs.2.2 hx
  have hz : zs[b] ∉ s := fun hm => by have := (idxI_ge s zs[b]).2.2.2 hm; omega
  refine ⟨refuseE_of hk ((hw.mem _).1 (List.getElem_mem hb)) (by rw [e]; exact hl) hz, ?_⟩
  have hdo : doM s ((x : Int), zs[b]) = s.set x zs[b] := by simp [doM]
  rw [hdo]
  refine List.ext_getElem (by simp [view]) fun j h1 h2 => ?_
  have hj : j < zs.length := by rw [view_len] at h1; exact h1
  rw [view_at hj, idxI_set hs.2.2 hk hz, List.getElem_set, List.getElem_set, view_at hj]
  by_cases hjb : b = j
  · subst hjb; simp
  · rw [if_neg (fun e1 => hjb (get_inj hw.nd hj hb e1).symm), if_neg hjb, e]
    by_cases hja : a = j
    · subst hja; simp
    · rw [if_neg (fun e1 => hja (get_inj hw.nd hj ha e1).symm), if_neg hja]
theorem view_inj (hw : Way Z L zs r) (hs : PlOk Z n s) (ht : PlOk Z n t) (h : view s zs = view t zs) : s = t := by
  refine List.ext_getElem (by rw [hs.1, ht.1]) fun i h1 h2 => ?_
  obtain ⟨a, ha, e⟩ := List.mem_iff_getElem.1 ((hw.mem s[i]).2 (hs.2.1 _ (List.getElem_mem h1)))
  have e1 := idxI_eq hs.2.2 h1 e.symm
  have e2 : idxI t zs[a] = (i : Int) := by
    rw [← view_at ha, ← e1, ← view_at ha]
    simp only [h]
  obtain ⟨_, e3⟩ := idxI_get ht.2.2 e2
  rw [e3, e]

/-! ## Walks of views -/
def Vto (Z : Int) (L : List (Int × Int)) (zs : List Int) (n : Nat) (v w : List Int) : Prop := ∀ s, PlOk Z n s → view s zs = v → ∃ p t, Run Z L s p t ∧ view t zs = w
theorem Vto.refl (v : List Int) : Vto Z L zs n v v := fun s _ hv => ⟨[], s, .nil s, hv⟩
theorem Vto.trans {u v w : List Int} (h : Vto Z L zs n u v) (h' : Vto Z L zs n v w) : Vto Z L zs n u w := fun s hs hv => by
  obtain ⟨p, t, h1, h2⟩ := h s hs hv
  obtain ⟨q, t', h3, h4⟩ := h' t (h1.plOk hs) h2
  exact ⟨p ++ q, t', h1.append h3, h4⟩
theorem Vto.swap (hw : Way Z L zs r) (p q : List Int) {x : Int} (hx : 0 ≤ x) : Vto Z L zs n (p ++ -1 :: x :: q) (p ++ x :: -1 :: q) := fun s hs hv => by
  obtain ⟨k, rfl⟩ := Int.eq_ofNat_of_zero_le hx
  have hl : zs.length = p.length + (q.length + 2) := by rw [← view_len s zs, hv]; simp
  have ha : p.length + 1 < zs.length := by omega
  have hb : p.length < zs.length := by omega
  have e1 : idxI s zs[p.length + 1] = (k : Int) := by rw [← view_at ha]; simp [hv]
  have e2 : idxI s zs[p.length] = -1 := by rw [← view_at hb]; simp [hv]
  obtain ⟨h1, h2⟩ := view_move hw hs ha hb e1 e2 (by rw [lk_comm]; exact hw.adj _ ha)
  refine ⟨[((k : Int), zs[p.length])], _, .cons h1 (.nil _), ?_⟩
  rw [h2, hv, List.set_append_right _ _ (by omega), List.set_append_right _ _ (by omega)]
  simp
theorem Vto.wrap (hw : Way Z L zs true) (m : List Int) {x : Int} (hx : 0 ≤ x) : Vto Z L zs n (x :: (m ++ [-1])) (-1 :: (m ++ [x])) := fun s hs hv => by
  obtain ⟨k, rfl⟩ := Int.eq_ofNat_of_zero_le hx
  have hl : zs.length = m.length + 2 := by rw [← view_len s zs, hv]; simp
  obtain ⟨_, hlk⟩ := hw.wrap rfl
  have ha : 0 < zs.length := by omega
  have hb : zs.length - 1 < zs.length := by omega
  have hb2 : zs.length - 1 = m.length + 1 := by omega
  have e1 : idxI s zs[0] = (k : Int) := by rw [← view_at ha]; simp [hv]
  have e2 : idxI s zs[zs.length - 1] = -1 := by rw [← view_at hb]; simp [hv, hb2]
  obtain ⟨h1, h2⟩ := view_move hw hs ha hb e1 e2 hlk
  refine ⟨[((k : Int), zs[zs.length - 1])], _, .cons h1 (.nil _), ?_⟩
  rw [h2, hv, hb2]
  simp
theorem Vto.slide (hw : Way Z L zs r) {x : Int} (hx : 0 ≤ x) (q : List Int) : ∀ (k : Nat) (p : List Int), Vto Z L zs n (p ++ (List.replicate k (-1) ++ x :: q)) (p ++ (x :: (List.replicate k (-1) ++ q)))
  | 0, p => by simpa using Vto.refl _
  | k + 1, p => by
    have h1 := Vto.slide hw hx q k (p ++ [-1])
    have h2 := Vto.swap (n := n) hw p (List.replicate k (-1) ++ q) hx
    rw [List.append_assoc, List.append_assoc] at h1
    exact h1.trans h2
def packed (N : Nat) (f : List Int) : List Int := f ++ List.replicate (N - f.length) (-1)
theorem Vto.pack (hw : Way Z L zs r) : ∀ (v p : List Int) (k : Nat), (∀ y ∈ v, -1 ≤ y) → Vto Z L zs n (p ++ (List.replicate k (-1) ++ v)) (p ++ packed (k + v.length) (v.filter nonB))
  | [], p, k, _ => by simpa [packed] using Vto.refl _
  | y :: v, p, k, hy => by
    have hv := fun z hz => hy z (List.mem_cons_of_mem _ hz)
    by_cases h0 : 0 ≤ y
    · have h1 := Vto.slide (n := n) hw h0 v k p
      have h2 := Vto.pack hw v (p ++ [y]) k hv
      rw [List.append_assoc, List.append_assoc] at h2
      have e : packed (k + (y :: v).length) ((y :: v).filter nonB) = [y] ++ packed (k + v.length) (v.filter nonB) := by
        rw [List.filter_cons_of_pos (by simpa [nonB] using h0)]
        unfold packed
        rw [List.length_cons, List.length_cons, show k + (v.length + 1) - ((v.filter nonB).length + 1) = k + v.length - (v.filter nonB).length by omega]
        rfl
      rw [e]
      exact h1.trans h2
    · have hy1 : y = -1 := by have := hy y (by simp); omega
      subst hy1
      have h2 := Vto.pack hw v p (k + 1) hv
      have e : packed (k + ((-1) :: v).length) (((-1) :: v).filter nonB) = packed (k + 1 + v.length) (v.filter nonB) := by
        rw [List.filter_cons_of_neg (by decide), List.length_cons, show k + (v.length + 1) = k + 1 + v.length by omega]
      rw [e]
      rw [List.replicate_succ', List.append_assoc] at h2
      exact h2
theorem filter_all {f : List Int} (h : ∀ y ∈ f, 0 ≤ y) : f.filter nonB = f := List.filter_eq_self.2 fun y hy => by simpa [nonB] using h y hy
theorem filter_rep (k : Nat) : (List.replicate k (-1 : Int)).filter nonB = [] := by
  rw [List.filter_eq_nil_iff]
  intro y hy
  rw [(List.mem_replicate.1 hy).2]; decide
theorem Vto.rot (hw : Way Z L zs true) {f : List Int} {x : Int} {N : Nat} (hx : 0 ≤ x) (hf : ∀ y ∈ f, 0 ≤ y) (hN : f.length + 1 < N) : Vto Z L zs n (packed N (x :: f)) (packed N (f ++ [x])) := by
  obtain ⟨k, rfl⟩ : ∃ k, N = f.length + 2 + k := ⟨N - (f.length + 2), by omega⟩
  have e1 : packed (f.length + 2 + k) (x :: f) = x :: ((f ++ List.replicate k (-1)) ++ [-1]) := by
    unfold packed
    rw [List.length_cons, show f.length + 2 + k - (f.length + 1) = k + 1 by omega, List.replicate_succ', List.cons_append, List.append_assoc]
  have h1 := Vto.wrap (n := n) hw (f ++ List.replicate k (-1)) hx
  have h2 := Vto.pack (n := n) hw (-1 :: ((f ++ List.replicate k (-1)) ++ [x])) [] 0 (fun y hy => by
    simp at hy
    rcases hy with h | h | h | h
    · omega
    · have := hf y h; omega
    · omega
    · omega)
  have e2 : (-1 :: ((f ++ List.replicate k (-1)) ++ [x])).filter nonB = f ++ [x] := by
    rw [List.filter_cons_of_neg (by decide), List.filter_append, List.filter_append, filter_all hf, filter_rep, List.append_nil, filter_all (f := [x]) (fun y hy => by simp at hy; subst hy; exact hx)]
  rw [e2] at h2
  have e3 : 0 + (-1 :: ((f ++ List.replicate k (-1)) ++ [x])).length = f.length + 2 + k := by simp; omega
  rw [e3] at h2
  rw [e1]
  exact h1.trans (by simpa using h2)
theorem Vto.rots (hw : Way Z L zs true) {N : Nat} : ∀ (a b : List Int), (∀ y ∈ a, 0 ≤ y) → (∀ y ∈ b, 0 ≤ y) → a.length + b.length < N → Vto Z L zs n (packed N (a ++ b)) (packed N (b ++ a))
  | [], b, _, _, _ => by simpa using Vto.refl _
  | x :: a, b, ha, hb, hN => by
    have ha' := fun y hy => ha y (List.mem_cons_of_mem _ hy)
    have hx := ha x (by simp)
    have hN' : a.length + 1 + b.length < N := by simpa using hN
    have h1 := Vto.rot (n := n) (N := N) hw (f := a ++ b) hx (fun y hy => by
      rcases List.mem_append.1 hy with h | h
      · exact ha' y h
      · exact hb y h) (by rw [List.length_append]; omega)
    have h2 := Vto.rots (N := N) hw a (b ++ [x]) ha' (fun y hy => by
      rcases List.mem_append.1 hy with h | h
      · exact hb y h
      · rw [List.mem_singleton] at h; subst h; exact hx) (by rw [List.length_append, List.length_singleton]; omega)
    rw [List.append_assoc] at h1
    rw [List.append_assoc b [x] a] at h2
    exact h1.trans h2
theorem rotZ_ex (l : List Int) : ∃ a b, l = a ++ b ∧ rotZ l = b ++ a := by
  unfold rotZ
  split
  · exact ⟨_, _, (List.take_append_drop _ l).symm, rfl⟩
  · exact ⟨[], l, by simp, by simp⟩
theorem view_ge (s zs : List Int) : ∀ y ∈ view s zs, -1 ≤ y := fun y hy => by
  obtain ⟨z, _, rfl⟩ := List.mem_map.1 hy
  exact (idxI_ge s z).1
theorem seqIn_nonneg (s zs : List Int) : ∀ y ∈ seqIn s zs, 0 ≤ y := fun y hy => by
  have := (List.mem_filter.1 hy).2
  simpa using this
theorem to_packed (hw : Way Z L zs r) (hs : PlOk Z n s) : ∃ p t, Run Z L s p t ∧ view t zs = packed zs.length (seqIn s zs) := by
  have h := Vto.pack (n := n) hw (view s zs) [] 0 (view_ge s zs)
  have := h s hs (by simp)
  rw [view_len] at this
  rw [seqIn_view]
  simpa using this
theorem meet (hw : Way Z L zs r) (hs : PlOk Z n s) (ht : PlOk Z n t) {w : List Int} (h1 : ∃ p u, Run Z L s p u ∧ view u zs = w) (h2 : ∃ p u, Run Z L t p u ∧ view u zs = w) : ∃ p, Run Z L s p t := by
  obtain ⟨p, u, r1, e1⟩ := h1
  obtain ⟨q, u', r2, e2⟩ := h2
  have : u = u' := view_inj hw (r1.plOk hs) (r2.plOk ht) (e1.trans e2.symm)
  subst this
  exact ⟨_, r1.append (run_back r2 ht)⟩
theorem line_reach (hw : Way Z L zs false) (hs : PlOk Z n s) (ht : PlOk Z n t) (h : seqIn s zs = seqIn t zs) : ∃ p, Run Z L s p t :=
  meet hw hs ht (to_packed hw hs) (by rw [h]; exact to_packed hw ht)
theorem seqIn_count (hw : Way Z L zs r) (hs : PlOk Z n s) : (seqIn s zs).length ≤ n := by
  have hnd : (seqIn s zs).Nodup := by
    rw [seqIn_view]
    refine (List.pairwise_filter).2 ((List.pairwise_map).2 (hw.nd.imp ?_))
    intro z z' hne h1 _ e
    obtain ⟨k, hk⟩ := Int.eq_ofNat_of_zero_le (of_decide_eq_true h1)
    obtain ⟨_, e1⟩ := idxI_get hs.2.2 hk
    obtain ⟨_, e2⟩ := idxI_get hs.2.2 (e ▸ hk)
    exact hne (e1.symm.trans e2)
  have := nodup_le hnd (m := (List.range n).map fun (i : Nat) => (i : Int)) (fun y hy => by
    obtain ⟨h1, h2⟩ := List.mem_filter.1 hy
    obtain ⟨z, _, rfl⟩ := List.mem_map.1 h1
    obtain ⟨k, hk⟩ := Int.eq_ofNat_of_zero_le (of_decide_eq_true h2)
    obtain ⟨hk2, _⟩ := idxI_get hs.2.2 hk
    exact List.mem_map.2 ⟨k, List.mem_range.2 (by rw [← hs.1]; exact hk2), hk.symm⟩)
  simpa using this
theorem ring_packed (hw : Way Z L zs true) (hs : PlOk Z n s) (hn : n < zs.length) : ∃ p t, Run Z L s p t ∧ view t zs = packed zs.length (rotZ (seqIn s zs)) := by
  obtain ⟨a, b, e1, e2⟩ := rotZ_ex (seqIn s zs)
  have hc := seqIn_count hw hs
  have hnn := seqIn_nonneg s zs
  obtain ⟨p, t, h1, h2⟩ := to_packed hw hs
  rw [e1] at hc hnn h2
  rw [List.length_append] at hc
  obtain ⟨q, u, h3, h4⟩ := Vto.rots (n := n) (N := zs.length) hw a b (fun y hy => hnn y (List.mem_append_left _ hy)) (fun y hy => hnn y (List.mem_append_right _ hy)) (by omega) t (h1.plOk hs) h2
  exact ⟨p ++ q, u, h1.append h3, by rw [e2]; exact h4⟩
theorem ring_reach (hw : Way Z L zs true) (hs : PlOk Z n s) (ht : PlOk Z n t) (hn : n < zs.length) (h : rotZ (seqIn s zs) = rotZ (seqIn t zs)) : ∃ p, Run Z L s p t :=
  meet hw hs ht (ring_packed hw hs hn) (by rw [h]; exact ring_packed hw ht hn)

/-! ## A move keeps the sequence -/
theorem filt_swap1 {x : Int} (hx : 0 ≤ x) : ∀ (v : List Int) (a : Nat) (h : a + 1 < v.length), v[a] = x → v[a + 1] = -1 → ((v.set a (-1)).set (a + 1) x).filter nonB = v.filter nonB
  | [], a, h, _, _ => by simp at h
  | [y], a, h, _, _ => by simp at h
  | y :: z :: q, 0, h, e1, e2 => by
    simp at e1 e2
    subst e1 e2
    have : nonB y = true := by simpa [nonB] using hx
    simp [List.filter_cons, this, show nonB (-1) = false from by decide]
  | y :: z :: q, a + 1, h, e1, e2 => by
    have ih := filt_swap1 hx (z :: q) a (by simpa using h) (by simpa using e1) (by simpa using e2)
    rw [List.set_cons_succ, List.set_cons_succ, List.filter_cons, List.filter_cons, ih]
theorem filt_swap2 {x : Int} (hx : 0 ≤ x) : ∀ (v : List Int) (a : Nat) (h : a + 1 < v.length), v[a] = -1 → v[a + 1] = x → ((v.set (a + 1) (-1)).set a x).filter nonB = v.filter nonB
  | [], a, h, _, _ => by simp at h
  | [y], a, h, _, _ => by simp at h
  | y :: z :: q, 0, h, e1, e2 => by
    simp at e1 e2
    subst e1 e2
    have : nonB z = true := by simpa [nonB] using hx
    simp [List.filter_cons, this, show nonB (-1) = false from by decide]
  | y :: z :: q, a + 1, h, e1, e2 => by
    have ih := filt_swap2 hx (z :: q) a (by simpa using h) (by simpa using e1) (by simpa using e2)
    rw [List.set_cons_succ, List.set_cons_succ, List.filter_cons, List.filter_cons, ih]
theorem rotZ_split {f1 f2 : List Int} (h : (0 : Int) ∉ f1) : rotZ (f1 ++ 0 :: f2) = 0 :: f2 ++ f1 := by
  have e : idxI (f1 ++ 0 :: f2) 0 = (f1.length : Int) := idxI_at (by simp) (by simp) (by simpa using h)
  unfold rotZ
  rw [e]
  split
  · simp
  · have : f1 = [] := List.eq_nil_of_length_eq_zero (by omega)
    subst this; simp
theorem rotZ_turn {x : Int} {f : List Int} (hn : (x :: f).Nodup) (h0 : (0 : Int) ∈ x :: f) : rotZ (x :: f) = rotZ (f ++ [x]) := by
  rw [List.nodup_cons] at hn
  by_cases hx : x = 0
  · subst hx
    have h1 := rotZ_split (f1 := []) (f2 := f) (by simp)
    have h2 := rotZ_split (f1 := f) (f2 := []) hn.1
    rw [h2]
    rw [List.nil_append, List.append_nil] at h1
    rw [h1]; simp
  · have hm : (0 : Int) ∈ f := by
      rcases List.mem_cons.1 h0 with h | h
      · exact absurd h.symm hx
      · exact h
    obtain ⟨f1, f2, rfl⟩ := List.append_of_mem hm
    have hf1 : (0 : Int) ∉ f1 := fun hm1 => by
      have := (List.nodup_append.1 hn.2).2.2 0 hm1 0 (by simp)
      exact this rfl
    have h1 := rotZ_split (f1 := x :: f1) (f2 := f2) (by rw [List.mem_cons, not_or]; exact ⟨fun h => hx h.symm, hf1⟩)
    have h2 := rotZ_split (f1 := f1) (f2 := f2 ++ [x]) hf1
    rw [← List.cons_append, h1]
    rw [show f1 ++ 0 :: f2 ++ [x] = f1 ++ 0 :: (f2 ++ [x]) by simp, h2]
    simp
theorem seqIn_nodup (hw : Way Z L zs r) (hs : PlOk Z n s) : (seqIn s zs).Nodup := by
  rw [seqIn_view]
  refine (List.pairwise_filter).2 ((List.pairwise_map).2 (hw.nd.imp ?_))
  intro z z' hne h1 _ e
  obtain ⟨k, hk⟩ := Int.eq_ofNat_of_zero_le (of_decide_eq_true h1)
  obtain ⟨_, e1⟩ := idxI_get hs.2.2 hk
  obtain ⟨_, e2⟩ := idxI_get hs.2.2 (e ▸ hk)
  exact hne (e1.symm.trans e2)
theorem zero_mem (hw : Way Z L zs r) (hs : PlOk Z n s) (hn : 0 < n) : (0 : Int) ∈ seqIn s zs := by
  have h0 : 0 < s.length := by rw [hs.1]; exact hn
  rw [seqIn_view]
  refine List.mem_filter.2 ⟨List.mem_map.2 ⟨s[0], (hw.mem _).2 (hs.2.1 _ (List.getElem_mem h0)), idxI_eq hs.2.2 h0 rfl⟩, rfl⟩
/-- The move in the view. -/
theorem move_view (hw : Way Z L zs r) (hs : PlOk Z n s) {m : Int × Int} (h : refuseE Z L s m = 0) : ∃ (a b x : Nat) (ha : a < zs.length) (hb : b < zs.length), x < n ∧ idxI s zs[a] = (x : Int) ∧ idxI s zs[b] = -1 ∧ lk L zs[a] zs[b] = true ∧ view (doM s m) zs = ((view s zs).set a (-1)).set b (x : Int) := by
  obtain ⟨i, h1, hi, hz, hl, hn⟩ := refuseE_ok h
  obtain ⟨m1, z⟩ := m
  simp only at h1 hz hl hn
  subst h1
  obtain ⟨a, ha, e⟩ := List.mem_iff_getElem.1 ((hw.mem s[i]).2 (hs.2.1 _ (List.getElem_mem hi)))
  obtain ⟨b, hb, e'⟩ := List.mem_iff_getElem.1 ((hw.mem z).2 hz)
  have e1 := idxI_eq hs.2.2 hi e.symm
  have e2 : idxI s zs[b] = -1 := by rw [e']; exact idxI_none hn
  have e3 : lk L zs[a] zs[b] = true := by rw [e, e']; exact hl
  have := (view_move hw hs ha hb e1 e2 e3).2
  rw [e'] at this
  exact ⟨a, b, i, ha, hb, by rw [← hs.1]; exact hi, e1, e2, e3, this⟩
theorem line_move (hw : Way Z L zs false) (hs : PlOk Z n s) {m : Int × Int} (h : refuseE Z L s m = 0) : seqIn (doM s m) zs = seqIn s zs := by
  obtain ⟨a, b, x, ha, hb, _, e1, e2, e3, e4⟩ := move_view hw hs h
  rw [seqIn_view, seqIn_view, e4]
  rw [← view_at ha] at e1
  rw [← view_at hb] at e2
  rcases hw.only a b ha hb e3 with h1 | h1 | h1
  · subst h1; exact filt_swap1 (by omega) _ a (by rw [view_len]; exact hb) e1 e2
  · subst h1; exact filt_swap2 (by omega) _ b (by rw [view_len]; exact ha) e2 e1
  · cases h1.1
theorem ends_list {v : List Int} {y z : Int} (h : 1 < v.length) (h1 : v[0] = y) (h2 : v[v.length - 1] = z) : ∃ m, v = y :: (m ++ [z]) := by
  match v, h with
  | a :: b :: q, _ =>
    simp at h1
    subst h1
    have hne : b :: q ≠ [] := by simp
    refine ⟨(b :: q).dropLast, ?_⟩
    have e : (b :: q).getLast hne = z := by rw [List.getLast_eq_getElem]; simpa using h2
    rw [← e, List.dropLast_concat_getLast]
theorem ring_move (hw : Way Z L zs true) (hs : PlOk Z n s) {m : Int × Int} (h : refuseE Z L s m = 0) : rotZ (seqIn (doM s m) zs) = rotZ (seqIn s zs) := by
  obtain ⟨a, b, x, ha, hb, hxn, e1, e2, e3, e4⟩ := move_view hw hs h
  have hnd := seqIn_nodup hw hs
  have h0 := zero_mem hw hs (by omega)
  have hnd' := seqIn_nodup hw (hs.move h)
  have h0' := zero_mem hw (hs.move h) (by omega)
  have hx : 0 ≤ (x : Int) := by omega
  have hxb : nonB (x : Int) = true := by simp [nonB]
  rw [seqIn_view] at hnd h0 hnd' h0' ⊢
  rw [seqIn_view, e4]
  rw [e4] at hnd' h0'
  rw [← view_at ha] at e1
  rw [← view_at hb] at e2
  rcases hw.only a b ha hb e3 with h1 | h1 | ⟨_, ⟨h1, h2⟩ | ⟨h1, h2⟩⟩
  · subst h1; rw [filt_swap1 (by omega) _ a (by rw [view_len]; exact hb) e1 e2]
  · subst h1; rw [filt_swap2 (by omega) _ b (by rw [view_len]; exact ha) e2 e1]
  · subst h1
    have hb2 : b = zs.length - 1 := by omega
    subst hb2
    obtain ⟨hz, _⟩ := hw.wrap rfl
    obtain ⟨m, hm⟩ := ends_list (v := view s zs) (by rw [view_len]; omega) e1 (by simpa [view_len] using e2)
    have hl : zs.length - 1 = m.length + 1 := by have := view_len s zs; rw [hm] at this; simp at this; omega
    have ef : (view s zs).filter nonB = (x : Int) :: m.filter nonB := by
      rw [hm, List.filter_cons_of_pos hxb, List.filter_append, show List.filter nonB [-1] = [] from rfl, List.append_nil]
    have eg : (((view s zs).set 0 (-1)).set (zs.length - 1) (x : Int)).filter nonB = m.filter nonB ++ [(x : Int)] := by
      rw [hm, hl, List.set_cons_zero, List.set_cons_succ, List.set_append_right _ _ (by omega), List.filter_cons_of_neg (by decide), List.filter_append]
      simp [List.filter_cons, hxb]
    rw [ef] at hnd h0 ⊢
    rw [eg]
    exact (rotZ_turn hnd h0).symm
  · subst h1
    have ha2 : a = zs.length - 1 := by omega
    subst ha2
    obtain ⟨hz, _⟩ := hw.wrap rfl
    obtain ⟨m, hm⟩ := ends_list (v := view s zs) (by rw [view_len]; omega) e2 (by simpa [view_len] using e1)
    have hl : zs.length - 1 = m.length + 1 := by have := view_len s zs; rw [hm] at this; simp at this; omega
    have ef : (view s zs).filter nonB = m.filter nonB ++ [(x : Int)] := by
      rw [hm, List.filter_cons_of_neg (by decide), List.filter_append]
      simp [List.filter_cons, hxb]
    have eg : (((view s zs).set (zs.length - 1) (-1)).set 0 (x : Int)).filter nonB = (x : Int) :: m.filter nonB := by
      rw [hm, hl, List.set_cons_succ, List.set_cons_zero, List.set_append_right _ _ (by omega), List.filter_cons_of_pos hxb, List.filter_append]
      simp [List.filter_cons, show nonB (-1) = false from by decide]
    rw [eg] at hnd' h0' ⊢
    rw [ef]
    exact rotZ_turn hnd' h0'
end
/-- The sequence stays on a run. -/
theorem seq_run {Z : Int} {L : List (Int × Int)} {n : Nat} {s t : List Int} {p : List (Int × Int)} (hz : 1 ≤ Z) (ho : (ordP Z L).2 = true) (h : Run Z L s p t) : PlOk Z n s → seqR Z L t = seqR Z L s := by
  have key : ∀ (s : List Int) (m : Int × Int), PlOk Z n s → refuseE Z L s m = 0 → seqR Z L (doM s m) = seqR Z L s := by
    intro s m hs hm
    unfold seqR
    rw [if_pos ho, if_pos ho]
    unfold ordP at ho ⊢
    by_cases hl : (lineP Z L).2 = true
    · rw [if_pos hl, if_pos hl, if_pos hl]
      exact line_move (way_lineP hz hl) hs hm
    · rw [if_neg hl] at ho
      rw [if_neg hl, if_neg hl, if_neg hl]
      exact ring_move (way_ringP ho) hs hm
  induction h with
  | nil => intro _; rfl
  | cons h _ ih => intro hs; rw [ih (hs.move h), key _ _ hs h]
/-- Places with one sequence reach each other. -/
theorem run_seq {Z : Int} {L : List (Int × Int)} {n : Nat} {s t : List Int} (hz : 1 ≤ Z) (ho : (ordP Z L).2 = true) (hs : PlOk Z n s) (ht : PlOk Z n t) (hn : (n : Int) ≠ Z) (h : seqR Z L t = seqR Z L s) : ∃ p, Run Z L s p t := by
  unfold seqR at h
  rw [if_pos ho, if_pos ho] at h
  unfold ordP at ho h
  by_cases hl : (lineP Z L).2 = true
  · rw [if_pos hl, if_pos hl, if_pos hl] at h
    exact line_reach (way_lineP hz hl) hs ht h.symm
  · rw [if_neg hl] at ho
    rw [if_neg hl, if_neg hl, if_neg hl] at h
    have hw := way_ringP ho
    have hle : n ≤ Z.toNat := by have := zones_le hs.2.2 hs.2.1; rw [hs.1] at this; exact this
    exact ring_reach hw hs ht (by have := hw.len; omega) h.symm
end Go.Proofs.Ytlhbmfaoldajdaa
