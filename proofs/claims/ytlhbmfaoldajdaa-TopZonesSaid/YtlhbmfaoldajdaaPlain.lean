/-
  TRAPS AND PLACES, plain: what the program's functions compute, on lists. No program is named.
-/
namespace Go.Proofs.Ytlhbmfaoldajdaa
theorem take_snoc' {α : Type} (l : List α) (q : Nat) (h : q < l.length) : l.take (q + 1) = l.take q ++ [l[q]] := by rw [List.take_add_one, List.getElem?_eq_getElem h]; rfl
/-- The place of the first x in a list, -1 if there is none. -/
def idxI {α : Type} [DecidableEq α] : List α → α → Int
  | [], _ => -1
  | a :: l, x => if a = x then 0 else if idxI l x < 0 then -1 else idxI l x + 1
theorem idxI_ge {α : Type} [DecidableEq α] : ∀ (l : List α) (x : α), -1 ≤ idxI l x ∧ idxI l x < l.length ∧ (0 ≤ idxI l x ↔ x ∈ l)
  | [], x => by simp [idxI]
  | a :: l, x => by
    have ih := idxI_ge l x
    unfold idxI
    by_cases h : a = x
    · rw [if_pos h]; subst h; simp
    · rw [if_neg h]
      have hm : x ∈ a :: l ↔ x ∈ l := by
        rw [List.mem_cons]; exact ⟨fun h' => h'.resolve_left (fun e => h e.symm), .inr⟩
      rw [hm, ← ih.2.2, List.length_cons]
      split <;> omega
theorem idxI_none {α : Type} [DecidableEq α] {l : List α} {x : α} (h : x ∉ l) : idxI l x = -1 := by
  have := idxI_ge l x
  have h2 : ¬ 0 ≤ idxI l x := fun h0 => h (this.2.2.1 h0)
  omega
theorem idxI_at {α : Type} [DecidableEq α] : ∀ {l : List α} {x : α} {q : Nat} (h : q < l.length), l[q] = x → x ∉ l.take q → idxI l x = q
  | [], _, _, h, _, _ => absurd h (by simp)
  | a :: l, x, 0, _, hx, _ => by simp at hx; simp [idxI, hx]
  | a :: l, x, q + 1, h, hx, hn => by
    rw [List.take_succ_cons, List.mem_cons, not_or] at hn
    have ih := idxI_at (l := l) (x := x) (q := q) (by simpa using h) (by simpa using hx) hn.2
    unfold idxI
    rw [if_neg (fun e => hn.1 e.symm), ih, if_neg (by omega)]
    rfl
theorem idxI_nonneg {α : Type} [DecidableEq α] (l : List α) (x : α) : decide (0 ≤ idxI l x) = decide (x ∈ l) := decide_eq_decide.2 (idxI_ge l x).2.2
/-- .. under a test. -/
def plcI {α : Type} (p : α → Bool) : List α → Int
  | [] => -1
  | a :: l => if p a then 0 else if plcI p l < 0 then -1 else plcI p l + 1
theorem plcI_ge {α : Type} (p : α → Bool) : ∀ (l : List α), -1 ≤ plcI p l ∧ plcI p l < l.length ∧ (0 ≤ plcI p l ↔ l.any p = true)
  | [] => by simp [plcI]
  | a :: l => by
    have ih := plcI_ge p l
    unfold plcI
    rw [List.any_cons, List.length_cons]
    by_cases h : p a = true
    · rw [if_pos h, h]; simp
    · rw [if_neg h, Bool.not_eq_true] at *
      rw [h, Bool.false_or, ← ih.2.2]
      split <;> omega
theorem plcI_none {α : Type} {p : α → Bool} {l : List α} (h : l.any p = false) : plcI p l = -1 := by
  have := plcI_ge p l
  have h2 : ¬ 0 ≤ plcI p l := fun h0 => by have := this.2.2.1 h0; rw [h] at this; cases this
  omega
theorem plcI_at {α : Type} {p : α → Bool} : ∀ {l : List α} {q : Nat} (h : q < l.length), p l[q] = true → (l.take q).any p = false → plcI p l = q
  | [], _, h, _, _ => absurd h (by simp)
  | a :: l, 0, _, hx, _ => by simp at hx; simp [plcI, hx]
  | a :: l, q + 1, h, hx, hn => by
    rw [List.take_succ_cons, List.any_cons, Bool.or_eq_false_iff] at hn
    have ih := plcI_at (p := p) (l := l) (q := q) (by simpa using h) (by simpa using hx) hn.2
    unfold plcI
    rw [if_neg (by rw [hn.1]; decide), ih, if_neg (by omega)]
    rfl
theorem nodup_take {α : Type} {l : List α} {q : Nat} (h : q < l.length) : (l.take (q + 1)).Nodup ↔ (l.take q).Nodup ∧ l[q] ∉ l.take q := by
  rw [take_snoc' l q h, List.nodup_append]
  constructor
  · rintro ⟨h1, _, h3⟩
    exact ⟨h1, fun hm => h3 _ hm _ (by simp) rfl⟩
  · rintro ⟨h1, h2⟩
    exact ⟨h1, by simp, fun a ha b hb e => by rw [List.mem_singleton] at hb; subst hb; subst e; exact h2 ha⟩
theorem mem_take_succ {α : Type} {l : List α} {q : Nat} {x : α} (h : q < l.length) : x ∈ l.take (q + 1) ↔ x ∈ l.take q ∨ x = l[q] := by
  rw [take_snoc' l q h, List.mem_append, List.mem_singleton]

/-- Whether two zones have a link. -/
def lk (L : List (Int × Int)) (a b : Int) : Bool := decide ((min a b, max a b) ∈ L)
def zoneB (Z z : Int) : Bool := decide (0 ≤ z) && decide (z < Z)
def okLk (Z : Int) (p : Int × Int) : Bool := decide (0 ≤ p.1) && (decide (p.2 < Z) && decide (p.1 < p.2))
/-- A trap's error. -/
def vldT (Z : Int) (L : List (Int × Int)) : Int := if 1 ≤ Z ∧ Z ≤ 6 then (if L.all (okLk Z) = true then (if L.Nodup then 0 else 6) else 1) else 1
/-- A place's error in a valid trap. -/
def placedE (Z : Int) (s : List Int) : Int := if s.length ≤ 4 then (if s.all (zoneB Z) = true then (if s.Nodup then 0 else 6) else 1) else 3
def placeE (Z : Int) (L : List (Int × Int)) (s : List Int) : Int := if vldT Z L = 0 then placedE Z s else vldT Z L
def pairZ (Z : Int) (L : List (Int × Int)) (s t : List Int) : Int := if placeE Z L s = 0 then (if placedE Z t = 0 then (if s.length = t.length then 0 else 5) else placedE Z t) else placeE Z L s
theorem vldT_ok {Z : Int} {L : List (Int × Int)} (h : vldT Z L = 0) : 1 ≤ Z ∧ Z ≤ 6 ∧ (∀ p ∈ L, 0 ≤ p.1 ∧ p.2 < Z ∧ p.1 < p.2) ∧ L.Nodup := by
  unfold vldT at h
  split at h
  · rename_i hz
    split at h
    · rename_i ha
      split at h
      · rename_i hn
        refine ⟨hz.1, hz.2, fun p hp => ?_, hn⟩
        have := List.all_eq_true.1 ha p hp
        simp only [okLk, Bool.and_eq_true, decide_eq_true_eq] at this
        exact ⟨this.1, this.2.1, this.2.2⟩
      · omega
    · omega
  · omega
theorem placedE_ok {Z : Int} {s : List Int} (h : placedE Z s = 0) : s.length ≤ 4 ∧ (∀ z ∈ s, 0 ≤ z ∧ z < Z) ∧ s.Nodup := by
  unfold placedE at h
  split at h
  · rename_i hl
    split at h
    · rename_i ha
      split at h
      · rename_i hn
        refine ⟨hl, fun z hz => ?_, hn⟩
        have := List.all_eq_true.1 ha z hz
        simpa [zoneB] using this
      · omega
    · omega
  · omega
theorem placedE_of {Z : Int} {s : List Int} (h1 : s.length ≤ 4) (h2 : ∀ z ∈ s, 0 ≤ z ∧ z < Z) (h3 : s.Nodup) : placedE Z s = 0 := by
  rw [placedE, if_pos h1, if_pos (List.all_eq_true.2 fun z hz => by simpa [zoneB] using h2 z hz), if_pos h3]
theorem placeE_ok {Z : Int} {L : List (Int × Int)} {s : List Int} (h : placeE Z L s = 0) : vldT Z L = 0 ∧ placedE Z s = 0 := by
  unfold placeE at h
  split at h
  · exact ⟨‹_›, h⟩
  · exact absurd h ‹_›
theorem pairZ_ok {Z : Int} {L : List (Int × Int)} {s t : List Int} (h : pairZ Z L s t = 0) : placeE Z L s = 0 ∧ placedE Z t = 0 ∧ s.length = t.length := by
  unfold pairZ at h
  split at h
  · split at h
    · split at h
      · exact ⟨‹_›, ‹_›, ‹_›⟩
      · omega
    · exact absurd h ‹_›
  · exact absurd h ‹_›
/-- The zones. -/
def zonesL (Z : Int) : List Int := (List.range Z.toNat).map fun (i : Nat) => (i : Int)
theorem zonesL_len (Z : Int) : (zonesL Z).length = Z.toNat := by simp [zonesL]
theorem zonesL_get (Z : Int) (i : Nat) (h : i < (zonesL Z).length) : (zonesL Z)[i] = (i : Int) := by simp [zonesL]
theorem mem_zonesL {Z z : Int} : z ∈ zonesL Z ↔ 0 ≤ z ∧ z < Z := by
  unfold zonesL
  rw [List.mem_map]
  constructor
  · rintro ⟨i, hi, rfl⟩; rw [List.mem_range] at hi; omega
  · intro h; exact ⟨z.toNat, by rw [List.mem_range]; omega, by omega⟩
/-- The zones that have a link with a zone. -/
def nearL (Z : Int) (L : List (Int × Int)) (z : Int) : List Int := (zonesL Z).filter (lk L z)
def nearTo (Z : Int) (L : List (Int × Int)) (z : Int) (q : Nat) : List Int := ((zonesL Z).take q).filter (lk L z)
theorem nearTo_succ {Z : Int} {L : List (Int × Int)} {z : Int} {q : Nat} (h : q < Z.toNat) : nearTo Z L z (q + 1) = nearTo Z L z q ++ (if lk L z (q : Int) = true then [(q : Int)] else []) := by
  unfold nearTo
  rw [take_snoc' _ q (by rw [zonesL_len]; exact h), List.filter_append, zonesL_get, List.filter_cons, List.filter_nil]
theorem nearTo_all (Z : Int) (L : List (Int × Int)) (z : Int) : nearTo Z L z Z.toNat = nearL Z L z := by
  unfold nearTo nearL
  rw [List.take_of_length_le (by rw [zonesL_len]; exact Nat.le_refl _)]
theorem mem_nearL {Z : Int} {L : List (Int × Int)} {z y : Int} : y ∈ nearL Z L z ↔ (0 ≤ y ∧ y < Z) ∧ lk L z y = true := by
  rw [nearL, List.mem_filter, mem_zonesL]
theorem nearTo_len (Z : Int) (L : List (Int × Int)) (z : Int) (q : Nat) : (nearTo Z L z q).length ≤ Z.toNat := by
  refine Nat.le_trans (List.length_filter_le _ _) ?_
  rw [List.length_take, zonesL_len]; omega
theorem nearL_len (Z : Int) (L : List (Int × Int)) (z : Int) : (nearL Z L z).length ≤ Z.toNat := by rw [← nearTo_all]; exact nearTo_len ..
end Go.Proofs.Ytlhbmfaoldajdaa
