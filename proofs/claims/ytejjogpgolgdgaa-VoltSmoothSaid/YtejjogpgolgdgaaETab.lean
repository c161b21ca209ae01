/-
  WORDS FOR ENDS: rows of structs (voltages, jump, before), and tables of such rows. No program is named.
-/
import Derived.Test.YtejjogpgolgdgaaTabR
namespace Go.Proofs.Ytejjogpgolgdgaa
open Go.RowKit

/-- Voltages at which a course can end, its jump, and the place of the end before. -/
structure End where
  v : List Int
  j : Int
  b : Int
/-- The cells of a row of ends, hs: the headers of the voltages. -/
def endCells : List Value → List End → List Value
  | h :: hs, e :: es => h :: .int .i64 e.j :: .int .i64 e.b :: endCells hs es
  | _, _ => []
theorem endCells_len : ∀ {hs : List Value} {es : List End}, hs.length = es.length → (endCells hs es).length = es.length * 3
  | [], [], _ => rfl
  | h :: hs, e :: es, hl => by
    have := endCells_len (hs := hs) (es := es) (by simpa using hl)
    simp only [endCells, List.length_cons, this]; omega
theorem endCells_snoc : ∀ {hs : List Value} {es : List End} (h : Value) (e : End), hs.length = es.length → endCells (hs ++ [h]) (es ++ [e]) = endCells hs es ++ [h, .int .i64 e.j, .int .i64 e.b]
  | [], [], _, _, _ => rfl
  | _ :: hs, _ :: es, h, e, hl => by
    simp only [List.cons_append, endCells]
    rw [endCells_snoc h e (by simpa using hl)]
theorem endCells_get : ∀ {hs : List Value} {es : List End} (i : Nat) (h : Value) (e : End), hs[i]? = some h → es[i]? = some e → (endCells hs es)[i * 3]? = some h ∧ (endCells hs es)[i * 3 + 1]? = some (.int .i64 e.j) ∧ (endCells hs es)[i * 3 + 2]? = some (.int .i64 e.b)
  | x :: hs, y :: es, 0, h, e, h1, h2 => by
    injection h1 with h1
    injection h2 with h2
    subst h1 h2
    exact ⟨rfl, rfl, rfl⟩
  | x :: hs, y :: es, i + 1, h, e, h1, h2 => by
    have := endCells_get (hs := hs) (es := es) i h e h1 h2
    simp only [endCells, show (i + 1) * 3 = i * 3 + 3 by omega, show i * 3 + 3 + 1 = (i * 3 + 1) + 3 by omega, show i * 3 + 3 + 2 = (i * 3 + 2) + 3 by omega, List.getElem?_cons_succ]
    exact this
  | [], _, _, _, _, h1, _ => by simp at h1
  | _ :: _, [], _, _, _, _, h2 => by simp at h2
theorem endCells_one {w : World} {B : Nat} {X : Nat → Prop} : ∀ {hs : List Value} {es : List End}, Tab w B X hs (es.map (·.v)) → ((endCells hs es).all fun u => u.oneCell') = true
  | [], _, _ => by simp [endCells]
  | _ :: _, [], _ => rfl
  | h :: hs, e :: es, ht => by
    have h0 := ht.headers
    simp only [List.all_cons, Bool.and_eq_true] at h0
    have hl := ht.1
    have ht' : Tab w B X hs (es.map (·.v)) := ⟨by simpa using hl, fun i v p hv hp => ht.2 (i + 1) v p hv hp⟩
    simp only [endCells, List.all_cons, Bool.and_eq_true]
    exact ⟨h0.1, rfl, rfl, endCells_one ht'⟩

/-- The value reads as a row of ends; what it reads lies below B, and in no block of X. -/
def ERow (w : World) (B : Nat) (X : Nat → Prop) (v : Value) (es : List End) : Prop :=
  ∃ A c hs, v = .slice A es.length c ∧ es.length ≤ c ∧ c ≤ maxLen ∧ Rd w B 3 A es.length (endCells hs es) ∧ (∀ b off f, 0 < es.length → A = some ⟨b, off, f⟩ → ¬ X b) ∧ Tab w B X hs (es.map (·.v))
def ETab (w : World) (B : Nat) (X : Nat → Prop) (vs : List Value) (ps : List (List End)) : Prop :=
  vs.length = ps.length ∧ ∀ (i : Nat) v p, vs[i]? = some v → ps[i]? = some p → ERow w B X v p

section
variable {w w' : World} {B B' : Nat} {X X' : Nat → Prop} {v : Value} {p : List End} {vs : List Value} {ps : List (List End)}
theorem ERow.keep (h : ERow w B X v p) (hk : ∀ a : Addr, a.block < B → ¬ X a.block → w'.cell? a = w.cell? a) : ERow w' B X v p := by
  obtain ⟨A, c, hs, e, h1, h2, h3, h4, h5⟩ := h
  refine ⟨A, c, hs, e, h1, h2, ⟨h3.1, fun hn => ?_⟩, h4, h5.keep hk⟩
  obtain ⟨b, off, e, hb, hc⟩ := h3.2 hn
  exact ⟨b, off, e, hb, fun j u hu => (hk ⟨b, off + j, none⟩ hb (h4 b off none hn e)).trans (hc j u hu)⟩
theorem ERow.more (h : ERow w B X v p) (hB : B ≤ B') : ERow w B' X v p := by
  obtain ⟨A, c, hs, e, h1, h2, h3, h4, h5⟩ := h
  exact ⟨A, c, hs, e, h1, h2, h3.more hB, h4, h5.more hB⟩
theorem ERow.at (h : ERow w B X v p) (hX : ∀ g, X' g → X g ∨ B ≤ g) : ERow w B X' v p := by
  obtain ⟨A, c, hs, e, h1, h2, h3, h4, h5⟩ := h
  refine ⟨A, c, hs, e, h1, h2, h3, fun b off f hn ha he => ?_, h5.at hX⟩
  obtain ⟨b', off', e', hb, _⟩ := h3.2 hn
  rcases hX b he with h | h
  · exact h4 b off f hn ha h
  · rw [ha] at e'
    injection e' with e'
    injection e' with e1
    omega
theorem ERow.below (h : ERow w B X v p) (hb : Below B' w w') (hB : B ≤ B') : ERow w' B X v p := h.keep fun _ ha _ => hb.cell (by omega)
theorem ERow.alloc (h : ERow w B X v p) (hB : B ≤ w.heap.size) (o : Obj) : ERow (w.alloc o) B X v p := h.keep fun a ha _ => World.cell?_alloc_lt w o a (by omega)
theorem ERow.grown {row : Option Nat} (h : ERow w B X v p) (hg : w.grownBy w' row) (hr : ∀ g, row = some g → X g) (hB : B ≤ w.heap.size) : ERow w' B X v p :=
  h.keep fun a ha hne => World.cell?_of_block (hg.block a.block (by omega) (fun e => hne (hr _ e.symm)))
theorem ERow.setCell (h : ERow w B X v p) {a : Addr} (hX : X a.block) (u : Value) : ERow (w.setCell a u) B X v p :=
  h.keep fun q _ hne => World.cell?_setCell_other w a q u (fun e => by subst e; exact hne hX)
/-- End i: its three cells, and what its voltages read as. -/
theorem ERow.get (h : ERow w B X v p) {i : Nat} (hi : i < p.length) : ∃ b off c A' c', v = .slice (some ⟨b, off, none⟩) p.length c ∧ b < B ∧ ¬ X b ∧ w.cell? ⟨b, off + i * 3, none⟩ = some (.slice A' p[i].v.length c') ∧ w.cell? ⟨b, off + i * 3 + 1, none⟩ = some (.int .i64 p[i].j) ∧ w.cell? ⟨b, off + i * 3 + 2, none⟩ = some (.int .i64 p[i].b) ∧ RowAt w B X (.slice A' p[i].v.length c') p[i].v := by
  obtain ⟨A, c, hs, rfl, h1, h2, h3, h4, h5⟩ := h
  obtain ⟨u, hu, hr⟩ := h5.row (i := i) (by simpa using hi)
  have e0 : (p.map (·.v))[i]'(by simpa using hi) = p[i].v := by simp
  simp only [e0] at hr
  have hr2 := hr
  obtain ⟨A', c', rfl, _, _, _, _⟩ := hr
  obtain ⟨b, off, rfl, hb, hc⟩ := h3.2 (by omega)
  obtain ⟨k0, k1, k2⟩ := endCells_get i _ p[i] hu (List.getElem?_eq_getElem hi)
  refine ⟨b, off, c, A', c', rfl, hb, h4 b off none (by omega) rfl, hc _ _ k0, ?_, ?_, hr2⟩
  · have := hc _ _ k1; rw [← Nat.add_assoc] at this; exact this
  · have := hc _ _ k2; rw [← Nat.add_assoc] at this; exact this
theorem ERow.cap (h : ERow w B X v p) : ∃ A c, v = .slice A p.length c ∧ p.length ≤ c ∧ c ≤ maxLen := by
  obtain ⟨A, c, hs, e, h1, h2, _⟩ := h
  exact ⟨A, c, e, h1, h2⟩
theorem ERow.nil : ERow w B X (.slice none 0 0) [] := ⟨none, 0, [], rfl, Nat.le_refl _, Nat.zero_le _, Rd.nil, fun _ _ _ hn _ => absurd hn (by simp), Tab.nil⟩
/-- A row of the call's own. -/
theorem ERow.of_own {base : Nat} {e : TypeId} {hs : List Value} (h : w.ownsRow base e 3 v p.length (endCells hs p)) (ht : Tab w w.heap.size X hs (p.map (·.v))) (hX : ∀ g, v.ownBlock = some g → ¬ X g) : ERow w w.heap.size X v p := by
  obtain ⟨A, c, rfl, h1, h2⟩ := own_cap h
  exact ⟨A, c, hs, rfl, h1, h2, Rd.of_own h, fun b off f hn ha he => hX b (by rw [ha]; rfl) he, ht⟩

theorem ETab.nil : ETab w B X [] [] := ⟨rfl, fun i v p h => by simp at h⟩
theorem ETab.keep (h : ETab w B X vs ps) (hk : ∀ a : Addr, a.block < B → ¬ X a.block → w'.cell? a = w.cell? a) : ETab w' B X vs ps := ⟨h.1, fun i v p hv hp => (h.2 i v p hv hp).keep hk⟩
theorem ETab.more (h : ETab w B X vs ps) (hB : B ≤ B') : ETab w B' X vs ps := ⟨h.1, fun i v p hv hp => (h.2 i v p hv hp).more hB⟩
theorem ETab.at (h : ETab w B X vs ps) (hX : ∀ g, X' g → X g ∨ B ≤ g) : ETab w B X' vs ps := ⟨h.1, fun i v p hv hp => (h.2 i v p hv hp).at hX⟩
theorem ETab.below (h : ETab w B X vs ps) (hb : Below B' w w') (hB : B ≤ B') : ETab w' B X vs ps := ⟨h.1, fun i v p hv hp => (h.2 i v p hv hp).below hb hB⟩
theorem ETab.alloc (h : ETab w B X vs ps) (hB : B ≤ w.heap.size) (o : Obj) : ETab (w.alloc o) B X vs ps := ⟨h.1, fun i v p hv hp => (h.2 i v p hv hp).alloc hB o⟩
theorem ETab.grown {row : Option Nat} (h : ETab w B X vs ps) (hg : w.grownBy w' row) (hr : ∀ g, row = some g → X g) (hB : B ≤ w.heap.size) : ETab w' B X vs ps := ⟨h.1, fun i v p hv hp => (h.2 i v p hv hp).grown hg hr hB⟩
theorem ETab.setCell (h : ETab w B X vs ps) {a : Addr} (hX : X a.block) (u : Value) : ETab (w.setCell a u) B X vs ps := ⟨h.1, fun i v p hv hp => (h.2 i v p hv hp).setCell hX u⟩
theorem ETab.snoc (h : ETab w B X vs ps) (hr : ERow w B X v p) : ETab w B X (vs ++ [v]) (ps ++ [p]) := by
  refine ⟨by simp [h.1], fun i u q hu hq => ?_⟩
  rcases Nat.lt_or_ge i vs.length with hi | hi
  · rw [List.getElem?_append_left hi] at hu
    rw [List.getElem?_append_left (by rw [← h.1]; exact hi)] at hq
    exact h.2 i u q hu hq
  · rw [List.getElem?_append_right hi] at hu
    rw [List.getElem?_append_right (by rw [← h.1]; exact hi)] at hq
    rw [h.1] at hu
    obtain ⟨h1, h2⟩ := List.getElem?_eq_some_iff.1 hu
    simp at h1
    have h0 : i - ps.length = 0 := by omega
    rw [h0] at hu hq
    simp at hu hq
    subst hu hq
    exact hr
theorem ETab.row (h : ETab w B X vs ps) {i : Nat} (hi : i < ps.length) : ∃ v, vs[i]? = some v ∧ ERow w B X v ps[i] := by
  have h1 : i < vs.length := by rw [h.1]; exact hi
  exact ⟨vs[i], List.getElem?_eq_getElem h1, h.2 i _ _ (List.getElem?_eq_getElem h1) (List.getElem?_eq_getElem hi)⟩
theorem ETab.take (h : ETab w B X vs ps) (k : Nat) : ETab w B X (vs.take k) (ps.take k) := by
  refine ⟨by simp [h.1], fun i v p hv hp => ?_⟩
  rw [List.getElem?_take] at hv hp
  split at hv
  · rw [if_pos (by assumption)] at hp
    exact h.2 i v p hv hp
  · cases hv
theorem ETab.headers (h : ETab w B X vs ps) : (vs.all fun u => u.oneCell') = true := by
  rw [List.all_eq_true]
  intro u hu
  obtain ⟨i, hi, rfl⟩ := List.getElem_of_mem hu
  obtain ⟨A, c, hs, e, _⟩ := h.2 i _ _ (List.getElem?_eq_getElem hi) (List.getElem?_eq_getElem (by rw [← h.1]; exact hi))
  rw [e]; rfl
end
end Go.Proofs.Ytejjogpgolgdgaa
