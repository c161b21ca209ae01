/-
  WALKS: Without of both.
-/
import Derived.Test.YtejjogpgolgdgaaW30
namespace Go.Proofs.Ytejjogpgolgdgaa
open Go.RowKit Pulse

def cutL (x : Nat) (l : List Int) : List Int := l.take x ++ l.drop (x + 1)
def withE (g : List (List Int)) (wire : Int) : Int := if vldG g = 0 then (if wire < 0 ∨ (wid g : Int) ≤ wire then 4 else if wid g = 1 then 1 else 0) else vldG g
def withT (g : List (List Int)) (wire : Int) : List (List Int) := if withE g wire = 0 then g.map (cutL wire.toNat) else []
theorem cutL_len {x : Nat} {l : List Int} (h : x < l.length) : (cutL x l).length = l.length - 1 := by simp [cutL]; omega
/-- The cells of a header's block may be written; the block is none of X. -/
def Soft (w : World) (X : Nat → Prop) (v : Value) : Prop := ∀ b off n c, v = .slice (some ⟨b, off, none⟩) n c → b < w.heap.size ∧ ¬ X b ∧ w.frozen? ⟨b, off, none⟩ = false
theorem frozen_of_block {w w' : World} {b off : Nat} (h : w'.heap[b]? = w.heap[b]?) : w'.frozen? ⟨b, off, none⟩ = w.frozen? ⟨b, off, none⟩ := by
  unfold World.frozen?
  simp only [h]
theorem Soft.keep {w w' : World} {X X' : Nat → Prop} {v : Value} (h : Soft w X v) (hs : w.heap.size ≤ w'.heap.size) (hk : ∀ b, b < w.heap.size → ¬ X b → w'.heap[b]? = w.heap[b]?) (hX : ∀ b, X' b → X b ∨ w.heap.size ≤ b) : Soft w' X' v := by
  intro b off n c e
  obtain ⟨h1, h2, h3⟩ := h b off n c e
  refine ⟨by omega, fun hx => ?_, ?_⟩
  · rcases hX b hx with h | h
    · exact h2 h
    · omega
  · rw [frozen_of_block (hk b h1 h2)]; exact h3
theorem Soft.below {w w' : World} {X : Nat → Prop} {v : Value} (h : Soft w X v) (hb : Below w.heap.size w w') : Soft w' X v :=
  h.keep hb.size (fun b h1 _ => hb.block b h1) (fun _ h => .inl h)
theorem own_frozen0 {w : World} {base g off n c sz : Nat} {e : TypeId} {xs : List Value} (h : w.ownsRow base e sz (.slice (some ⟨g, off, none⟩) n c) n xs) : w.frozen? ⟨g, off, none⟩ = false := by
  obtain ⟨h1, h2⟩ := h
  rcases h2 with ⟨h2, _⟩ | ⟨g', cap, cur, hv, hg, hh, _⟩
  · cases h2
  · injection hv with a b d
    injection a with a
    injection a with a a2
    subst a a2
    exact blk_frozen hh 0
theorem Soft.own {w : World} {base n sz : Nat} {e : TypeId} {xs : List Value} {X : Nat → Prop} {v : Value} (h : w.ownsRow base e sz v n xs) (hX : ∀ b, X b → b < base ∨ w.heap.size ≤ b) : Soft w X v := by
  intro b off n' c ev
  obtain ⟨A, c', rfl, _, _⟩ := own_cap h
  injection ev with e1 e2 e3
  subst e1 e2 e3
  have := h.lt b rfl
  refine ⟨this.2, fun hx => ?_, own_frozen0 h⟩
  rcases hX b hx with h | h <;> omega
/-- A table of the call's own, its rows of the call's own too. -/
def OwnS (w : World) (base : Nat) (u : Value) (ps : List (List Int)) : Prop := ∃ vs, w.ownsRow base 23 1 u ps.length vs ∧ Tab w w.heap.size (fun x => x < base ∨ u.ownBlock = some x) vs ps ∧ ∀ v ∈ vs, Soft w (fun x => x < base ∨ u.ownBlock = some x) v
theorem OwnS.nil {w : World} {base : Nat} : OwnS w base (.slice none 0 0) [] := ⟨[], World.ownsRow_nil .., Tab.nil, fun v h => by cases h⟩
theorem OwnS.below {w w' : World} {base : Nat} {u : Value} {ps : List (List Int)} (h : OwnS w base u ps) (hb : Below w.heap.size w w') : OwnS w' base u ps := by
  obtain ⟨vs, h1, h2, h3⟩ := h
  exact ⟨vs, own_below h1 hb, (h2.below hb (Nat.le_refl _)).more hb.size, fun v hv => (h3 v hv).below hb⟩
theorem OwnS.cap {w : World} {base : Nat} {u : Value} {ps : List (List Int)} (h : OwnS w base u ps) : ∃ A c, u = .slice A ps.length c ∧ TRd w w.heap.size A ps.length ps := by
  obtain ⟨vs, h1, h2, _⟩ := h
  obtain ⟨A, c, rfl, _, _⟩ := own_cap h1
  exact ⟨A, c, rfl, TRd.of_own h1 h2⟩
theorem OwnS.base {w : World} {base base' : Nat} {u : Value} {ps : List (List Int)} (h : OwnS w base u ps) (hb : base' ≤ base) : OwnS w base' u ps := by
  obtain ⟨vs, h1, h2, h3⟩ := h
  have hX : ∀ x, (x < base' ∨ u.ownBlock = some x) → (x < base ∨ u.ownBlock = some x) := fun x hx => hx.imp (fun h => by omega) id
  exact ⟨vs, own_base h1 hb, h2.at (fun g hg => .inl (hX g hg)), fun v hv => (h3 v hv).keep (Nat.le_refl _) (fun _ _ _ => rfl) (fun x hx => .inl (hX x hx))⟩
/-- 'out = append(out, row)', the row of the call's own. -/
theorem OwnS.push {w4 w5 : World} {base n' base' : Nat} {e : TypeId} {u u5 v : Value} {vs : List Value} {ps : List (List Int)} {p : List Int}
    (h1 : w4.ownsRow base 23 1 u ps.length vs) (ht : Tab w4 w4.heap.size (fun x => x < base ∨ u.ownBlock = some x) vs ps) (hs : ∀ v ∈ vs, Soft w4 (fun x => x < base ∨ u.ownBlock = some x) v)
    (hv : w4.ownsRow base' e 1 v p.length (ints p)) (hb : base ≤ base') (hu : ∀ g, u.ownBlock = some g → g < base')
    (h5 : w5.ownsRow base 23 1 u5 n' (vs ++ [v])) (hn : n' = ps.length + 1) (hg : w4.grownBy w5 u.ownBlock) (hx : u5.ownBlock = u.ownBlock ∨ ∃ g, u5.ownBlock = some g ∧ w4.heap.size ≤ g) : OwnS w5 base u5 (ps ++ [p]) := by
  subst hn
  have hX : ∀ x, (x < base ∨ u5.ownBlock = some x) → (x < base ∨ u.ownBlock = some x) ∨ w4.heap.size ≤ x := fun x hx' => by
    rcases hx' with h | h
    · exact .inl (.inl h)
    · rcases hx with h' | ⟨g, h', hg'⟩
      · rw [h'] at h; exact .inl (.inr h)
      · rw [h'] at h; injection h with h; exact .inr (by omega)
  have hsv : Soft w4 (fun x => x < base ∨ u.ownBlock = some x) v := Soft.own hv (fun b hb' => by
    rcases hb' with h | h
    · exact .inl (by omega)
    · exact .inl (hu b h))
  refine ⟨vs ++ [v], by rw [List.length_append]; exact h5, tab_push ht (rowAt_own hv (fun g hg' hx' => ?_)) hg hx, fun y hy => ?_⟩
  · have := (hv.lt g hg').1
    rcases hx' with h | h
    · omega
    · have := hu g h; omega
  · have : Soft w4 (fun x => x < base ∨ u.ownBlock = some x) y := by
      rcases List.mem_append.1 hy with h | h
      · exact hs y h
      · rw [List.mem_singleton.1 h]; exact hsv
    exact this.keep hg.size (fun b h1' h2' => hg.block b h1' (fun e => h2' (.inr e.symm))) hX
theorem cut_take (x : Nat) (g : List (List Int)) {q : Nat} (h : q < g.length) : (g.take (q + 1)).map (cutL x) = (g.take q).map (cutL x) ++ [cutL x g[q]] := by rw [take_snoc' g q h, List.map_append]; rfl
/-- The two parts of a row. -/
theorem rd_parts {w : World} {B b off c x : Nat} {l : List Int} (h : Rd w B 1 (some ⟨b, off, none⟩) l.length (ints l)) (hx : x < l.length) (hc : l.length ≤ c) :
    Rd w B 1 (some ⟨b, off, none⟩) x (ints (l.take x)) ∧ Rd w B 1 (if c = x + 1 then some ⟨b, off, none⟩ else some ⟨b, off + (x + 1), none⟩) (l.length - (x + 1)) (ints (l.drop (x + 1))) := by
  have h1 := h.front (k := x) (by omega)
  have h2 := h.back (k := x + 1) (c := c) (by omega) hc
  simp only [Nat.mul_one] at h1 h2
  refine ⟨by rw [ints, List.map_take]; exact h1, ?_⟩
  rw [ints, List.map_drop]
  exact h2
end Go.Proofs.Ytejjogpgolgdgaa
