/-
  THE STATE OF THE SEARCH: its boxes, its map, its open places.
-/
import Derived.Deep.CutRange
import Derived.Test.YtlhbmfaoldajdaaP5
import Derived.Test.YtlhbmfaoldajdaaW15
namespace Go.Proofs.Ytlhbmfaoldajdaa
open Go.RowKit Go.Maps

/-- The blocks that turn. -/
def XF (u : Value) (ob mb : Nat) (x : Nat) : Prop := x = ob ∨ x = mb ∨ u.ownBlock = some x
structure St (w : World) (X tb fb ob mb : Nat) (cs : Array Value) (u : Value) (vs : List Value) (T : List Nd) : Prop where
  t : w.heap[tb]? = some (.cells cs 24 (0, 0))
  f : w.heap[fb]? = some (.cells #[.map (some mb)] 48 (0, 0))
  o : w.heap[ob]? = some (.cells #[u] 67 (0, 0))
  m : w.ownsMap Try.prog 61 stepElem mb T.length (mapN T)
  r : w.ownsRow X 25 1 u T.length vs
  p : Tab w w.heap.size (XF u ob mb) vs (T.map (·.p))
theorem own_blk {w : World} {base : Nat} {e : TypeId} {sz n g : Nat} {v : Value} {xs : List Value} (h : w.ownsRow base e sz v n xs) (hg : v.ownBlock = some g) : base ≤ g ∧ ∃ cs, w.heap[g]? = some (.cells cs e (0, 0)) := by
  have h0 := h.lt g hg
  obtain ⟨h1, h2⟩ := h
  rcases h2 with ⟨rfl, _⟩ | ⟨g', cap, cur, rfl, hg', hh, _⟩
  · cases hg
  · have hg : some g' = some g := hg
    injection hg with hg
    subst hg
    exact ⟨h0.1, cur, hh⟩
theorem ownsMap_blk {w : World} {k : TypeId} {R : Value → Option (DataW Unit × List MemPlace)} {b n : Nat} {D : DataW Unit} (h : w.ownsMap Try.prog k R b n D) : ∃ es clock, w.heap[b]? = some (.map es clock) := by
  obtain ⟨es, clock, hb, _⟩ := h; exact ⟨es, clock, hb⟩
theorem ownsMap_keep {w w' : World} {k : TypeId} {R : Value → Option (DataW Unit × List MemPlace)} {b n : Nat} {D : DataW Unit} (h : w.ownsMap Try.prog k R b n D) (hk : w'.heap[b]? = w.heap[b]?) : w'.ownsMap Try.prog k R b n D := by
  obtain ⟨es, clock, hb, r⟩ := h; exact ⟨es, clock, hk.trans hb, r⟩
theorem ownsMap_below {w w' : World} {k : TypeId} {R : Value → Option (DataW Unit × List MemPlace)} {b n : Nat} {D : DataW Unit} (h : w.ownsMap Try.prog k R b n D) (hb : Below w.heap.size w w') : w'.ownsMap Try.prog k R b n D := ownsMap_keep h (hb.block b h.lt)
theorem St.below {w w' : World} {X tb fb ob mb : Nat} {cs : Array Value} {u : Value} {vs : List Value} {T : List Nd} (h : St w X tb fb ob mb cs u vs T) (hb : Below w.heap.size w w') : St w' X tb fb ob mb cs u vs T :=
  ⟨blk_below h.t hb (blk_lt h.t), blk_below h.f hb (blk_lt h.f), blk_below h.o hb (blk_lt h.o), ownsMap_below h.m hb, own_below h.r hb, (h.p.below hb (Nat.le_refl _)).more hb.size⟩
section
variable {w5 w6 w7 : World} {X tb fb ob mb : Nat} {cs : Array Value} {u u' v : Value} {vs : List Value} {T : List Nd} {x : Nd}
theorem St.ne (h : St w5 X tb fb ob mb cs u vs T) : mb ≠ tb ∧ mb ≠ fb ∧ mb ≠ ob ∧ tb ≠ ob ∧ fb ≠ ob ∧ ∀ g, u.ownBlock = some g → X ≤ g ∧ g < w5.heap.size ∧ g ≠ mb ∧ g ≠ ob ∧ g ≠ tb ∧ g ≠ fb := by
  obtain ⟨es, cl, hm⟩ := ownsMap_blk h.m
  have ht := h.t
  have hf := h.f
  have ho := h.o
  refine ⟨?_, ?_, ?_, ?_, ?_, fun g hg => ?_⟩
  · rintro rfl; rw [hm] at ht; cases ht
  · rintro rfl; rw [hm] at hf; cases hf
  · rintro rfl; rw [hm] at ho; cases ho
  · rintro rfl; rw [ht] at ho; injection ho with ho; injection ho with _ e; revert e; decide
  · rintro rfl; rw [hf] at ho; injection ho with ho; injection ho with _ e; revert e; decide
  · obtain ⟨h1, cg, h2⟩ := own_blk h.r hg
    refine ⟨h1, blk_lt h2, ?_, ?_, ?_, ?_⟩
    · rintro rfl; rw [hm] at h2; cases h2
    · rintro rfl; rw [h2] at ho; injection ho with ho; injection ho with _ e; revert e; decide
    · rintro rfl; rw [h2] at ht; injection ht with ho; injection ho with _ e; revert e; decide
    · rintro rfl; rw [h2] at hf; injection hf with ho; injection ho with _ e; revert e; decide
/-- A new node: its entry laid, its place appended. -/
theorem St.push (h : St w5 X tb fb ob mb cs u vs T) (hmap : w6.ownsMap Try.prog 61 stepElem mb (T.length + 1) (mapN (T ++ [x]))) (hg6 : w5.grownBy w6 (some mb))
    (hv : RowAt w5 w5.heap.size (XF u ob mb) v x.p)
    (hown7 : w7.ownsRow X 25 1 u' (T.length + 1) (vs ++ [v])) (hg7 : w6.grownBy w7 u.ownBlock) (hx7 : u'.ownBlock = u.ownBlock ∨ ∃ g, u'.ownBlock = some g ∧ w6.heap.size ≤ g) :
    St (w7.setCell ⟨ob, 0, none⟩ u') X tb fb ob mb cs u' (vs ++ [v]) (T ++ [x]) := by
  obtain ⟨n1, n2, n3, n4, n5, n6⟩ := h.ne
  have hs6 := hg6.size
  have hs7 := hg7.size
  have e6 : ∀ {g : Nat} {o : Obj}, w5.heap[g]? = some o → g ≠ mb → w6.heap[g]? = some o := fun hb hne => blk_grown hb hg6 (fun e => hne (by injection e))
  have e7 : ∀ {g : Nat} {o : Obj}, w6.heap[g]? = some o → u.ownBlock ≠ some g → w7.heap[g]? = some o := fun hb hne => blk_grown hb hg7 (fun e => hne e.symm)
  have un : ∀ g, g = mb ∨ g = ob ∨ g = tb ∨ g = fb → u.ownBlock ≠ some g := fun g hg he => by
    have := n6 g he
    omega
  have htab : Tab w5 w5.heap.size (XF u ob mb) (vs ++ [v]) ((T ++ [x]).map (·.p)) := by
    rw [List.map_append]; exact h.p.snoc hv
  have htab6 := htab.grown hg6 (fun g e => by injection e with e; exact .inr (.inl e.symm)) (Nat.le_refl _)
  have htab7 := htab6.grown hg7 (fun g e => .inr (.inr e)) hs6
  have hob : ob < w5.heap.size := blk_lt h.o
  have hmb : mb < w5.heap.size := h.m.lt
  refine ⟨?_, ?_, ?_, ?_, ?_, ?_⟩
  · exact blk_far (e7 (e6 h.t (Ne.symm n1)) (un tb (by omega))) (p := ⟨ob, 0, none⟩) n4 _
  · exact blk_far (e7 (e6 h.f (Ne.symm n2)) (un fb (by omega))) (p := ⟨ob, 0, none⟩) n5 _
  · have := blk_set (e7 (e6 h.o (Ne.symm n3)) (un ob (by omega))) 0 u'
    simpa using this
  · rw [List.length_append, List.length_singleton]
    refine ownsMap_keep hmap ?_
    rw [Below.heap_setCell _ _ _ _ (by exact n3)]
    exact hg7.block mb (by omega) (fun e => un mb (by omega) e.symm)
  · rw [List.length_append, List.length_singleton]
    refine own_keep hown7 (fun g hg => Below.heap_setCell _ _ _ _ ?_)
    show g ≠ ob
    rcases hx7 with e | ⟨g', e, hge⟩
    · rw [e] at hg; exact (n6 g hg).2.2.2.1
    · rw [e] at hg; injection hg with hg; omega
  · rw [World.size_setCell]
    refine ((htab7.at (X' := XF u' ob mb) (fun g hg => ?_)).more (by omega)).setCell (a := ⟨ob, 0, none⟩) (.inl rfl) _
    rcases hg with hg | hg | hg
    · exact .inl (.inl hg)
    · exact .inl (.inr (.inl hg))
    · rcases hx7 with e | ⟨g', e, hge⟩
      · rw [e] at hg; exact .inl (.inr (.inr hg))
      · rw [e] at hg; injection hg with hg; exact .inr (by omega)
/-- A row that was there. -/
theorem St.row_push {A : Value} {q : List Int} (h : St w5 X tb fb ob mb cs u vs T) (hg6 : w5.grownBy w6 (some mb)) (hv : RowAt w5 w5.heap.size (XF u ob mb) A q)
    (hg7 : w6.grownBy w7 u.ownBlock) (hx7 : u'.ownBlock = u.ownBlock ∨ ∃ g, u'.ownBlock = some g ∧ w6.heap.size ≤ g) : RowAt (w7.setCell ⟨ob, 0, none⟩ u') (w7.setCell ⟨ob, 0, none⟩ u').heap.size (XF u' ob mb) A q := by
  have hs6 := hg6.size
  have hs7 := hg7.size
  have r6 := hv.grown hg6 (fun g e => by injection e with e; exact .inr (.inl e.symm)) (Nat.le_refl _)
  have r7 := r6.grown hg7 (fun g e => .inr (.inr e)) hs6
  rw [World.size_setCell]
  refine ((r7.at (X' := XF u' ob mb) (fun g hg => ?_)).more (by omega)).setCell (a := ⟨ob, 0, none⟩) (.inl rfl) _
  rcases hg with hg | hg | hg
  · exact .inl (.inl hg)
  · exact .inl (.inr (.inl hg))
  · rcases hx7 with e | ⟨g', e, hge⟩
    · rw [e] at hg; exact .inl (.inr (.inr hg))
    · rw [e] at hg; injection hg with hg; exact .inr (by omega)
/-- A look-up of a place that is there. -/
theorem St.look {n : Nat} {Z : Int} {c : Bool} (h : St w5 X tb fb ob mb cs u vs T) (hT : Tidy Z n T) (hZ : Z ≤ 6) (hn : n ≤ 4) (hx : x ∈ T) :
    (Instr.lookup 48 (.map (some mb)) (keyV x.p) c).run Try.prog w5 = .ok (if c then .tuple #[.agg (ints (stepZ x)).toArray, .bool true] else .agg (ints (stepZ x)).toArray) w5 := by
  have hk := hT.keys hZ hn
  cases c with
  | true =>
    obtain ⟨v, ps, hrun, hv⟩ := h.m.look_ok law61 Try.underlying48 (zero63 w5) (stepElem_mk (by rfl)) (keyOf_place (hk x hx).1)
    rw [at_mapN hk hT.1 hx] at hv
    rw [stepElem_is hv, has_mapN_mem hx] at hrun
    exact hrun
  | false =>
    obtain ⟨v, ps, hrun, hv⟩ := h.m.lookup law61 Try.underlying48 (zero63 w5) (stepElem_mk (by rfl)) (keyOf_place (hk x hx).1)
    rw [at_mapN hk hT.1 hx] at hv
    rw [stepElem_is hv] at hrun
    exact hrun
/-- .. that is not. -/
theorem St.look_none {n : Nat} {Z : Int} {q : List Int} (h : St w5 X tb fb ob mb cs u vs T) (hT : Tidy Z n T) (hZ : Z ≤ 6) (hn : n ≤ 4) (hq : PlOk Z n q) (hx : q ∉ T.map (·.p)) :
    (Instr.lookup 48 (.map (some mb)) (keyV q) true).run Try.prog w5 = .ok (.tuple #[.agg (ints [0, 0, 0, 0, 0, 0, 0]).toArray, .bool false]) w5 := by
  have hk := hT.keys hZ hn
  have hq' := hq.kok hZ hn
  obtain ⟨v, ps, hrun, hv⟩ := h.m.look_ok law61 Try.underlying48 (zero63 w5) (stepElem_mk (by rfl)) (keyOf_place hq')
  rw [at_mapN_none hk hq' hq.1 hx] at hv
  rw [stepElem_is hv, has_mapN hk hq' hq.1, decide_eq_false hx] at hrun
  exact hrun
end
end Go.Proofs.Ytlhbmfaoldajdaa
