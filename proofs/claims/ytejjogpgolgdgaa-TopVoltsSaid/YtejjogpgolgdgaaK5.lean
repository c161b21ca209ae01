/-
  MERGED: W7, W8, W9.
-/
import Derived.RangeFuncNested
import Derived.RangeFuncBound
import Derived.RangeFuncCalls
import Derived.RangeFuncLeaves
import Derived.Shelf.Abstract
import Derived.Shelf.RegionOpen
import Derived.WalkKit
import Derived.OwnWalkIn
import Derived.TacticsInMore
import Derived.LoopNIn
import Derived.LoopIn
import Derived.Maps.OwnIn
import Derived.Test.YtejjogpgolgdgaaK4
import Derived.Laws.CopyOwn
import Derived.Deep.RegionLaw
/-
  A RANGE OVER AN ITERATOR THAT KEEPS ONE BLOCK OF ITS OWN, and tells new rows: the iterator may turn that block alone; a round keeps it, and what the iterator reads.
-/
namespace Go.Proofs.Ytejjogpgolgdgaa
open Go.RowKit Go.Shelf Pulse

/-- The objects that K names lie as they lay; so does the world outside the heap. -/
structure Fix (K : Nat → Obj → Prop) (W W' : World) : Prop where
  os : W'.os = W.os
  tape : W'.tape = W.tape
  output : W'.output = W.output
  size : W.heap.size ≤ W'.heap.size
  keep : ∀ g o, K g o → W.heap[g]? = some o → W'.heap[g]? = some o
theorem Fix.refl (K : Nat → Obj → Prop) (W : World) : Fix K W W := ⟨rfl, rfl, rfl, Nat.le_refl _, fun _ _ _ h => h⟩
theorem Fix.trans {K : Nat → Obj → Prop} {A B C : World} (h : Fix K A B) (k : Fix K B C) : Fix K A C :=
  ⟨k.os.trans h.os, k.tape.trans h.tape, k.output.trans h.output, Nat.le_trans h.size k.size, fun g o hg ho => k.keep g o hg (h.keep g o hg ho)⟩
theorem Fix.mono {K K' : Nat → Obj → Prop} {A B : World} (h : Fix K A B) (hk : ∀ g o, K' g o → K g o) : Fix K' A B := ⟨h.os, h.tape, h.output, h.size, fun g o hg ho => h.keep g o (hk g o hg) ho⟩
theorem Fix.of_below {K : Nat → Obj → Prop} {A B : World} {X : Nat} (h : Below X A B) (hx : A.heap.size ≤ X) : Fix K A B :=
  ⟨h.os, h.tape, h.output, h.size, fun g _ _ ho => (h.block g (Nat.lt_of_lt_of_le (Array.getElem?_eq_some_iff.1 ho).1 hx)).trans ho⟩
theorem Fix.alloc {K : Nat → Obj → Prop} (A : World) (o : Obj) : Fix K A (A.alloc o) := Fix.of_below ((Below.refl _ A).alloc (Nat.le_refl _) o) (Nat.le_refl _)
theorem Fix.setCell {K : Nat → Obj → Prop} {A : World} {p : Addr} {o : Obj} (u : Value) (ho : A.heap[p.block]? = some o) (hk : ¬ K p.block o) : Fix K A (A.setCell p u) := by
  have hb := (Below.refl p.block A).setCell (p := p) (Nat.le_refl _) u
  refine ⟨hb.os, hb.tape, hb.output, hb.size, fun g x hg hx => ?_⟩
  by_cases e : g = p.block
  · subst e
    rw [ho] at hx
    cases hx
    exact absurd hg hk
  · exact (Below.heap_setCell A p u g e).trans hx
theorem Fix.putObj {K : Nat → Obj → Prop} {A : World} {l : Nat} {o : Obj} (o' : Obj) (ho : A.heap[l]? = some o) (hk : ¬ K l o) : Fix K A (A.putObj l o') := by
  have hg := grownBy_putObj' A l o'
  have hb := (Below.refl 0 A).grown hg (Nat.zero_le _) (fun _ _ => Nat.zero_le _)
  refine ⟨hb.os, hb.tape, hb.output, hb.size, fun g x hK hx => ?_⟩
  by_cases e : g = l
  · subst e
    rw [ho] at hx
    cases hx
    exact absurd hK hk
  · exact (World.putObj_heap_other e).trans hx
theorem Fix.below {K : Nat → Obj → Prop} {A B : World} {X : Nat} (h : Fix K A B) (hk : ∀ g o, g < X → K g o) (hx : X ≤ A.heap.size) : Below X A B :=
  ⟨h.os, h.tape, h.output, h.size, fun g hg => by
    have hl : g < A.heap.size := by omega
    rw [h.keep g _ (hk g _ hg) (Array.getElem?_eq_getElem hl), Array.getElem?_eq_getElem hl]⟩
theorem Fix.frame {K : Nat → Obj → Prop} {w A B : World} {X : Nat} (hw : Below X w A) (h : Fix K A B) (hk : ∀ g o, g < X → K g o) (hx : X ≤ w.heap.size) : Below X w B :=
  hw.trans (h.below hk (Nat.le_trans hx hw.size))


/-- All but the block g lies as it lay. -/
def But (g : Nat) (h : Nat) (_ : Obj) : Prop := h ≠ g
/-- .. and no object that is no row of cells. -/
def KI (G B : Nat) (g : Nat) (o : Obj) : Prop := g ≠ G ∧ (g < B ∨ o.isCells = true)
theorem ki_but {G B g : Nat} {o : Obj} (h : KI G B g o) : But G g o := h.1
/-- What a round keeps: the iterator's number and its own row. -/
def KQ (n₁ G : Nat) (g : Nat) (o : Obj) : Prop := o.isCells = true ∧ (g = n₁ ∨ g = G)

/-- THE ITERATOR's CONTRACT: N rounds; in round q it tells a value v with Y. -/
def AllIn (F : Fence) (n : Nat) (P : Program) (gf : Nat) (lb : Array Value) (n₁ N : Nat) (Y : Nat → Nat → Value → World → Prop) (w : World) : Prop :=
  ∀ (l : Nat) (J : Nat → Nat → World → Prop) (W : World), Below w.heap.size w W → (∀ G q A B, J G q A → Fix (But G) A B → J G q B) →
    (∀ G q A v, J G q A → q < N → Y G q v A → YieldAt F (n - 1) P l #[v] A fun e B => e = .returned (.bool true) ∧ J G (q + 1) B ∧ Fix (KQ n₁ G) A B) →
    (∀ G, W.heap.size ≤ G → J G 0 W) → CallsIn F n P gf (#[.func (.yield l) #[] #[]] ++ lb) W fun e B => (∃ v, e = .returned v) ∧ ∃ G, J G N B

/-- THE STATEMENT 'for v := range it { .. }', its body leaving at its end alone. -/
theorem wpIn_all {F : Fence} {n : Nat} {P : Program} {g : Operand} {ps : Array Tmp} {assign body : Code} {Q : Exit → Act → World → Prop} {a : Act} {w : World}
    (hro : F.round = none) (h1 : 1 ≤ n) {gf : Nat} {lb : Array Value} (hg : a.eval g = .func (.func gf) #[] lb) (hFg : F.fn gf) (eg : ∀ args w, (callFunc gf args).run P w = .ok (.enter gf args) w)
    {n₁ N : Nat} {Y : Nat → Nat → Value → World → Prop} (hseq : AllIn F (n - 1) P gf lb n₁ N Y w) (hps : ps.size = 1)
    (I : Nat → Nat → World → Prop) (hI : ∀ G q A B, I G q A → Fix (KI G w.heap.size) A B → I G q B) (h0 : ∀ G, w.heap.size ≤ G → I G 0 w)
    (Ax : Nat → Nat → Act → World → Prop) (hAx : ∀ G q a' A l o o', Ax G q a' A → A.heap[l]? = some o → o.isCells = false → Ax G q a' (A.putObj l o'))
    (hassign : ∀ (l G q : Nat) (W : World) (v : Value) (K : Act → World → Prop), I G q W → q < N → Y G q v W → (∀ a' W', KeepsFrom w.heap.size W W' → Fix (KQ n₁ G) W W' → I G q W' → Ax G q a' W' → K a' W') →
      assign.wpIn (F.inRound l) (n - 1 - 1) P (Exit.then K (fun _ _ _ => False)) { tmps := (ps.zip #[v]).foldl (fun t (p, v) => t.setIfInBounds p v) a.tmps, defers := [] } W)
    (hbody : ∀ (l G q : Nat) (a' : Act) (W : World), I G q W → Ax G q a' W → q < N →
      body.wpIn (F.inRound l) (n - 1 - 1) P (fun e _ W' => e = .normal ∧ KeepsFrom w.heap.size W W' ∧ Fix (KQ n₁ G) W W' ∧ I G (q + 1) W') a' W)
    (hdone : ∀ (D G : Nat) (W : World), w.heap.size ≤ D → I G N W → W.heap[D]? = some (.deferred (some [])) → Q .normal { a with defers := { target := .collected D, args := #[] } :: a.defers } W) :
    (Code.rangeFunc g ps assign body).wpIn F n P Q a w := by
  refine wpIn_rangeFunc ?_
  intro fn hfn
  rw [hro]
  obtain ⟨rec, hrec⟩ : ∃ rec : LoopState → Option Code → Loop, rec = fun st pe => { state := st, pending := pe, fn, tmps := a.tmps, params := ps, assign, body, defers := w.heap.size } := ⟨_, rfl⟩
  obtain ⟨W1, hW1⟩ : ∃ W1, (w.alloc (.deferred (some []))).alloc (.loop (rec .ready none)) = W1 := ⟨_, rfl⟩
  have hL1 : W1.heap[w.heap.size + 1]? = some (.loop (rec .ready none)) := by
    rw [← hW1]; have := World.alloc_heap_new (w.alloc (.deferred (some []))) (.loop (rec .ready none)); rwa [World.size_alloc] at this
  have hK1 : W1.heap[w.heap.size]? = some (.deferred (some [])) := by
    rw [← hW1]; exact (Below.heap_alloc _ _ _ (by simp)).trans (World.alloc_heap_new w _)
  have hsz1 : W1.heap.size = w.heap.size + 2 := by rw [← hW1]; simp
  have hI1 : ∀ G, W1.heap.size ≤ G → I G 0 W1 := fun G hG => by rw [← hW1]; exact hI _ _ _ _ (hI _ _ _ _ (h0 G (by omega)) (Fix.alloc _ _)) (Fix.alloc _ _)
  have hb1 : Below w.heap.size w W1 := by rw [← hW1]; exact ((Below.refl _ w).alloc (Nat.le_refl _) _).alloc (by simp) _
  have nc : ∀ {G g : Nat} {o : Obj}, w.heap.size ≤ g → o.isCells = false → ¬ KI G w.heap.size g o := fun h0 h2 h => by
    rcases h.2 with h3 | h3
    · omega
    · rw [h2] at h3; exact absurd h3 (by decide)
  have nq : ∀ {G g : Nat} {o : Obj}, o.isCells = false → ¬ KQ n₁ G g o := fun h2 h => by have h3 := h.1; rw [h2] at h3; exact absurd h3 (by decide)
  refine ⟨w.heap.size + 1, [{ target := .collected w.heap.size, args := #[] }], W1, { target := .fn (.func gf) lb, args := #[.func (.yield (w.heap.size + 1)) #[] #[]] }, W1, gf,
    #[.func (.yield (w.heap.size + 1)) #[] #[]] ++ lb, W1, ?_, ?_, ?_, ?_, fun _ => h1, ?_⟩
  · rw [← hW1, hrec]; exact run_enterLoop_outer _ _ _ _ _
  · simp only [resolve, hg]
    simp [go_sem]
  · intro f' hf'; simp [Target.leads] at hf'; subst hf'; exact hFg
  · simp [invoke, go_sem, eg]
  · refine (hseq (w.heap.size + 1)
      (fun G q W => I G q W ∧ W.heap[w.heap.size + 1]? = some (.loop (rec .ready none)) ∧ W.heap[w.heap.size]? = some (.deferred (some [])) ∧ w.heap.size + 2 ≤ G)
      W1 hb1 (fun G q A B ⟨h1, h2, h3, h4⟩ hf => ⟨hI G q A B h1 (hf.mono fun _ _ => ki_but), hf.keep _ _ (by unfold But; omega) h2, hf.keep _ _ (by unfold But; omega) h3, h4⟩)
      ?_ (fun G hG => ⟨hI1 G hG, hL1, hK1, by omega⟩)).mono ?_
    · rintro G q W v ⟨hi, hl, hk, hG⟩ hlen hv
      have hlt : w.heap.size + 1 < W.heap.size := (Array.getElem?_eq_some_iff.1 hl).1
      have hy := run_yield (P := P) (args := #[v]) hl (by rw [hrec]; exact hps.symm)
      rw [hrec] at hy
      refine ⟨fn, _, assign, body, hy, roundIn_of_wpIn hfn (hassign _ G q W v _ hi hlen hv ?_)⟩
      clear hy
      intro a' Wa hkfa hkpa hia hax
      replace hl := hkfa.same _ _ (by omega) hl rfl
      replace hk := hkfa.same _ _ (Nat.le_refl _) hk rfl
      replace hlt : w.heap.size + 1 < Wa.heap.size := (Array.getElem?_eq_some_iff.1 hl).1
      refine ⟨_, run_beginRound hl (by rw [hrec]), ?_⟩
      obtain ⟨Wb, hWb⟩ : ∃ Wb, Wa.putObj (w.heap.size + 1) (.loop { rec .ready none with state := .busy }) = Wb := ⟨_, rfl⟩
      have hl2 : Wb.heap[w.heap.size + 1]? = some (.loop { rec .ready none with state := .busy }) := by rw [← hWb]; exact World.putObj_heap_same hlt
      have hk2 : Wb.heap[w.heap.size]? = some (.deferred (some [])) := by rw [← hWb]; exact (World.putObj_heap_other (by omega)).trans hk
      have hq2 : Fix (KQ n₁ G) Wa Wb := by rw [← hWb]; exact Fix.putObj _ hl (nq rfl)
      have hi2 : I G q Wb := by rw [← hWb]; exact hI _ _ _ _ hia (Fix.putObj _ hl (nc (by omega) rfl))
      have hax2 : Ax G q a' Wb := by rw [← hWb]; exact hAx _ _ _ _ _ _ _ hax hl rfl
      show body.wpIn (F.inRound (w.heap.size + 1)) (n - 1 - 1) P _ a' (Wa.putObj (w.heap.size + 1) (.loop { rec .ready none with state := .busy }))
      rw [hWb]
      refine wpIn_mono (hbody _ G q a' _ hi2 hax2 hlen) ?_
      rintro e a3 W3 ⟨rfl, hk3, hkp3, hi3⟩
      have hl3 := hk3.same _ _ (by omega) hl2 rfl
      have hr := run_endRound (P := P) none hl3
      have hk4 := hk3.same _ _ (Nat.le_refl _) hk2 rfl
      rw [hrec] at hr hl3
      refine ⟨_, _, hr, rfl, ⟨hI _ _ _ _ hi3 (Fix.putObj _ hl3 (nc (by omega) rfl)), ?_, (World.putObj_heap_other (by omega)).trans hk4, hG⟩, hkpa.trans (hq2.trans (hkp3.trans (Fix.putObj _ hl3 (nq rfl))))⟩
      rw [hrec]
      exact World.putObj_heap_same (Array.getElem?_eq_some_iff.1 hl3).1
    · rintro e W2 ⟨⟨v, rfl⟩, G, hi, hl, hk, _⟩
      refine ⟨none, _, by have := run_endLoop (P := P) hl (by rw [hrec]; simp); rw [hrec] at this; exact this, hdone _ G _ (Nat.le_refl _) (hI _ _ _ _ hi (Fix.putObj _ hl (nc (by omega) rfl))) ((World.putObj_heap_other (by omega)).trans hk)⟩
theorem Fix.grown {K : Nat → Obj → Prop} {A B : World} {row : Option Nat} (hg : A.grownBy B row) (hk : ∀ g o, row = some g → A.heap[g]? = some o → ¬ K g o) : Fix K A B := by
  have hb := (Below.refl 0 A).grown hg (Nat.zero_le _) (fun _ _ => Nat.zero_le _)
  refine ⟨hb.os, hb.tape, hb.output, hb.size, fun g x hK hx => ?_⟩
  by_cases e : row = some g
  · exact absurd hK (hk g x e hx)
  · exact (hg.block g (Array.getElem?_eq_some_iff.1 hx).1 (fun h => e h.symm)).trans hx
theorem own_fix {K : Nat → Obj → Prop} {A B : World} {base : Nat} {e : TypeId} {sz n : Nat} {v : Value} {xs : List Value} (h : A.ownsRow base e sz v n xs) (hf : Fix K A B) (hk : ∀ g cs, v.ownBlock = some g → K g (.cells cs e (0, 0))) : B.ownsRow base e sz v n xs := by
  obtain ⟨h1, h2⟩ := h
  refine ⟨h1, ?_⟩
  rcases h2 with h2 | ⟨g, cap, cur, hv, hg, hh, r⟩
  · exact .inl h2
  · exact .inr ⟨g, cap, cur, hv, hg, hf.keep g _ (hk g cur (by rw [hv]; rfl)) hh, r⟩
theorem own_obj {A : World} {base : Nat} {e : TypeId} {sz n : Nat} {v : Value} {xs : List Value} (h : A.ownsRow base e sz v n xs) {g : Nat} (hg : v.ownBlock = some g) : base ≤ g ∧ ∃ cs, A.heap[g]? = some (.cells cs e (0, 0)) := by
  obtain ⟨h1, h2⟩ := h
  rcases h2 with ⟨rfl, _⟩ | ⟨g', cap, cur, rfl, hg', hh, r⟩
  · simp [Value.ownBlock] at hg
  · simp [Value.ownBlock] at hg
    subst hg
    exact ⟨hg', cur, hh⟩

section
variable {F : Fence} {nF : Nat} {P : Program} {w0 : World} {ops : Array Oper} {rest : List Oper} {o : Oper} {a : Act} {Q : Exit → Act → World → Prop}
/-- 'out = append(out, x)' inside a fence. -/
theorem app1In (hgd : o.guard = none) (s x : Operand) (t : TypeId)
    (ho : o.op = .call { callee := .builtin .append, args := #[s, x], argTypes := #[t, t] })
    (e : TypeId) (z : Value) (size bytes : Nat) (E : EOk P t e z size bytes) (base : Nat) (cs : Array Value)
    (v : Value) (n : Nat) (xs : List Value) (hs : a.eval s = v) (hown : w0.ownsRow base e size v n xs)
    (g : Nat) (hx : a.eval x = .slice (some ⟨g, 0, none⟩) 1 1) (hgs : g = w0.heap.size) (hl : cs.size = size) (h1 : (cs.toList.all fun u => u.oneCell') = true)
    (hn : n ≤ 1000000) (hbase : base ≤ w0.heap.size)
    (h : ∀ v' w', w'.ownsRow base e size v' (n + 1) (xs ++ cs.toList) → w0.grownBy w' v.ownBlock → (v'.ownBlock = v.ownBlock ∨ ∃ g, v'.ownBlock = some g ∧ w0.heap.size ≤ g) → wpListIn F nF P ops Q rest (a.put o.dst v') w') :
    wpListIn F nF P ops Q (o :: rest) a (w0.alloc (.cells cs e)) := by
  subst hgs
  obtain ⟨i, hi, hz0, hz1, hz2⟩ := E.info
  have hb : (n + 1) * bytes ≤ 140737488355328 := by
    have := E.hby
    have h2 : (n + 1) * bytes ≤ 1000001 * 4096 := Nat.mul_le_mul (by omega) this
    omega
  refine wpListIn_append_own_at _ hgd s x t ho base e i z size bytes E.ht hi hz0 hz1 hz2 E.hzs E.hsz v n xs hs (hown.alloc _) ⟨w0.heap.size, 0, none⟩ 1 1 cs.toList hx (by simpa using hl)
    (fun j u hu => by
      rw [show ((⟨w0.heap.size, 0, none⟩ : Addr).add j) = ⟨w0.heap.size, j, none⟩ from by unfold Addr.add; split <;> simp [*], World.cell?_alloc_at _ _ _ _ rfl]
      simpa using hu) (List.all_eq_true.1 h1) (by unfold maxLen; omega) hb (by simp; omega) ?_
  intro v' w' h2 h3 _ h5
  exact h v' w' h2 (grownBy_alloc_trans h3) (h5.imp id fun h => ⟨_, h, by simp⟩)
end


theorem own_set_far {w : World} {base n sz : Nat} {e : TypeId} {v : Value} {xs : List Value} (h : w.ownsRow base e sz v n xs) {p : Addr} (hp : p.block < base) (u : Value) : (w.setCell p u).ownsRow base e sz v n xs :=
  own_keep h fun g hg => Below.heap_setCell w p u g (by have := (h.lt g hg).1; omega)
theorem keepsFrom_below {B X : Nat} {A C : World} (h : Below X A C) (hx : A.heap.size ≤ X := by exact Nat.le_refl _) : KeepsFrom B A C :=
  ⟨h.size, fun k _ _ hk _ => (h.block k (Nat.lt_of_lt_of_le (Array.getElem?_eq_some_iff.1 hk).1 hx)).trans hk⟩
theorem RowAt.fix {K : Nat → Obj → Prop} {w w' : World} {B : Nat} {X : Nat → Prop} {v : Value} {p : List Int} (h : RowAt w B X v p) (hf : Fix K w w') (hk : ∀ g o, g < B → ¬ X g → o.isCells = true → K g o) : RowAt w' B X v p := by
  obtain ⟨A, c, e, h1, h2, h3, h4⟩ := h
  refine ⟨A, c, e, h1, h2, ⟨h3.1, fun hn => ?_⟩, h4⟩
  obtain ⟨b, off, e, hb, hc⟩ := h3.2 hn
  refine ⟨b, off, e, hb, fun j u hu => ?_⟩
  have h5 := hc j u hu
  obtain ⟨o, hg, ho⟩ := cells_of_cell h5
  have h6 := hf.keep b o (hk b o hb (h4 b off none hn e) ho) hg
  exact (World.cell?_of_block (h6.trans hg.symm)).trans h5
theorem Tab.fix {K : Nat → Obj → Prop} {w w' : World} {B : Nat} {X : Nat → Prop} {vs : List Value} {ps : List (List Int)} (h : Tab w B X vs ps) (hf : Fix K w w') (hk : ∀ g o, g < B → ¬ X g → o.isCells = true → K g o) : Tab w' B X vs ps :=
  ⟨h.1, fun i v p hv hp => (h.2 i v p hv hp).fix hf hk⟩
theorem rowAt_own {w : World} {base : Nat} {e : TypeId} {v : Value} {p : List Int} {X : Nat → Prop} (h : w.ownsRow base e 1 v p.length (ints p)) (hX : ∀ g, v.ownBlock = some g → ¬ X g) : RowAt w w.heap.size X v p := by
  obtain ⟨A, c, rfl, h1, h2⟩ := own_cap h
  exact ⟨A, c, rfl, h1, h2, Rd.of_own h, fun b off f hn ha he => hX b (by rw [ha]; rfl) he⟩
theorem tab_push {w4 w5 : World} {u u5 v : Value} {vs : List Value} {ps : List (List Int)} {p : List Int} {L : Nat → Prop} (ht : Tab w4 w4.heap.size (fun x => L x ∨ u.ownBlock = some x) vs ps) (hr : RowAt w4 w4.heap.size (fun x => L x ∨ u.ownBlock = some x) v p)
    (hg : w4.grownBy w5 u.ownBlock) (hx : u5.ownBlock = u.ownBlock ∨ ∃ g, u5.ownBlock = some g ∧ w4.heap.size ≤ g) : Tab w5 w5.heap.size (fun x => L x ∨ u5.ownBlock = some x) (vs ++ [v]) (ps ++ [p]) := by
  have h3 := (ht.snoc hr).grown hg (fun g hg => .inr hg) (Nat.le_refl _)
  exact (h3.at (fun g hg => by
    rcases hg with hg | hg
    · exact .inl (.inl hg)
    · rcases hx with h | ⟨g', h, hg'⟩
      · rw [h] at hg; exact .inl (.inr hg)
      · rw [h] at hg; injection hg with hg; exact .inr (by omega))).more hg.size
/-- A table of the call's own: header row u, its rows elsewhere. -/
def OwnT (w : World) (base : Nat) (u : Value) (ps : List (List Int)) : Prop := ∃ vs, w.ownsRow base 23 1 u ps.length vs ∧ Tab w w.heap.size (fun x => x < base ∨ u.ownBlock = some x) vs ps
theorem OwnT.cap {w : World} {base : Nat} {u : Value} {ps : List (List Int)} (h : OwnT w base u ps) : ∃ A c, u = .slice A ps.length c ∧ TRd w w.heap.size A ps.length ps := by
  obtain ⟨vs, h1, h2⟩ := h
  obtain ⟨A, c, rfl, _, _⟩ := own_cap h1
  exact ⟨A, c, rfl, TRd.of_own h1 h2⟩
theorem OwnT.base {w : World} {base base' : Nat} {u : Value} {ps : List (List Int)} (h : OwnT w base u ps) (hb : base' ≤ base) : OwnT w base' u ps := by
  obtain ⟨vs, h1, h2⟩ := h
  exact ⟨vs, own_base h1 hb, h2.at (fun g hg => hg.elim (fun h => .inl (.inl (Nat.lt_of_lt_of_le h hb))) (fun h => .inl (.inr h)))⟩
theorem OwnT.nil {w : World} {base : Nat} : OwnT w base (.slice none 0 0) [] := ⟨[], World.ownsRow_nil .., Tab.nil⟩
theorem OwnT.below {w w' : World} {base : Nat} {u : Value} {ps : List (List Int)} (h : OwnT w base u ps) (hb : Below w.heap.size w w') : OwnT w' base u ps := by
  obtain ⟨vs, h1, h2⟩ := h
  exact ⟨vs, own_below h1 hb, (h2.below hb (Nat.le_refl _)).more hb.size⟩
end Go.Proofs.Ytejjogpgolgdgaa

/-
  WALKS: slices.Repeat of one number.
-/
namespace Go.Proofs.Ytejjogpgolgdgaa
open Go.RowKit Pulse

set_option maxRecDepth 100000 in
theorem mul64_1 (n : Int) (h0 : 0 ≤ n) (h1 : n ≤ 6) (w : World) : Calls Try.prog 100 #[.int .u64 1, .int .u64 n] w fun e w' => e = .returned (.tuple #[.int .u64 0, .int .u64 n]) ∧ w = w' := by
  rcases (show n = 0 ∨ n = 1 ∨ n = 2 ∨ n = 3 ∨ n = 4 ∨ n = 5 ∨ n = 6 by omega) with rfl | rfl | rfl | rfl | rfl | rfl | rfl
  all_goals
    go_enter Try.func100, Try.ntmps100
    go_wp2
    go_ret2
    exact ⟨rfl, rfl⟩
set_option maxRecDepth 100000 in
theorem mul_1 (n : Int) (h0 : 0 ≤ n) (h1 : n ≤ 6) (w : World) : Calls Try.prog 98 #[.int .u64 1, .int .u64 n] w fun e w' => e = .returned (.tuple #[.int .u64 0, .int .u64 n]) ∧ w = w' := by
  go_enter Try.func98, Try.ntmps98
  go_wp2_with (go_at_call 100; refine (mul64_1 n h0 h1 _).mono ?_; rintro e w' ⟨rfl, rfl⟩)
  go_ret2
  exact ⟨rfl, rfl⟩

/-- Of n places the first k hold x, the others 0. -/
def rep (x : Int) (n k : Nat) : List Value := List.replicate k (.int .i64 x) ++ List.replicate (n - k) (Value.int .i64 0)
theorem rep_len (x : Int) {n k : Nat} (h : k ≤ n) : (rep x n k).length = n := by simp [rep]; omega
theorem rep_get (x : Int) {n k j : Nat} (h : k ≤ n) (hj : j < k) : (rep x n k)[j]? = some (.int .i64 x) := by
  rw [rep, List.getElem?_append_left (by simpa using hj), List.getElem?_replicate, if_pos hj]
theorem rep_splice (x : Int) {n k m : Nat} (h : k + m ≤ n) : splice (rep x n k) k (List.replicate m (.int .i64 x)) = rep x n (k + m) := by
  unfold splice rep
  have h1 : (List.replicate k (Value.int .i64 x) ++ List.replicate (n - k) (Value.int .i64 0)).take k = List.replicate k (Value.int .i64 x) := by
    rw [List.take_append_of_le_length (by simp), List.take_of_length_le (by simp)]
  have h2 : (List.replicate k (Value.int .i64 x) ++ List.replicate (n - k) (Value.int .i64 0)).drop (k + (List.replicate m (Value.int .i64 x)).length) = List.replicate (n - (k + m)) (Value.int .i64 0) := by
    rw [List.length_replicate, List.drop_append, List.drop_of_length_le (by simp), List.nil_append, List.length_replicate, List.drop_replicate]
    congr 1
    omega
  rw [h1, h2, ← List.append_assoc, List.replicate_append_replicate]

set_option maxRecDepth 100000 in
set_option maxHeartbeats 1000000 in
theorem pRepeat (x : Int) (n g : Nat) (w : World) (h1 : n ≤ 6) (hg : w.heap[g]? = some (.cells #[.int .i64 x] 3 (0, 0))) :
    Calls Try.prog 94 #[.slice (some ⟨g, 0, none⟩) 1 1, .int .i64 n] w fun e w' => e = .returned (.slice (some ⟨w.heap.size, 0, none⟩) n n) ∧ w'.heap[w.heap.size]? = some (.cells (rep x n n).toArray 3 (0, 0)) ∧ Below w.heap.size w w' := by
  have hc : w.cell? ⟨g, 0, none⟩ = some (.int .i64 x) := blk_cell hg 0
  have hl := blk_lt hg
  have hmk := fun W => run_make_row' (P := Try.prog) 23 3 (.int .i64 0) 8 Try.underlying23 (show (Try.prog.info? 3).map (fun i => (i.zero, i.size, i.bytes)) = some (some (.int .i64 0), 1, 8) by kernel_rfl) rfl .i64 .i64 n (by omega) (by omega) W
  have HG := Lib.hid (show (w.alloc (.cells (madeCells #[.int .i64 0] n) 3)).heap[w.heap.size]? = some (.cells (rep x n 0).toArray 3 (0, 0)) from by
    rw [blk_new]
    congr 2
    apply Array.ext'
    rw [toList_madeCells_one]
    simp [rep])
  have HB := Lib.hid ((Below.refl w.heap.size w).alloc (Nat.le_refl _) (.cells (madeCells #[.int .i64 0] n) 3))
  have hc1 := (World.cell?_alloc_lt w (.cells (madeCells #[.int .i64 0] n) 3) ⟨g, 0, none⟩ hl).trans hc
  have HC := Lib.hid hc1
  have HS := Lib.hid (show splice (rep x n 0) 0 (List.replicate (min 1 n) (.int .i64 x)) = rep x n (min 1 n) by rw [rep_splice x (by omega), Nat.zero_add])
  have hsz : (Try.prog.info? 3).map (·.size) = some 1 := by kernel_rfl
  have HSZ := Lib.hid hsz
  obtain ⟨cs, hcs⟩ : ∃ cs, cs = List.replicate (min 1 n) (Value.int .i64 x) := ⟨_, rfl⟩
  have hcl : cs.length = min 1 n := by rw [hcs]; simp
  have HCS := Lib.hid hcs
  rw [← hcs] at HS
  have hm1 : cs.length ≤ n := by omega
  have hm2 : 0 < n → 0 < cs.length := by omega
  have HPOS := Lib.hid (show ∀ j v, cs[j]? = some v → (w.alloc (.cells (madeCells #[.int .i64 0] n) 3)).cell? ((⟨g, 0, none⟩ : Addr).add j) = some v from fun j v hj => by
    rw [hcs, List.getElem?_replicate] at hj
    split at hj
    · injection hj with hj
      have hj0 : j = 0 := by omega
      subst hj hj0
      exact hc1
    · cases hj)
  have HONE := Lib.hid (show ∀ v ∈ cs, v.oneCell' = true from fun v hv => by
    rw [hcs] at hv
    rw [(List.mem_replicate.1 hv).2]
    rfl)
  have HN1 := Lib.hid (show cs.length = Nat.min 1 n from hcl)
  have HFIT := Lib.hid (show 0 + cs.length ≤ (rep x n 0).length by rw [rep_len x (Nat.zero_le _)]; omega)
  clear hcs hc1 hsz
  have HMIN := Lib.hid hcl
  clear hcl
  go_enter Try.func94, Try.ntmps94
  go_wp2_with (first
    | (go_at_call 98; refine (mul_1 _ (by omega) (by omega) _).mono ?_; rintro e w' ⟨rfl, rfl⟩)
    | ((with_reducible refine wpList_copy_splice rfl (.tmp 31) (.tmp 32) 23 23 rfl 3 Try.underlying23 HSZ.out (some ⟨w.heap.size, 0, none⟩) (some ⟨g, 0, none⟩) n n 1 1 rfl rfl w.heap.size 0 (rep x n 0) 3 HG.out cs HN1.out (fun _ => ⟨rfl, _, rfl, HPOS.out⟩) HFIT.out HONE.out w.heap.size w HB.out (Nat.le_refl _) ?_); intro w2 HG2 hb2))
  have HG2' := Lib.hid (show w2.heap[w.heap.size]? = some (.cells (rep x n cs.length).toArray 3 (0, 0)) by rw [HG2.out, HS.out, HMIN.out])
  clear HG2
  generalize cs.length = m at *
  go_loopw [8] (fun v wr => ∃ k : Nat, k ≤ n ∧ (0 < n → 0 < k) ∧ v = .int .i64 k ∧ wr.heap[w.heap.size]? = some (.cells (rep x n k).toArray 3 (0, 0)) ∧ Below w.heap.size w wr) (fun v _ => n - (intOf v).toNat)
  case atStart => exact ⟨m, hm1, hm2, rfl, HG2'.out, hb2⟩
  case round =>
    clear hb2 hm1 hm2
    obtain ⟨k, hk, hk0, rfl, hgk, hb⟩ := hrel
    by_cases hlt : k < n
    · have hkpos := hk0 (by omega)
      have HGK := Lib.hid hgk
      have HBK := Lib.hid hb
      have HBD := Lib.hid hb.drew
      obtain ⟨ds, hds⟩ : ∃ ds, ds = List.replicate (min k (n - k)) (Value.int .i64 x) := ⟨_, rfl⟩
      have hdl : ds.length = min k (n - k) := by rw [hds]; simp
      have HDS := Lib.hid hds
      have HSP := Lib.hid (show splice (rep x n k) k ds = rep x n (k + ds.length) by rw [hdl, hds]; exact rep_splice x (by omega))
      have HDL := Lib.hid hdl
      have hd1 : 0 < ds.length := by omega
      have hd2 : k + ds.length ≤ n := by omega
      have n1 : ¬ n = k := by omega
      have n2 : (0 : Int) ≤ (k : Int) := by omega
      have n3 : (k : Int) ≤ (n : Int) := by omega
      have HPOS2 := Lib.hid (show ∀ j v, ds[j]? = some v → wr.drew.cell? ((⟨w.heap.size, 0, none⟩ : Addr).add j) = some v from fun j v hj => by
        have hjd : j < ds.length := (List.getElem?_eq_some_iff.1 hj).1
        rw [hds, List.getElem?_replicate, if_pos (by omega)] at hj
        rw [show ((⟨w.heap.size, 0, none⟩ : Addr).add j) = ⟨w.heap.size, j, none⟩ from by unfold Addr.add; split <;> simp [*]]
        rw [← hj, ← rep_get x hk (show j < k by omega)]
        have := blk_cell hgk j
        simpa using this)
      have HONE2 := Lib.hid (show ∀ v ∈ ds, v.oneCell' = true from fun v hv => by
        rw [hds] at hv
        rw [(List.mem_replicate.1 hv).2]
        rfl)
      have HN2 := Lib.hid (show ds.length = Nat.min k (n - k) from hdl)
      have HFIT2 := Lib.hid (show k + ds.length ≤ (rep x n k).length by rw [rep_len x hk]; omega)
      clear hgk hb hds hdl hk0
      go_wp2
      go_region_law (refine step_copy_splice rfl (.tmp 41) (.tmp 44) 23 23 rfl 3 Try.underlying23 HSZ.out (some ⟨w.heap.size, k, none⟩) (some ⟨w.heap.size, 0, none⟩) (n - k) (n - k) k n (by simp [Act.eval, Act.put]) (by simp [Act.eval, Act.put]) w.heap.size k (rep x n k) 3 HGK.out ds HN2.out (fun _ => ⟨rfl, _, rfl, HPOS2.out⟩) HFIT2.out HONE2.out w.heap.size w HBD.out (Nat.le_refl _) ?_; intro w3 HG3 hb3)
      all_goals
        have HG3' := Lib.hid (show w3.heap[w.heap.size]? = some (.cells (rep x n (k + ds.length)).toArray 3 (0, 0)) by rw [HG3.out, HSP.out])
        clear HG3
        generalize ds.length = z at *
        have hz : z ≤ 6 := by omega
        have hwr : IntKind.i64.wrap ((k : Int) + (z : Int)) = ((k + z : Nat) : Int) := by rw [IntWalk.i64_in _ (by omega)]; omega
        simp [go_sem]
        rw [hwr]
        go_roundw
        case rel => exact ⟨_, _, _, _, _, _, _, _, _, _, _, _, _, _, ⟨k + z, by omega, by omega, rfl, HG3'.out, hb3⟩, rfl⟩
        case measure => simp [intOf]; omega
    · obtain rfl : k = n := by omega
      have HGK := Lib.hid hgk
      clear hgk
      go_wp2
      go_ret
      exact ⟨rfl, HGK.out, hb⟩
end Go.Proofs.Ytejjogpgolgdgaa

/-
  WALK: the iterator 'all'.
-/
namespace Go.Proofs.Ytejjogpgolgdgaa
open Go.RowKit Go.Shelf Pulse
attribute [local go_sem] Oper.semAt_some

theorem pAll (m : Int) (w : World) : Calls Try.prog 69 #[.int .i64 m] w fun e w' =>
    e = .returned (.func (.func 93) #[] #[.pointer (some ⟨w.heap.size, 0, none⟩)]) ∧ w' = w.alloc (.cells #[.int .i64 m] 3) := by
  go_enter Try.func69, Try.ntmps69
  go_wp2
  go_ret
  exact ⟨rfl, rfl⟩

/-- All voltages of so many electrodes. -/
abbrev allV (n : Nat) : List (List Int) := allP 3 n
/-- The ints of a block. -/
def rowInts (W : World) (g : Nat) : List Int := match W.heap[g]? with
  | some (.cells cs _ _) => cs.toList.map intOf
  | _ => []
theorem rowInts_eq {W : World} {g : Nat} {p : List Int} (h : W.heap[g]? = some (.cells (ints p).toArray 3 (0, 0))) : rowInts W g = p := by
  rw [rowInts, h]
  simp only [List.map_map]
  have : (intOf ∘ Value.int IntKind.i64) = id := by funext x; rfl
  rw [this, List.map_id]
theorem ints_set (l : List Int) (j : Nat) (x : Int) : (ints l).toArray.setIfInBounds j (.int .i64 x) = (ints (l.set j x)).toArray := by
  simp [ints, List.map_set]
theorem drop_pos {F n k g : Nat} {p q : List Int} {W W' : World} (h : (allP F n)[k]? = some p) (h' : (allP F n)[k + 1]? = some q) (hw : W.heap[g]? = some (.cells (ints p).toArray 3 (0, 0))) (hw' : W'.heap[g]? = some (.cells (ints q).toArray 3 (0, 0))) :
    (allP F n).length - pos (rowInts W' g) (allP F n) < (allP F n).length - pos (rowInts W g) (allP F n) := by
  obtain ⟨h1, h2⟩ := List.getElem?_eq_some_iff.1 h
  obtain ⟨h3, h4⟩ := List.getElem?_eq_some_iff.1 h'
  have e1 := pos_get (allP_nodup F n) k h1
  have e2 := pos_get (allP_nodup F n) (k + 1) h3
  rw [h2] at e1
  rw [h4] at e2
  rw [rowInts_eq hw, rowInts_eq hw', e1, e2]
  omega
/-- What is told in round q: a new row with the q-th voltages. -/
def Told (n : Nat) (G q : Nat) (v : Value) (A : World) : Prop := ∃ p, (allV n)[q]? = some p ∧ A.ownsRow (G + 1) 3 1 v n (ints p) ∧ G < A.heap.size

set_option maxRecDepth 100000 in
set_option maxHeartbeats 4000000 in
theorem all_in (n : Nat) (hn : 2 ≤ n) (m : Nat) (hm : m ≤ 3) (n₁ : Nat) (l : Nat) (J : Nat → Nat → World → Prop) (W : World) (hs : n₁ < W.heap.size)
    (hJ : ∀ G q A B, J G q A → Fix (But G) A B → J G q B)
    (hY : ∀ G q A v, J G q A → q < (allV m).length → Told m G q v A → YieldAt Fence.wide (n - 1) Try.prog l #[v] A fun e B => e = .returned (.bool true) ∧ J G (q + 1) B ∧ Fix (KQ n₁ G) A B)
    (h0 : ∀ G, W.heap.size ≤ G → J G 0 W) (hb1 : W.heap[n₁]? = some (.cells #[.int .i64 m] 3 (0, 0))) :
    CallsIn Fence.wide n Try.prog 93 #[.func (.yield l) #[] #[], .pointer (some ⟨n₁, 0, none⟩)] W fun e B => (∃ v, e = .returned v) ∧ ∃ G, J G (allV m).length B := by
  obtain ⟨hL0, hL1⟩ := allP_head 3 m
  have hb0 := (Below.refl W.heap.size W).alloc (Nat.le_refl _) (.cells #[.int .i64 (-3)] 3)
  have hn0 := blk_new W 3 #[.int .i64 (-3)]
  have HRP := Lib.hid (pRepeat (-3) m W.heap.size (W.alloc (.cells #[.int .i64 (-3)] 3)) (by omega) hn0)
  have HB0 := Lib.hid hb0
  have HX := Lib.hid (blk_alloc hb1 (.cells #[.int .i64 (-3)] 3))
  have c0 : W.cell? ⟨n₁, 0, none⟩ = some (.int .i64 m) := blk_cell hb1 0
  have HJ := Lib.hid hJ
  have HY := Lib.hid hY
  have H0 := Lib.hid (h0 (W.heap.size + 1) (by omega))
  clear hb0 hn0 hb1 hJ hY h0
  refine callsIn_of_wp Try.func93 rfl trivial ?_ rfl
  simp only [Try.ntmps93, List.size_toArray, List.length_cons, List.length_nil, Nat.reduceAdd, Nat.reduceSub, Array.replicate_succ, Array.replicate_zero, List.push_toArray, List.append_toArray, List.nil_append, List.cons_append]
  gi_wp2
  refine ⟨trivial, fun _ => by omega, (callsIn_wide.2 HRP.out).mono ?_⟩
  rintro e w1 ⟨rfl, hg1, hb1⟩
  have hrep : (rep (-3) m m).toArray = (ints (List.replicate m (-3))).toArray := by simp [rep, ints]
  rw [hrep] at hg1
  rw [World.size_alloc] at hg1 hb1 ⊢
  have HG1 := Lib.hid hg1
  have hb2 := HB0.out.trans (hb1.mono (by omega))
  have hx1 := blk_below HX.out hb1 (by omega)
  have HX1 := Lib.hid hx1
  have HJ1 := Lib.hid (HJ.out _ _ _ _ H0.out (Fix.of_below hb2 (Nat.le_refl _)))
  have s1 := hb1.size
  clear hrep hg1 hb1 hb2 hx1 c0 H0 HRP HB0 HX
  gi_wp2
  gi_loopw [4] (fun _ wr => ∃ k p, (allV m)[k]? = some p ∧ J (W.heap.size + 1) k wr ∧ wr.heap[W.heap.size + 1]? = some (.cells (ints p).toArray 3 (0, 0)) ∧ wr.heap[n₁]? = some (.cells #[.int .i64 m] 3 (0, 0))) (fun _ wr => (allV m).length - pos (rowInts wr (W.heap.size + 1)) (allV m))
  case atStart => exact ⟨0, _, by rw [List.getElem?_eq_getElem hL0, hL1]; rfl, HJ1.out, HG1.out, HX1.out⟩
  case round =>
    clear HJ1 HG1 HX1
    obtain ⟨k, p, hk, hjk, hrow, hx⟩ := hrel
    obtain ⟨hkl, hpe⟩ := List.getElem?_eq_some_iff.1 hk
    have hpm := mem_allP.1 (List.mem_of_getElem? hk)
    have HPN := Lib.hid hpm.1
    have HPF := Lib.hid hpm.2
    have HNX := Lib.hid (show nxt 3 p = (allV m)[k + 1]? by rw [← hpe]; exact allP_nxt 3 m k hkl)
    have HKL := Lib.hid hkl
    have HK := Lib.hid hk
    have HR0 := Lib.hid hrow
    have HXR := Lib.hid hx
    have hsz := blk_lt hrow
    have hrp : Rd wr wr.heap.size 1 (some ⟨W.heap.size + 1, 0, none⟩) m (ints p) := by
      have := rd_lit (sz := 1) (n := m) hrow (by simp [hpm.1])
      simpa using this.more (by omega)
    have HCL := Lib.hid (pClone (some ⟨W.heap.size + 1, 0, none⟩) m m p wr (by omega) wr.heap.size (Nat.le_refl _) hrp)
    have HJK := Lib.hid hjk
    clear hrow hk hkl hpe hpm hrp hjk hx
    gi_wp2
    refine ⟨trivial, fun _ => by omega, (callsIn_wide.2 HCL.out).mono ?_⟩
    rintro e w2 ⟨v, rfl, hown, hb2⟩
    obtain ⟨Av, cv, rfl, _⟩ := own_val hown
    have hj2 := HJ.out _ _ _ _ HJK.out (Fix.of_below hb2 (Nat.le_refl _))
    have hr2 := blk_below HR0.out hb2 hsz
    have hx2 := blk_below HXR.out hb2 (blk_lt HXR.out)
    obtain ⟨fn, tmps, assign, body, hy, hR⟩ := HY.out _ _ w2 _ hj2 HKL.out ⟨p, HK.out, own_base hown (by omega), blk_lt hr2⟩
    have H2 := Lib.hid (And.intro hr2 hx2)
    clear hown hb2 hj2 hr2 hx2 HCL
    gi_wp2
    refine ⟨fun _ => by omega, hR.mono ?_⟩
    rintro e w3 ⟨rfl, hj3, hq3⟩
    have hr3 := hq3.keep _ _ ⟨rfl, .inr rfl⟩ H2.out.1
    have hx3 := hq3.keep _ _ ⟨rfl, .inl rfl⟩ H2.out.2
    have hs3 := hq3.size
    have c3 : w3.cell? ⟨n₁, 0, none⟩ = some (.int .i64 m) := blk_cell hx3 0
    have HROW := Lib.hid (show w3.heap[W.heap.size + 1]? = some (.cells (ints (rowL 3 p m)).toArray 3 (0, 0)) by
      have e : rowL 3 p m = p := by rw [← HPN.out]; exact rowL_all 3 p
      rw [e]; exact hr3)
    have HJN := Lib.hid hj3
    have HX3 := Lib.hid hx3
    clear hr3 hx3 hj3 hq3 hR hy H2
    gi_wp2
    gi_loopw [4] (fun i wr => ∃ j : Nat, i = .int .i64 ((j : Int) - 1) ∧ j ≤ m ∧ wr.heap[W.heap.size + 1]? = some (.cells (ints (rowL 3 p j)).toArray 3 (0, 0)) ∧ (∀ f ∈ p.drop j, f = 3) ∧ J (W.heap.size + 1) (k + 1) wr ∧ wr.heap[n₁]? = some (.cells #[.int .i64 m] 3 (0, 0))) (fun i _ => (intOf i + 1).toNat)
    case atStart => exact ⟨m, by go_num, Nat.le_refl _, HROW.out, (by intro f hf; rw [List.drop_eq_nil_of_le (by rw [HPN.out]; exact Nat.le_refl _)] at hf; cases hf), HJN.out, HX3.out⟩
    case round =>
      clear HROW HJN HX3 c3
      obtain ⟨j, rfl, hj, hrow, hd, hjn, hx⟩ := hrel
      cases j with
      | zero =>
        have hend : k + 1 = (allV m).length := by
          have h1 := HNX.out
          rw [nxt_none hd] at h1
          have h2 := List.getElem?_eq_none_iff.1 h1.symm
          have h3 := HKL.out
          omega
        rw [hend] at hjn
        have HJE := Lib.hid hjn
        clear hend hrow hd hjn hx
        rw [show ((0 : Nat) : Int) - 1 = -1 by omega]
        gi_wp2
        refine bodyPost_ret (results_none rfl _ _ _) rfl ?_
        exact ⟨⟨_, rfl⟩, _, HJE.out⟩
      | succ j =>
        rw [show ((j + 1 : Nat) : Int) - 1 = (j : Int) by omega]
        have hjp : j < p.length := by rw [HPN.out]; omega
        have hg1 := rowL_get (F := (3 : Int)) hjp
        have hszr := blk_lt hrow
        have c1 : wr.cell? ⟨W.heap.size + 1, j, none⟩ = some (.int .i64 p[j]) := by
          rw [blk_cell hrow j]
          simp [hg1, hjp]
        have f1 := blk_frozen hrow j
        have hfb := (HPF.out) p[j] (List.getElem_mem hjp)
        have HROW2 := Lib.hid hrow
        have HJ2 := Lib.hid hjn
        have HD2 := Lib.hid hd
        have HX2 := Lib.hid hx
        have hjn1 : j < m := by omega
        obtain ⟨f, hf⟩ : ∃ f, f = p[j] := ⟨_, rfl⟩
        have HFE := Lib.hid hf
        rw [← hf] at c1 hfb
        clear hf hg1 hrow hjn hd hx
        have hk0 : (0 : Int) ≤ (j : Int) := by omega
        have hk1 : (j : Int) < (m : Int) := by omega
        by_cases hff : f = (3 : Int)
        · have hd1 : (f == (3 : Int)) = true := by simpa using hff
          have HFF := Lib.hid hff
          clear hff
          gi_wp2
          go_roundw
          case rel =>
            refine ⟨j, by go_num, by omega, ?_, drop_step hjp (by rw [← HFE.out, HFF.out]) HD2.out, HJ.out _ _ _ _ HJ2.out (Fix.setCell (p := ⟨W.heap.size + 1, j, none⟩) _ HROW2.out (fun h => h rfl)), blk_far HX2.out (p := ⟨W.heap.size + 1, j, none⟩) (by simp only []; omega) _⟩
            rw [← rowL_back hjp, ← ints_set]
            exact blk_set HROW2.out j _
          case measure => simp [intOf]
        · have hd1 : (f == (3 : Int)) = false := by simpa using hff
          have HFF := Lib.hid hff
          clear hff
          have d0 : decide ((j : Int) < 0) = false := by simp
          gi_wp2
          go_roundw
          case rel =>
            refine ⟨k + 1, (rowL 3 p (j + 1)).set j (f + 1), ?_, HJ.out _ _ _ _ HJ2.out (Fix.setCell (p := ⟨W.heap.size + 1, j, none⟩) _ HROW2.out (fun h => h rfl)), ?_, blk_far HX2.out (p := ⟨W.heap.size + 1, j, none⟩) (by simp only []; omega) _⟩
            · rw [← HNX.out, HFE.out]
              exact nxt_row hjp (by rw [← HFE.out]; exact HFF.out) HD2.out
            · rw [← ints_set]
              exact blk_set HROW2.out j _
          case measure =>
            have e1 := blk_set HROW2.out j (.int .i64 (f + 1))
            rw [ints_set] at e1
            have e2 : (allV m)[k + 1]? = some ((rowL 3 p (j + 1)).set j (f + 1)) := by
              rw [← HNX.out, HFE.out]
              exact nxt_row hjp (by rw [← HFE.out]; exact HFF.out) HD2.out
            exact drop_pos HK.out e2 HR0.out e1
end Go.Proofs.Ytejjogpgolgdgaa
