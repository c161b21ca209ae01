/-
  A RANGE OVER AN ITERATOR THAT KEEPS ONE BLOCK OF ITS OWN, and tells new rows: the iterator may turn that block alone; a round keeps it, and what the iterator reads.
-/
import Derived.RangeFuncNested
import Derived.RangeFuncBound
import Derived.RangeFuncCalls
import Derived.RangeFuncLeaves
import Derived.Shelf.Abstract
import Derived.Shelf.RegionOpen
import Derived.WalkKit
import Derived.OwnWalkIn
import Derived.TacticsInMore
import Derived.LoopNIn
import Derived.LoopIn
import Derived.Maps.OwnIn
import Derived.Test.YtejjogpgolgdgaaW6
namespace Go.Proofs.Ytejjogpgolgdgaa
open Go.RowKit Go.Shelf Pulse

/-- The objects that K names lie as they lay; so does the world outside the heap. -/
structure Fix (K : Nat → Obj → Prop) (W W' : World) : Prop where
  os : W'.os = W.os
  tape : W'.tape = W.tape
  output : W'.output = W.output
  size : W.heap.size ≤ W'.heap.size
  keep : ∀ g o, K g o → W.heap[g]? = some o → W'.heap[g]? = some o
theorem Fix.refl (K : Nat → Obj → Prop) (W : World) : Fix K W W := ⟨rfl, rfl, rfl, Nat.le_refl _, fun _ _ _ h => h⟩
theorem Fix.trans {K : Nat → Obj → Prop} {A B C : World} (h : Fix K A B) (k : Fix K B C) : Fix K A C :=
  ⟨k.os.trans h.os, k.tape.trans h.tape, k.output.trans h.output, Nat.le_trans h.size k.size, fun g o hg ho => k.keep g o hg (h.keep g o hg ho)⟩
theorem Fix.mono {K K' : Nat → Obj → Prop} {A B : World} (h : Fix K A B) (hk : ∀ g o, K' g o → K g o) : Fix K' A B := ⟨h.os, h.tape, h.output, h.size, fun g o hg ho => h.keep g o (hk g o hg) ho⟩
theorem Fix.of_below {K : Nat → Obj → Prop} {A B : World} {X : Nat} (h : Below X A B) (hx : A.heap.size ≤ X) : Fix K A B :=
  ⟨h.os, h.tape, h.output, h.size, fun g _ _ ho => (h.block g (Nat.lt_of_lt_of_le (Array.getElem?_eq_some_iff.1 ho).1 hx)).trans ho⟩
theorem Fix.alloc {K : Nat → Obj → Prop} (A : World) (o : Obj) : Fix K A (A.alloc o) := Fix.of_below ((Below.refl _ A).alloc (Nat.le_refl _) o) (Nat.le_refl _)
theorem Fix.setCell {K : Nat → Obj → Prop} {A : World} {p : Addr} {o : Obj} (u : Value) (ho : A.heap[p.block]? = some o) (hk : ¬ K p.block o) : Fix K A (A.setCell p u) := by
  have hb := (Below.refl p.block A).setCell (p := p) (Nat.le_refl _) u
  refine ⟨hb.os, hb.tape, hb.output, hb.size, fun g x hg hx => ?_⟩
  by_cases e : g = p.block
  · subst e
    rw [ho] at hx
    cases hx
    exact absurd hg hk
  · exact (Below.heap_setCell A p u g e).trans hx
theorem Fix.putObj {K : Nat → Obj → Prop} {A : World} {l : Nat} {o : Obj} (o' : Obj) (ho : A.heap[l]? = some o) (hk : ¬ K l o) : Fix K A (A.putObj l o') := by
  have hg := grownBy_putObj' A l o'
  have hb := (Below.refl 0 A).grown hg (Nat.zero_le _) (fun _ _ => Nat.zero_le _)
  refine ⟨hb.os, hb.tape, hb.output, hb.size, fun g x hK hx => ?_⟩
  by_cases e : g = l
  · subst e
    rw [ho] at hx
    cases hx
    exact absurd hK hk
  · exact (World.putObj_heap_other e).trans hx
theorem Fix.below {K : Nat → Obj → Prop} {A B : World} {X : Nat} (h : Fix K A B) (hk : ∀ g o, g < X → K g o) (hx : X ≤ A.heap.size) : Below X A B :=
  ⟨h.os, h.tape, h.output, h.size, fun g hg => by
    have hl : g < A.heap.size := by omega
    rw [h.keep g _ (hk g _ hg) (Array.getElem?_eq_getElem hl), Array.getElem?_eq_getElem hl]⟩
theorem Fix.frame {K : Nat → Obj → Prop} {w A B : World} {X : Nat} (hw : Below X w A) (h : Fix K A B) (hk : ∀ g o, g < X → K g o) (hx : X ≤ w.heap.size) : Below X w B :=
  hw.trans (h.below hk (Nat.le_trans hx hw.size))


/-- All but the block g lies as it lay. -/
def But (g : Nat) (h : Nat) (_ : Obj) : Prop := h ≠ g
/-- .. and no object that is no row of cells. -/
def KI (G B : Nat) (g : Nat) (o : Obj) : Prop := g ≠ G ∧ (g < B ∨ o.isCells = true)
theorem ki_but {G B g : Nat} {o : Obj} (h : KI G B g o) : But G g o := h.1
/-- What a round keeps: the iterator's number and its own row. -/
def KQ (n₁ G : Nat) (g : Nat) (o : Obj) : Prop := o.isCells = true ∧ (g = n₁ ∨ g = G)

/-- THE ITERATOR's CONTRACT: N rounds; in round q it tells a value v with Y. -/
def AllIn (F : Fence) (n : Nat) (P : Program) (gf : Nat) (lb : Array Value) (n₁ N : Nat) (Y : Nat → Nat → Value → World → Prop) (w : World) : Prop :=
  ∀ (l : Nat) (J : Nat → Nat → World → Prop) (W : World), Below w.heap.size w W → (∀ G q A B, J G q A → Fix (But G) A B → J G q B) →
    (∀ G q A v, J G q A → q < N → Y G q v A → YieldAt F (n - 1) P l #[v] A fun e B => e = .returned (.bool true) ∧ J G (q + 1) B ∧ Fix (KQ n₁ G) A B) →
    (∀ G, W.heap.size ≤ G → J G 0 W) → CallsIn F n P gf (#[.func (.yield l) #[] #[]] ++ lb) W fun e B => (∃ v, e = .returned v) ∧ ∃ G, J G N B

/-- THE STATEMENT 'for v := range it { .. }', its body leaving at its end alone. -/
theorem wpIn_all {F : Fence} {n : Nat} {P : Program} {g : Operand} {ps : Array Tmp} {assign body : Code} {Q : Exit → Act → World → Prop} {a : Act} {w : World}
    (hro : F.round = none) (h1 : 1 ≤ n) {gf : Nat} {lb : Array Value} (hg : a.eval g = .func (.func gf) #[] lb) (hFg : F.fn gf) (eg : ∀ args w, (callFunc gf args).run P w = .ok (.enter gf args) w)
    {n₁ N : Nat} {Y : Nat → Nat → Value → World → Prop} (hseq : AllIn F (n - 1) P gf lb n₁ N Y w) (hps : ps.size = 1)
    (I : Nat → Nat → World → Prop) (hI : ∀ G q A B, I G q A → Fix (KI G w.heap.size) A B → I G q B) (h0 : ∀ G, w.heap.size ≤ G → I G 0 w)
    (Ax : Nat → Nat → Act → World → Prop) (hAx : ∀ G q a' A l o o', Ax G q a' A → A.heap[l]? = some o → o.isCells = false → Ax G q a' (A.putObj l o'))
    (hassign : ∀ (l G q : Nat) (W : World) (v : Value) (K : Act → World → Prop), I G q W → q < N → Y G q v W → (∀ a' W', KeepsFrom w.heap.size W W' → Fix (KQ n₁ G) W W' → I G q W' → Ax G q a' W' → K a' W') →
      assign.wpIn (F.inRound l) (n - 1 - 1) P (Exit.then K (fun _ _ _ => False)) { tmps := (ps.zip #[v]).foldl (fun t (p, v) => t.setIfInBounds p v) a.tmps, defers := [] } W)
    (hbody : ∀ (l G q : Nat) (a' : Act) (W : World), I G q W → Ax G q a' W → q < N →
      body.wpIn (F.inRound l) (n - 1 - 1) P (fun e _ W' => e = .normal ∧ KeepsFrom w.heap.size W W' ∧ Fix (KQ n₁ G) W W' ∧ I G (q + 1) W') a' W)
    (hdone : ∀ (D G : Nat) (W : World), w.heap.size ≤ D → I G N W → W.heap[D]? = some (.deferred (some [])) → Q .normal { a with defers := { target := .collected D, args := #[] } :: a.defers } W) :
    (Code.rangeFunc g ps assign body).wpIn F n P Q a w := by
  refine wpIn_rangeFunc ?_
  intro fn hfn
  rw [hro]
  obtain ⟨rec, hrec⟩ : ∃ rec : LoopState → Option Code → Loop, rec = fun st pe => { state := st, pending := pe, fn, tmps := a.tmps, params := ps, assign, body, defers := w.heap.size } := ⟨_, rfl⟩
  obtain ⟨W1, hW1⟩ : ∃ W1, (w.alloc (.deferred (some []))).alloc (.loop (rec .ready none)) = W1 := ⟨_, rfl⟩
  have hL1 : W1.heap[w.heap.size + 1]? = some (.loop (rec .ready none)) := by
    rw [← hW1]; have := World.alloc_heap_new (w.alloc (.deferred (some []))) (.loop (rec .ready none)); rwa [World.size_alloc] at this
  have hK1 : W1.heap[w.heap.size]? = some (.deferred (some [])) := by
    rw [← hW1]; exact (Below.heap_alloc _ _ _ (by simp)).trans (World.alloc_heap_new w _)
  have hsz1 : W1.heap.size = w.heap.size + 2 := by rw [← hW1]; simp
  have hI1 : ∀ G, W1.heap.size ≤ G → I G 0 W1 := fun G hG => by rw [← hW1]; exact hI _ _ _ _ (hI _ _ _ _ (h0 G (by omega)) (Fix.alloc _ _)) (Fix.alloc _ _)
  have hb1 : Below w.heap.size w W1 := by rw [← hW1]; exact ((Below.refl _ w).alloc (Nat.le_refl _) _).alloc (by simp) _
  have nc : ∀ {G g : Nat} {o : Obj}, w.heap.size ≤ g → o.isCells = false → ¬ KI G w.heap.size g o := fun h0 h2 h => by
    rcases h.2 with h3 | h3
    · omega
    · rw [h2] at h3; exact absurd h3 (by decide)
  have nq : ∀ {G g : Nat} {o : Obj}, o.isCells = false → ¬ KQ n₁ G g o := fun h2 h => by have h3 := h.1; rw [h2] at h3; exact absurd h3 (by decide)
  refine ⟨w.heap.size + 1, [{ target := .collected w.heap.size, args := #[] }], W1, { target := .fn (.func gf) lb, args := #[.func (.yield (w.heap.size + 1)) #[] #[]] }, W1, gf,
    #[.func (.yield (w.heap.size + 1)) #[] #[]] ++ lb, W1, ?_, ?_, ?_, ?_, fun _ => h1, ?_⟩
  · rw [← hW1, hrec]; exact run_enterLoop_outer _ _ _ _ _
  · simp only [resolve, hg]
    simp [go_sem]
  · intro f' hf'; simp [Target.leads] at hf'; subst hf'; exact hFg
  · simp [invoke, go_sem, eg]
  · refine (hseq (w.heap.size + 1)
      (fun G q W => I G q W ∧ W.heap[w.heap.size + 1]? = some (.loop (rec .ready none)) ∧ W.heap[w.heap.size]? = some (.deferred (some [])) ∧ w.heap.size + 2 ≤ G)
      W1 hb1 (fun G q A B ⟨h1, h2, h3, h4⟩ hf => ⟨hI G q A B h1 (hf.mono fun _ _ => ki_but), hf.keep _ _ (by unfold But; omega) h2, hf.keep _ _ (by unfold But; omega) h3, h4⟩)
      ?_ (fun G hG => ⟨hI1 G hG, hL1, hK1, by omega⟩)).mono ?_
    · rintro G q W v ⟨hi, hl, hk, hG⟩ hlen hv
      have hlt : w.heap.size + 1 < W.heap.size := (Array.getElem?_eq_some_iff.1 hl).1
      have hy := run_yield (P := P) (args := #[v]) hl (by rw [hrec]; exact hps.symm)
      rw [hrec] at hy
      refine ⟨fn, _, assign, body, hy, roundIn_of_wpIn hfn (hassign _ G q W v _ hi hlen hv ?_)⟩
      clear hy
      intro a' Wa hkfa hkpa hia hax
      replace hl := hkfa.same _ _ (by omega) hl rfl
      replace hk := hkfa.same _ _ (Nat.le_refl _) hk rfl
      replace hlt : w.heap.size + 1 < Wa.heap.size := (Array.getElem?_eq_some_iff.1 hl).1
      refine ⟨_, run_beginRound hl (by rw [hrec]), ?_⟩
      obtain ⟨Wb, hWb⟩ : ∃ Wb, Wa.putObj (w.heap.size + 1) (.loop { rec .ready none with state := .busy }) = Wb := ⟨_, rfl⟩
      have hl2 : Wb.heap[w.heap.size + 1]? = some (.loop { rec .ready none with state := .busy }) := by rw [← hWb]; exact World.putObj_heap_same hlt
      have hk2 : Wb.heap[w.heap.size]? = some (.deferred (some [])) := by rw [← hWb]; exact (World.putObj_heap_other (by omega)).trans hk
      have hq2 : Fix (KQ n₁ G) Wa Wb := by rw [← hWb]; exact Fix.putObj _ hl (nq rfl)
      have hi2 : I G q Wb := by rw [← hWb]; exact hI _ _ _ _ hia (Fix.putObj _ hl (nc (by omega) rfl))
      have hax2 : Ax G q a' Wb := by rw [← hWb]; exact hAx _ _ _ _ _ _ _ hax hl rfl
      show body.wpIn (F.inRound (w.heap.size + 1)) (n - 1 - 1) P _ a' (Wa.putObj (w.heap.size + 1) (.loop { rec .ready none with state := .busy }))
      rw [hWb]
      refine wpIn_mono (hbody _ G q a' _ hi2 hax2 hlen) ?_
      rintro e a3 W3 ⟨rfl, hk3, hkp3, hi3⟩
      have hl3 := hk3.same _ _ (by omega) hl2 rfl
      have hr := run_endRound (P := P) none hl3
      have hk4 := hk3.same _ _ (Nat.le_refl _) hk2 rfl
      rw [hrec] at hr hl3
      refine ⟨_, _, hr, rfl, ⟨hI _ _ _ _ hi3 (Fix.putObj _ hl3 (nc (by omega) rfl)), ?_, (World.putObj_heap_other (by omega)).trans hk4, hG⟩, hkpa.trans (hq2.trans (hkp3.trans (Fix.putObj _ hl3 (nq rfl))))⟩
      rw [hrec]
      exact World.putObj_heap_same (Array.getElem?_eq_some_iff.1 hl3).1
    · rintro e W2 ⟨⟨v, rfl⟩, G, hi, hl, hk, _⟩
      refine ⟨none, _, by have := run_endLoop (P := P) hl (by rw [hrec]; simp); rw [hrec] at this; exact this, hdone _ G _ (Nat.le_refl _) (hI _ _ _ _ hi (Fix.putObj _ hl (nc (by omega) rfl))) ((World.putObj_heap_other (by omega)).trans hk)⟩
theorem Fix.grown {K : Nat → Obj → Prop} {A B : World} {row : Option Nat} (hg : A.grownBy B row) (hk : ∀ g o, row = some g → A.heap[g]? = some o → ¬ K g o) : Fix K A B := by
  have hb := (Below.refl 0 A).grown hg (Nat.zero_le _) (fun _ _ => Nat.zero_le _)
  refine ⟨hb.os, hb.tape, hb.output, hb.size, fun g x hK hx => ?_⟩
  by_cases e : row = some g
  · exact absurd hK (hk g x e hx)
  · exact (hg.block g (Array.getElem?_eq_some_iff.1 hx).1 (fun h => e h.symm)).trans hx
theorem own_fix {K : Nat → Obj → Prop} {A B : World} {base : Nat} {e : TypeId} {sz n : Nat} {v : Value} {xs : List Value} (h : A.ownsRow base e sz v n xs) (hf : Fix K A B) (hk : ∀ g cs, v.ownBlock = some g → K g (.cells cs e (0, 0))) : B.ownsRow base e sz v n xs := by
  obtain ⟨h1, h2⟩ := h
  refine ⟨h1, ?_⟩
  rcases h2 with h2 | ⟨g, cap, cur, hv, hg, hh, r⟩
  · exact .inl h2
  · exact .inr ⟨g, cap, cur, hv, hg, hf.keep g _ (hk g cur (by rw [hv]; rfl)) hh, r⟩
theorem own_obj {A : World} {base : Nat} {e : TypeId} {sz n : Nat} {v : Value} {xs : List Value} (h : A.ownsRow base e sz v n xs) {g : Nat} (hg : v.ownBlock = some g) : base ≤ g ∧ ∃ cs, A.heap[g]? = some (.cells cs e (0, 0)) := by
  obtain ⟨h1, h2⟩ := h
  rcases h2 with ⟨rfl, _⟩ | ⟨g', cap, cur, rfl, hg', hh, r⟩
  · simp [Value.ownBlock] at hg
  · simp [Value.ownBlock] at hg
    subst hg
    exact ⟨hg', cur, hh⟩

section
variable {F : Fence} {nF : Nat} {P : Program} {w0 : World} {ops : Array Oper} {rest : List Oper} {o : Oper} {a : Act} {Q : Exit → Act → World → Prop}
/-- 'out = append(out, x)' inside a fence. -/
theorem app1In (hgd : o.guard = none) (s x : Operand) (t : TypeId)
    (ho : o.op = .call { callee := .builtin .append, args := #[s, x], argTypes := #[t, t] })
    (e : TypeId) (z : Value) (size bytes : Nat) (E : EOk P t e z size bytes) (base : Nat) (cs : Array Value)
    (v : Value) (n : Nat) (xs : List Value) (hs : a.eval s = v) (hown : w0.ownsRow base e size v n xs)
    (g : Nat) (hx : a.eval x = .slice (some ⟨g, 0, none⟩) 1 1) (hgs : g = w0.heap.size) (hl : cs.size = size) (h1 : (cs.toList.all fun u => u.oneCell') = true)
    (hn : n ≤ 1000000) (hbase : base ≤ w0.heap.size)
    (h : ∀ v' w', w'.ownsRow base e size v' (n + 1) (xs ++ cs.toList) → w0.grownBy w' v.ownBlock → (v'.ownBlock = v.ownBlock ∨ ∃ g, v'.ownBlock = some g ∧ w0.heap.size ≤ g) → wpListIn F nF P ops Q rest (a.put o.dst v') w') :
    wpListIn F nF P ops Q (o :: rest) a (w0.alloc (.cells cs e)) := by
  subst hgs
  obtain ⟨i, hi, hz0, hz1, hz2⟩ := E.info
  have hb : (n + 1) * bytes ≤ 140737488355328 := by
    have := E.hby
    have h2 : (n + 1) * bytes ≤ 1000001 * 4096 := Nat.mul_le_mul (by omega) this
    omega
  refine wpListIn_append_own_at _ hgd s x t ho base e i z size bytes E.ht hi hz0 hz1 hz2 E.hzs E.hsz v n xs hs (hown.alloc _) ⟨w0.heap.size, 0, none⟩ 1 1 cs.toList hx (by simpa using hl)
    (fun j u hu => by
      rw [show ((⟨w0.heap.size, 0, none⟩ : Addr).add j) = ⟨w0.heap.size, j, none⟩ from by unfold Addr.add; split <;> simp [*], World.cell?_alloc_at _ _ _ _ rfl]
      simpa using hu) (List.all_eq_true.1 h1) (by unfold maxLen; omega) hb (by simp; omega) ?_
  intro v' w' h2 h3 _ h5
  exact h v' w' h2 (grownBy_alloc_trans h3) (h5.imp id fun h => ⟨_, h, by simp⟩)
end


theorem own_set_far {w : World} {base n sz : Nat} {e : TypeId} {v : Value} {xs : List Value} (h : w.ownsRow base e sz v n xs) {p : Addr} (hp : p.block < base) (u : Value) : (w.setCell p u).ownsRow base e sz v n xs :=
  own_keep h fun g hg => Below.heap_setCell w p u g (by have := (h.lt g hg).1; omega)
theorem keepsFrom_below {B X : Nat} {A C : World} (h : Below X A C) (hx : A.heap.size ≤ X := by exact Nat.le_refl _) : KeepsFrom B A C :=
  ⟨h.size, fun k _ _ hk _ => (h.block k (Nat.lt_of_lt_of_le (Array.getElem?_eq_some_iff.1 hk).1 hx)).trans hk⟩
theorem RowAt.fix {K : Nat → Obj → Prop} {w w' : World} {B : Nat} {X : Nat → Prop} {v : Value} {p : List Int} (h : RowAt w B X v p) (hf : Fix K w w') (hk : ∀ g o, g < B → ¬ X g → o.isCells = true → K g o) : RowAt w' B X v p := by
  obtain ⟨A, c, e, h1, h2, h3, h4⟩ := h
  refine ⟨A, c, e, h1, h2, ⟨h3.1, fun hn => ?_⟩, h4⟩
  obtain ⟨b, off, e, hb, hc⟩ := h3.2 hn
  refine ⟨b, off, e, hb, fun j u hu => ?_⟩
  have h5 := hc j u hu
  obtain ⟨o, hg, ho⟩ := cells_of_cell h5
  have h6 := hf.keep b o (hk b o hb (h4 b off none hn e) ho) hg
  exact (World.cell?_of_block (h6.trans hg.symm)).trans h5
theorem Tab.fix {K : Nat → Obj → Prop} {w w' : World} {B : Nat} {X : Nat → Prop} {vs : List Value} {ps : List (List Int)} (h : Tab w B X vs ps) (hf : Fix K w w') (hk : ∀ g o, g < B → ¬ X g → o.isCells = true → K g o) : Tab w' B X vs ps :=
  ⟨h.1, fun i v p hv hp => (h.2 i v p hv hp).fix hf hk⟩
theorem rowAt_own {w : World} {base : Nat} {e : TypeId} {v : Value} {p : List Int} {X : Nat → Prop} (h : w.ownsRow base e 1 v p.length (ints p)) (hX : ∀ g, v.ownBlock = some g → ¬ X g) : RowAt w w.heap.size X v p := by
  obtain ⟨A, c, rfl, h1, h2⟩ := own_cap h
  exact ⟨A, c, rfl, h1, h2, Rd.of_own h, fun b off f hn ha he => hX b (by rw [ha]; rfl) he⟩
theorem tab_push {w4 w5 : World} {u u5 v : Value} {vs : List Value} {ps : List (List Int)} {p : List Int} {L : Nat → Prop} (ht : Tab w4 w4.heap.size (fun x => L x ∨ u.ownBlock = some x) vs ps) (hr : RowAt w4 w4.heap.size (fun x => L x ∨ u.ownBlock = some x) v p)
    (hg : w4.grownBy w5 u.ownBlock) (hx : u5.ownBlock = u.ownBlock ∨ ∃ g, u5.ownBlock = some g ∧ w4.heap.size ≤ g) : Tab w5 w5.heap.size (fun x => L x ∨ u5.ownBlock = some x) (vs ++ [v]) (ps ++ [p]) := by
  have h3 := (ht.snoc hr).grown hg (fun g hg => .inr hg) (Nat.le_refl _)
  exact (h3.at (fun g hg => by
    rcases hg with hg | hg
    · exact .inl (.inl hg)
    · rcases hx with h | ⟨g', h, hg'⟩
      · rw [h] at hg; exact .inl (.inr hg)
      · rw [h] at hg; injection hg with hg; exact .inr (by omega))).more hg.size
/-- A table of the call's own: header row u, its rows elsewhere. -/
def OwnT (w : World) (base : Nat) (u : Value) (ps : List (List Int)) : Prop := ∃ vs, w.ownsRow base 23 1 u ps.length vs ∧ Tab w w.heap.size (fun x => x < base ∨ u.ownBlock = some x) vs ps
theorem OwnT.cap {w : World} {base : Nat} {u : Value} {ps : List (List Int)} (h : OwnT w base u ps) : ∃ A c, u = .slice A ps.length c ∧ TRd w w.heap.size A ps.length ps := by
  obtain ⟨vs, h1, h2⟩ := h
  obtain ⟨A, c, rfl, _, _⟩ := own_cap h1
  exact ⟨A, c, rfl, TRd.of_own h1 h2⟩
theorem OwnT.base {w : World} {base base' : Nat} {u : Value} {ps : List (List Int)} (h : OwnT w base u ps) (hb : base' ≤ base) : OwnT w base' u ps := by
  obtain ⟨vs, h1, h2⟩ := h
  exact ⟨vs, own_base h1 hb, h2.at (fun g hg => hg.elim (fun h => .inl (.inl (Nat.lt_of_lt_of_le h hb))) (fun h => .inl (.inr h)))⟩
theorem OwnT.nil {w : World} {base : Nat} : OwnT w base (.slice none 0 0) [] := ⟨[], World.ownsRow_nil .., Tab.nil⟩
theorem OwnT.below {w w' : World} {base : Nat} {u : Value} {ps : List (List Int)} (h : OwnT w base u ps) (hb : Below w.heap.size w w') : OwnT w' base u ps := by
  obtain ⟨vs, h1, h2⟩ := h
  exact ⟨vs, own_below h1 hb, (h2.below hb (Nat.le_refl _)).more hb.size⟩
end Go.Proofs.Ytejjogpgolgdgaa
