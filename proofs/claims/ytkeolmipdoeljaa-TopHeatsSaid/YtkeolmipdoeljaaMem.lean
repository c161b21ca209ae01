/-
  WORDS FOR MEMORY: a slice that reads as a list of cells; rows of the call's own. No program is named.
-/
import Derived.WalkKit
import Derived.WalkSpells
import Derived.WalkLawsBesides
import Derived.Lib.Hide
import Derived.Maps.AppendAt
import Derived.Deep.AppendLies
import Derived.Deep.Draws
import Derived.RegionTactic
import Derived.Test.YtkeolmipdoeljaaPlain
namespace Go.Proofs.Ytkeolmipdoeljaa
open Go.RowKit Heat

/-- The slice value '.slice A n c' reads as the cells xs, sz cells an element, and lies below block B. -/
def Rd (w : World) (B sz : Nat) (A : Option Addr) (n : Nat) (xs : List Value) : Prop :=
  xs.length = n * sz ∧ (0 < n → ∃ b off, A = some ⟨b, off, none⟩ ∧ b < B ∧ ∀ j u, xs[j]? = some u → w.cell? ⟨b, off + j, none⟩ = some u)

section
variable {w w' : World} {B B' sz n : Nat} {A : Option Addr} {xs : List Value}
theorem Rd.nil : Rd w B sz A 0 [] := ⟨by simp, fun h => absurd h (by omega)⟩
theorem Rd.keep (h : Rd w B sz A n xs) (hk : ∀ p : Addr, p.block < B → w'.cell? p = w.cell? p) : Rd w' B sz A n xs :=
  ⟨h.1, fun hn => by
    obtain ⟨b, off, e, hb, hc⟩ := h.2 hn
    exact ⟨b, off, e, hb, fun j u hu => (hk ⟨b, off + j, none⟩ hb).trans (hc j u hu)⟩⟩
theorem Rd.more (h : Rd w B sz A n xs) (hB : B ≤ B') : Rd w B' sz A n xs :=
  ⟨h.1, fun hn => by
    obtain ⟨b, off, e, hb, hc⟩ := h.2 hn
    exact ⟨b, off, e, by omega, hc⟩⟩
theorem Rd.below (h : Rd w B sz A n xs) (hb : Below B w w') : Rd w' B sz A n xs := h.keep fun _ hp => hb.cell hp
/-- Below a greater number, too. -/
theorem Rd.below' (h : Rd w B sz A n xs) (hb : Below B' w w') (hB : B ≤ B') : Rd w' B sz A n xs := h.below (hb.mono hB)
theorem Rd.drew (h : Rd w B sz A n xs) : Rd w.drew B sz A n xs := h
theorem Rd.drewN (h : Rd w B sz A n xs) (k : Nat) : Rd (w.drewN k) B sz A n xs := h
theorem Rd.alloc (h : Rd w B sz A n xs) (hB : B ≤ w.heap.size) (o : Obj) : Rd (w.alloc o) B sz A n xs := h.keep fun p hp => World.cell?_alloc_lt w o p (by omega)
theorem Rd.setCell (h : Rd w B sz A n xs) {p : Addr} (hB : B ≤ p.block) (u : Value) : Rd (w.setCell p u) B sz A n xs :=
  h.keep fun q hq => World.cell?_setCell_other w p q u (fun e => by subst e; omega)
theorem Rd.grown (h : Rd w B sz A n xs) {row : Option Nat} (hg : w.grownBy w' row) (hB : B ≤ w.heap.size) (hr : ∀ g, row = some g → B ≤ g) : Rd w' B sz A n xs :=
  h.keep fun p hp => World.cell?_of_block (hg.block p.block (by omega) (fun e => by have := hr _ e.symm; omega))
theorem Rd.of_own {base : Nat} {e : TypeId} {c : Nat} (h : w.ownsRow base e sz (.slice A n c) n xs) : Rd w w.heap.size sz A n xs := by
  refine ⟨h.1, fun hn => ?_⟩
  obtain ⟨g, cap, hv, _, hlt⟩ := h.form hn
  have hA : A = some ⟨g, 0, none⟩ := by injection hv
  subst hA
  refine ⟨g, 0, rfl, hlt, fun j u hu => ?_⟩
  have hj : j < n * sz := by rw [← h.1]; exact (List.getElem?_eq_some_iff.1 hu).1
  have hv' : cap = c := by injection hv with _ _ h3; exact h3.symm
  subst hv'
  rw [Nat.zero_add, h.cellAt j hj]; exact hu
end

/-- An act's cells. -/
def actCell (a : HAct) : List Value := [.int .i64 a.kind, .int .i64 a.ion, .int .i64 a.heat]
def actCells (l : List HAct) : List Value := l.flatMap actCell
abbrev actV (a : HAct) : Value := .agg #[.int .i64 a.kind, .int .i64 a.ion, .int .i64 a.heat]
theorem actCells_length (l : List HAct) : (actCells l).length = l.length * 3 := by
  induction l with
  | nil => rfl
  | cons a l ih => simp only [actCells, List.flatMap_cons, List.length_append] at *; rw [ih]; simp [actCell]; omega
theorem acts_get (l : List HAct) (i j : Nat) (hi : i < l.length) (hj : j < 3) : (actCells l)[i * 3 + j]? = (actCell l[i])[j]? := by
  induction l generalizing i with
  | nil => simp at hi
  | cons a l ih =>
    cases i with
    | zero =>
      simp only [actCells, List.flatMap_cons, Nat.zero_mul, Nat.zero_add]
      rw [List.getElem?_append_left (by simpa [actCell] using hj)]
      rfl
    | succ i =>
      have e : (i + 1) * 3 + j = (i * 3 + j) + 3 := by omega
      simp only [actCells, List.flatMap_cons]
      rw [List.getElem?_append_right (by simp [actCell]; omega), e]
      have := ih i (by simpa using hi)
      simpa [actCells, actCell] using this
/-- The three cells of act i. -/
theorem Rd.act {w : World} {B n : Nat} {A : Option Addr} {l : List HAct} (h : Rd w B 3 A n (actCells l)) {i : Nat} (hi : i < l.length) :
    ∃ b off, A = some ⟨b, off, none⟩ ∧ b < B ∧ w.cell? ⟨b, off + i * 3, none⟩ = some (.int .i64 l[i].kind) ∧ w.cell? ⟨b, off + i * 3 + 1, none⟩ = some (.int .i64 l[i].ion) ∧ w.cell? ⟨b, off + i * 3 + 2, none⟩ = some (.int .i64 l[i].heat) := by
  have hl : n = l.length := by have := h.1; simp [actCells_length] at this; omega
  obtain ⟨b, off, e, hb, hc⟩ := h.2 (by omega)
  refine ⟨b, off, e, hb, hc (i * 3) _ ?_, hc (i * 3 + 1) _ ?_, hc (i * 3 + 2) _ ?_⟩
  · have := acts_get l i 0 hi (by omega); simpa [actCell] using this
  · have := acts_get l i 1 hi (by omega); simpa [actCell] using this
  · have := acts_get l i 2 hi (by omega); simpa [actCell] using this
theorem Rd.act_len {w : World} {B n : Nat} {A : Option Addr} {l : List HAct} (h : Rd w B 3 A n (actCells l)) : n = l.length := by
  have := h.1; simp [actCells_length] at this; omega
theorem ret_bool {a b : Bool} (h : a = b) : Ending.returned (.bool a) = .returned (.bool b) := by rw [h]
theorem ret_int {k : IntKind} {a b : Int} (h : a = b) : Ending.returned (.int k a) = .returned (.int k b) := by rw [h]
/-- One act more. -/
theorem all_take (p : HAct → Bool) (l : List HAct) (q : Nat) (h : q < l.length) : (l.take (q + 1)).all p = ((l.take q).all p && p l[q]) := by
  simp only [List.take_add_one, List.all_append, List.getElem?_eq_getElem h, Option.toList, List.all_cons, List.all_nil, Bool.and_true]
theorem any_take {α : Type} (p : α → Bool) (l : List α) (q : Nat) (h : q < l.length) : (l.take (q + 1)).any p = ((l.take q).any p || p l[q]) := by
  simp only [List.take_add_one, List.any_append, List.getElem?_eq_getElem h, Option.toList, List.any_cons, List.any_nil, Bool.or_false]

/-- What is asked of a slice type t of elements e: z the zero element, size cells, bytes bytes. -/
structure EOk (P : Program) (t e : TypeId) (z : Value) (size bytes : Nat) : Prop where
  ht : P.underlying t = some (.slice e)
  info : ∃ i, P.info? e = some i ∧ i.zero = some z ∧ i.size = size ∧ i.bytes = bytes
  hzs : z.cells.size = size
  hsz : 0 < size
  hby : bytes ≤ 4096

theorem grownBy_alloc_trans {w w' : World} {o : Obj} {row : Option Nat} (h : (w.alloc o).grownBy w' row) : w.grownBy w' row :=
  ⟨h.os, h.tape, h.output, by have := h.size; simp at this; omega, fun k hk hr => (h.block k (by simp; omega) hr).trans (Below.heap_alloc w o k hk)⟩

section
variable {P : Program} {w0 : World} {ops : Array Oper} {rest : List Oper} {o : Oper} {a : Act} {Q : Exit → Act → World → Prop}
/-- 'out = append(out, x)', out a row of the call's own: x lies in the block that was made last. -/
theorem app1 (hgd : o.guard = none) (s x : Operand) (t : TypeId)
    (ho : o.op = .call { callee := .builtin .append, args := #[s, x], argTypes := #[t, t] })
    (e : TypeId) (z : Value) (size bytes : Nat) (E : EOk P t e z size bytes) (base : Nat) (cs : Array Value)
    (v : Value) (n : Nat) (xs : List Value) (hs : a.eval s = v) (hown : w0.ownsRow base e size v n xs)
    (g : Nat) (hx : a.eval x = .slice (some ⟨g, 0, none⟩) 1 1) (hgs : g = w0.heap.size) (hl : cs.size = size) (h1 : (cs.toList.all fun u => u.oneCell') = true)
    (hn : n ≤ 1000000) (hbase : base ≤ w0.heap.size)
    (h : ∀ v' w', w'.ownsRow base e size v' (n + 1) (xs ++ cs.toList) → w0.grownBy w' v.ownBlock → wpList P ops Q rest (a.put o.dst v') w') :
    wpList P ops Q (o :: rest) a (w0.alloc (.cells cs e)) := by
  subst hgs
  obtain ⟨i, hi, hz0, hz1, hz2⟩ := E.info
  refine wpList_append_own _ hgd s x t ho base e i z size bytes E.ht hi hz0 hz1 hz2 E.hzs E.hsz v n xs hs (hown.alloc _) ⟨w0.heap.size, 0, none⟩ 1 1 cs.toList hx (by simpa using hl) ?_ (List.all_eq_true.1 h1) (by unfold maxLen; omega) ?_ (by simp; omega) fun v' w' h2 h3 _ => h v' w' h2 (grownBy_alloc_trans h3)
  · intro j u hu
    rw [show ((⟨w0.heap.size, 0, none⟩ : Addr).add j) = ⟨w0.heap.size, j, none⟩ from by unfold Addr.add; split <;> simp [*], World.cell?_alloc_at _ _ _ _ rfl]
    simpa using hu
  · have := E.hby
    have h2 : (n + 1) * bytes ≤ 1000001 * 4096 := Nat.mul_le_mul (by omega) this
    omega
end

/-- What is owned is kept where nothing of its block is written. -/
theorem own_keep {w w' : World} {base : Nat} {e : TypeId} {sz n : Nat} {v : Value} {xs : List Value} (h : w.ownsRow base e sz v n xs) (hk : ∀ g, v.ownBlock = some g → w'.heap[g]? = w.heap[g]?) : w'.ownsRow base e sz v n xs := by
  obtain ⟨h1, h2⟩ := h
  refine ⟨h1, ?_⟩
  rcases h2 with h2 | ⟨g, cap, cur, hv, hg, hh, r⟩
  · exact Or.inl h2
  · exact Or.inr ⟨g, cap, cur, hv, hg, (hk g (by rw [hv]; rfl)).trans hh, r⟩
/-- The value of an owned row. -/
theorem own_val {w : World} {base : Nat} {e : TypeId} {sz n : Nat} {v : Value} {xs : List Value} (h : w.ownsRow base e sz v n xs) : ∃ A c, v = .slice A n c ∧ (∀ g, v.ownBlock = some g → base ≤ g ∧ g < w.heap.size) := by
  obtain ⟨h1, h2⟩ := h
  rcases h2 with ⟨rfl, rfl⟩ | ⟨g, cap, cur, rfl, hg, hh, r⟩
  · exact ⟨none, 0, rfl, fun g hg => by simp [Value.ownBlock] at hg⟩
  · refine ⟨_, _, rfl, fun g' hg' => ?_⟩
    simp [Value.ownBlock] at hg'
    subst hg'
    refine ⟨hg, ?_⟩
    exact (Array.getElem?_eq_some_iff.1 hh).1

/-- Behind an append onto a row of the call's own nothing that was there has turned. -/
theorem below_own {w w0 w' : World} {B base : Nat} {e : TypeId} {sz n : Nat} {v : Value} {xs : List Value} (hb : Below B w w0) (hB : B ≤ w0.heap.size) (hown : w0.ownsRow base e sz v n xs) (hbase : B ≤ base) (hg : w0.grownBy w' v.ownBlock) : Below B w w' :=
  hb.grown hg hB fun g h => by have := (hown.lt g h).1; omega
theorem own_below {w w' : World} {base : Nat} {e : TypeId} {sz n : Nat} {v : Value} {xs : List Value} (h : w.ownsRow base e sz v n xs) (hb : Below w.heap.size w w') : w'.ownsRow base e sz v n xs :=
  own_keep h fun g hg => hb.block g (h.lt g hg).2
end Go.Proofs.Ytkeolmipdoeljaa
