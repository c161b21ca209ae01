/-
  WORDS FOR MEMORY: a slice that reads as a list of cells; rows of the call's own; blocks known whole. No program is named.
-/
import Derived.WalkKit
import Derived.WalkSpells
import Derived.WalkLawsBesides
import Derived.Lib.Hide
import Derived.Maps.AppendAt
import Derived.Deep.AppendLies
import Derived.Deep.Draws
import Derived.RegionTactic
import Derived.Deep.OwnRows
import Derived.Deep.RegionHeld3
import Derived.Lib.SliceRun
import Derived.IntWalk
namespace Go.Proofs.Ytlhbmfaoldajdaa
open Go.RowKit

/-! ### Mem -/

/-- The slice value '.slice A n c' reads as the cells xs, sz cells an element, and lies below block B. -/
def Rd (w : World) (B sz : Nat) (A : Option Addr) (n : Nat) (xs : List Value) : Prop :=
  xs.length = n * sz ∧ (0 < n → ∃ b off, A = some ⟨b, off, none⟩ ∧ b < B ∧ ∀ j u, xs[j]? = some u → w.cell? ⟨b, off + j, none⟩ = some u)

section
variable {w w' : World} {B B' sz n : Nat} {A : Option Addr} {xs : List Value}
theorem Rd.nil : Rd w B sz A 0 [] := ⟨by simp, fun h => absurd h (by omega)⟩
theorem Rd.keep (h : Rd w B sz A n xs) (hk : ∀ p : Addr, p.block < B → w'.cell? p = w.cell? p) : Rd w' B sz A n xs :=
  ⟨h.1, fun hn => by
    obtain ⟨b, off, e, hb, hc⟩ := h.2 hn
    exact ⟨b, off, e, hb, fun j u hu => (hk ⟨b, off + j, none⟩ hb).trans (hc j u hu)⟩⟩
theorem Rd.more (h : Rd w B sz A n xs) (hB : B ≤ B') : Rd w B' sz A n xs :=
  ⟨h.1, fun hn => by
    obtain ⟨b, off, e, hb, hc⟩ := h.2 hn
    exact ⟨b, off, e, by omega, hc⟩⟩
theorem Rd.below (h : Rd w B sz A n xs) (hb : Below B w w') : Rd w' B sz A n xs := h.keep fun _ hp => hb.cell hp
/-- Below a greater number, too. -/
theorem Rd.below' (h : Rd w B sz A n xs) (hb : Below B' w w') (hB : B ≤ B') : Rd w' B sz A n xs := h.below (hb.mono hB)
theorem Rd.drew (h : Rd w B sz A n xs) : Rd w.drew B sz A n xs := h
theorem Rd.drewN (h : Rd w B sz A n xs) (k : Nat) : Rd (w.drewN k) B sz A n xs := h
theorem Rd.alloc (h : Rd w B sz A n xs) (hB : B ≤ w.heap.size) (o : Obj) : Rd (w.alloc o) B sz A n xs := h.keep fun p hp => World.cell?_alloc_lt w o p (by omega)
theorem Rd.setCell (h : Rd w B sz A n xs) {p : Addr} (hB : B ≤ p.block) (u : Value) : Rd (w.setCell p u) B sz A n xs :=
  h.keep fun q hq => World.cell?_setCell_other w p q u (fun e => by subst e; omega)
theorem Rd.grown (h : Rd w B sz A n xs) {row : Option Nat} (hg : w.grownBy w' row) (hB : B ≤ w.heap.size) (hr : ∀ g, row = some g → B ≤ g) : Rd w' B sz A n xs :=
  h.keep fun p hp => World.cell?_of_block (hg.block p.block (by omega) (fun e => by have := hr _ e.symm; omega))
theorem Rd.of_own {base : Nat} {e : TypeId} {c : Nat} (h : w.ownsRow base e sz (.slice A n c) n xs) : Rd w w.heap.size sz A n xs := by
  refine ⟨h.1, fun hn => ?_⟩
  obtain ⟨g, cap, hv, _, hlt⟩ := h.form hn
  have hA : A = some ⟨g, 0, none⟩ := by injection hv
  subst hA
  refine ⟨g, 0, rfl, hlt, fun j u hu => ?_⟩
  have hj : j < n * sz := by rw [← h.1]; exact (List.getElem?_eq_some_iff.1 hu).1
  have hv' : cap = c := by injection hv with _ _ h3; exact h3.symm
  subst hv'
  rw [Nat.zero_add, h.cellAt j hj]; exact hu
end

theorem ret_bool {a b : Bool} (h : a = b) : Ending.returned (.bool a) = .returned (.bool b) := by rw [h]
theorem ret_int {k : IntKind} {a b : Int} (h : a = b) : Ending.returned (.int k a) = .returned (.int k b) := by rw [h]
/-- One act more. -/
theorem all_take {α : Type} (p : α → Bool) (l : List α) (q : Nat) (h : q < l.length) : (l.take (q + 1)).all p = ((l.take q).all p && p l[q]) := by
  simp only [List.take_add_one, List.all_append, List.getElem?_eq_getElem h, Option.toList, List.all_cons, List.all_nil, Bool.and_true]
theorem any_take {α : Type} (p : α → Bool) (l : List α) (q : Nat) (h : q < l.length) : (l.take (q + 1)).any p = ((l.take q).any p || p l[q]) := by
  simp only [List.take_add_one, List.any_append, List.getElem?_eq_getElem h, Option.toList, List.any_cons, List.any_nil, Bool.or_false]

/-- What is asked of a slice type t of elements e: z the zero element, size cells, bytes bytes. -/
structure EOk (P : Program) (t e : TypeId) (z : Value) (size bytes : Nat) : Prop where
  ht : P.underlying t = some (.slice e)
  info : ∃ i, P.info? e = some i ∧ i.zero = some z ∧ i.size = size ∧ i.bytes = bytes
  hzs : z.cells.size = size
  hsz : 0 < size
  hby : bytes ≤ 4096

theorem grownBy_alloc_trans {w w' : World} {o : Obj} {row : Option Nat} (h : (w.alloc o).grownBy w' row) : w.grownBy w' row :=
  ⟨h.os, h.tape, h.output, by have := h.size; simp at this; omega, fun k hk hr => (h.block k (by simp; omega) hr).trans (Below.heap_alloc w o k hk)⟩

section
variable {P : Program} {w0 : World} {ops : Array Oper} {rest : List Oper} {o : Oper} {a : Act} {Q : Exit → Act → World → Prop}
/-- 'out = append(out, x)', out a row of the call's own: x lies in the block that was made last. -/
theorem app1 (hgd : o.guard = none) (s x : Operand) (t : TypeId)
    (ho : o.op = .call { callee := .builtin .append, args := #[s, x], argTypes := #[t, t] })
    (e : TypeId) (z : Value) (size bytes : Nat) (E : EOk P t e z size bytes) (base : Nat) (cs : Array Value)
    (v : Value) (n : Nat) (xs : List Value) (hs : a.eval s = v) (hown : w0.ownsRow base e size v n xs)
    (g : Nat) (hx : a.eval x = .slice (some ⟨g, 0, none⟩) 1 1) (hgs : g = w0.heap.size) (hl : cs.size = size) (h1 : (cs.toList.all fun u => u.oneCell') = true)
    (hn : n ≤ 1000000) (hbase : base ≤ w0.heap.size)
    (h : ∀ v' w', w'.ownsRow base e size v' (n + 1) (xs ++ cs.toList) → w0.grownBy w' v.ownBlock → wpList P ops Q rest (a.put o.dst v') w') :
    wpList P ops Q (o :: rest) a (w0.alloc (.cells cs e)) := by
  subst hgs
  obtain ⟨i, hi, hz0, hz1, hz2⟩ := E.info
  refine wpList_append_own _ hgd s x t ho base e i z size bytes E.ht hi hz0 hz1 hz2 E.hzs E.hsz v n xs hs (hown.alloc _) ⟨w0.heap.size, 0, none⟩ 1 1 cs.toList hx (by simpa using hl) ?_ (List.all_eq_true.1 h1) (by unfold maxLen; omega) ?_ (by simp; omega) fun v' w' h2 h3 _ => h v' w' h2 (grownBy_alloc_trans h3)
  · intro j u hu
    rw [show ((⟨w0.heap.size, 0, none⟩ : Addr).add j) = ⟨w0.heap.size, j, none⟩ from by unfold Addr.add; split <;> simp [*], World.cell?_alloc_at _ _ _ _ rfl]
    simpa using hu
  · have := E.hby
    have h2 : (n + 1) * bytes ≤ 1000001 * 4096 := Nat.mul_le_mul (by omega) this
    omega
end

/-- What is owned is kept where nothing of its block is written. -/
theorem own_keep {w w' : World} {base : Nat} {e : TypeId} {sz n : Nat} {v : Value} {xs : List Value} (h : w.ownsRow base e sz v n xs) (hk : ∀ g, v.ownBlock = some g → w'.heap[g]? = w.heap[g]?) : w'.ownsRow base e sz v n xs := by
  obtain ⟨h1, h2⟩ := h
  refine ⟨h1, ?_⟩
  rcases h2 with h2 | ⟨g, cap, cur, hv, hg, hh, r⟩
  · exact Or.inl h2
  · exact Or.inr ⟨g, cap, cur, hv, hg, (hk g (by rw [hv]; rfl)).trans hh, r⟩
/-- The value of an owned row. -/
theorem own_val {w : World} {base : Nat} {e : TypeId} {sz n : Nat} {v : Value} {xs : List Value} (h : w.ownsRow base e sz v n xs) : ∃ A c, v = .slice A n c ∧ (∀ g, v.ownBlock = some g → base ≤ g ∧ g < w.heap.size) := by
  obtain ⟨h1, h2⟩ := h
  rcases h2 with ⟨rfl, rfl⟩ | ⟨g, cap, cur, rfl, hg, hh, r⟩
  · exact ⟨none, 0, rfl, fun g hg => by simp [Value.ownBlock] at hg⟩
  · refine ⟨_, _, rfl, fun g' hg' => ?_⟩
    simp [Value.ownBlock] at hg'
    subst hg'
    refine ⟨hg, ?_⟩
    exact (Array.getElem?_eq_some_iff.1 hh).1

/-- Behind an append onto a row of the call's own nothing that was there has turned. -/
theorem below_own {w w0 w' : World} {B base : Nat} {e : TypeId} {sz n : Nat} {v : Value} {xs : List Value} (hb : Below B w w0) (hB : B ≤ w0.heap.size) (hown : w0.ownsRow base e sz v n xs) (hbase : B ≤ base) (hg : w0.grownBy w' v.ownBlock) : Below B w w' :=
  hb.grown hg hB fun g h => by have := (hown.lt g h).1; omega
theorem own_below {w w' : World} {base : Nat} {e : TypeId} {sz n : Nat} {v : Value} {xs : List Value} (h : w.ownsRow base e sz v n xs) (hb : Below w.heap.size w w') : w'.ownsRow base e sz v n xs :=
  own_keep h fun g hg => hb.block g (h.lt g hg).2

/-! ### Mem2 -/

theorem blk_lt {w : World} {g : Nat} {o : Obj} (h : w.heap[g]? = some o) : g < w.heap.size := (Array.getElem?_eq_some_iff.1 h).1
theorem blk_cell {w : World} {g : Nat} {cs : Array Value} {t : TypeId} (h : w.heap[g]? = some (.cells cs t (0, 0))) (i : Nat) : w.cell? ⟨g, i, none⟩ = cs[i]? := cell_of_row w g i cs t (0, 0) h
theorem blk_frozen {w : World} {g : Nat} {cs : Array Value} {t : TypeId} (h : w.heap[g]? = some (.cells cs t (0, 0))) (i : Nat) : w.frozen? ⟨g, i, none⟩ = false := by simp [World.frozen?, h]
theorem blk_new (w : World) (t : TypeId) (cs : Array Value) : (w.alloc (.cells cs t)).heap[w.heap.size]? = some (.cells cs t (0, 0)) := heap_alloc_new w _
theorem blk_alloc {w : World} {g : Nat} {x : Obj} (h : w.heap[g]? = some x) (o : Obj) : (w.alloc o).heap[g]? = some x := (Below.heap_alloc w o g (blk_lt h)).trans h
theorem blk_far {w : World} {g : Nat} {x : Obj} (h : w.heap[g]? = some x) {p : Addr} (hp : g ≠ p.block) (u : Value) : (w.setCell p u).heap[g]? = some x := (Below.heap_setCell w p u g hp).trans h
theorem blk_grown {w w' : World} {g : Nat} {x : Obj} {row : Option Nat} (h : w.heap[g]? = some x) (hg : w.grownBy w' row) (hne : some g ≠ row) : w'.heap[g]? = some x := (hg.block g (blk_lt h) hne).trans h
theorem blk_below {w w' : World} {g B : Nat} {x : Obj} (h : w.heap[g]? = some x) (hb : Below B w w') (hg : g < B) : w'.heap[g]? = some x := (hb.block g hg).trans h
theorem blk_set {w : World} {g : Nat} {cs : Array Value} {t : TypeId} (h : w.heap[g]? = some (.cells cs t (0, 0))) (i : Nat) (u : Value) : (w.setCell ⟨g, i, none⟩ u).heap[g]? = some (.cells (cs.setIfInBounds i u) t (0, 0)) := by
  simp [World.setCell, Array.getElem?_modify, h]

/-- Block g holds the numbers h 0, .., h (n - 1). -/
def HeatsAt (w : World) (g n : Nat) (h : Int → Int) : Prop := ∃ cs : Array Value, w.heap[g]? = some (.cells cs 3 (0, 0)) ∧ cs.size = n ∧ ∀ j : Nat, j < n → cs[j]? = some (.int .i64 (h j))

section
variable {w w' : World} {g n : Nat} {h h' : Int → Int}
theorem HeatsAt.lt (H : HeatsAt w g n h) : g < w.heap.size := by obtain ⟨_, h1, _⟩ := H; exact blk_lt h1
theorem HeatsAt.cell (H : HeatsAt w g n h) {i : Int} (h0 : 0 ≤ i) (h1 : i < n) : w.cell? ⟨g, i.toNat, none⟩ = some (.int .i64 (h i)) := by
  obtain ⟨cs, a, b, c⟩ := H
  rw [blk_cell a, c i.toNat (by omega), Int.toNat_of_nonneg h0]
theorem HeatsAt.frozen (H : HeatsAt w g n h) (i : Nat) : w.frozen? ⟨g, i, none⟩ = false := by obtain ⟨_, h1, _⟩ := H; exact blk_frozen h1 i
theorem HeatsAt.keep (H : HeatsAt w g n h) (hk : w'.heap[g]? = w.heap[g]?) : HeatsAt w' g n h := by obtain ⟨cs, a, b, c⟩ := H; exact ⟨cs, hk.trans a, b, c⟩
theorem HeatsAt.alloc (H : HeatsAt w g n h) (o : Obj) : HeatsAt (w.alloc o) g n h := H.keep (Below.heap_alloc w o g H.lt)
theorem HeatsAt.grown {row : Option Nat} (H : HeatsAt w g n h) (hg : w.grownBy w' row) (hne : some g ≠ row) : HeatsAt w' g n h := H.keep (hg.block g H.lt hne)
theorem HeatsAt.below {B : Nat} (H : HeatsAt w g n h) (hb : Below B w w') (hg : g < B) : HeatsAt w' g n h := H.keep (hb.block g hg)
theorem HeatsAt.far (H : HeatsAt w g n h) {p : Addr} (hp : g ≠ p.block) (u : Value) : HeatsAt (w.setCell p u) g n h := H.keep (Below.heap_setCell w p u g hp)
theorem HeatsAt.set (H : HeatsAt w g n h) {i : Int} (h0 : 0 ≤ i) (_h1 : i < n) (x : Int) : HeatsAt (w.setCell ⟨g, i.toNat, none⟩ (.int .i64 x)) g n (fun j => if j = i then x else h j) := by
  obtain ⟨cs, a, b, c⟩ := H
  refine ⟨_, blk_set a _ _, by simpa using b, fun j hj => ?_⟩
  rw [Array.getElem?_setIfInBounds]
  dsimp only
  by_cases e : i.toNat = j
  · subst e
    rw [if_pos rfl, if_pos (by omega), if_pos (by omega)]
  · rw [if_neg e, if_neg (by omega)]
    exact c j hj
theorem HeatsAt.congr (H : HeatsAt w g n h) (e : ∀ j : Nat, j < n → h j = h' j) : HeatsAt w g n h' := by
  obtain ⟨cs, a, b, c⟩ := H
  exact ⟨cs, a, b, fun j hj => by rw [← e j hj]; exact c j hj⟩
end

theorem take_snoc {α : Type} (l : List α) (q : Nat) (h : q < l.length) : l.take (q + 1) = l.take q ++ [l[q]] := by rw [List.take_add_one, List.getElem?_eq_getElem h]; rfl
theorem own_base {w : World} {base base' : Nat} {e : TypeId} {sz n : Nat} {v : Value} {xs : List Value} (h : w.ownsRow base e sz v n xs) (hb : base' ≤ base) : w.ownsRow base' e sz v n xs := by
  obtain ⟨h1, h2⟩ := h
  refine ⟨h1, ?_⟩
  rcases h2 with h2 | ⟨g, cap, cur, hv, hg, r⟩
  · exact Or.inl h2
  · exact Or.inr ⟨g, cap, cur, hv, by omega, r⟩
/-! ### Mem3 -/

section
variable {P : Program} {w : World}
/-- Onto a row of the call's own, out of a slice that reads as news, whatever its address. -/
theorem run_appN (base : Nat) (t ty e : TypeId) (z : Value) (size bytes : Nat) (E : EOk P t e z size bytes) (v : Value) (n : Nat) (xs : List Value) (hown : w.ownsRow base e size v n xs)
    (B : Nat) (A : Option Addr) (m c : Nat) (news : List Value) (hr : Rd w B size A m news) (h1 : (news.all fun u => u.oneCell') = true) (hn : n + m ≤ 1000000) (hbase : base ≤ w.heap.size) :
    ∃ v' w', (Builtin.append_ #[t, t] ty #[v, .slice A m c]).run P w = .ok v' w' ∧ w'.ownsRow base e size v' (n + m) (xs ++ news) ∧ w.grownBy w' v.ownBlock ∧ (v'.ownBlock = v.ownBlock ∨ v'.ownBlock = some w.heap.size) := by
  obtain ⟨i, hi, hz0, hz1, hz2⟩ := E.info
  have hbytes : (n + m) * bytes ≤ 140737488355328 := by
    have := E.hby
    have h2 : (n + m) * bytes ≤ 1000000 * 4096 := Nat.mul_le_mul hn this
    omega
  have hmax : n + m ≤ maxLen := by unfold maxLen; omega
  cases A with
  | none =>
    have hm : m = 0 := by
      rcases Nat.eq_zero_or_pos m with h0 | h0
      · exact h0
      · obtain ⟨_, _, h, _⟩ := hr.2 h0; cases h
    subst hm
    have hnews : news = [] := List.eq_nil_of_length_eq_zero (by simpa using hr.1)
    subst hnews
    refine ⟨v, w, ?_, by simpa using hown, World.grownBy.refl w _, .inl rfl⟩
    rcases hown.2 with ⟨rfl, rfl⟩ | ⟨g, cap, cur, rfl, _, _, hnc, _⟩
    · simp [Builtin.append_, run_underlying E.ht, sizeOf, typeInfo, hi, Builtin.lenOf, Builtin.firstCells]
    · simp [Builtin.append_, run_underlying E.ht, sizeOf, typeInfo, hi, Builtin.lenOf, Builtin.firstCells, hnc, storeCells]
  | some ad =>
    have hcells : ∀ j u, news[j]? = some u → w.cell? (ad.add j) = some u := by
      intro j u hu
      rcases Nat.eq_zero_or_pos m with h0 | h0
      · subst h0
        have hnews : news = [] := List.eq_nil_of_length_eq_zero (by simpa using hr.1)
        subst hnews
        simp at hu
      · obtain ⟨b, off, h, _, hc⟩ := hr.2 h0
        injection h with h
        subst h
        have := hc j u hu
        unfold Addr.add
        split
        · rename_i e; subst e; exact this
        · exact this
    obtain ⟨v', w', hrun, h2, h3, _, h5⟩ := run_append_own_at (P := P) w base t ty e i z size bytes E.ht hi hz0 hz1 hz2 E.hzs E.hsz v n xs hown ad m c news hr.1 hcells (List.all_eq_true.1 h1) hmax hbytes hbase
    exact ⟨v', w', hrun, h2, h3, h5⟩

variable {ops : Array Oper} {rest : List Oper} {o : Oper} {a : Act} {K : Act → World → Prop} {Q : Exit → Act → World → Prop}
theorem wp_appN (s x : Operand) (t : TypeId) (ho : o.op = .call { callee := .builtin .append, args := #[s, x], argTypes := #[t, t] })
    (e : TypeId) (z : Value) (size bytes : Nat) (E : EOk P t e z size bytes) (base : Nat) (v : Value) (n : Nat) (xs : List Value) (hs : a.eval s = v) (hown : w.ownsRow base e size v n xs)
    (B : Nat) (A : Option Addr) (m c : Nat) (news : List Value) (hx : a.eval x = .slice A m c) (hr : Rd w B size A m news) (h1 : (news.all fun u => u.oneCell') = true) (hn : n + m ≤ 1000000) (hbase : base ≤ w.heap.size)
    (h : ∀ v' w', w'.ownsRow base e size v' (n + m) (xs ++ news) → w.grownBy w' v.ownBlock → K (a.put o.dst v') w') : o.wp P a w K Q := by
  obtain ⟨v', w', hrun, h2, h3, _⟩ := run_appN (P := P) base t o.type e z size bytes E v n xs hown B A m c news hr h1 hn hbase
  unfold Oper.wp execOp
  simp only [ho, resolve, invoke, builtin, Sem.run_bind, Sem.run_pure, Result.andThen_ok, List.map_toArray, List.map_cons, List.map_nil, hs, hx, hrun]
  exact h v' w' h2 h3
/-- In a plain region. -/
theorem appN (hgd : o.guard = none) (s x : Operand) (t : TypeId) (ho : o.op = .call { callee := .builtin .append, args := #[s, x], argTypes := #[t, t] })
    (e : TypeId) (z : Value) (size bytes : Nat) (E : EOk P t e z size bytes) (base : Nat) (v : Value) (n : Nat) (xs : List Value) (hs : a.eval s = v) (hown : w.ownsRow base e size v n xs)
    (B : Nat) (A : Option Addr) (m c : Nat) (news : List Value) (hx : a.eval x = .slice A m c) (hr : Rd w B size A m news) (h1 : (news.all fun u => u.oneCell') = true) (hn : n + m ≤ 1000000) (hbase : base ≤ w.heap.size)
    (h : ∀ v' w', w'.ownsRow base e size v' (n + m) (xs ++ news) → w.grownBy w' v.ownBlock → wpList P ops Q rest (a.put o.dst v') w') : wpList P ops Q (o :: rest) a w :=
  wpList_plain hgd fun _ hK => wp_appN s x t ho e z size bytes E base v n xs hs hown B A m c news hx hr h1 hn hbase fun v' w' h2 h3 => hK _ _ (h v' w' h2 h3)
/-- At a step of a region that draws its order. -/
theorem stepAppN {X : Prop} (hgd : o.guard = none) (s x : Operand) (t : TypeId) (ho : o.op = .call { callee := .builtin .append, args := #[s, x], argTypes := #[t, t] })
    (e : TypeId) (z : Value) (size bytes : Nat) (E : EOk P t e z size bytes) (base : Nat) (v : Value) (n : Nat) (xs : List Value) (hs : a.eval s = v) (hown : w.ownsRow base e size v n xs)
    (B : Nat) (A : Option Addr) (m c : Nat) (news : List Value) (hx : a.eval x = .slice A m c) (hr : Rd w B size A m news) (h1 : (news.all fun u => u.oneCell') = true) (hn : n + m ≤ 1000000) (hbase : base ≤ w.heap.size)
    (h : ∀ v' w', w'.ownsRow base e size v' (n + m) (xs ++ news) → w.grownBy w' v.ownBlock → K (a.put o.dst v') w') : if Region.wanted o (yielded ops a.tmps) = true then Oper.wp P o a w K Q else X := by
  have hw : Region.wanted o (yielded ops a.tmps) = true := by simp [Region.wanted, hgd]
  rw [if_pos hw]
  exact wp_appN s x t ho e z size bytes E base v n xs hs hown B A m c news hx hr h1 hn hbase h
/-- One element, in the block that was made last, at such a step. -/
theorem Rd.one (w0 : World) (cs : Array Value) (e : TypeId) (size : Nat) (h : cs.size = size) : Rd (w0.alloc (.cells cs e)) (w0.heap.size + 1) size (some ⟨w0.heap.size, 0, none⟩) 1 cs.toList :=
  ⟨by simpa using h, fun _ => ⟨_, _, rfl, by omega, fun j u hu => by
    rw [Nat.zero_add, World.cell?_alloc_at _ _ _ _ rfl]; simpa using hu⟩⟩
theorem Rd.blk {w : World} {g : Nat} {cs : Array Value} {e : TypeId} (size : Nat) (hb : w.heap[g]? = some (.cells cs e (0, 0))) (h : cs.size = size) : Rd w (g + 1) size (some ⟨g, 0, none⟩) 1 cs.toList :=
  ⟨by simpa using h, fun _ => ⟨_, _, rfl, by omega, fun j u hu => by
    rw [Nat.zero_add, blk_cell hb]; simpa using hu⟩⟩
end

theorem own_empty {w : World} {g : Nat} {e : TypeId} {size base : Nat} (h : w.heap[g]? = some (.cells #[] e (0, 0))) (hb : base ≤ g) : w.ownsRow base e size (.slice (some ⟨g, 0, none⟩) 0 0) 0 [] :=
  ⟨by simp, .inr ⟨g, 0, #[], rfl, hb, h, Nat.le_refl _, by unfold maxLen; omega, by simp, by simp⟩⟩
/-- A slice from the beginning on. -/
theorem Rd.front {w : World} {B sz : Nat} {A : Option Addr} {n : Nat} {xs : List Value} (h : Rd w B sz A n xs) {k : Nat} (hk : k ≤ n) : Rd w B sz A k (xs.take (k * sz)) := by
  refine ⟨by rw [List.length_take, h.1]; exact Nat.min_eq_left (Nat.mul_le_mul_right _ hk), fun hp => ?_⟩
  obtain ⟨b, off, e, hb, hc⟩ := h.2 (by omega)
  exact ⟨b, off, e, hb, fun j u hu => hc j u (by rw [List.getElem?_take] at hu; split at hu; exact hu; cases hu)⟩
/-- A slice from place k on. -/
theorem Rd.back {w : World} {B sz : Nat} {A : Option Addr} {n : Nat} {xs : List Value} (h : Rd w B sz A n xs) {k c : Nat} (hk : k ≤ n) (hc : n ≤ c) :
    Rd w B sz (if c = k then A else A.map (·.add (k * sz))) (n - k) (xs.drop (k * sz)) := by
  refine ⟨by rw [List.length_drop, h.1, Nat.sub_mul], fun hp => ?_⟩
  obtain ⟨b, off, rfl, hb, hcell⟩ := h.2 (by omega)
  rw [if_neg (by omega)]
  refine ⟨b, off + k * sz, ?_, hb, fun j u hu => ?_⟩
  · simp only [Option.map_some, Addr.add]
    split
    · rename_i e; rw [e]; rfl
    · rfl
  · rw [Nat.add_assoc]
    exact hcell _ u (by rw [← hu, List.getElem?_drop])
theorem Rd.backAt {w : World} {B sz b off n : Nat} {xs : List Value} (h : Rd w B sz (some ⟨b, off, none⟩) n xs) {k : Nat} (hk : k ≤ n) : Rd w B sz (some ⟨b, off + k * sz, none⟩) (n - k) (xs.drop (k * sz)) := by
  refine ⟨by rw [List.length_drop, h.1, Nat.sub_mul], fun hp => ?_⟩
  obtain ⟨b', off', e, hb, hcell⟩ := h.2 (by omega)
  simp only [Option.some.injEq, Addr.mk.injEq, and_true] at e
  obtain ⟨rfl, rfl⟩ := e
  refine ⟨b, off + k * sz, rfl, hb, fun j u hu => ?_⟩
  rw [Nat.add_assoc]
  exact hcell _ u (by rw [← hu, List.getElem?_drop])
/-- The value of an owned row, its capacity. -/
theorem own_cap {w : World} {base : Nat} {e : TypeId} {sz n : Nat} {v : Value} {xs : List Value} (h : w.ownsRow base e sz v n xs) : ∃ A c, v = .slice A n c ∧ n ≤ c ∧ c ≤ maxLen := by
  rcases h.2 with ⟨rfl, rfl⟩ | ⟨g, cap, cur, rfl, hg, hh, h1, h2, _⟩
  · exact ⟨none, 0, rfl, Nat.le_refl _, Nat.zero_le _⟩
  · exact ⟨_, _, rfl, h1, h2⟩
theorem ints_one (l : List Int) : ((l.map (Value.int .i64)).all fun u => u.oneCell') = true := by
  rw [List.all_eq_true]
  intro u hu
  obtain ⟨a, _, rfl⟩ := List.mem_map.1 hu
  rfl

/-! ### Mem4 -/

theorem own_set {w : World} {base g n c j sz : Nat} {e : TypeId} {xs : List Value} (h : w.ownsRow base e sz (.slice (some ⟨g, 0, none⟩) n c) n xs) (u : Value) :
    (w.setCell ⟨g, j, none⟩ u).ownsRow base e sz (.slice (some ⟨g, 0, none⟩) n c) n (xs.set j u) := by
  obtain ⟨h1, h2⟩ := h
  refine ⟨by simpa using h1, ?_⟩
  rcases h2 with ⟨h2, _⟩ | ⟨g', cap, cur, hv, hg, hh, h3, h4, h5, h6⟩
  · cases h2
  · injection hv with a b d
    injection a with a
    injection a with a
    subst a
    subst d
    refine .inr ⟨g, c, _, rfl, hg, blk_set hh j u, h3, h4, by simpa using h5, ?_⟩
    rw [← h6, Array.toList_setIfInBounds, List.take_set]

theorem set_append_right {α : Type} (l m : List α) (k : Nat) (x : α) : (l ++ m).set (l.length + k) x = l ++ m.set k x := by
  rw [List.set_append_right _ _ (by omega)]
  congr 2
  omega
abbrev ints (l : List Int) : List Value := l.map (Value.int .i64)
theorem Rd.int {w : World} {B n : Nat} {A : Option Addr} {l : List Int} (h : Rd w B 1 A n (ints l)) {i : Nat} (hi : i < l.length) :
    ∃ b off, A = some ⟨b, off, none⟩ ∧ b < B ∧ w.cell? ⟨b, off + i, none⟩ = some (.int .i64 l[i]) := by
  have hl : n = l.length := by have := h.1; simp at this; omega
  obtain ⟨b, off, e, hb, hc⟩ := h.2 (by omega)
  exact ⟨b, off, e, hb, hc i _ (by simp [hi])⟩
theorem Rd.int_len {w : World} {B n : Nat} {A : Option Addr} {l : List Int} (h : Rd w B 1 A n (ints l)) : n = l.length := by have := h.1; simp at this; omega
theorem ret_ii {k k' : IntKind} {a b a' b' : Int} (h : a = b) (h' : a' = b') : Ending.returned (.tuple #[.int k a, .int k' a']) = .returned (.tuple #[.int k b, .int k' b']) := by rw [h, h']
theorem ret_vi {v : Value} {k : IntKind} {a b : Int} (h : a = b) : Ending.returned (.tuple #[v, .int k a]) = .returned (.tuple #[v, .int k b]) := by rw [h]
theorem rd_lit {w : World} {g : Nat} {cs : Array Value} {e : TypeId} {sz n : Nat} (hb : w.heap[g]? = some (.cells cs e (0, 0))) (h : cs.size = n * sz) : Rd w (g + 1) sz (some ⟨g, 0, none⟩) n cs.toList :=
  ⟨by simpa using h, fun _ => ⟨g, 0, rfl, by omega, fun j u hu => by rw [Nat.zero_add, blk_cell hb]; simpa using hu⟩⟩
theorem ret_bi {k : IntKind} {a b : Bool} {x y : Int} (h : a = b) (h' : x = y) : Ending.returned (.tuple #[.bool a, .int k x]) = .returned (.tuple #[.bool b, .int k y]) := by rw [h, h']

end Go.Proofs.Ytlhbmfaoldajdaa
