/-
  MERGED: Mem, Tab, TabR, Open.
-/
import Derived.WalkKit
import Derived.WalkSpells
import Derived.WalkLawsBesides
import Derived.Lib.Hide
import Derived.Maps.AppendAt
import Derived.Deep.AppendLies
import Derived.Deep.Draws
import Derived.RegionTactic
import Derived.Deep.OwnRows
import Derived.Deep.RegionHeld3
import Derived.Lib.SliceRun
import Derived.IntWalk
import Derived.Test.YtejjogpgolgdgaaRows
import Derived.ProofKit
import Derived.OpenShut
import Derived.ShutString
import Derived.ChangeOld
import Derived.Below
import Derived.Deep.Slices
import Derived.Deep.Fields
import Derived.ChangeSame
import Derived.Lib.SmallJoins
/-
  WORDS FOR MEMORY: a slice that reads as a list of cells; rows of the call's own; blocks known whole. No program is named.
-/
namespace Go.Proofs.Ytejjogpgolgdgaa
open Go.RowKit

/-! ### Mem -/

/-- The slice value '.slice A n c' reads as the cells xs, sz cells an element, and lies below block B. -/
def Rd (w : World) (B sz : Nat) (A : Option Addr) (n : Nat) (xs : List Value) : Prop :=
  xs.length = n * sz ∧ (0 < n → ∃ b off, A = some ⟨b, off, none⟩ ∧ b < B ∧ ∀ j u, xs[j]? = some u → w.cell? ⟨b, off + j, none⟩ = some u)

section
variable {w w' : World} {B B' sz n : Nat} {A : Option Addr} {xs : List Value}
theorem Rd.nil : Rd w B sz A 0 [] := ⟨by simp, fun h => absurd h (by omega)⟩
theorem Rd.keep (h : Rd w B sz A n xs) (hk : ∀ p : Addr, p.block < B → w'.cell? p = w.cell? p) : Rd w' B sz A n xs :=
  ⟨h.1, fun hn => by
    obtain ⟨b, off, e, hb, hc⟩ := h.2 hn
    exact ⟨b, off, e, hb, fun j u hu => (hk ⟨b, off + j, none⟩ hb).trans (hc j u hu)⟩⟩
theorem Rd.more (h : Rd w B sz A n xs) (hB : B ≤ B') : Rd w B' sz A n xs :=
  ⟨h.1, fun hn => by
    obtain ⟨b, off, e, hb, hc⟩ := h.2 hn
    exact ⟨b, off, e, by omega, hc⟩⟩
theorem Rd.below (h : Rd w B sz A n xs) (hb : Below B w w') : Rd w' B sz A n xs := h.keep fun _ hp => hb.cell hp
/-- Below a greater number, too. -/
theorem Rd.below' (h : Rd w B sz A n xs) (hb : Below B' w w') (hB : B ≤ B') : Rd w' B sz A n xs := h.below (hb.mono hB)
theorem Rd.drew (h : Rd w B sz A n xs) : Rd w.drew B sz A n xs := h
theorem Rd.drewN (h : Rd w B sz A n xs) (k : Nat) : Rd (w.drewN k) B sz A n xs := h
theorem Rd.alloc (h : Rd w B sz A n xs) (hB : B ≤ w.heap.size) (o : Obj) : Rd (w.alloc o) B sz A n xs := h.keep fun p hp => World.cell?_alloc_lt w o p (by omega)
theorem Rd.setCell (h : Rd w B sz A n xs) {p : Addr} (hB : B ≤ p.block) (u : Value) : Rd (w.setCell p u) B sz A n xs :=
  h.keep fun q hq => World.cell?_setCell_other w p q u (fun e => by subst e; omega)
theorem Rd.grown (h : Rd w B sz A n xs) {row : Option Nat} (hg : w.grownBy w' row) (hB : B ≤ w.heap.size) (hr : ∀ g, row = some g → B ≤ g) : Rd w' B sz A n xs :=
  h.keep fun p hp => World.cell?_of_block (hg.block p.block (by omega) (fun e => by have := hr _ e.symm; omega))
theorem Rd.of_own {base : Nat} {e : TypeId} {c : Nat} (h : w.ownsRow base e sz (.slice A n c) n xs) : Rd w w.heap.size sz A n xs := by
  refine ⟨h.1, fun hn => ?_⟩
  obtain ⟨g, cap, hv, _, hlt⟩ := h.form hn
  have hA : A = some ⟨g, 0, none⟩ := by injection hv
  subst hA
  refine ⟨g, 0, rfl, hlt, fun j u hu => ?_⟩
  have hj : j < n * sz := by rw [← h.1]; exact (List.getElem?_eq_some_iff.1 hu).1
  have hv' : cap = c := by injection hv with _ _ h3; exact h3.symm
  subst hv'
  rw [Nat.zero_add, h.cellAt j hj]; exact hu
end

theorem ret_bool {a b : Bool} (h : a = b) : Ending.returned (.bool a) = .returned (.bool b) := by rw [h]
theorem ret_int {k : IntKind} {a b : Int} (h : a = b) : Ending.returned (.int k a) = .returned (.int k b) := by rw [h]
/-- One act more. -/
theorem all_take {α : Type} (p : α → Bool) (l : List α) (q : Nat) (h : q < l.length) : (l.take (q + 1)).all p = ((l.take q).all p && p l[q]) := by
  simp only [List.take_add_one, List.all_append, List.getElem?_eq_getElem h, Option.toList, List.all_cons, List.all_nil, Bool.and_true]
theorem any_take {α : Type} (p : α → Bool) (l : List α) (q : Nat) (h : q < l.length) : (l.take (q + 1)).any p = ((l.take q).any p || p l[q]) := by
  simp only [List.take_add_one, List.any_append, List.getElem?_eq_getElem h, Option.toList, List.any_cons, List.any_nil, Bool.or_false]

/-- What is asked of a slice type t of elements e: z the zero element, size cells, bytes bytes. -/
structure EOk (P : Program) (t e : TypeId) (z : Value) (size bytes : Nat) : Prop where
  ht : P.underlying t = some (.slice e)
  info : ∃ i, P.info? e = some i ∧ i.zero = some z ∧ i.size = size ∧ i.bytes = bytes
  hzs : z.cells.size = size
  hsz : 0 < size
  hby : bytes ≤ 4096

theorem grownBy_alloc_trans {w w' : World} {o : Obj} {row : Option Nat} (h : (w.alloc o).grownBy w' row) : w.grownBy w' row :=
  ⟨h.os, h.tape, h.output, by have := h.size; simp at this; omega, fun k hk hr => (h.block k (by simp; omega) hr).trans (Below.heap_alloc w o k hk)⟩

section
variable {P : Program} {w0 : World} {ops : Array Oper} {rest : List Oper} {o : Oper} {a : Act} {Q : Exit → Act → World → Prop}
/-- 'out = append(out, x)', out a row of the call's own: x lies in the block that was made last. -/
theorem app1 (hgd : o.guard = none) (s x : Operand) (t : TypeId)
    (ho : o.op = .call { callee := .builtin .append, args := #[s, x], argTypes := #[t, t] })
    (e : TypeId) (z : Value) (size bytes : Nat) (E : EOk P t e z size bytes) (base : Nat) (cs : Array Value)
    (v : Value) (n : Nat) (xs : List Value) (hs : a.eval s = v) (hown : w0.ownsRow base e size v n xs)
    (g : Nat) (hx : a.eval x = .slice (some ⟨g, 0, none⟩) 1 1) (hgs : g = w0.heap.size) (hl : cs.size = size) (h1 : (cs.toList.all fun u => u.oneCell') = true)
    (hn : n ≤ 1000000) (hbase : base ≤ w0.heap.size)
    (h : ∀ v' w', w'.ownsRow base e size v' (n + 1) (xs ++ cs.toList) → w0.grownBy w' v.ownBlock → wpList P ops Q rest (a.put o.dst v') w') :
    wpList P ops Q (o :: rest) a (w0.alloc (.cells cs e)) := by
  subst hgs
  obtain ⟨i, hi, hz0, hz1, hz2⟩ := E.info
  refine wpList_append_own _ hgd s x t ho base e i z size bytes E.ht hi hz0 hz1 hz2 E.hzs E.hsz v n xs hs (hown.alloc _) ⟨w0.heap.size, 0, none⟩ 1 1 cs.toList hx (by simpa using hl) ?_ (List.all_eq_true.1 h1) (by unfold maxLen; omega) ?_ (by simp; omega) fun v' w' h2 h3 _ => h v' w' h2 (grownBy_alloc_trans h3)
  · intro j u hu
    rw [show ((⟨w0.heap.size, 0, none⟩ : Addr).add j) = ⟨w0.heap.size, j, none⟩ from by unfold Addr.add; split <;> simp [*], World.cell?_alloc_at _ _ _ _ rfl]
    simpa using hu
  · have := E.hby
    have h2 : (n + 1) * bytes ≤ 1000001 * 4096 := Nat.mul_le_mul (by omega) this
    omega
end

/-- What is owned is kept where nothing of its block is written. -/
theorem own_keep {w w' : World} {base : Nat} {e : TypeId} {sz n : Nat} {v : Value} {xs : List Value} (h : w.ownsRow base e sz v n xs) (hk : ∀ g, v.ownBlock = some g → w'.heap[g]? = w.heap[g]?) : w'.ownsRow base e sz v n xs := by
  obtain ⟨h1, h2⟩ := h
  refine ⟨h1, ?_⟩
  rcases h2 with h2 | ⟨g, cap, cur, hv, hg, hh, r⟩
  · exact Or.inl h2
  · exact Or.inr ⟨g, cap, cur, hv, hg, (hk g (by rw [hv]; rfl)).trans hh, r⟩
/-- The value of an owned row. -/
theorem own_val {w : World} {base : Nat} {e : TypeId} {sz n : Nat} {v : Value} {xs : List Value} (h : w.ownsRow base e sz v n xs) : ∃ A c, v = .slice A n c ∧ (∀ g, v.ownBlock = some g → base ≤ g ∧ g < w.heap.size) := by
  obtain ⟨h1, h2⟩ := h
  rcases h2 with ⟨rfl, rfl⟩ | ⟨g, cap, cur, rfl, hg, hh, r⟩
  · exact ⟨none, 0, rfl, fun g hg => by simp [Value.ownBlock] at hg⟩
  · refine ⟨_, _, rfl, fun g' hg' => ?_⟩
    simp [Value.ownBlock] at hg'
    subst hg'
    refine ⟨hg, ?_⟩
    exact (Array.getElem?_eq_some_iff.1 hh).1

/-- Behind an append onto a row of the call's own nothing that was there has turned. -/
theorem below_own {w w0 w' : World} {B base : Nat} {e : TypeId} {sz n : Nat} {v : Value} {xs : List Value} (hb : Below B w w0) (hB : B ≤ w0.heap.size) (hown : w0.ownsRow base e sz v n xs) (hbase : B ≤ base) (hg : w0.grownBy w' v.ownBlock) : Below B w w' :=
  hb.grown hg hB fun g h => by have := (hown.lt g h).1; omega
theorem own_below {w w' : World} {base : Nat} {e : TypeId} {sz n : Nat} {v : Value} {xs : List Value} (h : w.ownsRow base e sz v n xs) (hb : Below w.heap.size w w') : w'.ownsRow base e sz v n xs :=
  own_keep h fun g hg => hb.block g (h.lt g hg).2

/-! ### Mem2 -/

theorem blk_lt {w : World} {g : Nat} {o : Obj} (h : w.heap[g]? = some o) : g < w.heap.size := (Array.getElem?_eq_some_iff.1 h).1
theorem blk_cell {w : World} {g : Nat} {cs : Array Value} {t : TypeId} (h : w.heap[g]? = some (.cells cs t (0, 0))) (i : Nat) : w.cell? ⟨g, i, none⟩ = cs[i]? := cell_of_row w g i cs t (0, 0) h
theorem blk_frozen {w : World} {g : Nat} {cs : Array Value} {t : TypeId} (h : w.heap[g]? = some (.cells cs t (0, 0))) (i : Nat) : w.frozen? ⟨g, i, none⟩ = false := by simp [World.frozen?, h]
theorem blk_new (w : World) (t : TypeId) (cs : Array Value) : (w.alloc (.cells cs t)).heap[w.heap.size]? = some (.cells cs t (0, 0)) := heap_alloc_new w _
theorem blk_alloc {w : World} {g : Nat} {x : Obj} (h : w.heap[g]? = some x) (o : Obj) : (w.alloc o).heap[g]? = some x := (Below.heap_alloc w o g (blk_lt h)).trans h
theorem blk_far {w : World} {g : Nat} {x : Obj} (h : w.heap[g]? = some x) {p : Addr} (hp : g ≠ p.block) (u : Value) : (w.setCell p u).heap[g]? = some x := (Below.heap_setCell w p u g hp).trans h
theorem blk_grown {w w' : World} {g : Nat} {x : Obj} {row : Option Nat} (h : w.heap[g]? = some x) (hg : w.grownBy w' row) (hne : some g ≠ row) : w'.heap[g]? = some x := (hg.block g (blk_lt h) hne).trans h
theorem blk_below {w w' : World} {g B : Nat} {x : Obj} (h : w.heap[g]? = some x) (hb : Below B w w') (hg : g < B) : w'.heap[g]? = some x := (hb.block g hg).trans h
theorem blk_set {w : World} {g : Nat} {cs : Array Value} {t : TypeId} (h : w.heap[g]? = some (.cells cs t (0, 0))) (i : Nat) (u : Value) : (w.setCell ⟨g, i, none⟩ u).heap[g]? = some (.cells (cs.setIfInBounds i u) t (0, 0)) := by
  simp [World.setCell, Array.getElem?_modify, h]

/-- Block g holds the numbers h 0, .., h (n - 1). -/
def HeatsAt (w : World) (g n : Nat) (h : Int → Int) : Prop := ∃ cs : Array Value, w.heap[g]? = some (.cells cs 3 (0, 0)) ∧ cs.size = n ∧ ∀ j : Nat, j < n → cs[j]? = some (.int .i64 (h j))

section
variable {w w' : World} {g n : Nat} {h h' : Int → Int}
theorem HeatsAt.lt (H : HeatsAt w g n h) : g < w.heap.size := by obtain ⟨_, h1, _⟩ := H; exact blk_lt h1
theorem HeatsAt.cell (H : HeatsAt w g n h) {i : Int} (h0 : 0 ≤ i) (h1 : i < n) : w.cell? ⟨g, i.toNat, none⟩ = some (.int .i64 (h i)) := by
  obtain ⟨cs, a, b, c⟩ := H
  rw [blk_cell a, c i.toNat (by omega), Int.toNat_of_nonneg h0]
theorem HeatsAt.frozen (H : HeatsAt w g n h) (i : Nat) : w.frozen? ⟨g, i, none⟩ = false := by obtain ⟨_, h1, _⟩ := H; exact blk_frozen h1 i
theorem HeatsAt.keep (H : HeatsAt w g n h) (hk : w'.heap[g]? = w.heap[g]?) : HeatsAt w' g n h := by obtain ⟨cs, a, b, c⟩ := H; exact ⟨cs, hk.trans a, b, c⟩
theorem HeatsAt.alloc (H : HeatsAt w g n h) (o : Obj) : HeatsAt (w.alloc o) g n h := H.keep (Below.heap_alloc w o g H.lt)
theorem HeatsAt.grown {row : Option Nat} (H : HeatsAt w g n h) (hg : w.grownBy w' row) (hne : some g ≠ row) : HeatsAt w' g n h := H.keep (hg.block g H.lt hne)
theorem HeatsAt.below {B : Nat} (H : HeatsAt w g n h) (hb : Below B w w') (hg : g < B) : HeatsAt w' g n h := H.keep (hb.block g hg)
theorem HeatsAt.far (H : HeatsAt w g n h) {p : Addr} (hp : g ≠ p.block) (u : Value) : HeatsAt (w.setCell p u) g n h := H.keep (Below.heap_setCell w p u g hp)
theorem HeatsAt.set (H : HeatsAt w g n h) {i : Int} (h0 : 0 ≤ i) (_h1 : i < n) (x : Int) : HeatsAt (w.setCell ⟨g, i.toNat, none⟩ (.int .i64 x)) g n (fun j => if j = i then x else h j) := by
  obtain ⟨cs, a, b, c⟩ := H
  refine ⟨_, blk_set a _ _, by simpa using b, fun j hj => ?_⟩
  rw [Array.getElem?_setIfInBounds]
  dsimp only
  by_cases e : i.toNat = j
  · subst e
    rw [if_pos rfl, if_pos (by omega), if_pos (by omega)]
  · rw [if_neg e, if_neg (by omega)]
    exact c j hj
theorem HeatsAt.congr (H : HeatsAt w g n h) (e : ∀ j : Nat, j < n → h j = h' j) : HeatsAt w g n h' := by
  obtain ⟨cs, a, b, c⟩ := H
  exact ⟨cs, a, b, fun j hj => by rw [← e j hj]; exact c j hj⟩
end

theorem take_snoc {α : Type} (l : List α) (q : Nat) (h : q < l.length) : l.take (q + 1) = l.take q ++ [l[q]] := by rw [List.take_add_one, List.getElem?_eq_getElem h]; rfl
theorem own_base {w : World} {base base' : Nat} {e : TypeId} {sz n : Nat} {v : Value} {xs : List Value} (h : w.ownsRow base e sz v n xs) (hb : base' ≤ base) : w.ownsRow base' e sz v n xs := by
  obtain ⟨h1, h2⟩ := h
  refine ⟨h1, ?_⟩
  rcases h2 with h2 | ⟨g, cap, cur, hv, hg, r⟩
  · exact Or.inl h2
  · exact Or.inr ⟨g, cap, cur, hv, by omega, r⟩
/-! ### Mem3 -/

section
variable {P : Program} {w : World}
/-- Onto a row of the call's own, out of a slice that reads as news, whatever its address. -/
theorem run_appN (base : Nat) (t ty e : TypeId) (z : Value) (size bytes : Nat) (E : EOk P t e z size bytes) (v : Value) (n : Nat) (xs : List Value) (hown : w.ownsRow base e size v n xs)
    (B : Nat) (A : Option Addr) (m c : Nat) (news : List Value) (hr : Rd w B size A m news) (h1 : (news.all fun u => u.oneCell') = true) (hn : n + m ≤ 1000000) (hbase : base ≤ w.heap.size) :
    ∃ v' w', (Builtin.append_ #[t, t] ty #[v, .slice A m c]).run P w = .ok v' w' ∧ w'.ownsRow base e size v' (n + m) (xs ++ news) ∧ w.grownBy w' v.ownBlock ∧ (v'.ownBlock = v.ownBlock ∨ v'.ownBlock = some w.heap.size) := by
  obtain ⟨i, hi, hz0, hz1, hz2⟩ := E.info
  have hbytes : (n + m) * bytes ≤ 140737488355328 := by
    have := E.hby
    have h2 : (n + m) * bytes ≤ 1000000 * 4096 := Nat.mul_le_mul hn this
    omega
  have hmax : n + m ≤ maxLen := by unfold maxLen; omega
  cases A with
  | none =>
    have hm : m = 0 := by
      rcases Nat.eq_zero_or_pos m with h0 | h0
      · exact h0
      · obtain ⟨_, _, h, _⟩ := hr.2 h0; cases h
    subst hm
    have hnews : news = [] := List.eq_nil_of_length_eq_zero (by simpa using hr.1)
    subst hnews
    refine ⟨v, w, ?_, by simpa using hown, World.grownBy.refl w _, .inl rfl⟩
    rcases hown.2 with ⟨rfl, rfl⟩ | ⟨g, cap, cur, rfl, _, _, hnc, _⟩
    · simp [Builtin.append_, run_underlying E.ht, sizeOf, typeInfo, hi, Builtin.lenOf, Builtin.firstCells]
    · simp [Builtin.append_, run_underlying E.ht, sizeOf, typeInfo, hi, Builtin.lenOf, Builtin.firstCells, hnc, storeCells]
  | some ad =>
    have hcells : ∀ j u, news[j]? = some u → w.cell? (ad.add j) = some u := by
      intro j u hu
      rcases Nat.eq_zero_or_pos m with h0 | h0
      · subst h0
        have hnews : news = [] := List.eq_nil_of_length_eq_zero (by simpa using hr.1)
        subst hnews
        simp at hu
      · obtain ⟨b, off, h, _, hc⟩ := hr.2 h0
        injection h with h
        subst h
        have := hc j u hu
        unfold Addr.add
        split
        · rename_i e; subst e; exact this
        · exact this
    obtain ⟨v', w', hrun, h2, h3, _, h5⟩ := run_append_own_at (P := P) w base t ty e i z size bytes E.ht hi hz0 hz1 hz2 E.hzs E.hsz v n xs hown ad m c news hr.1 hcells (List.all_eq_true.1 h1) hmax hbytes hbase
    exact ⟨v', w', hrun, h2, h3, h5⟩

variable {ops : Array Oper} {rest : List Oper} {o : Oper} {a : Act} {K : Act → World → Prop} {Q : Exit → Act → World → Prop}
theorem wp_appN (s x : Operand) (t : TypeId) (ho : o.op = .call { callee := .builtin .append, args := #[s, x], argTypes := #[t, t] })
    (e : TypeId) (z : Value) (size bytes : Nat) (E : EOk P t e z size bytes) (base : Nat) (v : Value) (n : Nat) (xs : List Value) (hs : a.eval s = v) (hown : w.ownsRow base e size v n xs)
    (B : Nat) (A : Option Addr) (m c : Nat) (news : List Value) (hx : a.eval x = .slice A m c) (hr : Rd w B size A m news) (h1 : (news.all fun u => u.oneCell') = true) (hn : n + m ≤ 1000000) (hbase : base ≤ w.heap.size)
    (h : ∀ v' w', w'.ownsRow base e size v' (n + m) (xs ++ news) → w.grownBy w' v.ownBlock → K (a.put o.dst v') w') : o.wp P a w K Q := by
  obtain ⟨v', w', hrun, h2, h3, _⟩ := run_appN (P := P) base t o.type e z size bytes E v n xs hown B A m c news hr h1 hn hbase
  unfold Oper.wp execOp
  simp only [ho, resolve, invoke, builtin, Sem.run_bind, Sem.run_pure, Result.andThen_ok, List.map_toArray, List.map_cons, List.map_nil, hs, hx, hrun]
  exact h v' w' h2 h3
/-- In a plain region. -/
theorem appN (hgd : o.guard = none) (s x : Operand) (t : TypeId) (ho : o.op = .call { callee := .builtin .append, args := #[s, x], argTypes := #[t, t] })
    (e : TypeId) (z : Value) (size bytes : Nat) (E : EOk P t e z size bytes) (base : Nat) (v : Value) (n : Nat) (xs : List Value) (hs : a.eval s = v) (hown : w.ownsRow base e size v n xs)
    (B : Nat) (A : Option Addr) (m c : Nat) (news : List Value) (hx : a.eval x = .slice A m c) (hr : Rd w B size A m news) (h1 : (news.all fun u => u.oneCell') = true) (hn : n + m ≤ 1000000) (hbase : base ≤ w.heap.size)
    (h : ∀ v' w', w'.ownsRow base e size v' (n + m) (xs ++ news) → w.grownBy w' v.ownBlock → wpList P ops Q rest (a.put o.dst v') w') : wpList P ops Q (o :: rest) a w :=
  wpList_plain hgd fun _ hK => wp_appN s x t ho e z size bytes E base v n xs hs hown B A m c news hx hr h1 hn hbase fun v' w' h2 h3 => hK _ _ (h v' w' h2 h3)
/-- At a step of a region that draws its order. -/
theorem stepAppN {X : Prop} (hgd : o.guard = none) (s x : Operand) (t : TypeId) (ho : o.op = .call { callee := .builtin .append, args := #[s, x], argTypes := #[t, t] })
    (e : TypeId) (z : Value) (size bytes : Nat) (E : EOk P t e z size bytes) (base : Nat) (v : Value) (n : Nat) (xs : List Value) (hs : a.eval s = v) (hown : w.ownsRow base e size v n xs)
    (B : Nat) (A : Option Addr) (m c : Nat) (news : List Value) (hx : a.eval x = .slice A m c) (hr : Rd w B size A m news) (h1 : (news.all fun u => u.oneCell') = true) (hn : n + m ≤ 1000000) (hbase : base ≤ w.heap.size)
    (h : ∀ v' w', w'.ownsRow base e size v' (n + m) (xs ++ news) → w.grownBy w' v.ownBlock → K (a.put o.dst v') w') : if Region.wanted o (yielded ops a.tmps) = true then Oper.wp P o a w K Q else X := by
  have hw : Region.wanted o (yielded ops a.tmps) = true := by simp [Region.wanted, hgd]
  rw [if_pos hw]
  exact wp_appN s x t ho e z size bytes E base v n xs hs hown B A m c news hx hr h1 hn hbase h
/-- One element, in the block that was made last, at such a step. -/
theorem Rd.one (w0 : World) (cs : Array Value) (e : TypeId) (size : Nat) (h : cs.size = size) : Rd (w0.alloc (.cells cs e)) (w0.heap.size + 1) size (some ⟨w0.heap.size, 0, none⟩) 1 cs.toList :=
  ⟨by simpa using h, fun _ => ⟨_, _, rfl, by omega, fun j u hu => by
    rw [Nat.zero_add, World.cell?_alloc_at _ _ _ _ rfl]; simpa using hu⟩⟩
theorem Rd.blk {w : World} {g : Nat} {cs : Array Value} {e : TypeId} (size : Nat) (hb : w.heap[g]? = some (.cells cs e (0, 0))) (h : cs.size = size) : Rd w (g + 1) size (some ⟨g, 0, none⟩) 1 cs.toList :=
  ⟨by simpa using h, fun _ => ⟨_, _, rfl, by omega, fun j u hu => by
    rw [Nat.zero_add, blk_cell hb]; simpa using hu⟩⟩
end

theorem own_empty {w : World} {g : Nat} {e : TypeId} {size base : Nat} (h : w.heap[g]? = some (.cells #[] e (0, 0))) (hb : base ≤ g) : w.ownsRow base e size (.slice (some ⟨g, 0, none⟩) 0 0) 0 [] :=
  ⟨by simp, .inr ⟨g, 0, #[], rfl, hb, h, Nat.le_refl _, by unfold maxLen; omega, by simp, by simp⟩⟩
/-- A slice from the beginning on. -/
theorem Rd.front {w : World} {B sz : Nat} {A : Option Addr} {n : Nat} {xs : List Value} (h : Rd w B sz A n xs) {k : Nat} (hk : k ≤ n) : Rd w B sz A k (xs.take (k * sz)) := by
  refine ⟨by rw [List.length_take, h.1]; exact Nat.min_eq_left (Nat.mul_le_mul_right _ hk), fun hp => ?_⟩
  obtain ⟨b, off, e, hb, hc⟩ := h.2 (by omega)
  exact ⟨b, off, e, hb, fun j u hu => hc j u (by rw [List.getElem?_take] at hu; split at hu; exact hu; cases hu)⟩
/-- A slice from place k on. -/
theorem Rd.back {w : World} {B sz : Nat} {A : Option Addr} {n : Nat} {xs : List Value} (h : Rd w B sz A n xs) {k c : Nat} (hk : k ≤ n) (hc : n ≤ c) :
    Rd w B sz (if c = k then A else A.map (·.add (k * sz))) (n - k) (xs.drop (k * sz)) := by
  refine ⟨by rw [List.length_drop, h.1, Nat.sub_mul], fun hp => ?_⟩
  obtain ⟨b, off, rfl, hb, hcell⟩ := h.2 (by omega)
  rw [if_neg (by omega)]
  refine ⟨b, off + k * sz, ?_, hb, fun j u hu => ?_⟩
  · simp only [Option.map_some, Addr.add]
    split
    · rename_i e; rw [e]; rfl
    · rfl
  · rw [Nat.add_assoc]
    exact hcell _ u (by rw [← hu, List.getElem?_drop])
theorem Rd.backAt {w : World} {B sz b off n : Nat} {xs : List Value} (h : Rd w B sz (some ⟨b, off, none⟩) n xs) {k : Nat} (hk : k ≤ n) : Rd w B sz (some ⟨b, off + k * sz, none⟩) (n - k) (xs.drop (k * sz)) := by
  refine ⟨by rw [List.length_drop, h.1, Nat.sub_mul], fun hp => ?_⟩
  obtain ⟨b', off', e, hb, hcell⟩ := h.2 (by omega)
  simp only [Option.some.injEq, Addr.mk.injEq, and_true] at e
  obtain ⟨rfl, rfl⟩ := e
  refine ⟨b, off + k * sz, rfl, hb, fun j u hu => ?_⟩
  rw [Nat.add_assoc]
  exact hcell _ u (by rw [← hu, List.getElem?_drop])
/-- The value of an owned row, its capacity. -/
theorem own_cap {w : World} {base : Nat} {e : TypeId} {sz n : Nat} {v : Value} {xs : List Value} (h : w.ownsRow base e sz v n xs) : ∃ A c, v = .slice A n c ∧ n ≤ c ∧ c ≤ maxLen := by
  rcases h.2 with ⟨rfl, rfl⟩ | ⟨g, cap, cur, rfl, hg, hh, h1, h2, _⟩
  · exact ⟨none, 0, rfl, Nat.le_refl _, Nat.zero_le _⟩
  · exact ⟨_, _, rfl, h1, h2⟩
theorem ints_one (l : List Int) : ((l.map (Value.int .i64)).all fun u => u.oneCell') = true := by
  rw [List.all_eq_true]
  intro u hu
  obtain ⟨a, _, rfl⟩ := List.mem_map.1 hu
  rfl

/-! ### Mem4 -/

theorem own_set {w : World} {base g n c j sz : Nat} {e : TypeId} {xs : List Value} (h : w.ownsRow base e sz (.slice (some ⟨g, 0, none⟩) n c) n xs) (u : Value) :
    (w.setCell ⟨g, j, none⟩ u).ownsRow base e sz (.slice (some ⟨g, 0, none⟩) n c) n (xs.set j u) := by
  obtain ⟨h1, h2⟩ := h
  refine ⟨by simpa using h1, ?_⟩
  rcases h2 with ⟨h2, _⟩ | ⟨g', cap, cur, hv, hg, hh, h3, h4, h5, h6⟩
  · cases h2
  · injection hv with a b d
    injection a with a
    injection a with a
    subst a
    subst d
    refine .inr ⟨g, c, _, rfl, hg, blk_set hh j u, h3, h4, by simpa using h5, ?_⟩
    rw [← h6, Array.toList_setIfInBounds, List.take_set]

theorem set_append_right {α : Type} (l m : List α) (k : Nat) (x : α) : (l ++ m).set (l.length + k) x = l ++ m.set k x := by
  rw [List.set_append_right _ _ (by omega)]
  congr 2
  omega
abbrev ints (l : List Int) : List Value := l.map (Value.int .i64)
theorem Rd.int {w : World} {B n : Nat} {A : Option Addr} {l : List Int} (h : Rd w B 1 A n (ints l)) {i : Nat} (hi : i < l.length) :
    ∃ b off, A = some ⟨b, off, none⟩ ∧ b < B ∧ w.cell? ⟨b, off + i, none⟩ = some (.int .i64 l[i]) := by
  have hl : n = l.length := by have := h.1; simp at this; omega
  obtain ⟨b, off, e, hb, hc⟩ := h.2 (by omega)
  exact ⟨b, off, e, hb, hc i _ (by simp [hi])⟩
theorem Rd.int_len {w : World} {B n : Nat} {A : Option Addr} {l : List Int} (h : Rd w B 1 A n (ints l)) : n = l.length := by have := h.1; simp at this; omega
theorem ret_ii {k k' : IntKind} {a b a' b' : Int} (h : a = b) (h' : a' = b') : Ending.returned (.tuple #[.int k a, .int k' a']) = .returned (.tuple #[.int k b, .int k' b']) := by rw [h, h']
theorem ret_vi {v : Value} {k : IntKind} {a b : Int} (h : a = b) : Ending.returned (.tuple #[v, .int k a]) = .returned (.tuple #[v, .int k b]) := by rw [h]
theorem rd_lit {w : World} {g : Nat} {cs : Array Value} {e : TypeId} {sz n : Nat} (hb : w.heap[g]? = some (.cells cs e (0, 0))) (h : cs.size = n * sz) : Rd w (g + 1) sz (some ⟨g, 0, none⟩) n cs.toList :=
  ⟨by simpa using h, fun _ => ⟨g, 0, rfl, by omega, fun j u hu => by rw [Nat.zero_add, blk_cell hb]; simpa using hu⟩⟩
theorem ret_bi {k : IntKind} {a b : Bool} {x y : Int} (h : a = b) (h' : x = y) : Ending.returned (.tuple #[.bool a, .int k x]) = .returned (.tuple #[.bool b, .int k y]) := by rw [h, h']

end Go.Proofs.Ytejjogpgolgdgaa

/-
  WORDS FOR TABLES: slices of slices of ints. No program is named.
-/
namespace Go.Proofs.Ytejjogpgolgdgaa
open Go.RowKit

theorem ints_snoc (p : List Int) (f : Int) : ints (p ++ [f]) = ints p ++ [.int .i64 f] := by simp [ints]
/-- The value v is a slice header that reads as the ints p; what it reads lies below B, and in no block of X. -/
def RowAt (w : World) (B : Nat) (X : Nat → Prop) (v : Value) (p : List Int) : Prop :=
  ∃ A c, v = .slice A p.length c ∧ p.length ≤ c ∧ c ≤ maxLen ∧ Rd w B 1 A p.length (ints p) ∧ (∀ b off f, 0 < p.length → A = some ⟨b, off, f⟩ → ¬ X b)
def Tab (w : World) (B : Nat) (X : Nat → Prop) (vs : List Value) (ps : List (List Int)) : Prop :=
  vs.length = ps.length ∧ ∀ (i : Nat) v p, vs[i]? = some v → ps[i]? = some p → RowAt w B X v p

section
variable {w w' : World} {B B' : Nat} {X X' : Nat → Prop} {v : Value} {p : List Int} {vs : List Value} {ps : List (List Int)}
theorem RowAt.keep (h : RowAt w B X v p) (hk : ∀ a : Addr, a.block < B → ¬ X a.block → w'.cell? a = w.cell? a) : RowAt w' B X v p := by
  obtain ⟨A, c, e, h1, h2, h3, h4⟩ := h
  refine ⟨A, c, e, h1, h2, ⟨h3.1, fun hn => ?_⟩, h4⟩
  obtain ⟨b, off, e, hb, hc⟩ := h3.2 hn
  exact ⟨b, off, e, hb, fun j u hu => (hk ⟨b, off + j, none⟩ hb (h4 b off none hn e)).trans (hc j u hu)⟩
theorem RowAt.more (h : RowAt w B X v p) (hB : B ≤ B') : RowAt w B' X v p := by
  obtain ⟨A, c, e, h1, h2, h3, h4⟩ := h
  exact ⟨A, c, e, h1, h2, h3.more hB, h4⟩
theorem RowAt.at (h : RowAt w B X v p) (hX : ∀ g, X' g → X g ∨ B ≤ g) : RowAt w B X' v p := by
  obtain ⟨A, c, e, h1, h2, h3, h4⟩ := h
  refine ⟨A, c, e, h1, h2, h3, fun b off f hn ha he => ?_⟩
  obtain ⟨b', off', e', hb, _⟩ := h3.2 hn
  rcases hX b he with h | h
  · exact h4 b off f hn ha h
  · rw [ha] at e'
    injection e' with e'
    injection e' with e1
    omega
theorem RowAt.below (h : RowAt w B X v p) (hb : Below B' w w') (hB : B ≤ B') : RowAt w' B X v p := h.keep fun _ ha _ => hb.cell (by omega)
theorem RowAt.alloc (h : RowAt w B X v p) (hB : B ≤ w.heap.size) (o : Obj) : RowAt (w.alloc o) B X v p := h.keep fun a ha _ => World.cell?_alloc_lt w o a (by omega)
theorem RowAt.grown {row : Option Nat} (h : RowAt w B X v p) (hg : w.grownBy w' row) (hr : ∀ g, row = some g → X g) (hB : B ≤ w.heap.size) : RowAt w' B X v p :=
  h.keep fun a ha hne => World.cell?_of_block (hg.block a.block (by omega) (fun e => hne (hr _ e.symm)))
theorem RowAt.setCell (h : RowAt w B X v p) {a : Addr} (hX : X a.block) (u : Value) : RowAt (w.setCell a u) B X v p :=
  h.keep fun q _ hne => World.cell?_setCell_other w a q u (fun e => by subst e; exact hne hX)
theorem RowAt.read (h : RowAt w B X v p) : ∃ A c, v = .slice A p.length c ∧ p.length ≤ c ∧ c ≤ maxLen ∧ Rd w B 1 A p.length (ints p) := by
  obtain ⟨A, c, e, h1, h2, h3, _⟩ := h
  exact ⟨A, c, e, h1, h2, h3⟩
/-- A row of the call's own. -/
theorem RowAt.of_own {base : Nat} {e : TypeId} (h : w.ownsRow base e 1 v p.length (ints p)) (hX : ∀ g, X g → g < base) : RowAt w w.heap.size X v p := by
  obtain ⟨A, c, rfl, h1, h2⟩ := own_cap h
  refine ⟨A, c, rfl, h1, h2, Rd.of_own h, fun b off f hn ha he => ?_⟩
  have h3 := h.lt b (by rw [ha]; rfl)
  have := hX b he
  omega
theorem RowAt.nil : RowAt w B X (.slice none 0 0) [] := ⟨none, 0, rfl, Nat.le_refl _, Nat.zero_le _, Rd.nil, fun _ _ _ hn _ => absurd hn (by simp)⟩

theorem Tab.nil : Tab w B X [] [] := ⟨rfl, fun i v p h => by simp at h⟩
theorem Tab.keep (h : Tab w B X vs ps) (hk : ∀ a : Addr, a.block < B → ¬ X a.block → w'.cell? a = w.cell? a) : Tab w' B X vs ps := ⟨h.1, fun i v p hv hp => (h.2 i v p hv hp).keep hk⟩
theorem Tab.more (h : Tab w B X vs ps) (hB : B ≤ B') : Tab w B' X vs ps := ⟨h.1, fun i v p hv hp => (h.2 i v p hv hp).more hB⟩
theorem Tab.at (h : Tab w B X vs ps) (hX : ∀ g, X' g → X g ∨ B ≤ g) : Tab w B X' vs ps := ⟨h.1, fun i v p hv hp => (h.2 i v p hv hp).at hX⟩
theorem Tab.below (h : Tab w B X vs ps) (hb : Below B' w w') (hB : B ≤ B') : Tab w' B X vs ps := ⟨h.1, fun i v p hv hp => (h.2 i v p hv hp).below hb hB⟩
theorem Tab.alloc (h : Tab w B X vs ps) (hB : B ≤ w.heap.size) (o : Obj) : Tab (w.alloc o) B X vs ps := ⟨h.1, fun i v p hv hp => (h.2 i v p hv hp).alloc hB o⟩
theorem Tab.grown {row : Option Nat} (h : Tab w B X vs ps) (hg : w.grownBy w' row) (hr : ∀ g, row = some g → X g) (hB : B ≤ w.heap.size) : Tab w' B X vs ps := ⟨h.1, fun i v p hv hp => (h.2 i v p hv hp).grown hg hr hB⟩
theorem Tab.setCell (h : Tab w B X vs ps) {a : Addr} (hX : X a.block) (u : Value) : Tab (w.setCell a u) B X vs ps := ⟨h.1, fun i v p hv hp => (h.2 i v p hv hp).setCell hX u⟩
theorem Tab.snoc (h : Tab w B X vs ps) (hr : RowAt w B X v p) : Tab w B X (vs ++ [v]) (ps ++ [p]) := by
  refine ⟨by simp [h.1], fun i u q hu hq => ?_⟩
  rcases Nat.lt_or_ge i vs.length with hi | hi
  · rw [List.getElem?_append_left hi] at hu
    rw [List.getElem?_append_left (by rw [← h.1]; exact hi)] at hq
    exact h.2 i u q hu hq
  · rw [List.getElem?_append_right hi] at hu
    rw [List.getElem?_append_right (by rw [← h.1]; exact hi)] at hq
    rw [h.1] at hu
    obtain ⟨h1, h2⟩ := List.getElem?_eq_some_iff.1 hu
    simp at h1
    have h0 : i - ps.length = 0 := by omega
    rw [h0] at hu hq
    simp at hu hq
    subst hu hq
    exact hr
theorem Tab.row (h : Tab w B X vs ps) {i : Nat} (hi : i < ps.length) : ∃ v, vs[i]? = some v ∧ RowAt w B X v ps[i] := by
  have h1 : i < vs.length := by rw [h.1]; exact hi
  exact ⟨vs[i], List.getElem?_eq_getElem h1, h.2 i _ _ (List.getElem?_eq_getElem h1) (List.getElem?_eq_getElem hi)⟩
theorem Tab.take (h : Tab w B X vs ps) (k : Nat) : Tab w B X (vs.take k) (ps.take k) := by
  refine ⟨by simp [h.1], fun i v p hv hp => ?_⟩
  rw [List.getElem?_take] at hv hp
  split at hv
  · rw [if_pos (by assumption)] at hp
    exact h.2 i v p hv hp
  · cases hv
theorem Tab.headers (h : Tab w B X vs ps) : (vs.all fun u => u.oneCell') = true := by
  rw [List.all_eq_true]
  intro u hu
  obtain ⟨i, hi, rfl⟩ := List.getElem_of_mem hu
  obtain ⟨A, c, e, _⟩ := h.2 i _ _ (List.getElem?_eq_getElem hi) (List.getElem?_eq_getElem (by rw [← h.1]; exact hi))
  rw [e]; rfl
end

/-- A header of a table, read through the slice of headers. -/
theorem Rd.head {w : World} {B n : Nat} {A : Option Addr} {vs : List Value} (h : Rd w B 1 A n vs) {i : Nat} {v : Value} (hi : vs[i]? = some v) :
    ∃ b off, A = some ⟨b, off, none⟩ ∧ b < B ∧ w.cell? ⟨b, off + i, none⟩ = some v := by
  have hl : n = vs.length := by have := h.1; omega
  have hlt := (List.getElem?_eq_some_iff.1 hi).1
  obtain ⟨b, off, e, hb, hc⟩ := h.2 (by omega)
  exact ⟨b, off, e, hb, hc i _ hi⟩

section
variable {P : Program} {w0 : World} {ops : Array Oper} {rest : List Oper} {o : Oper} {a : Act} {Q : Exit → Act → World → Prop}
/-- 'out = append(out, x)', out a row of the call's own, with what becomes of its block. -/
theorem app1x (hgd : o.guard = none) (s x : Operand) (t : TypeId)
    (ho : o.op = .call { callee := .builtin .append, args := #[s, x], argTypes := #[t, t] })
    (e : TypeId) (z : Value) (size bytes : Nat) (E : EOk P t e z size bytes) (base : Nat) (cs : Array Value)
    (v : Value) (n : Nat) (xs : List Value) (hs : a.eval s = v) (hown : w0.ownsRow base e size v n xs)
    (g : Nat) (hx : a.eval x = .slice (some ⟨g, 0, none⟩) 1 1) (hgs : g = w0.heap.size) (hl : cs.size = size) (h1 : (cs.toList.all fun u => u.oneCell') = true)
    (hn : n ≤ 1000000) (hbase : base ≤ w0.heap.size)
    (h : ∀ v' w', w'.ownsRow base e size v' (n + 1) (xs ++ cs.toList) → w0.grownBy w' v.ownBlock → (v'.ownBlock = v.ownBlock ∨ ∃ g, v'.ownBlock = some g ∧ w0.heap.size ≤ g) → wpList P ops Q rest (a.put o.dst v') w') :
    wpList P ops Q (o :: rest) a (w0.alloc (.cells cs e)) :=
  wpList_plain hgd fun K hK => by
    subst hgs
    obtain ⟨i, hi, hz0, hz1, hz2⟩ := E.info
    have hb : (n + 1) * bytes ≤ 140737488355328 := by
      have := E.hby
      have h2 : (n + 1) * bytes ≤ 1000001 * 4096 := Nat.mul_le_mul (by omega) this
      omega
    obtain ⟨v', w', hrun, h2, h3, _, h5⟩ := run_append_own_at (P := P) (w := w0.alloc (.cells cs e)) base t o.type e i z size bytes E.ht hi hz0 hz1 hz2 E.hzs E.hsz v n xs (hown.alloc _) ⟨w0.heap.size, 0, none⟩ 1 1 cs.toList (by simpa using hl)
      (fun j u hu => by
        rw [show ((⟨w0.heap.size, 0, none⟩ : Addr).add j) = ⟨w0.heap.size, j, none⟩ from by unfold Addr.add; split <;> simp [*], World.cell?_alloc_at _ _ _ _ rfl]
        simpa using hu) (List.all_eq_true.1 h1) (by unfold maxLen; omega) hb (by simp; omega)
    unfold Oper.wp execOp
    simp only [ho, resolve, invoke, builtin, Sem.run_bind, Sem.run_pure, Result.andThen_ok, List.map_toArray, List.map_cons, List.map_nil, hs, hx, hrun]
    exact hK _ _ (h v' w' h2 (grownBy_alloc_trans h3) (h5.imp id fun h => ⟨_, h, by simp⟩))
end
end Go.Proofs.Ytejjogpgolgdgaa

/-
  WORDS FOR TABLES THAT CAME IN. No program is named.
-/
namespace Go.Proofs.Ytejjogpgolgdgaa
open Go.RowKit

/-- The slice of slices reads as the table ps; all of it lies below B. -/
def TRd (w : World) (B : Nat) (A : Option Addr) (k : Nat) (ps : List (List Int)) : Prop := ∃ vs, Rd w B 1 A k vs ∧ Tab w B (fun _ => False) vs ps
section
variable {w w' : World} {B B' k : Nat} {A : Option Addr} {ps : List (List Int)}
theorem TRd.len (h : TRd w B A k ps) : k = ps.length := by obtain ⟨vs, h1, h2⟩ := h; have := h1.1; have := h2.1; omega
theorem TRd.more (h : TRd w B A k ps) (hB : B ≤ B') : TRd w B' A k ps := by obtain ⟨vs, h1, h2⟩ := h; exact ⟨vs, h1.more hB, h2.more hB⟩
theorem TRd.below (h : TRd w B A k ps) (hb : Below B w w') : TRd w' B A k ps := by obtain ⟨vs, h1, h2⟩ := h; exact ⟨vs, h1.below hb, h2.below hb (Nat.le_refl _)⟩
theorem TRd.below' (h : TRd w B A k ps) (hb : Below B' w w') (hB : B ≤ B') : TRd w' B A k ps := h.below (hb.mono hB)
theorem TRd.alloc (h : TRd w B A k ps) (hB : B ≤ w.heap.size) (o : Obj) : TRd (w.alloc o) B A k ps := h.below ((Below.refl B w).alloc hB o)
theorem TRd.drewN (h : TRd w B A k ps) (n : Nat) : TRd (w.drewN n) B A k ps := h
theorem TRd.nil : TRd w B none 0 [] := ⟨[], Rd.nil, Tab.nil⟩
/-- Row i: the header's cell, and what it reads as. -/
theorem TRd.row (h : TRd w B A k ps) {i : Nat} (hi : i < ps.length) : ∃ b off A' c', A = some ⟨b, off, none⟩ ∧ b < B ∧ w.cell? ⟨b, off + i, none⟩ = some (.slice A' ps[i].length c') ∧ ps[i].length ≤ c' ∧ c' ≤ maxLen ∧ Rd w B 1 A' ps[i].length (ints ps[i]) := by
  obtain ⟨vs, h1, h2⟩ := h
  obtain ⟨v, hv, hr⟩ := h2.row hi
  obtain ⟨A', c', rfl, g1, g2, g3⟩ := hr.read
  obtain ⟨b, off, e, hb, hc⟩ := h1.head hv
  exact ⟨b, off, A', c', e, hb, hc, g1, g2, g3⟩
theorem TRd.rowAt {b off : Nat} {f : Option Nat} (h : TRd w B (some ⟨b, off, f⟩) k ps) {i : Nat} (hi : i < ps.length) : ∃ A' c', f = none ∧ b < B ∧ w.cell? ⟨b, off + i, none⟩ = some (.slice A' ps[i].length c') ∧ ps[i].length ≤ c' ∧ c' ≤ maxLen ∧ Rd w B 1 A' ps[i].length (ints ps[i]) := by
  obtain ⟨b', off', A', c', e, h1, h2, h3, h4, h5⟩ := h.row hi
  injection e with e
  injection e with e1 e2 e3
  subst e1 e2 e3
  exact ⟨A', c', rfl, h1, h2, h3, h4, h5⟩
/-- A table of the call's own. -/
theorem TRd.of_own {base : Nat} {e : TypeId} {c : Nat} {vs : List Value} {X : Nat → Prop} (h : w.ownsRow base e 1 (.slice A k c) k vs) (ht : Tab w w.heap.size X vs ps) : TRd w w.heap.size A k ps :=
  ⟨vs, Rd.of_own h, ht.at fun _ h => h.elim⟩
end
end Go.Proofs.Ytejjogpgolgdgaa

/-
  ARGUMENTS OPENED: slices of ints, tables, as they come in.
-/
namespace Go.Proofs.Ytejjogpgolgdgaa
open Go.ChangeShapes Go.WideShapes Go.ChangeAt Go.RowKit Go.Deep

theorem ownKnob_none : ownKnob Try.prog.godebug = none := by kernel_rfl
theorem laidOut : laidOutB Try.prog = true := by kernel_rfl

def I64 (n : Int) : Prop := -9223372036854775808 ≤ n ∧ n ≤ 9223372036854775807
theorem i64_wf {n : Int} (h : (Lit.int .i64 n).wf = true) : I64 n := by
  have h1 : IntKind.min .i64 = -9223372036854775808 := by decide
  have h2 : IntKind.max .i64 = 9223372036854775807 := by decide
  simp only [Lit.wf, h1, h2, Bool.and_eq_true, decide_eq_true_eq] at h
  exact h

theorem cell_lt {w : World} {a : Addr} {v : Value} (h : w.cell? a = some v) : a.block < w.heap.size ∧ a.spot = none := by
  unfold World.cell? at h
  split at h
  · rename_i hb
    refine ⟨(Array.getElem?_eq_some_iff.1 hb).1, ?_⟩
    split at h
    · cases h
    · rename_i hs
      cases hsp : a.spot with
      | none => rfl
      | some _ => simp [hsp] at hs
  · cases h

theorem wf0 : (Lit.int .i64 0).wf = true := by decide
theorem add_none (b off k : Nat) : Addr.add ⟨b, off, none⟩ k = ⟨b, off + k, none⟩ := by
  unfold Addr.add
  split
  · rename_i h; subst h; rfl
  · rfl
section
variable {H : Type} {enc : TypeId × Value → H} {w : World} {base : Nat} {spare : Nat → Bool} {held : Bool}
def Big (l : List Int) : Prop := ∀ a ∈ l, I64 a
/-- A slice of ints, opened. -/
theorem open_ints {t e : TypeId} {fuel : Nat} {cs : List Value} {x : DataW H × List MemPlace} (ht : Try.prog.underlying t = some (.slice e)) (he : Try.prog.underlying e = some (.int .i64)) (hC : Try.prog.cellsOf e = 1)
    (h : DataW.trod enc Try.prog w base spare held fuel t cs = some x) :
    ∃ (A : Option Addr) (len cap : Nat) (l : List Int), cs = [.slice A len cap] ∧ len ≤ cap ∧ cap ≤ maxLen ∧ Rd w w.heap.size 1 A len (ints l) ∧ Big l := by
  rcases open_slice ht h with ⟨rfl, _⟩ | ⟨a, len, cap, m, n, D, Pl, rfl, hb, hl, hm, hmm, hx, hi⟩
  · exact ⟨none, 0, 0, [], rfl, Nat.le_refl _, Nat.zero_le _, Rd.nil, fun a ha => by cases ha⟩
  · rw [hC] at hi
    have hlm : len ≤ m := by rw [hmm]; split <;> omega
    have key : ∀ i, ∃ z : Int, (i < len → w.cell? (a.add (i * 1)) = some (.int .i64 z)) ∧ I64 z := by
      intro i
      by_cases hil : i < len
      · obtain ⟨cs', hc, ht'⟩ := hi i (by omega)
        obtain ⟨z0, e0, _, w0⟩ := DataW.trod_int he ht'
        subst e0
        obtain ⟨_, hcl, hat⟩ := World.cells?_some hc
        refine ⟨z0, fun _ => ?_, i64_wf w0⟩
        have := hat 0 (by simp)
        simpa [Addr.add] using this
      · exact ⟨0, fun h => absurd h hil, i64_wf wf0⟩
    obtain ⟨f, hf⟩ := Classical.axiomOfChoice key
    refine ⟨some a, len, cap, (List.range len).map f, rfl, hl, hm, ⟨by simp, fun hpos => ?_⟩, ?_⟩
    · have h0' := (hf 0).1 hpos
      obtain ⟨hlt, hsp⟩ := cell_lt h0'
      simp [Addr.add] at hlt hsp
      obtain ⟨b, off, sp⟩ := a
      simp at hlt hsp
      subst hsp
      refine ⟨b, off, rfl, hlt, fun j u hu => ?_⟩
      have hj : j < len := by
        have := (List.getElem?_eq_some_iff.1 hu).1
        simpa using this
      have e0 := (hf j).1 hj
      rw [add_none, Nat.mul_one] at e0
      rw [e0]
      simpa [hj] using hu
    · intro a ha
      simp at ha
      obtain ⟨i, _, rfl⟩ := ha
      exact (hf i).2
/-- A table of ints, opened. -/
theorem open_table {fuel : Nat} {cs : List Value} {x : DataW H × List MemPlace} (h : DataW.trod enc Try.prog w base spare held fuel 22 cs = some x) :
    ∃ (A : Option Addr) (len cap : Nat) (ps : List (List Int)), cs = [.slice A len cap] ∧ len ≤ cap ∧ cap ≤ maxLen ∧ TRd w w.heap.size A len ps ∧ (∀ l ∈ ps, l.length ≤ maxLen) := by
  have hC : Try.prog.cellsOf 23 = 1 := by kernel_rfl
  rcases open_slice Try.underlying22 h with ⟨rfl, _⟩ | ⟨a, len, cap, m, n, D, Pl, rfl, hb, hl, hm, hmm, hx, hi⟩
  · exact ⟨none, 0, 0, [], rfl, Nat.le_refl _, Nat.zero_le _, TRd.nil, fun a ha => by cases ha⟩
  · rw [hC] at hi
    have hlm : len ≤ m := by rw [hmm]; split <;> omega
    have key : ∀ i, ∃ y : Value × List Int, i < len → w.cell? (a.add (i * 1)) = some y.1 ∧ RowAt w w.heap.size (fun _ => False) y.1 y.2 ∧ y.2.length ≤ maxLen := by
      intro i
      by_cases hil : i < len
      · obtain ⟨cs', hc, ht'⟩ := hi i (by omega)
        obtain ⟨A', l', c', zs, hcs, e1, e2, e3, e4⟩ := open_ints Try.underlying23 Try.underlying3 (by kernel_rfl) ht'
        obtain ⟨_, hcl, hat⟩ := World.cells?_some hc
        obtain rfl := e3.int_len
        refine ⟨(.slice A' zs.length c', zs), fun _ => ⟨?_, ⟨A', c', rfl, e1, e2, e3, fun _ _ _ _ _ h => h⟩, Nat.le_trans e1 e2⟩⟩
        have := hat 0 (by simp)
        rw [hcs] at this
        simpa [Addr.add] using this
      · exact ⟨(.slice none 0 0, []), fun h => absurd h hil⟩
    obtain ⟨f, hf⟩ := Classical.axiomOfChoice key
    have hspot : 0 < len → a.spot = none ∧ a.block < w.heap.size := fun hpos => by
      obtain ⟨hlt, hsp⟩ := cell_lt (hf 0 hpos).1
      simp [Addr.add] at hlt hsp
      exact ⟨hsp, hlt⟩
    refine ⟨some a, len, cap, ((List.range len).map f).map (·.2), rfl, hl, hm, ⟨((List.range len).map f).map (·.1), ⟨by simp, fun hpos => ?_⟩, ⟨by simp, fun i v p hv hp => ?_⟩⟩, ?_⟩
    · obtain ⟨hsp, hlt⟩ := hspot hpos
      obtain ⟨b, off, sp⟩ := a
      simp at hlt hsp
      subst hsp
      refine ⟨b, off, rfl, hlt, fun j u hu => ?_⟩
      have hj : j < len := by
        have := (List.getElem?_eq_some_iff.1 hu).1
        simpa using this
      have e0 := (hf j hj).1
      rw [add_none, Nat.mul_one] at e0
      rw [e0]
      simpa [hj] using hu
    · have hi : i < len := by
        have := (List.getElem?_eq_some_iff.1 hv).1
        simpa using this
      have e0 := (hf i hi).2.1
      simp [hi] at hv hp
      subst hv hp
      exact e0
    · intro l hl
      simp at hl
      obtain ⟨i, hi, rfl⟩ := hl
      exact (hf i hi).2.2
end
end Go.Proofs.Ytejjogpgolgdgaa
