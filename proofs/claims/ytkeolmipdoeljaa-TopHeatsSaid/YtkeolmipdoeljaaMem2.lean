/-
  MORE WORDS FOR MEMORY: a block that is known whole; the heats of all ions in one block.
-/
import Derived.Test.YtkeolmipdoeljaaMem
import Derived.Deep.OwnRows
namespace Go.Proofs.Ytkeolmipdoeljaa
open Go.RowKit Heat

theorem blk_lt {w : World} {g : Nat} {o : Obj} (h : w.heap[g]? = some o) : g < w.heap.size := (Array.getElem?_eq_some_iff.1 h).1
theorem blk_cell {w : World} {g : Nat} {cs : Array Value} {t : TypeId} (h : w.heap[g]? = some (.cells cs t (0, 0))) (i : Nat) : w.cell? ⟨g, i, none⟩ = cs[i]? := cell_of_row w g i cs t (0, 0) h
theorem blk_frozen {w : World} {g : Nat} {cs : Array Value} {t : TypeId} (h : w.heap[g]? = some (.cells cs t (0, 0))) (i : Nat) : w.frozen? ⟨g, i, none⟩ = false := by simp [World.frozen?, h]
theorem blk_new (w : World) (t : TypeId) (cs : Array Value) : (w.alloc (.cells cs t)).heap[w.heap.size]? = some (.cells cs t (0, 0)) := heap_alloc_new w _
theorem blk_alloc {w : World} {g : Nat} {x : Obj} (h : w.heap[g]? = some x) (o : Obj) : (w.alloc o).heap[g]? = some x := (Below.heap_alloc w o g (blk_lt h)).trans h
theorem blk_far {w : World} {g : Nat} {x : Obj} (h : w.heap[g]? = some x) {p : Addr} (hp : g ≠ p.block) (u : Value) : (w.setCell p u).heap[g]? = some x := (Below.heap_setCell w p u g hp).trans h
theorem blk_grown {w w' : World} {g : Nat} {x : Obj} {row : Option Nat} (h : w.heap[g]? = some x) (hg : w.grownBy w' row) (hne : some g ≠ row) : w'.heap[g]? = some x := (hg.block g (blk_lt h) hne).trans h
theorem blk_below {w w' : World} {g B : Nat} {x : Obj} (h : w.heap[g]? = some x) (hb : Below B w w') (hg : g < B) : w'.heap[g]? = some x := (hb.block g hg).trans h
theorem blk_set {w : World} {g : Nat} {cs : Array Value} {t : TypeId} (h : w.heap[g]? = some (.cells cs t (0, 0))) (i : Nat) (u : Value) : (w.setCell ⟨g, i, none⟩ u).heap[g]? = some (.cells (cs.setIfInBounds i u) t (0, 0)) := by
  simp [World.setCell, Array.getElem?_modify, h]

/-- Block g holds the numbers h 0, .., h (n - 1). -/
def HeatsAt (w : World) (g n : Nat) (h : Int → Int) : Prop := ∃ cs : Array Value, w.heap[g]? = some (.cells cs 3 (0, 0)) ∧ cs.size = n ∧ ∀ j : Nat, j < n → cs[j]? = some (.int .i64 (h j))

section
variable {w w' : World} {g n : Nat} {h h' : Int → Int}
theorem HeatsAt.lt (H : HeatsAt w g n h) : g < w.heap.size := by obtain ⟨_, h1, _⟩ := H; exact blk_lt h1
theorem HeatsAt.cell (H : HeatsAt w g n h) {i : Int} (h0 : 0 ≤ i) (h1 : i < n) : w.cell? ⟨g, i.toNat, none⟩ = some (.int .i64 (h i)) := by
  obtain ⟨cs, a, b, c⟩ := H
  rw [blk_cell a, c i.toNat (by omega), Int.toNat_of_nonneg h0]
theorem HeatsAt.frozen (H : HeatsAt w g n h) (i : Nat) : w.frozen? ⟨g, i, none⟩ = false := by obtain ⟨_, h1, _⟩ := H; exact blk_frozen h1 i
theorem HeatsAt.keep (H : HeatsAt w g n h) (hk : w'.heap[g]? = w.heap[g]?) : HeatsAt w' g n h := by obtain ⟨cs, a, b, c⟩ := H; exact ⟨cs, hk.trans a, b, c⟩
theorem HeatsAt.alloc (H : HeatsAt w g n h) (o : Obj) : HeatsAt (w.alloc o) g n h := H.keep (Below.heap_alloc w o g H.lt)
theorem HeatsAt.grown {row : Option Nat} (H : HeatsAt w g n h) (hg : w.grownBy w' row) (hne : some g ≠ row) : HeatsAt w' g n h := H.keep (hg.block g H.lt hne)
theorem HeatsAt.below {B : Nat} (H : HeatsAt w g n h) (hb : Below B w w') (hg : g < B) : HeatsAt w' g n h := H.keep (hb.block g hg)
theorem HeatsAt.far (H : HeatsAt w g n h) {p : Addr} (hp : g ≠ p.block) (u : Value) : HeatsAt (w.setCell p u) g n h := H.keep (Below.heap_setCell w p u g hp)
theorem HeatsAt.set (H : HeatsAt w g n h) {i : Int} (h0 : 0 ≤ i) (_h1 : i < n) (x : Int) : HeatsAt (w.setCell ⟨g, i.toNat, none⟩ (.int .i64 x)) g n (fun j => if j = i then x else h j) := by
  obtain ⟨cs, a, b, c⟩ := H
  refine ⟨_, blk_set a _ _, by simpa using b, fun j hj => ?_⟩
  rw [Array.getElem?_setIfInBounds]
  dsimp only
  by_cases e : i.toNat = j
  · subst e
    rw [if_pos rfl, if_pos (by omega), if_pos (by omega)]
  · rw [if_neg e, if_neg (by omega)]
    exact c j hj
theorem HeatsAt.congr (H : HeatsAt w g n h) (e : ∀ j : Nat, j < n → h j = h' j) : HeatsAt w g n h' := by
  obtain ⟨cs, a, b, c⟩ := H
  exact ⟨cs, a, b, fun j hj => by rw [← e j hj]; exact c j hj⟩
/-- All 0: what make lays. -/
theorem HeatsAt.made (w : World) (n : Nat) : HeatsAt (w.alloc (.cells (madeCells #[.int .i64 0] n) 3)) w.heap.size n cold :=
  ⟨_, blk_new w 3 _, by rw [size_madeCells], fun j hj => by
    have := toList_madeCells_one (.int .i64 0) n
    rw [← Array.getElem?_toList, this, List.getElem?_replicate, if_pos (by omega)]; rfl⟩
end

theorem take_snoc {α : Type} (l : List α) (q : Nat) (h : q < l.length) : l.take (q + 1) = l.take q ++ [l[q]] := by rw [List.take_add_one, List.getElem?_eq_getElem h]; rfl
theorem actCells_snoc (l : List HAct) (a : HAct) : actCells (l ++ [a]) = actCells l ++ [.int .i64 a.kind, .int .i64 a.ion, .int .i64 a.heat] := by simp [actCells, actCell]

/-! ### The coolings put in, act by act -/
theorem putIn_snoc (L : Int) (l : List HAct) (a : HAct) : ∀ h, putIn L h (l ++ [a]) = putIn L h l ++ (if a.kind = 1 ∧ L < heats h (putIn L h l) a.ion then [cool a.ion, a] else [a]) := by
  induction l with
  | nil =>
    intro h
    by_cases c : a.kind = 1 ∧ L < h a.ion
    · simp [putIn, heats_nil, c]
    · have e : putIn L h ([] ++ [a]) = [a] := by simp only [List.nil_append, putIn]; rw [if_neg c]
      rw [e, if_neg (show ¬(a.kind = 1 ∧ L < heats h (putIn L h []) a.ion) from c)]; rfl
  | cons b l ih =>
    intro h
    by_cases c : b.kind = 1 ∧ L < h b.ion
    · have e : ∀ m, putIn L h (b :: m) = cool b.ion :: b :: putIn L (put (put h (cool b.ion)) b) m := fun m => by simp only [putIn]; rw [if_pos c]
      rw [List.cons_append, e, e, ih]; rfl
    · have e : ∀ m, putIn L h (b :: m) = b :: putIn L (put h b) m := fun m => by simp only [putIn]; rw [if_neg c]
      rw [List.cons_append, e, e, ih]; rfl
theorem mild_insert {l : List HAct} (hl : Mild l) (L : Int) (h : Int → Int) : Mild (putIn L h l) := by
  intro a ha
  rcases putIn_mem L l h a ha with h1 | ⟨b, _, rfl⟩
  · exact hl a h1
  · simp [cool]
theorem cnt_le (L : Int) (l : List HAct) : ∀ h, cnt L h l ≤ l.length := by
  induction l with
  | nil => intro h; simp [cnt]
  | cons a l ih =>
    intro h
    simp only [cnt, List.length_cons]
    split
    · have := ih (put (put h (cool a.ion)) a); omega
    · have := ih (put h a); omega
theorem own_base {w : World} {base base' : Nat} {e : TypeId} {sz n : Nat} {v : Value} {xs : List Value} (h : w.ownsRow base e sz v n xs) (hb : base' ≤ base) : w.ownsRow base' e sz v n xs := by
  obtain ⟨h1, h2⟩ := h
  refine ⟨h1, ?_⟩
  rcases h2 with h2 | ⟨g, cap, cur, hv, hg, r⟩
  · exact Or.inl h2
  · exact Or.inr ⟨g, cap, cur, hv, by omega, r⟩
theorem put_cool_warm (h : Int → Int) (a : HAct) (hk : a.kind ≠ 2) (j : Int) : (if j = a.ion then a.heat else if j = a.ion then 0 else h j) = put (put h (cool a.ion)) a j := by
  unfold put
  by_cases e : j = a.ion
  · rw [if_pos e, if_pos e, if_pos (show j = (cool a.ion).ion from e)]
    simp [Heat.step, hk, cool]
  · rw [if_neg e, if_neg e, if_neg e, if_neg (show ¬ j = (cool a.ion).ion from e)]
theorem put_warm (h : Int → Int) (a : HAct) (hk : a.kind ≠ 2) (j : Int) : (if j = a.ion then h a.ion + a.heat else h j) = put h a j := by
  unfold put Heat.step
  by_cases e : j = a.ion
  · subst e; simp [hk]
  · simp [e]
theorem put_cold (h : Int → Int) (a : HAct) (hk : a.kind = 2) (j : Int) : (if j = a.ion then 0 else h j) = put h a j := by
  unfold put Heat.step
  by_cases e : j = a.ion
  · subst e; simp [hk]
  · simp [e]
end Go.Proofs.Ytkeolmipdoeljaa
