/-
  MORE WORDS FOR MEMORY: append of a slice that came in, nil or not; in a plain region and in one that draws its order.
-/
import Derived.Test.YtkeolmipdoeljaaMem2
import Derived.Deep.RegionHeld3
namespace Go.Proofs.Ytkeolmipdoeljaa
open Go.RowKit Heat

section
variable {P : Program} {w : World}
/-- Onto a row of the call's own, out of a slice that reads as news, whatever its address. -/
theorem run_appN (base : Nat) (t ty e : TypeId) (z : Value) (size bytes : Nat) (E : EOk P t e z size bytes) (v : Value) (n : Nat) (xs : List Value) (hown : w.ownsRow base e size v n xs)
    (B : Nat) (A : Option Addr) (m c : Nat) (news : List Value) (hr : Rd w B size A m news) (h1 : (news.all fun u => u.oneCell') = true) (hn : n + m ≤ 1000000) (hbase : base ≤ w.heap.size) :
    ∃ v' w', (Builtin.append_ #[t, t] ty #[v, .slice A m c]).run P w = .ok v' w' ∧ w'.ownsRow base e size v' (n + m) (xs ++ news) ∧ w.grownBy w' v.ownBlock ∧ (v'.ownBlock = v.ownBlock ∨ v'.ownBlock = some w.heap.size) := by
  obtain ⟨i, hi, hz0, hz1, hz2⟩ := E.info
  have hbytes : (n + m) * bytes ≤ 140737488355328 := by
    have := E.hby
    have h2 : (n + m) * bytes ≤ 1000000 * 4096 := Nat.mul_le_mul hn this
    omega
  have hmax : n + m ≤ maxLen := by unfold maxLen; omega
  cases A with
  | none =>
    have hm : m = 0 := by
      rcases Nat.eq_zero_or_pos m with h0 | h0
      · exact h0
      · obtain ⟨_, _, h, _⟩ := hr.2 h0; cases h
    subst hm
    have hnews : news = [] := List.eq_nil_of_length_eq_zero (by simpa using hr.1)
    subst hnews
    refine ⟨v, w, ?_, by simpa using hown, World.grownBy.refl w _, .inl rfl⟩
    rcases hown.2 with ⟨rfl, rfl⟩ | ⟨g, cap, cur, rfl, _, _, hnc, _⟩
    · simp [Builtin.append_, run_underlying E.ht, sizeOf, typeInfo, hi, Builtin.lenOf, Builtin.firstCells]
    · simp [Builtin.append_, run_underlying E.ht, sizeOf, typeInfo, hi, Builtin.lenOf, Builtin.firstCells, hnc, storeCells]
  | some ad =>
    have hcells : ∀ j u, news[j]? = some u → w.cell? (ad.add j) = some u := by
      intro j u hu
      rcases Nat.eq_zero_or_pos m with h0 | h0
      · subst h0
        have hnews : news = [] := List.eq_nil_of_length_eq_zero (by simpa using hr.1)
        subst hnews
        simp at hu
      · obtain ⟨b, off, h, _, hc⟩ := hr.2 h0
        injection h with h
        subst h
        have := hc j u hu
        unfold Addr.add
        split
        · rename_i e; subst e; exact this
        · exact this
    obtain ⟨v', w', hrun, h2, h3, _, h5⟩ := run_append_own_at (P := P) w base t ty e i z size bytes E.ht hi hz0 hz1 hz2 E.hzs E.hsz v n xs hown ad m c news hr.1 hcells (List.all_eq_true.1 h1) hmax hbytes hbase
    exact ⟨v', w', hrun, h2, h3, h5⟩

variable {ops : Array Oper} {rest : List Oper} {o : Oper} {a : Act} {K : Act → World → Prop} {Q : Exit → Act → World → Prop}
theorem wp_appN (s x : Operand) (t : TypeId) (ho : o.op = .call { callee := .builtin .append, args := #[s, x], argTypes := #[t, t] })
    (e : TypeId) (z : Value) (size bytes : Nat) (E : EOk P t e z size bytes) (base : Nat) (v : Value) (n : Nat) (xs : List Value) (hs : a.eval s = v) (hown : w.ownsRow base e size v n xs)
    (B : Nat) (A : Option Addr) (m c : Nat) (news : List Value) (hx : a.eval x = .slice A m c) (hr : Rd w B size A m news) (h1 : (news.all fun u => u.oneCell') = true) (hn : n + m ≤ 1000000) (hbase : base ≤ w.heap.size)
    (h : ∀ v' w', w'.ownsRow base e size v' (n + m) (xs ++ news) → w.grownBy w' v.ownBlock → K (a.put o.dst v') w') : o.wp P a w K Q := by
  obtain ⟨v', w', hrun, h2, h3, _⟩ := run_appN (P := P) base t o.type e z size bytes E v n xs hown B A m c news hr h1 hn hbase
  unfold Oper.wp execOp
  simp only [ho, resolve, invoke, builtin, Sem.run_bind, Sem.run_pure, Result.andThen_ok, List.map_toArray, List.map_cons, List.map_nil, hs, hx, hrun]
  exact h v' w' h2 h3
/-- In a plain region. -/
theorem appN (hgd : o.guard = none) (s x : Operand) (t : TypeId) (ho : o.op = .call { callee := .builtin .append, args := #[s, x], argTypes := #[t, t] })
    (e : TypeId) (z : Value) (size bytes : Nat) (E : EOk P t e z size bytes) (base : Nat) (v : Value) (n : Nat) (xs : List Value) (hs : a.eval s = v) (hown : w.ownsRow base e size v n xs)
    (B : Nat) (A : Option Addr) (m c : Nat) (news : List Value) (hx : a.eval x = .slice A m c) (hr : Rd w B size A m news) (h1 : (news.all fun u => u.oneCell') = true) (hn : n + m ≤ 1000000) (hbase : base ≤ w.heap.size)
    (h : ∀ v' w', w'.ownsRow base e size v' (n + m) (xs ++ news) → w.grownBy w' v.ownBlock → wpList P ops Q rest (a.put o.dst v') w') : wpList P ops Q (o :: rest) a w :=
  wpList_plain hgd fun _ hK => wp_appN s x t ho e z size bytes E base v n xs hs hown B A m c news hx hr h1 hn hbase fun v' w' h2 h3 => hK _ _ (h v' w' h2 h3)
/-- At a step of a region that draws its order. -/
theorem stepAppN {X : Prop} (hgd : o.guard = none) (s x : Operand) (t : TypeId) (ho : o.op = .call { callee := .builtin .append, args := #[s, x], argTypes := #[t, t] })
    (e : TypeId) (z : Value) (size bytes : Nat) (E : EOk P t e z size bytes) (base : Nat) (v : Value) (n : Nat) (xs : List Value) (hs : a.eval s = v) (hown : w.ownsRow base e size v n xs)
    (B : Nat) (A : Option Addr) (m c : Nat) (news : List Value) (hx : a.eval x = .slice A m c) (hr : Rd w B size A m news) (h1 : (news.all fun u => u.oneCell') = true) (hn : n + m ≤ 1000000) (hbase : base ≤ w.heap.size)
    (h : ∀ v' w', w'.ownsRow base e size v' (n + m) (xs ++ news) → w.grownBy w' v.ownBlock → K (a.put o.dst v') w') : if Region.wanted o (yielded ops a.tmps) = true then Oper.wp P o a w K Q else X := by
  have hw : Region.wanted o (yielded ops a.tmps) = true := by simp [Region.wanted, hgd]
  rw [if_pos hw]
  exact wp_appN s x t ho e z size bytes E base v n xs hs hown B A m c news hx hr h1 hn hbase h
/-- One element, in the block that was made last, at such a step. -/
theorem Rd.one (w0 : World) (cs : Array Value) (e : TypeId) (size : Nat) (h : cs.size = size) : Rd (w0.alloc (.cells cs e)) (w0.heap.size + 1) size (some ⟨w0.heap.size, 0, none⟩) 1 cs.toList :=
  ⟨by simpa using h, fun _ => ⟨_, _, rfl, by omega, fun j u hu => by
    rw [Nat.zero_add, World.cell?_alloc_at _ _ _ _ rfl]; simpa using hu⟩⟩
theorem Rd.blk {w : World} {g : Nat} {cs : Array Value} {e : TypeId} (size : Nat) (hb : w.heap[g]? = some (.cells cs e (0, 0))) (h : cs.size = size) : Rd w (g + 1) size (some ⟨g, 0, none⟩) 1 cs.toList :=
  ⟨by simpa using h, fun _ => ⟨_, _, rfl, by omega, fun j u hu => by
    rw [Nat.zero_add, blk_cell hb]; simpa using hu⟩⟩
end

theorem own_empty {w : World} {g : Nat} {e : TypeId} {size base : Nat} (h : w.heap[g]? = some (.cells #[] e (0, 0))) (hb : base ≤ g) : w.ownsRow base e size (.slice (some ⟨g, 0, none⟩) 0 0) 0 [] :=
  ⟨by simp, .inr ⟨g, 0, #[], rfl, hb, h, Nat.le_refl _, by unfold maxLen; omega, by simp, by simp⟩⟩
/-- A slice from the beginning on. -/
theorem Rd.front {w : World} {B sz : Nat} {A : Option Addr} {n : Nat} {xs : List Value} (h : Rd w B sz A n xs) {k : Nat} (hk : k ≤ n) : Rd w B sz A k (xs.take (k * sz)) := by
  refine ⟨by rw [List.length_take, h.1]; exact Nat.min_eq_left (Nat.mul_le_mul_right _ hk), fun hp => ?_⟩
  obtain ⟨b, off, e, hb, hc⟩ := h.2 (by omega)
  exact ⟨b, off, e, hb, fun j u hu => hc j u (by rw [List.getElem?_take] at hu; split at hu; exact hu; cases hu)⟩
theorem actCells_take (l : List HAct) (k : Nat) : (actCells l).take (k * 3) = actCells (l.take k) := by
  induction l generalizing k with
  | nil => simp [actCells]
  | cons a l ih =>
    cases k with
    | zero => simp [actCells]
    | succ k =>
      have e : (k + 1) * 3 = k * 3 + 1 + 1 + 1 := by omega
      have := ih k
      simp only [actCells, List.flatMap_cons, actCell, List.cons_append, List.nil_append, List.take_succ_cons, e] at *
      rw [this]
theorem actCells_drop (l : List HAct) (k : Nat) : (actCells l).drop (k * 3) = actCells (l.drop k) := by
  induction l generalizing k with
  | nil => simp [actCells]
  | cons a l ih =>
    cases k with
    | zero => simp [actCells]
    | succ k =>
      have e : (k + 1) * 3 = k * 3 + 1 + 1 + 1 := by omega
      have := ih k
      simp only [actCells, List.flatMap_cons, actCell, List.cons_append, List.nil_append, List.drop_succ_cons, e] at *
      rw [this]
theorem Rd.actFront {w : World} {B : Nat} {A : Option Addr} {n : Nat} {l : List HAct} (h : Rd w B 3 A n (actCells l)) {k : Nat} (hk : k ≤ n) : Rd w B 3 A k (actCells (l.take k)) := by
  rw [← actCells_take]; exact h.front hk
/-- A slice from place k on. -/
theorem Rd.back {w : World} {B sz : Nat} {A : Option Addr} {n : Nat} {xs : List Value} (h : Rd w B sz A n xs) {k c : Nat} (hk : k ≤ n) (hc : n ≤ c) :
    Rd w B sz (if c = k then A else A.map (·.add (k * sz))) (n - k) (xs.drop (k * sz)) := by
  refine ⟨by rw [List.length_drop, h.1, Nat.sub_mul], fun hp => ?_⟩
  obtain ⟨b, off, rfl, hb, hcell⟩ := h.2 (by omega)
  rw [if_neg (by omega)]
  refine ⟨b, off + k * sz, ?_, hb, fun j u hu => ?_⟩
  · simp only [Option.map_some, Addr.add]
    split
    · rename_i e; rw [e]; rfl
    · rfl
  · rw [Nat.add_assoc]
    exact hcell _ u (by rw [← hu, List.getElem?_drop])
theorem Rd.backAt {w : World} {B sz b off n : Nat} {xs : List Value} (h : Rd w B sz (some ⟨b, off, none⟩) n xs) {k : Nat} (hk : k ≤ n) : Rd w B sz (some ⟨b, off + k * sz, none⟩) (n - k) (xs.drop (k * sz)) := by
  refine ⟨by rw [List.length_drop, h.1, Nat.sub_mul], fun hp => ?_⟩
  obtain ⟨b', off', e, hb, hcell⟩ := h.2 (by omega)
  simp only [Option.some.injEq, Addr.mk.injEq, and_true] at e
  obtain ⟨rfl, rfl⟩ := e
  refine ⟨b, off + k * sz, rfl, hb, fun j u hu => ?_⟩
  rw [Nat.add_assoc]
  exact hcell _ u (by rw [← hu, List.getElem?_drop])
theorem Rd.actBack {w : World} {B b off n : Nat} {l : List HAct} (h : Rd w B 3 (some ⟨b, off, none⟩) n (actCells l)) {k : Nat} (hk : k ≤ n) : Rd w B 3 (some ⟨b, off + k * 3, none⟩) (n - k) (actCells (l.drop k)) := by
  rw [← actCells_drop]; exact h.backAt hk
/-- The value of an owned row, its capacity. -/
theorem own_cap {w : World} {base : Nat} {e : TypeId} {sz n : Nat} {v : Value} {xs : List Value} (h : w.ownsRow base e sz v n xs) : ∃ A c, v = .slice A n c ∧ n ≤ c ∧ c ≤ maxLen := by
  rcases h.2 with ⟨rfl, rfl⟩ | ⟨g, cap, cur, rfl, hg, hh, h1, h2, _⟩
  · exact ⟨none, 0, rfl, Nat.le_refl _, Nat.zero_le _⟩
  · exact ⟨_, _, rfl, h1, h2⟩
theorem actCells_one (l : List HAct) : ((actCells l).all fun u => u.oneCell') = true := by
  rw [List.all_eq_true]
  intro u hu
  obtain ⟨a, _, ha⟩ := List.mem_flatMap.1 hu
  simp only [actCell, List.mem_cons, List.not_mem_nil, or_false] at ha
  rcases ha with rfl | rfl | rfl <;> rfl
theorem ints_one (l : List Int) : ((l.map (Value.int .i64)).all fun u => u.oneCell') = true := by
  rw [List.all_eq_true]
  intro u hu
  obtain ⟨a, _, rfl⟩ := List.mem_map.1 hu
  rfl
end Go.Proofs.Ytkeolmipdoeljaa
