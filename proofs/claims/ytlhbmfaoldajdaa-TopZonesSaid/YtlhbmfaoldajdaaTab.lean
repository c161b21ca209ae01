/-
  WORDS FOR TABLES: slices of slices of ints. No program is named.
-/
import Derived.Test.YtlhbmfaoldajdaaMem
namespace Go.Proofs.Ytlhbmfaoldajdaa
open Go.RowKit

theorem ints_snoc (p : List Int) (f : Int) : ints (p ++ [f]) = ints p ++ [.int .i64 f] := by simp [ints]
/-- The value v is a slice header that reads as the ints p; what it reads lies below B, and in no block of X. -/
def RowAt (w : World) (B : Nat) (X : Nat → Prop) (v : Value) (p : List Int) : Prop :=
  ∃ A c, v = .slice A p.length c ∧ p.length ≤ c ∧ c ≤ maxLen ∧ Rd w B 1 A p.length (ints p) ∧ (∀ b off f, 0 < p.length → A = some ⟨b, off, f⟩ → ¬ X b)
def Tab (w : World) (B : Nat) (X : Nat → Prop) (vs : List Value) (ps : List (List Int)) : Prop :=
  vs.length = ps.length ∧ ∀ (i : Nat) v p, vs[i]? = some v → ps[i]? = some p → RowAt w B X v p

section
variable {w w' : World} {B B' : Nat} {X X' : Nat → Prop} {v : Value} {p : List Int} {vs : List Value} {ps : List (List Int)}
theorem RowAt.keep (h : RowAt w B X v p) (hk : ∀ a : Addr, a.block < B → ¬ X a.block → w'.cell? a = w.cell? a) : RowAt w' B X v p := by
  obtain ⟨A, c, e, h1, h2, h3, h4⟩ := h
  refine ⟨A, c, e, h1, h2, ⟨h3.1, fun hn => ?_⟩, h4⟩
  obtain ⟨b, off, e, hb, hc⟩ := h3.2 hn
  exact ⟨b, off, e, hb, fun j u hu => (hk ⟨b, off + j, none⟩ hb (h4 b off none hn e)).trans (hc j u hu)⟩
theorem RowAt.more (h : RowAt w B X v p) (hB : B ≤ B') : RowAt w B' X v p := by
  obtain ⟨A, c, e, h1, h2, h3, h4⟩ := h
  exact ⟨A, c, e, h1, h2, h3.more hB, h4⟩
theorem RowAt.at (h : RowAt w B X v p) (hX : ∀ g, X' g → X g ∨ B ≤ g) : RowAt w B X' v p := by
  obtain ⟨A, c, e, h1, h2, h3, h4⟩ := h
  refine ⟨A, c, e, h1, h2, h3, fun b off f hn ha he => ?_⟩
  obtain ⟨b', off', e', hb, _⟩ := h3.2 hn
  rcases hX b he with h | h
  · exact h4 b off f hn ha h
  · rw [ha] at e'
    injection e' with e'
    injection e' with e1
    omega
theorem RowAt.below (h : RowAt w B X v p) (hb : Below B' w w') (hB : B ≤ B') : RowAt w' B X v p := h.keep fun _ ha _ => hb.cell (by omega)
theorem RowAt.alloc (h : RowAt w B X v p) (hB : B ≤ w.heap.size) (o : Obj) : RowAt (w.alloc o) B X v p := h.keep fun a ha _ => World.cell?_alloc_lt w o a (by omega)
theorem RowAt.grown {row : Option Nat} (h : RowAt w B X v p) (hg : w.grownBy w' row) (hr : ∀ g, row = some g → X g) (hB : B ≤ w.heap.size) : RowAt w' B X v p :=
  h.keep fun a ha hne => World.cell?_of_block (hg.block a.block (by omega) (fun e => hne (hr _ e.symm)))
theorem RowAt.setCell (h : RowAt w B X v p) {a : Addr} (hX : X a.block) (u : Value) : RowAt (w.setCell a u) B X v p :=
  h.keep fun q _ hne => World.cell?_setCell_other w a q u (fun e => by subst e; exact hne hX)
theorem RowAt.read (h : RowAt w B X v p) : ∃ A c, v = .slice A p.length c ∧ p.length ≤ c ∧ c ≤ maxLen ∧ Rd w B 1 A p.length (ints p) := by
  obtain ⟨A, c, e, h1, h2, h3, _⟩ := h
  exact ⟨A, c, e, h1, h2, h3⟩
/-- A row of the call's own. -/
theorem RowAt.of_own {base : Nat} {e : TypeId} (h : w.ownsRow base e 1 v p.length (ints p)) (hX : ∀ g, X g → g < base) : RowAt w w.heap.size X v p := by
  obtain ⟨A, c, rfl, h1, h2⟩ := own_cap h
  refine ⟨A, c, rfl, h1, h2, Rd.of_own h, fun b off f hn ha he => ?_⟩
  have h3 := h.lt b (by rw [ha]; rfl)
  have := hX b he
  omega
theorem RowAt.nil : RowAt w B X (.slice none 0 0) [] := ⟨none, 0, rfl, Nat.le_refl _, Nat.zero_le _, Rd.nil, fun _ _ _ hn _ => absurd hn (by simp)⟩

theorem Tab.nil : Tab w B X [] [] := ⟨rfl, fun i v p h => by simp at h⟩
theorem Tab.keep (h : Tab w B X vs ps) (hk : ∀ a : Addr, a.block < B → ¬ X a.block → w'.cell? a = w.cell? a) : Tab w' B X vs ps := ⟨h.1, fun i v p hv hp => (h.2 i v p hv hp).keep hk⟩
theorem Tab.more (h : Tab w B X vs ps) (hB : B ≤ B') : Tab w B' X vs ps := ⟨h.1, fun i v p hv hp => (h.2 i v p hv hp).more hB⟩
theorem Tab.at (h : Tab w B X vs ps) (hX : ∀ g, X' g → X g ∨ B ≤ g) : Tab w B X' vs ps := ⟨h.1, fun i v p hv hp => (h.2 i v p hv hp).at hX⟩
theorem Tab.below (h : Tab w B X vs ps) (hb : Below B' w w') (hB : B ≤ B') : Tab w' B X vs ps := ⟨h.1, fun i v p hv hp => (h.2 i v p hv hp).below hb hB⟩
theorem Tab.alloc (h : Tab w B X vs ps) (hB : B ≤ w.heap.size) (o : Obj) : Tab (w.alloc o) B X vs ps := ⟨h.1, fun i v p hv hp => (h.2 i v p hv hp).alloc hB o⟩
theorem Tab.grown {row : Option Nat} (h : Tab w B X vs ps) (hg : w.grownBy w' row) (hr : ∀ g, row = some g → X g) (hB : B ≤ w.heap.size) : Tab w' B X vs ps := ⟨h.1, fun i v p hv hp => (h.2 i v p hv hp).grown hg hr hB⟩
theorem Tab.setCell (h : Tab w B X vs ps) {a : Addr} (hX : X a.block) (u : Value) : Tab (w.setCell a u) B X vs ps := ⟨h.1, fun i v p hv hp => (h.2 i v p hv hp).setCell hX u⟩
theorem Tab.snoc (h : Tab w B X vs ps) (hr : RowAt w B X v p) : Tab w B X (vs ++ [v]) (ps ++ [p]) := by
  refine ⟨by simp [h.1], fun i u q hu hq => ?_⟩
  rcases Nat.lt_or_ge i vs.length with hi | hi
  · rw [List.getElem?_append_left hi] at hu
    rw [List.getElem?_append_left (by rw [← h.1]; exact hi)] at hq
    exact h.2 i u q hu hq
  · rw [List.getElem?_append_right hi] at hu
    rw [List.getElem?_append_right (by rw [← h.1]; exact hi)] at hq
    rw [h.1] at hu
    obtain ⟨h1, h2⟩ := List.getElem?_eq_some_iff.1 hu
    simp at h1
    have h0 : i - ps.length = 0 := by omega
    rw [h0] at hu hq
    simp at hu hq
    subst hu hq
    exact hr
theorem Tab.row (h : Tab w B X vs ps) {i : Nat} (hi : i < ps.length) : ∃ v, vs[i]? = some v ∧ RowAt w B X v ps[i] := by
  have h1 : i < vs.length := by rw [h.1]; exact hi
  exact ⟨vs[i], List.getElem?_eq_getElem h1, h.2 i _ _ (List.getElem?_eq_getElem h1) (List.getElem?_eq_getElem hi)⟩
theorem Tab.take (h : Tab w B X vs ps) (k : Nat) : Tab w B X (vs.take k) (ps.take k) := by
  refine ⟨by simp [h.1], fun i v p hv hp => ?_⟩
  rw [List.getElem?_take] at hv hp
  split at hv
  · rw [if_pos (by assumption)] at hp
    exact h.2 i v p hv hp
  · cases hv
theorem Tab.headers (h : Tab w B X vs ps) : (vs.all fun u => u.oneCell') = true := by
  rw [List.all_eq_true]
  intro u hu
  obtain ⟨i, hi, rfl⟩ := List.getElem_of_mem hu
  obtain ⟨A, c, e, _⟩ := h.2 i _ _ (List.getElem?_eq_getElem hi) (List.getElem?_eq_getElem (by rw [← h.1]; exact hi))
  rw [e]; rfl
end

/-- A header of a table, read through the slice of headers. -/
theorem Rd.head {w : World} {B n : Nat} {A : Option Addr} {vs : List Value} (h : Rd w B 1 A n vs) {i : Nat} {v : Value} (hi : vs[i]? = some v) :
    ∃ b off, A = some ⟨b, off, none⟩ ∧ b < B ∧ w.cell? ⟨b, off + i, none⟩ = some v := by
  have hl : n = vs.length := by have := h.1; omega
  have hlt := (List.getElem?_eq_some_iff.1 hi).1
  obtain ⟨b, off, e, hb, hc⟩ := h.2 (by omega)
  exact ⟨b, off, e, hb, hc i _ hi⟩

section
variable {P : Program} {w0 : World} {ops : Array Oper} {rest : List Oper} {o : Oper} {a : Act} {Q : Exit → Act → World → Prop}
/-- 'out = append(out, x)', out a row of the call's own, with what becomes of its block. -/
theorem app1x (hgd : o.guard = none) (s x : Operand) (t : TypeId)
    (ho : o.op = .call { callee := .builtin .append, args := #[s, x], argTypes := #[t, t] })
    (e : TypeId) (z : Value) (size bytes : Nat) (E : EOk P t e z size bytes) (base : Nat) (cs : Array Value)
    (v : Value) (n : Nat) (xs : List Value) (hs : a.eval s = v) (hown : w0.ownsRow base e size v n xs)
    (g : Nat) (hx : a.eval x = .slice (some ⟨g, 0, none⟩) 1 1) (hgs : g = w0.heap.size) (hl : cs.size = size) (h1 : (cs.toList.all fun u => u.oneCell') = true)
    (hn : n ≤ 1000000) (hbase : base ≤ w0.heap.size)
    (h : ∀ v' w', w'.ownsRow base e size v' (n + 1) (xs ++ cs.toList) → w0.grownBy w' v.ownBlock → (v'.ownBlock = v.ownBlock ∨ ∃ g, v'.ownBlock = some g ∧ w0.heap.size ≤ g) → wpList P ops Q rest (a.put o.dst v') w') :
    wpList P ops Q (o :: rest) a (w0.alloc (.cells cs e)) :=
  wpList_plain hgd fun K hK => by
    subst hgs
    obtain ⟨i, hi, hz0, hz1, hz2⟩ := E.info
    have hb : (n + 1) * bytes ≤ 140737488355328 := by
      have := E.hby
      have h2 : (n + 1) * bytes ≤ 1000001 * 4096 := Nat.mul_le_mul (by omega) this
      omega
    obtain ⟨v', w', hrun, h2, h3, _, h5⟩ := run_append_own_at (P := P) (w := w0.alloc (.cells cs e)) base t o.type e i z size bytes E.ht hi hz0 hz1 hz2 E.hzs E.hsz v n xs (hown.alloc _) ⟨w0.heap.size, 0, none⟩ 1 1 cs.toList (by simpa using hl)
      (fun j u hu => by
        rw [show ((⟨w0.heap.size, 0, none⟩ : Addr).add j) = ⟨w0.heap.size, j, none⟩ from by unfold Addr.add; split <;> simp [*], World.cell?_alloc_at _ _ _ _ rfl]
        simpa using hu) (List.all_eq_true.1 h1) (by unfold maxLen; omega) hb (by simp; omega)
    unfold Oper.wp execOp
    simp only [ho, resolve, invoke, builtin, Sem.run_bind, Sem.run_pure, Result.andThen_ok, List.map_toArray, List.map_cons, List.map_nil, hs, hx, hrun]
    exact hK _ _ (h v' w' h2 (grownBy_alloc_trans h3) (h5.imp id fun h => ⟨_, h, by simp⟩))
end
end Go.Proofs.Ytlhbmfaoldajdaa
