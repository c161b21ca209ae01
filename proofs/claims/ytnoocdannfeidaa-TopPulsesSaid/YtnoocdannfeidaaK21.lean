/-
  MERGED: Tab, W37.
-/
import Derived.Test.YtnoocdannfeidaaK1
import Derived.Maps.OwnIn
import Derived.Test.YtnoocdannfeidaaK11
/-
  WORDS FOR TABLES: slices of slices of ints. No program is named.
-/
namespace Go.Proofs.Ytnoocdannfeidaa
open Go.RowKit

theorem ints_snoc (p : List Int) (f : Int) : ints (p ++ [f]) = ints p ++ [.int .i64 f] := by simp [ints]
/-- The value v is a slice header that reads as the ints p; what it reads lies below B, and in no block of X. -/
def RowAt (w : World) (B : Nat) (X : Nat → Prop) (v : Value) (p : List Int) : Prop :=
  ∃ A c, v = .slice A p.length c ∧ p.length ≤ c ∧ c ≤ maxLen ∧ Rd w B 1 A p.length (ints p) ∧ (∀ b off f, 0 < p.length → A = some ⟨b, off, f⟩ → ¬ X b)
def Tab (w : World) (B : Nat) (X : Nat → Prop) (vs : List Value) (ps : List (List Int)) : Prop :=
  vs.length = ps.length ∧ ∀ (i : Nat) v p, vs[i]? = some v → ps[i]? = some p → RowAt w B X v p

section
variable {w w' : World} {B B' : Nat} {X X' : Nat → Prop} {v : Value} {p : List Int} {vs : List Value} {ps : List (List Int)}
theorem RowAt.keep (h : RowAt w B X v p) (hk : ∀ a : Addr, a.block < B → ¬ X a.block → w'.cell? a = w.cell? a) : RowAt w' B X v p := by
  obtain ⟨A, c, e, h1, h2, h3, h4⟩ := h
  refine ⟨A, c, e, h1, h2, ⟨h3.1, fun hn => ?_⟩, h4⟩
  obtain ⟨b, off, e, hb, hc⟩ := h3.2 hn
  exact ⟨b, off, e, hb, fun j u hu => (hk ⟨b, off + j, none⟩ hb (h4 b off none hn e)).trans (hc j u hu)⟩
theorem RowAt.more (h : RowAt w B X v p) (hB : B ≤ B') : RowAt w B' X v p := by
  obtain ⟨A, c, e, h1, h2, h3, h4⟩ := h
  exact ⟨A, c, e, h1, h2, h3.more hB, h4⟩
theorem RowAt.at (h : RowAt w B X v p) (hX : ∀ g, X' g → X g ∨ B ≤ g) : RowAt w B X' v p := by
  obtain ⟨A, c, e, h1, h2, h3, h4⟩ := h
  refine ⟨A, c, e, h1, h2, h3, fun b off f hn ha he => ?_⟩
  obtain ⟨b', off', e', hb, _⟩ := h3.2 hn
  rcases hX b he with h | h
  · exact h4 b off f hn ha h
  · rw [ha] at e'
    injection e' with e'
    injection e' with e1
    omega
theorem RowAt.below (h : RowAt w B X v p) (hb : Below B' w w') (hB : B ≤ B') : RowAt w' B X v p := h.keep fun _ ha _ => hb.cell (by omega)
theorem RowAt.alloc (h : RowAt w B X v p) (hB : B ≤ w.heap.size) (o : Obj) : RowAt (w.alloc o) B X v p := h.keep fun a ha _ => World.cell?_alloc_lt w o a (by omega)
theorem RowAt.grown {row : Option Nat} (h : RowAt w B X v p) (hg : w.grownBy w' row) (hr : ∀ g, row = some g → X g) (hB : B ≤ w.heap.size) : RowAt w' B X v p :=
  h.keep fun a ha hne => World.cell?_of_block (hg.block a.block (by omega) (fun e => hne (hr _ e.symm)))
theorem RowAt.setCell (h : RowAt w B X v p) {a : Addr} (hX : X a.block) (u : Value) : RowAt (w.setCell a u) B X v p :=
  h.keep fun q _ hne => World.cell?_setCell_other w a q u (fun e => by subst e; exact hne hX)
theorem RowAt.read (h : RowAt w B X v p) : ∃ A c, v = .slice A p.length c ∧ p.length ≤ c ∧ c ≤ maxLen ∧ Rd w B 1 A p.length (ints p) := by
  obtain ⟨A, c, e, h1, h2, h3, _⟩ := h
  exact ⟨A, c, e, h1, h2, h3⟩
/-- A row of the call's own. -/
theorem RowAt.of_own {base : Nat} {e : TypeId} (h : w.ownsRow base e 1 v p.length (ints p)) (hX : ∀ g, X g → g < base) : RowAt w w.heap.size X v p := by
  obtain ⟨A, c, rfl, h1, h2⟩ := own_cap h
  refine ⟨A, c, rfl, h1, h2, Rd.of_own h, fun b off f hn ha he => ?_⟩
  have h3 := h.lt b (by rw [ha]; rfl)
  have := hX b he
  omega
theorem RowAt.nil : RowAt w B X (.slice none 0 0) [] := ⟨none, 0, rfl, Nat.le_refl _, Nat.zero_le _, Rd.nil, fun _ _ _ hn _ => absurd hn (by simp)⟩

theorem Tab.nil : Tab w B X [] [] := ⟨rfl, fun i v p h => by simp at h⟩
theorem Tab.keep (h : Tab w B X vs ps) (hk : ∀ a : Addr, a.block < B → ¬ X a.block → w'.cell? a = w.cell? a) : Tab w' B X vs ps := ⟨h.1, fun i v p hv hp => (h.2 i v p hv hp).keep hk⟩
theorem Tab.more (h : Tab w B X vs ps) (hB : B ≤ B') : Tab w B' X vs ps := ⟨h.1, fun i v p hv hp => (h.2 i v p hv hp).more hB⟩
theorem Tab.at (h : Tab w B X vs ps) (hX : ∀ g, X' g → X g ∨ B ≤ g) : Tab w B X' vs ps := ⟨h.1, fun i v p hv hp => (h.2 i v p hv hp).at hX⟩
theorem Tab.below (h : Tab w B X vs ps) (hb : Below B' w w') (hB : B ≤ B') : Tab w' B X vs ps := ⟨h.1, fun i v p hv hp => (h.2 i v p hv hp).below hb hB⟩
theorem Tab.alloc (h : Tab w B X vs ps) (hB : B ≤ w.heap.size) (o : Obj) : Tab (w.alloc o) B X vs ps := ⟨h.1, fun i v p hv hp => (h.2 i v p hv hp).alloc hB o⟩
theorem Tab.grown {row : Option Nat} (h : Tab w B X vs ps) (hg : w.grownBy w' row) (hr : ∀ g, row = some g → X g) (hB : B ≤ w.heap.size) : Tab w' B X vs ps := ⟨h.1, fun i v p hv hp => (h.2 i v p hv hp).grown hg hr hB⟩
theorem Tab.setCell (h : Tab w B X vs ps) {a : Addr} (hX : X a.block) (u : Value) : Tab (w.setCell a u) B X vs ps := ⟨h.1, fun i v p hv hp => (h.2 i v p hv hp).setCell hX u⟩
theorem Tab.snoc (h : Tab w B X vs ps) (hr : RowAt w B X v p) : Tab w B X (vs ++ [v]) (ps ++ [p]) := by
  refine ⟨by simp [h.1], fun i u q hu hq => ?_⟩
  rcases Nat.lt_or_ge i vs.length with hi | hi
  · rw [List.getElem?_append_left hi] at hu
    rw [List.getElem?_append_left (by rw [← h.1]; exact hi)] at hq
    exact h.2 i u q hu hq
  · rw [List.getElem?_append_right hi] at hu
    rw [List.getElem?_append_right (by rw [← h.1]; exact hi)] at hq
    rw [h.1] at hu
    obtain ⟨h1, h2⟩ := List.getElem?_eq_some_iff.1 hu
    simp at h1
    have h0 : i - ps.length = 0 := by omega
    rw [h0] at hu hq
    simp at hu hq
    subst hu hq
    exact hr
theorem Tab.row (h : Tab w B X vs ps) {i : Nat} (hi : i < ps.length) : ∃ v, vs[i]? = some v ∧ RowAt w B X v ps[i] := by
  have h1 : i < vs.length := by rw [h.1]; exact hi
  exact ⟨vs[i], List.getElem?_eq_getElem h1, h.2 i _ _ (List.getElem?_eq_getElem h1) (List.getElem?_eq_getElem hi)⟩
theorem Tab.take (h : Tab w B X vs ps) (k : Nat) : Tab w B X (vs.take k) (ps.take k) := by
  refine ⟨by simp [h.1], fun i v p hv hp => ?_⟩
  rw [List.getElem?_take] at hv hp
  split at hv
  · rw [if_pos (by assumption)] at hp
    exact h.2 i v p hv hp
  · cases hv
theorem Tab.headers (h : Tab w B X vs ps) : (vs.all fun u => u.oneCell') = true := by
  rw [List.all_eq_true]
  intro u hu
  obtain ⟨i, hi, rfl⟩ := List.getElem_of_mem hu
  obtain ⟨A, c, e, _⟩ := h.2 i _ _ (List.getElem?_eq_getElem hi) (List.getElem?_eq_getElem (by rw [← h.1]; exact hi))
  rw [e]; rfl
end

/-- A header of a table, read through the slice of headers. -/
theorem Rd.head {w : World} {B n : Nat} {A : Option Addr} {vs : List Value} (h : Rd w B 1 A n vs) {i : Nat} {v : Value} (hi : vs[i]? = some v) :
    ∃ b off, A = some ⟨b, off, none⟩ ∧ b < B ∧ w.cell? ⟨b, off + i, none⟩ = some v := by
  have hl : n = vs.length := by have := h.1; omega
  have hlt := (List.getElem?_eq_some_iff.1 hi).1
  obtain ⟨b, off, e, hb, hc⟩ := h.2 (by omega)
  exact ⟨b, off, e, hb, hc i _ hi⟩

section
variable {P : Program} {w0 : World} {ops : Array Oper} {rest : List Oper} {o : Oper} {a : Act} {Q : Exit → Act → World → Prop}
/-- 'out = append(out, x)', out a row of the call's own, with what becomes of its block. -/
theorem app1x (hgd : o.guard = none) (s x : Operand) (t : TypeId)
    (ho : o.op = .call { callee := .builtin .append, args := #[s, x], argTypes := #[t, t] })
    (e : TypeId) (z : Value) (size bytes : Nat) (E : EOk P t e z size bytes) (base : Nat) (cs : Array Value)
    (v : Value) (n : Nat) (xs : List Value) (hs : a.eval s = v) (hown : w0.ownsRow base e size v n xs)
    (g : Nat) (hx : a.eval x = .slice (some ⟨g, 0, none⟩) 1 1) (hgs : g = w0.heap.size) (hl : cs.size = size) (h1 : (cs.toList.all fun u => u.oneCell') = true)
    (hn : n ≤ 1000000) (hbase : base ≤ w0.heap.size)
    (h : ∀ v' w', w'.ownsRow base e size v' (n + 1) (xs ++ cs.toList) → w0.grownBy w' v.ownBlock → (v'.ownBlock = v.ownBlock ∨ ∃ g, v'.ownBlock = some g ∧ w0.heap.size ≤ g) → wpList P ops Q rest (a.put o.dst v') w') :
    wpList P ops Q (o :: rest) a (w0.alloc (.cells cs e)) :=
  wpList_plain hgd fun K hK => by
    subst hgs
    obtain ⟨i, hi, hz0, hz1, hz2⟩ := E.info
    have hb : (n + 1) * bytes ≤ 140737488355328 := by
      have := E.hby
      have h2 : (n + 1) * bytes ≤ 1000001 * 4096 := Nat.mul_le_mul (by omega) this
      omega
    obtain ⟨v', w', hrun, h2, h3, _, h5⟩ := run_append_own_at (P := P) (w := w0.alloc (.cells cs e)) base t o.type e i z size bytes E.ht hi hz0 hz1 hz2 E.hzs E.hsz v n xs (hown.alloc _) ⟨w0.heap.size, 0, none⟩ 1 1 cs.toList (by simpa using hl)
      (fun j u hu => by
        rw [show ((⟨w0.heap.size, 0, none⟩ : Addr).add j) = ⟨w0.heap.size, j, none⟩ from by unfold Addr.add; split <;> simp [*], World.cell?_alloc_at _ _ _ _ rfl]
        simpa using hu) (List.all_eq_true.1 h1) (by unfold maxLen; omega) hb (by simp; omega)
    unfold Oper.wp execOp
    simp only [ho, resolve, invoke, builtin, Sem.run_bind, Sem.run_pure, Result.andThen_ok, List.map_toArray, List.map_cons, List.map_nil, hs, hx, hrun]
    exact hK _ _ (h v' w' h2 (grownBy_alloc_trans h3) (h5.imp id fun h => ⟨_, h, by simp⟩))
end
end Go.Proofs.Ytnoocdannfeidaa

/-
  WALK: Path.
-/
namespace Go.Proofs.Ytnoocdannfeidaa
open Go.RowKit Go.Shelf Pulse
attribute [local go_sem] Oper.semAt_some

/-- The first q points of a path. -/
def ptsTo (m : Int) (p : List Int) (q : Nat) : List V := (List.range q).map (pt m p)
theorem ptsTo_len (m : Int) (p : List Int) (q : Nat) : (ptsTo m p q).length = q := by simp [ptsTo]
theorem ptsTo_succ (m : Int) (p : List Int) (q : Nat) : ptsTo m p (q + 1) = ptsTo m p q ++ [pt m p q] := by simp [ptsTo, List.range_succ]
def pathN (p : List Int) (m : Int) : List V := if moded p m = 0 then ptsTo m p (p.length + 1) else []

theorem Fix.grown {K : Nat → Obj → Prop} {A B : World} {row : Option Nat} (hg : A.grownBy B row) (hk : ∀ g o, row = some g → A.heap[g]? = some o → ¬ K g o) : Fix K A B := by
  have hb := (Below.refl 0 A).grown hg (Nat.zero_le _) (fun _ _ => Nat.zero_le _)
  refine ⟨hb.os, hb.tape, hb.output, hb.size, fun g x hK hx => ?_⟩
  by_cases e : row = some g
  · exact absurd hK (hk g x e hx)
  · exact (hg.block g (Array.getElem?_eq_some_iff.1 hx).1 (fun h => e h.symm)).trans hx
theorem own_fix {K : Nat → Obj → Prop} {A B : World} {base : Nat} {e : TypeId} {sz n : Nat} {v : Value} {xs : List Value} (h : A.ownsRow base e sz v n xs) (hf : Fix K A B) (hk : ∀ g cs, v.ownBlock = some g → K g (.cells cs e (0, 0))) : B.ownsRow base e sz v n xs := by
  obtain ⟨h1, h2⟩ := h
  refine ⟨h1, ?_⟩
  rcases h2 with h2 | ⟨g, cap, cur, hv, hg, hh, r⟩
  · exact .inl h2
  · exact .inr ⟨g, cap, cur, hv, hg, hf.keep g _ (hk g cur (by rw [hv]; rfl)) hh, r⟩
theorem own_obj {A : World} {base : Nat} {e : TypeId} {sz n : Nat} {v : Value} {xs : List Value} (h : A.ownsRow base e sz v n xs) {g : Nat} (hg : v.ownBlock = some g) : base ≤ g ∧ ∃ cs, A.heap[g]? = some (.cells cs e (0, 0)) := by
  obtain ⟨h1, h2⟩ := h
  rcases h2 with ⟨rfl, _⟩ | ⟨g', cap, cur, rfl, hg', hh, r⟩
  · simp [Value.ownBlock] at hg
  · simp [Value.ownBlock] at hg
    subst hg
    exact ⟨hg', cur, hh⟩

section
variable {F : Fence} {nF : Nat} {P : Program} {w0 : World} {ops : Array Oper} {rest : List Oper} {o : Oper} {a : Act} {Q : Exit → Act → World → Prop}
/-- 'out = append(out, x)' inside a fence. -/
theorem app1In (hgd : o.guard = none) (s x : Operand) (t : TypeId)
    (ho : o.op = .call { callee := .builtin .append, args := #[s, x], argTypes := #[t, t] })
    (e : TypeId) (z : Value) (size bytes : Nat) (E : EOk P t e z size bytes) (base : Nat) (cs : Array Value)
    (v : Value) (n : Nat) (xs : List Value) (hs : a.eval s = v) (hown : w0.ownsRow base e size v n xs)
    (g : Nat) (hx : a.eval x = .slice (some ⟨g, 0, none⟩) 1 1) (hgs : g = w0.heap.size) (hl : cs.size = size) (h1 : (cs.toList.all fun u => u.oneCell') = true)
    (hn : n ≤ 1000000) (hbase : base ≤ w0.heap.size)
    (h : ∀ v' w', w'.ownsRow base e size v' (n + 1) (xs ++ cs.toList) → w0.grownBy w' v.ownBlock → (v'.ownBlock = v.ownBlock ∨ ∃ g, v'.ownBlock = some g ∧ w0.heap.size ≤ g) → wpListIn F nF P ops Q rest (a.put o.dst v') w') :
    wpListIn F nF P ops Q (o :: rest) a (w0.alloc (.cells cs e)) := by
  subst hgs
  obtain ⟨i, hi, hz0, hz1, hz2⟩ := E.info
  have hb : (n + 1) * bytes ≤ 140737488355328 := by
    have := E.hby
    have h2 : (n + 1) * bytes ≤ 1000001 * 4096 := Nat.mul_le_mul (by omega) this
    omega
  refine wpListIn_append_own_at _ hgd s x t ho base e i z size bytes E.ht hi hz0 hz1 hz2 E.hzs E.hsz v n xs hs (hown.alloc _) ⟨w0.heap.size, 0, none⟩ 1 1 cs.toList hx (by simpa using hl)
    (fun j u hu => by
      rw [show ((⟨w0.heap.size, 0, none⟩ : Addr).add j) = ⟨w0.heap.size, j, none⟩ from by unfold Addr.add; split <;> simp [*], World.cell?_alloc_at _ _ _ _ rfl]
      simpa using hu) (List.all_eq_true.1 h1) (by unfold maxLen; omega) hb (by simp; omega) ?_
  intro v' w' h2 h3 _ h5
  exact h v' w' h2 (grownBy_alloc_trans h3) (h5.imp id fun h => ⟨_, h, by simp⟩)
end

theorem ki29 {N g : Nat} {cs : Array Value} : KI 63 N g (.cells cs 29 (0, 0)) := by
  rintro ⟨_, h | h⟩
  · obtain ⟨cs', e⟩ := h; cases e
  · cases h

set_option maxRecDepth 100000 in
set_option maxHeartbeats 4000000 in
theorem pPath (A : Option Addr) (k c : Nat) (p : List Int) (m : Int) (w : World) (hl : p.length ≤ 1000) (B : Nat) (hB : B ≤ w.heap.size) (hr : Rd w B 1 A k (ints p)) :
    Calls Try.prog 30 #[.slice A k c, .int .i64 m] w fun e w' => ∃ v, e = .returned (.tuple #[v, .int .i64 (moded p m)]) ∧ w'.ownsRow w.heap.size 29 2 v (pathN p m).length (ptCells (pathN p m)) ∧ Below w.heap.size w w' := by
  obtain rfl := hr.int_len
  have H := Lib.hid (pmoded A p.length c p m w hl B hB hr)
  have HC := Lib.hid (show pathN p m = if moded p m = 0 then ptsTo m p (p.length + 1) else [] from rfl)
  by_cases h : moded p m = 0
  · obtain ⟨hv0, hm, hm'⟩ := moded_ok h
    obtain ⟨hl12, hF⟩ := vald_ok hv0
    have HV := Lib.hid h
    rw [h] at H
    rw [if_pos h] at HC
    clear h hv0
    refine (callsIn_wide (n := 9)).1 ?_
    refine callsIn_of_wp_marks Try.func30 rfl trivial ?_ rfl
    simp only [Try.ntmps30, List.size_toArray, List.length_cons, List.length_nil, Nat.reduceAdd, Nat.reduceSub, Array.replicate_succ, Array.replicate_zero, List.push_toArray, List.append_toArray, List.nil_append, List.cons_append]
    gi_wp2
    refine ⟨trivial, (callsIn_wide.2 H.out).mono ?_⟩
    rintro e w1 ⟨rfl, hb1⟩
    have s1 := hb1.size
    gi_wp2
    refine ⟨trivial, (callsIn_wide.2 (pPoints _ _ _ _ _)).mono ?_⟩
    rintro e w' ⟨rfl, rfl⟩
    gi_wp2
    have b0 := blk_alloc (blk_alloc (blk_new w1 40 #[.slice none 0 0]) (.cells #[.slice A p.length c] 22)) (.cells #[.int .i64 m] 3)
    have b2 := blk_alloc (blk_new (w1.alloc (.cells #[.slice none 0 0] 40)) 22 #[.slice A p.length c]) (.cells #[.int .i64 m] 3)
    have b3 := blk_new ((w1.alloc (.cells #[.slice none 0 0] 40)).alloc (.cells #[.slice A p.length c] 22)) 3 #[.int .i64 m]
    have hB0 : Below w1.heap.size w1 (((w1.alloc (.cells #[.slice none 0 0] 40)).alloc (.cells #[.slice A p.length c] 22)).alloc (.cells #[.int .i64 m] 3)) :=
      (((Below.refl _ w1).alloc (Nat.le_refl _) _).alloc (by simp) _).alloc (by simp; omega) _
    have hsz : w1.heap.size + 1 + 2 = (((w1.alloc (.cells #[.slice none 0 0] 40)).alloc (.cells #[.slice A p.length c] 22)).alloc (.cells #[.int .i64 m] 3)).heap.size := by simp
    simp only [World.size_alloc] at b2 b3
    obtain ⟨W0, hW0⟩ : ∃ W0, ((w1.alloc (.cells #[.slice none 0 0] 40)).alloc (.cells #[.slice A p.length c] 22)).alloc (.cells #[.int .i64 m] 3) = W0 := ⟨_, rfl⟩
    rw [hW0] at b0 b2 b3 hB0 hsz ⊢
    clear hW0
    have hB0s := hB0.size
    have hr1 : Rd W0 w1.heap.size 1 A p.length (ints p) := ((hr.below' hb1 hB).more (by omega)).below hB0
    refine wpIn_points (n₀ := w1.heap.size) (n₁ := w1.heap.size + 1) (N := p.length + 1) (t := 63) rfl (by omega) (gf := 100) (lb := #[.pointer (some ⟨w1.heap.size + 1, 0, none⟩), .pointer (some ⟨w1.heap.size + 1 + 1, 0, none⟩)]) rfl trivial (enters_of Try.func100 (by kernel_rfl) rfl)
      (x := fun q => vV (pt m p q))
      (ptsIn 8 (by omega) p m hl12 hF hm hm' A c w1.heap.size (w1.heap.size + 1) (by omega) W0 hsz b2 b3 hr1) rfl hsz (by omega)
      (fun q W => ∃ v, W.heap[w1.heap.size]? = some (.cells #[v] 40 (0, 0)) ∧ W.ownsRow (w1.heap.size + 1 + 2) 29 2 v q (ptCells (ptsTo m p q)) ∧ w1.heap.size + 1 + 2 ≤ W.heap.size ∧ Below w1.heap.size w1 W)
      (fun q X Y ⟨v, h1, h2, h4, h3⟩ hf => ⟨v, hf.keep _ _ (fun ⟨h, _⟩ => by omega) h1, own_fix h2 hf (fun g cs _ => ki29), Nat.le_trans h4 hf.size, hf.frame h3 (fun g o h ⟨h', _⟩ => by omega) (Nat.le_refl _)⟩)
      ⟨.slice none 0 0, b0, World.ownsRow_nil .., Nat.le_of_eq hsz, hB0⟩
      (fun q a' W => ∃ Bx, w1.heap.size + 1 < Bx ∧ W.heap[Bx]? = some (.cells #[.int .i64 (pt m p q).x, .int .i64 (pt m p q).y] 63 (0, 0)) ∧ a' = { tmps := #[.slice A p.length c, .int .i64 m, undef, undef, .slice none 0 0, .int .i64 0, .int .i64 0, .pointer (some ⟨w1.heap.size, 0, none⟩), .pointer (some ⟨Bx, 0, none⟩), .slice A p.length c, .int .i64 m, .int .i64 0, .int .i64 0, .bool false, undef, .slice A p.length c, .int .i64 m, .func (.func 100) #[] #[.pointer (some ⟨w1.heap.size + 1, 0, none⟩), .pointer (some ⟨w1.heap.size + 1 + 1, 0, none⟩)], vV (pt m p q), undef, undef, undef, undef, undef], defers := [] })
      (fun q a' X l o o' ⟨Bx, h1, h2, h3⟩ ho hc => ⟨Bx, h1, (World.putObj_heap_other (fun e => by subst e; rw [h2] at ho; cases ho; cases hc)).trans h2, h3⟩)
      ?assign ?body ?done
    case assign =>
      rintro l q W K ⟨v, h1, h2, h4, h3⟩ hq hK
      have L1 := h3.size
      have L2 : w1.heap.size < W.heap.size := blk_lt h1
      generalize hu : pt m p q = u at hK
      gi_wp2
      have hka : KeepsFrom W0.heap.size W (W.alloc (.cells #[.int .i64 u.x, .int .i64 u.y] 63)) := (KeepsOthers.alloc _ _).from _
      exact hK _ _ hka (Fix.alloc _ _) ⟨v, blk_alloc h1 _, h2.alloc _, by simp; omega, h3.alloc h3.size _⟩ ⟨W.heap.size, by omega, blk_new W 63 _, rfl⟩
    case body =>
      rintro l q a' W ⟨v, h1, h2, hbs, h3⟩ ⟨Bx, hx1, hx2, rfl⟩ hq
      obtain ⟨Av, cv, rfl, _, _⟩ := own_cap h2
      have HSU := Lib.hid (ptsTo_succ m p q)
      obtain ⟨u, hu⟩ : ∃ u, u = pt m p q := ⟨_, rfl⟩
      rw [← hu] at hx2 HSU ⊢
      clear hu
      have hs3 := h3.size
      have hlB := blk_lt hx2
      have c1 : W.cell? ⟨Bx, 0, none⟩ = some (.int .i64 u.x) := blk_cell hx2 0
      have c2 : W.cell? ⟨Bx, 1, none⟩ = some (.int .i64 u.y) := blk_cell hx2 1
      have c3 : W.cell? ⟨w1.heap.size, 0, none⟩ = some (.slice Av q cv) := blk_cell h1 0
      have l1 := blk_lt h1
      have H1 := Lib.hid h1
      have H3 := Lib.hid h3
      have HOB := Lib.hid (fun g (hg : (Value.slice Av q cv).ownBlock = some g) => own_obj h2 hg)
      have HNE := Lib.hid (show some w1.heap.size ≠ (Value.slice Av q cv).ownBlock from fun e => by have := (own_obj h2 e.symm).1; omega)
      clear h1 h3 hx2
      gi_wp2_with (gi_at_builtin; go_must (refine app1In rfl (.tmp 19) (.tmp 21) 40 rfl 29 _ 2 16 E40 (w1.heap.size + 1 + 2) _ _ _ _ rfl h2 _ rfl ?_ ?_ ?_ ?_ ?_ ?_); rfl; rfl; rfl; omega; omega; intro v4 w4 hown4 hg4 _; obtain ⟨A4, c4, rfl, _, _⟩ := own_cap hown4; have x4 := blk_grown H1.out hg4 HNE.out; have d1 : w4.cell? ⟨w1.heap.size, 0, none⟩ = some (.slice Av q cv) := blk_cell x4 0; have d2 := blk_frozen x4 0)
      have z1 := blk_set x4 0 (.slice A4 (q + 1) c4)
      have z2 := own_set_far hown4 (p := ⟨w1.heap.size, 0, none⟩) (by simp only []; omega) (.slice A4 (q + 1) c4)
      have z3 := (H3.out.grown hg4 hs3 (fun g h => by have := (HOB.out g h).1; omega)).setCell (p := ⟨w1.heap.size, 0, none⟩) (by simp) (.slice A4 (q + 1) c4)
      have z4 : Fix (KQ 63 w1.heap.size (w1.heap.size + 1)) W (w4.setCell ⟨w1.heap.size, 0, none⟩ (.slice A4 (q + 1) c4)) :=
        (Fix.grown hg4 (fun g o hr ho ⟨_, hk⟩ => by
          obtain ⟨h1, cs, h2⟩ := HOB.out g hr
          rw [ho] at h2
          injection h2 with h2
          subst h2
          rcases hk with hk | hk | hk | ⟨_, cs', hk⟩
          · omega
          · omega
          · omega
          · cases hk)).trans (Fix.setCell (p := ⟨w1.heap.size, 0, none⟩) _ x4 (fun ⟨_, hk⟩ => by simp only [] at hk; omega))
      have z5 : KeepsFrom W0.heap.size W (w4.setCell ⟨w1.heap.size, 0, none⟩ (.slice A4 (q + 1) c4)) :=
        ((KeepsOthers.of_grownBy hg4 (fun g o hr ho => by
          obtain ⟨h1, cs, h2⟩ := HOB.out g hr
          rw [ho] at h2
          injection h2 with h2
          subst h2
          rfl)).from _).trans ((KeepsOthers.setCell _ _ _).from _)
      exact ⟨z5, z4, .slice A4 (q + 1) c4, by simpa using z1, (by rw [HSU.out, ptCells_snoc, ← hsz]; exact z2), by have := hg4.size; simp; omega, z3⟩
    case done =>
      rintro D W hD ⟨v, h1, h2, h4, h3⟩ hK
      obtain ⟨Av, cv, rfl, _, _⟩ := own_cap h2
      have c3 : W.cell? ⟨w1.heap.size, 0, none⟩ = some (.slice Av (p.length + 1) cv) := blk_cell h1 0
      have X := Lib.hid (And.intro h2 (And.intro h3 hK))
      clear h1 h2 h3 hK
      gi_wp2
      obtain ⟨h2, h3, hK⟩ := X.out
      refine ⟨by simp, .inl ⟨_, _, rfl, run_takeDeferred hK, ?_⟩⟩
      have hlen : (pathN p m).length = p.length + 1 := by rw [HC.out, ptsTo_len]
      refine ⟨.tuple #[.slice Av (p.length + 1) cv, .int .i64 0], by simp [results, Try.results30, go_sem], .slice Av (p.length + 1) cv, by rw [HV.out], ?_, ?_⟩
      · rw [hlen, HC.out]
        exact own_keep (own_base h2 (by omega)) (fun g hg => World.putObj_heap_other (fun e => by
          obtain ⟨_, cs, hcs⟩ := own_obj h2 hg
          subst e
          rw [hK] at hcs
          cases hcs))
      · exact (hb1.trans (h3.mono s1)).trans (belowK_b (w := w) (Nat.le_refl _) _ D _ _ (by omega) hK rfl rfl)
  · have hd : (moded p m != 0) = true := by simpa using h
    rw [if_neg h] at HC
    clear h
    go_enter Try.func30, Try.ntmps30
    go_wp2_with fail
    refine H.out.mono ?_
    rintro e w1 ⟨rfl, hb1⟩
    go_wp2
    go_ret2
    exact ⟨_, ret_two rfl rfl, by rw [HC.out]; exact World.ownsRow_nil .., hb1⟩
end Go.Proofs.Ytnoocdannfeidaa
