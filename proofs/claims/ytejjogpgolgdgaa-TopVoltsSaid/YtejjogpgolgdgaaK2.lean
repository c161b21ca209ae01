/-
  MERGED: ETab, QTail, QTail2, Plain2, Plain3.
-/
import Derived.Test.YtejjogpgolgdgaaK1
import Derived.BigQuiet
import Derived.StillTail
import Derived.Below
/-
  WORDS FOR ENDS: rows of structs (voltages, jump, before), and tables of such rows. No program is named.
-/
namespace Go.Proofs.Ytejjogpgolgdgaa
open Go.RowKit

/-- Voltages at which a course can end, its jump, and the place of the end before. -/
structure End where
  v : List Int
  j : Int
  b : Int
/-- The cells of a row of ends, hs: the headers of the voltages. -/
def endCells : List Value → List End → List Value
  | h :: hs, e :: es => h :: .int .i64 e.j :: .int .i64 e.b :: endCells hs es
  | _, _ => []
theorem endCells_len : ∀ {hs : List Value} {es : List End}, hs.length = es.length → (endCells hs es).length = es.length * 3
  | [], [], _ => rfl
  | h :: hs, e :: es, hl => by
    have := endCells_len (hs := hs) (es := es) (by simpa using hl)
    simp only [endCells, List.length_cons, this]; omega
theorem endCells_snoc : ∀ {hs : List Value} {es : List End} (h : Value) (e : End), hs.length = es.length → endCells (hs ++ [h]) (es ++ [e]) = endCells hs es ++ [h, .int .i64 e.j, .int .i64 e.b]
  | [], [], _, _, _ => rfl
  | _ :: hs, _ :: es, h, e, hl => by
    simp only [List.cons_append, endCells]
    rw [endCells_snoc h e (by simpa using hl)]
theorem endCells_get : ∀ {hs : List Value} {es : List End} (i : Nat) (h : Value) (e : End), hs[i]? = some h → es[i]? = some e → (endCells hs es)[i * 3]? = some h ∧ (endCells hs es)[i * 3 + 1]? = some (.int .i64 e.j) ∧ (endCells hs es)[i * 3 + 2]? = some (.int .i64 e.b)
  | x :: hs, y :: es, 0, h, e, h1, h2 => by
    injection h1 with h1
    injection h2 with h2
    subst h1 h2
    exact ⟨rfl, rfl, rfl⟩
  | x :: hs, y :: es, i + 1, h, e, h1, h2 => by
    have := endCells_get (hs := hs) (es := es) i h e h1 h2
    simp only [endCells, show (i + 1) * 3 = i * 3 + 3 by omega, show i * 3 + 3 + 1 = (i * 3 + 1) + 3 by omega, show i * 3 + 3 + 2 = (i * 3 + 2) + 3 by omega, List.getElem?_cons_succ]
    exact this
  | [], _, _, _, _, h1, _ => by simp at h1
  | _ :: _, [], _, _, _, _, h2 => by simp at h2
theorem endCells_one {w : World} {B : Nat} {X : Nat → Prop} : ∀ {hs : List Value} {es : List End}, Tab w B X hs (es.map (·.v)) → ((endCells hs es).all fun u => u.oneCell') = true
  | [], _, _ => by simp [endCells]
  | _ :: _, [], _ => rfl
  | h :: hs, e :: es, ht => by
    have h0 := ht.headers
    simp only [List.all_cons, Bool.and_eq_true] at h0
    have hl := ht.1
    have ht' : Tab w B X hs (es.map (·.v)) := ⟨by simpa using hl, fun i v p hv hp => ht.2 (i + 1) v p hv hp⟩
    simp only [endCells, List.all_cons, Bool.and_eq_true]
    exact ⟨h0.1, rfl, rfl, endCells_one ht'⟩

/-- The value reads as a row of ends; what it reads lies below B, and in no block of X. -/
def ERow (w : World) (B : Nat) (X : Nat → Prop) (v : Value) (es : List End) : Prop :=
  ∃ A c hs, v = .slice A es.length c ∧ es.length ≤ c ∧ c ≤ maxLen ∧ Rd w B 3 A es.length (endCells hs es) ∧ (∀ b off f, 0 < es.length → A = some ⟨b, off, f⟩ → ¬ X b) ∧ Tab w B X hs (es.map (·.v))
def ETab (w : World) (B : Nat) (X : Nat → Prop) (vs : List Value) (ps : List (List End)) : Prop :=
  vs.length = ps.length ∧ ∀ (i : Nat) v p, vs[i]? = some v → ps[i]? = some p → ERow w B X v p

section
variable {w w' : World} {B B' : Nat} {X X' : Nat → Prop} {v : Value} {p : List End} {vs : List Value} {ps : List (List End)}
theorem ERow.keep (h : ERow w B X v p) (hk : ∀ a : Addr, a.block < B → ¬ X a.block → w'.cell? a = w.cell? a) : ERow w' B X v p := by
  obtain ⟨A, c, hs, e, h1, h2, h3, h4, h5⟩ := h
  refine ⟨A, c, hs, e, h1, h2, ⟨h3.1, fun hn => ?_⟩, h4, h5.keep hk⟩
  obtain ⟨b, off, e, hb, hc⟩ := h3.2 hn
  exact ⟨b, off, e, hb, fun j u hu => (hk ⟨b, off + j, none⟩ hb (h4 b off none hn e)).trans (hc j u hu)⟩
theorem ERow.more (h : ERow w B X v p) (hB : B ≤ B') : ERow w B' X v p := by
  obtain ⟨A, c, hs, e, h1, h2, h3, h4, h5⟩ := h
  exact ⟨A, c, hs, e, h1, h2, h3.more hB, h4, h5.more hB⟩
theorem ERow.at (h : ERow w B X v p) (hX : ∀ g, X' g → X g ∨ B ≤ g) : ERow w B X' v p := by
  obtain ⟨A, c, hs, e, h1, h2, h3, h4, h5⟩ := h
  refine ⟨A, c, hs, e, h1, h2, h3, fun b off f hn ha he => ?_, h5.at hX⟩
  obtain ⟨b', off', e', hb, _⟩ := h3.2 hn
  rcases hX b he with h | h
  · exact h4 b off f hn ha h
  · rw [ha] at e'
    injection e' with e'
    injection e' with e1
    omega
theorem ERow.below (h : ERow w B X v p) (hb : Below B' w w') (hB : B ≤ B') : ERow w' B X v p := h.keep fun _ ha _ => hb.cell (by omega)
theorem ERow.alloc (h : ERow w B X v p) (hB : B ≤ w.heap.size) (o : Obj) : ERow (w.alloc o) B X v p := h.keep fun a ha _ => World.cell?_alloc_lt w o a (by omega)
theorem ERow.grown {row : Option Nat} (h : ERow w B X v p) (hg : w.grownBy w' row) (hr : ∀ g, row = some g → X g) (hB : B ≤ w.heap.size) : ERow w' B X v p :=
  h.keep fun a ha hne => World.cell?_of_block (hg.block a.block (by omega) (fun e => hne (hr _ e.symm)))
theorem ERow.setCell (h : ERow w B X v p) {a : Addr} (hX : X a.block) (u : Value) : ERow (w.setCell a u) B X v p :=
  h.keep fun q _ hne => World.cell?_setCell_other w a q u (fun e => by subst e; exact hne hX)
/-- End i: its three cells, and what its voltages read as. -/
theorem ERow.get (h : ERow w B X v p) {i : Nat} (hi : i < p.length) : ∃ b off c A' c', v = .slice (some ⟨b, off, none⟩) p.length c ∧ b < B ∧ ¬ X b ∧ w.cell? ⟨b, off + i * 3, none⟩ = some (.slice A' p[i].v.length c') ∧ w.cell? ⟨b, off + i * 3 + 1, none⟩ = some (.int .i64 p[i].j) ∧ w.cell? ⟨b, off + i * 3 + 2, none⟩ = some (.int .i64 p[i].b) ∧ RowAt w B X (.slice A' p[i].v.length c') p[i].v := by
  obtain ⟨A, c, hs, rfl, h1, h2, h3, h4, h5⟩ := h
  obtain ⟨u, hu, hr⟩ := h5.row (i := i) (by simpa using hi)
  have e0 : (p.map (·.v))[i]'(by simpa using hi) = p[i].v := by simp
  simp only [e0] at hr
  have hr2 := hr
  obtain ⟨A', c', rfl, _, _, _, _⟩ := hr
  obtain ⟨b, off, rfl, hb, hc⟩ := h3.2 (by omega)
  obtain ⟨k0, k1, k2⟩ := endCells_get i _ p[i] hu (List.getElem?_eq_getElem hi)
  refine ⟨b, off, c, A', c', rfl, hb, h4 b off none (by omega) rfl, hc _ _ k0, ?_, ?_, hr2⟩
  · have := hc _ _ k1; rw [← Nat.add_assoc] at this; exact this
  · have := hc _ _ k2; rw [← Nat.add_assoc] at this; exact this
theorem ERow.cap (h : ERow w B X v p) : ∃ A c, v = .slice A p.length c ∧ p.length ≤ c ∧ c ≤ maxLen := by
  obtain ⟨A, c, hs, e, h1, h2, _⟩ := h
  exact ⟨A, c, e, h1, h2⟩
theorem ERow.nil : ERow w B X (.slice none 0 0) [] := ⟨none, 0, [], rfl, Nat.le_refl _, Nat.zero_le _, Rd.nil, fun _ _ _ hn _ => absurd hn (by simp), Tab.nil⟩
/-- A row of the call's own. -/
theorem ERow.of_own {base : Nat} {e : TypeId} {hs : List Value} (h : w.ownsRow base e 3 v p.length (endCells hs p)) (ht : Tab w w.heap.size X hs (p.map (·.v))) (hX : ∀ g, v.ownBlock = some g → ¬ X g) : ERow w w.heap.size X v p := by
  obtain ⟨A, c, rfl, h1, h2⟩ := own_cap h
  exact ⟨A, c, hs, rfl, h1, h2, Rd.of_own h, fun b off f hn ha he => hX b (by rw [ha]; rfl) he, ht⟩

theorem ETab.nil : ETab w B X [] [] := ⟨rfl, fun i v p h => by simp at h⟩
theorem ETab.keep (h : ETab w B X vs ps) (hk : ∀ a : Addr, a.block < B → ¬ X a.block → w'.cell? a = w.cell? a) : ETab w' B X vs ps := ⟨h.1, fun i v p hv hp => (h.2 i v p hv hp).keep hk⟩
theorem ETab.more (h : ETab w B X vs ps) (hB : B ≤ B') : ETab w B' X vs ps := ⟨h.1, fun i v p hv hp => (h.2 i v p hv hp).more hB⟩
theorem ETab.at (h : ETab w B X vs ps) (hX : ∀ g, X' g → X g ∨ B ≤ g) : ETab w B X' vs ps := ⟨h.1, fun i v p hv hp => (h.2 i v p hv hp).at hX⟩
theorem ETab.below (h : ETab w B X vs ps) (hb : Below B' w w') (hB : B ≤ B') : ETab w' B X vs ps := ⟨h.1, fun i v p hv hp => (h.2 i v p hv hp).below hb hB⟩
theorem ETab.alloc (h : ETab w B X vs ps) (hB : B ≤ w.heap.size) (o : Obj) : ETab (w.alloc o) B X vs ps := ⟨h.1, fun i v p hv hp => (h.2 i v p hv hp).alloc hB o⟩
theorem ETab.grown {row : Option Nat} (h : ETab w B X vs ps) (hg : w.grownBy w' row) (hr : ∀ g, row = some g → X g) (hB : B ≤ w.heap.size) : ETab w' B X vs ps := ⟨h.1, fun i v p hv hp => (h.2 i v p hv hp).grown hg hr hB⟩
theorem ETab.setCell (h : ETab w B X vs ps) {a : Addr} (hX : X a.block) (u : Value) : ETab (w.setCell a u) B X vs ps := ⟨h.1, fun i v p hv hp => (h.2 i v p hv hp).setCell hX u⟩
theorem ETab.snoc (h : ETab w B X vs ps) (hr : ERow w B X v p) : ETab w B X (vs ++ [v]) (ps ++ [p]) := by
  refine ⟨by simp [h.1], fun i u q hu hq => ?_⟩
  rcases Nat.lt_or_ge i vs.length with hi | hi
  · rw [List.getElem?_append_left hi] at hu
    rw [List.getElem?_append_left (by rw [← h.1]; exact hi)] at hq
    exact h.2 i u q hu hq
  · rw [List.getElem?_append_right hi] at hu
    rw [List.getElem?_append_right (by rw [← h.1]; exact hi)] at hq
    rw [h.1] at hu
    obtain ⟨h1, h2⟩ := List.getElem?_eq_some_iff.1 hu
    simp at h1
    have h0 : i - ps.length = 0 := by omega
    rw [h0] at hu hq
    simp at hu hq
    subst hu hq
    exact hr
theorem ETab.row (h : ETab w B X vs ps) {i : Nat} (hi : i < ps.length) : ∃ v, vs[i]? = some v ∧ ERow w B X v ps[i] := by
  have h1 : i < vs.length := by rw [h.1]; exact hi
  exact ⟨vs[i], List.getElem?_eq_getElem h1, h.2 i _ _ (List.getElem?_eq_getElem h1) (List.getElem?_eq_getElem hi)⟩
theorem ETab.take (h : ETab w B X vs ps) (k : Nat) : ETab w B X (vs.take k) (ps.take k) := by
  refine ⟨by simp [h.1], fun i v p hv hp => ?_⟩
  rw [List.getElem?_take] at hv hp
  split at hv
  · rw [if_pos (by assumption)] at hp
    exact h.2 i v p hv hp
  · cases hv
theorem ETab.headers (h : ETab w B X vs ps) : (vs.all fun u => u.oneCell') = true := by
  rw [List.all_eq_true]
  intro u hu
  obtain ⟨i, hi, rfl⟩ := List.getElem_of_mem hu
  obtain ⟨A, c, hs, e, _⟩ := h.2 i _ _ (List.getElem?_eq_getElem hi) (List.getElem?_eq_getElem (by rw [← h.1]; exact hi))
  rw [e]; rfl
end
end Go.Proofs.Ytejjogpgolgdgaa

/-
  A REGION THAT DRAWS ITS ORDER: quiet operations first, then a forced tail: one walk of the quiet head by the cheap quiet step, then the tail as a list.
-/
namespace Go.Proofs.Ytejjogpgolgdgaa
open Go

section
variable {P : Program} {ops : Array Oper} {w : World}
theorem still_of_quiet {o : Oper} {a : Act} {K : Act → Prop} (h : o.quiet P a (fun w' => w' = w) K) : o.still P a w K := by
  obtain ⟨v, h1, h2⟩ := h
  have h3 := h1 w rfl
  unfold Oper.quietAt at h3
  unfold Oper.still
  generalize (execOp a.eval o).run P w = r at *
  cases r with
  | ok n w' =>
    cases n <;> simp only [Oper.quietUpon] at h3 <;> simp only [Oper.stillUpon]
    case value u => exact ⟨h3.1, by rw [h3.2]; exact h2⟩
    case skip => exact ⟨h3.1, by rw [← h3.2]; exact h2⟩
    case enter f args => exact ⟨h3.1, v, h3.2, h2⟩
  | halt x w' => simp only [Oper.quietUpon] at h3
theorem wpStill_of_quiet {Q : Act → Prop} : ∀ (l : List Oper) (a : Act), wpQuiet P ops (fun w' => w' = w) Q l a → wpStill P ops w Q l a
  | [], _, h => h
  | o :: rest, a, h => by
    unfold wpQuiet at h
    unfold wpStill
    split
    · rename_i hw
      rw [if_pos hw] at h
      exact Oper.still_mono (wpStill_of_quiet rest) (still_of_quiet h)
    · rename_i hw
      rw [if_neg hw] at h
      exact wpStill_of_quiet rest _ h
theorem wp_region_qtail {id : Nat} {Q : Exit → Act → World → Prop} {a : Act} {l : List Oper} (n : Nat) (hm : P.follows .mixedOrders = true) (hB : Region.lexTailB .any l.toArray n = true)
    (h : wpQuiet P l.toArray (fun w' => w' = w.drew) (fun a' => wpList P l.toArray Q (l.drop n) a' w.drew) (l.take n) a) : (Code.region id l.toArray true).wp P Q a w :=
  wp_region_still_tail n hm hB (wpStill_of_quiet _ _ h)
end
end Go.Proofs.Ytejjogpgolgdgaa

/-
  A REGION THAT DRAWS ITS ORDER: quiet operations in a class of worlds first (calls among them), then a forced tail; a move in front may float.
-/
namespace Go.Proofs.Ytejjogpgolgdgaa
open Go

section
variable {P : Program} {ops : Array Oper} {md : Region.Mode} {C : World → Prop}

/-- The head, from place m on: each of its operations is waited for, in the end by the tail's first. -/
def sinkFrom (md : Region.Mode) (ops : Array Oper) (m n : Nat) : Bool :=
  (List.range n).all fun i => decide (i < m) || (List.range (n + 1)).any fun j => decide (i < j) && Region.waitsFor md ops j i

theorem tailWaits {m n : Nat} {listed : Array Bool} (hs : sinkFrom md ops m n = true) (hc : Region.chainB md ops n = true) (hn : n < ops.size) (inv : HeadInv md ops n listed) :
    ∀ (d i : Nat), n - i = d → m ≤ i → i < n → listed.getD i true = false → ∀ t, n ≤ t → t ∉ Region.ready md ops listed := by
  intro d
  induction d using Nat.strongRecOn with
  | _ d ih =>
    intro i hd hmi hi hun t ht hr
    obtain ⟨_, ot, hot, hall⟩ := mem_ready.1 hr
    have htlt : t < ops.size := (Array.getElem?_eq_some_iff.1 hot).1
    by_cases htn : t = n
    · subst htn
      have h1 := List.all_eq_true.1 hs i (List.mem_range.2 hi)
      rw [Bool.or_eq_true, decide_eq_true_eq] at h1
      have h1 := h1.resolve_left (by omega)
      obtain ⟨j, hj, hj2⟩ := List.any_eq_true.1 h1
      simp only [Bool.and_eq_true, decide_eq_true_eq] at hj2
      obtain ⟨oj, hoj, e, he, hb, hon⟩ := Region.waitsFor_spec hj2.2
      have hjle : j ≤ t := by have := List.mem_range.1 hj; omega
      by_cases hjt : j = t
      · subst hjt
        have : oj = ot := Option.some.inj (hoj.symm.trans hot)
        subst this
        have h2 := hall e he hb
        rw [hon, getD_both hun] at h2
        cases h2
      · cases hl : listed.getD j false with
        | true =>
          have h2 := inv.closed j oj hoj hl e he hb
          rw [hon, getD_both hun] at h2
          cases h2
        | false =>
          have hjs : j < listed.size := by rw [inv.size]; omega
          exact ih (t - j) (by omega) j rfl (by omega) (by omega) (getD_in hjs hl) t (Nat.le_refl _) hr
    · have h1 := List.all_eq_true.1 hc t (List.mem_range.2 htlt)
      simp only [Bool.or_eq_true, decide_eq_true_eq] at h1
      rcases h1 with h1 | h1
      · omega
      · obtain ⟨o', ho', e, he, hb, hon⟩ := Region.waitsFor_spec h1
        have : o' = ot := Option.some.inj (ho'.symm.trans hot)
        subst this
        have h2 := hall e he hb
        rw [hon, getD_both (inv.tail (t - 1) (by omega) (by omega))] at h2
        cases h2

def wpAnyLC (P : Program) (md : Region.Mode) (ops : Array Oper) (C : World → Prop) (n : Nat) (L : Array Bool → Act → Prop) : Nat → Array Bool → Act → Prop
  | 0, listed, a => L listed a
  | f + 1, listed, a =>
    Region.ready md ops listed ≠ [] ∧ ∀ i ∈ Region.ready md ops listed, i < n ∧ qOp P ops C i (wpAnyLC P md ops C n L f (listed.setIfInBounds i true)) a

theorem wpAny_of_headC {n g : Nat} {L : Array Bool → Act → Prop} {Q' : Exit → Act → World → Prop} (hL : ∀ listed a w, C w → L listed a → wpAny P md ops Q' g listed a w) :
    ∀ (f : Nat) (listed : Array Bool) (a : Act) (w : World), C w → wpAnyLC P md ops C n L f listed a → wpAny P md ops Q' (f + g) listed a w
  | 0, listed, a, w, hC, h => by rw [Nat.zero_add]; exact hL _ _ _ hC h
  | f + 1, listed, a, w, hC, h => by
    rw [show f + 1 + g = (f + g) + 1 by omega]
    exact ⟨fun h0 => absurd h0 h.1, fun i hi => wpOp_of_qOp hC (fun a' w' hw' h' => wpAny_of_headC hL f _ a' w' hw' h') (h.2 i hi).2⟩

theorem wpAnyLC_first {m n i : Nat} {oi : Oper} {v : Value} {L : Array Bool → Act → Prop} (hi : ops[i]? = some oi) (hsel : ∀ (j : Nat) (o : Oper) cs b, ops[j]? = some o → o.op ≠ .select cs b)
    (hs : sinkFrom md ops m n = true) (hc : Region.chainB md ops n = true) (hn : n < ops.size) (hmi : m ≤ i) (hin : i < n)
    (hdone : ∀ listed a, L listed a → ∀ j ∈ Region.ready md ops listed, n ≤ j) :
    ∀ (f : Nat) (listed : Array Bool) (a : Act), HeadInv md ops n listed →
      (∀ j oj, ops[j]? = some oj → j ≠ i → listed.getD j true = false → (∀ e ∈ oj.after, Region.binds md e = true → e.on ≠ i) → oi.apart ops oj = true) →
      i ∈ Region.ready md ops listed → YieldsIn P ops C oi v a →
      wpAnyLC P md ops C n L f (listed.setIfInBounds i true) (a.put oi.dst v) → wpAnyLC P md ops C n L (f + 1) listed a := by
  intro f
  induction f with
  | zero =>
    intro listed a inv _ hr hy H
    have hun := (mem_ready.1 hr).1
    refine ⟨fun h => (by rw [h] at hr; cases hr), fun j hj => ?_⟩
    have hjn : j < n := by
      rcases Nat.lt_or_ge j n with h | h
      · exact h
      · exact absurd hj (tailWaits hs hc hn inv _ i rfl hmi hin hun j h)
    refine ⟨hjn, ?_⟩
    by_cases hji : j = i
    · subst hji; exact hy.qOp hi H
    · have := hdone _ _ H j (ready_mono hj hji)
      omega
  | succ f ih =>
    intro listed a inv hfree hr hy H
    have hun := (mem_ready.1 hr).1
    refine ⟨fun h => (by rw [h] at hr; cases hr), fun j hj => ?_⟩
    have hjn : j < n := by
      rcases Nat.lt_or_ge j n with h | h
      · exact h
      · exact absurd hj (tailWaits hs hc hn inv _ i rfl hmi hin hun j h)
    refine ⟨hjn, ?_⟩
    by_cases hji : j = i
    · subst hji; exact hy.qOp hi H
    · have h1 := (H.2 j (ready_mono hj hji)).2
      obtain ⟨hjun, oj, hoj, hall⟩ := mem_ready.1 hj
      have hnot : ∀ e ∈ oj.after, Region.binds md e = true → e.on ≠ i := fun e he hb heq => by
        have h1 := hall e he hb
        rw [heq, getD_both hun] at h1
        cases h1
      have h2 := qOp_put hoj (hfree j oj hoj hji hjun hnot) (fun cs b => hsel i oi cs b hi) (fun cs b => hsel j oj cs b hoj) hy h1
      have hfree' : ∀ k ok, ops[k]? = some ok → k ≠ i → (listed.setIfInBounds j true).getD k true = false →
          (∀ e ∈ ok.after, Region.binds md e = true → e.on ≠ i) → oi.apart ops ok = true := fun k ok hk hki hun hno => by
        refine hfree k ok hk hki ?_ hno
        by_cases hjk : j = k
        · subst hjk; exact hjun
        · rw [getD_set_ne true hjk] at hun; exact hun
      refine qOp_mono (fun a' h3 => ih (listed.setIfInBounds j true) a' (inv.set hj hjn) hfree' (ready_mono hr (Ne.symm hji)) h3.1 ?_) h2
      rw [Array.setIfInBounds_comm _ _ hji]
      exact h3.2

theorem wpAnyLC_lex {m n g : Nat} {Lq : Act → Prop} (hsel : Region.noSelect ops = true) (hs : sinkFrom md ops m n = true) (hc : Region.chainB md ops n = true) (hn : n < ops.size) :
    ∀ (l : List Oper) (k : Nat) (listed : Array Bool) (a : Act), m ≤ k → (∀ j, j < l.length → l[j]? = ops[k + j]?) → k + l.length = n → HeadInv md ops n listed →
    Region.lexHead md ops g l.length k listed = true → wpQuiet P ops C Lq l a →
    wpAnyLC P md ops C n (fun listed' a' => Region.seqB md ops g n listed' = true ∧ Lq a') l.length listed a
  | [], k, listed, a, _, hl, hk, _, hB, h => by
    have : k = n := by simpa using hk
    subst this
    exact ⟨by simpa [Region.lexHead] using hB, h⟩
  | o :: l, k, listed, a, hmk, hl, hk, inv, hB, h => by
    have h0 : ops[k]? = some o := by simpa using (hl 0 (by simp)).symm
    simp only [List.length_cons, Region.lexHead, Bool.and_eq_true] at hB
    obtain ⟨⟨hr, hf⟩, hB'⟩ := hB
    have hkn : k < n := by simp only [List.length_cons] at hk; omega
    have hr' : k ∈ Region.ready md ops listed := by simpa using hr
    have hst : qOp P ops C k (wpQuiet P ops C Lq l) a := by unfold qOp; simp only [h0]; exact h
    obtain ⟨v, hy, hK⟩ := yieldsIn_of_qOp h0 hst
    exact wpAnyLC_first h0 (Region.noSelect_spec hsel) hs hc hn hmk hkn (fun listed' a' hL => seqB_ready hL.1) l.length listed a inv (Region.free_spec h0 hf) hr' hy
      (wpAnyLC_lex hsel hs hc hn l (k + 1) _ _ (by omega) (fun j hj => by have := hl (j + 1) (by simp; omega); simpa [Nat.add_assoc, Nat.add_comm 1 j] using this) (by simp only [List.length_cons] at hk; omega) (inv.set hr' hkn) hB' hK)

/-- The Bool over a region: head 0 .. n - 1, then the tail. -/
def ctailB (md : Region.Mode) (ops : Array Oper) (n : Nat) : Bool :=
  Region.noSelect ops && decide (n < ops.size) && sinkFrom md ops 0 n && Region.chainB md ops n && Region.lexHead md ops (ops.size - n) n 0 (Array.replicate ops.size false)
/-- .. the first operation floating. -/
def ftailB (md : Region.Mode) (ops : Array Oper) (n : Nat) : Bool :=
  Region.noSelect ops && decide (n < ops.size) && decide (0 < n) && sinkFrom md ops 1 n && Region.chainB md ops n &&
    ((Region.ready md ops (Array.replicate ops.size false)).contains 0 && Region.free md ops (Array.replicate ops.size false) 0 && Region.lexHead md ops (ops.size - n) (n - 1) 1 ((Array.replicate ops.size false).setIfInBounds 0 true))

theorem headInv0 (md : Region.Mode) (ops : Array Oper) (n : Nat) : HeadInv md ops n (Array.replicate ops.size false) :=
  ⟨by simp, fun j oj _ hl => (by rw [getD_replicate_false] at hl; cases hl), fun t _ ht => getD_in (by simpa using ht) (getD_replicate_false _ _)⟩

/-- The head quiet in a class of worlds, calls among its operations; then the tail, as a list, in any world of the class. -/
theorem wp_region_ctail {id : Nat} {Q : Exit → Act → World → Prop} {a : Act} {w : World} {l : List Oper} (C : World → Prop) (n : Nat) (hm : P.follows .mixedOrders = true) (hB : ctailB .any l.toArray n = true) (hC : C w.drew)
    (h : wpQuiet P l.toArray C (fun a' => ∀ w', C w' → wpList P l.toArray Q (l.drop n) a' w') (l.take n) a) : (Code.region id l.toArray true).wp P Q a w := by
  simp only [ctailB, Bool.and_eq_true, decide_eq_true_eq] at hB
  obtain ⟨⟨⟨⟨hsel, hn⟩, hs⟩, hc⟩, hlex⟩ := hB
  have hn' : n < l.length := by simpa using hn
  have htl : (l.take n).length = n := by simp; omega
  have hdl : (l.drop n).length = l.toArray.size - n := by simp
  have H := wpAnyLC_lex (md := .any) (g := l.toArray.size - n) hsel hs hc hn (l.take n) 0 _ a (Nat.le_refl _) (fun j hj => by
    have hj' : j < n := by rw [htl] at hj; exact hj
    simp [hj']) (by simpa using htl) (headInv0 .any l.toArray n) (by rw [htl]; exact hlex) h
  refine wp_region_any hm ?_
  have := wpAny_of_headC (Q' := Q) (g := l.toArray.size - n) (fun listed a' w' hC' hL => by
    have := wpAny_of_seq (md := .any) (Q' := Q) (l.drop n) n listed a' w' (fun j => by simp [List.getElem?_drop]) (by rw [hdl]; exact hL.1) (hL.2 w' hC')
    rwa [hdl] at this) _ _ _ _ hC H
  rw [htl, show n + (l.toArray.size - n) = l.toArray.size by omega] at this
  exact this

/-- A move in front, that the tail alone may look at; then as above. -/
theorem wp_region_ftail {id : Nat} {Q : Exit → Act → World → Prop} {a : Act} {w : World} {o : Oper} {l : List Oper} (C : World → Prop) (n : Nat) (x : Operand) (v0 : Value) (hm : P.follows .mixedOrders = true) (hB : ftailB .any (o :: l).toArray (n + 1) = true)
    (ho : o.op = .move x) (hg : o.guard = none) (hv0 : a.eval x = v0) (hQ : ∀ c a v w, Q (.panic c) (a.put o.dst v) w → Q (.panic c) a w) (hC : C w.drew)
    (h : wpQuiet P (o :: l).toArray C (fun a' => ∀ w', C w' → wpList P (o :: l).toArray Q (l.drop n) a' w') (l.take n) (a.put o.dst v0)) : (Code.region id (o :: l).toArray true).wp P Q a w := by
  subst hv0
  simp only [ftailB, Bool.and_eq_true, decide_eq_true_eq] at hB
  obtain ⟨⟨⟨⟨⟨hsel, hn⟩, _⟩, hs⟩, hc⟩, ⟨hr, hf⟩, hlex⟩ := hB
  have hn' : n < l.length := by simpa using hn
  have htl : (l.take n).length = n := by simp; omega
  have hdl : (l.drop n).length = (o :: l).toArray.size - (n + 1) := by simp
  have h0 : (o :: l).toArray[0]? = some o := by simp
  have hr0 : 0 ∈ Region.ready .any (o :: l).toArray (Array.replicate (o :: l).toArray.size false) := by simpa using hr
  have inv := (headInv0 .any (o :: l).toArray (n + 1)).set hr0 (Nat.succ_pos _)
  have H := wpAnyLC_lex (md := .any) (g := (o :: l).toArray.size - (n + 1)) hsel hs hc hn (l.take n) 1 _ _ (Nat.le_refl _) (fun j hj => by
    have hj' : j < n := by rw [htl] at hj; exact hj
    rw [List.getElem?_take, if_pos hj', Nat.add_comm 1 j]
    simp) (by rw [htl]; omega) inv (by rw [htl]; exact hlex) h
  refine wp_region_any hm ?_
  have := wpAny_of_headC (Q' := Q) (g := (o :: l).toArray.size - (n + 1)) (fun listed a' w' hC' hL => by
    have := wpAny_of_seq (md := .any) (Q' := Q) (l.drop n) (n + 1) listed a' w' (fun j => by rw [List.getElem?_drop, show n + 1 + j = (n + j) + 1 by omega]; simp) (by rw [hdl]; exact hL.1) (hL.2 w' hC')
    rwa [hdl] at this) _ _ _ _ hC H
  rw [htl, show n + ((o :: l).toArray.size - (n + 1)) = l.length by simp; omega] at this
  have hw : Region.wanted o (yielded (o :: l).toArray a.tmps) = true := by simp [Region.wanted, hg]
  have hy : Yields P (o :: l).toArray o (a.eval x) a := .inl ⟨hw, fun w => by unfold execOp; simp [ho]⟩
  have := wpAny_take (md := .any) (fuel := l.length) h0 hsel hf hr (fun c a' w' hh => hQ c a' _ w' hh) hy this
  simpa using this

end

/-! ### The class of the worlds in which all that lay still lies as it lay, as the image of a function: so the walk's simp sees through it -/
section
open Go.RowKit Classical
noncomputable def mergeW (W s : World) : World := if Below W.heap.size W s then s else W
theorem below_mergeW (W s : World) : Below W.heap.size W (mergeW W s) := by
  unfold mergeW
  split
  · assumption
  · exact Below.refl _ _
theorem mergeW_of {W s : World} (h : Below W.heap.size W s) : s = mergeW W s := by
  unfold mergeW
  rw [if_pos h]
theorem in_mergeW {W s w' : World} (h : Below (mergeW W s).heap.size (mergeW W s) w') : ∃ s', w' = mergeW W s' :=
  ⟨w', mergeW_of ((below_mergeW W s).trans (h.mono (below_mergeW W s).size))⟩
theorem cell_mergeW (W s : World) (b o : Nat) (h : b < W.heap.size) : (mergeW W s).cell? ⟨b, o, none⟩ = W.cell? ⟨b, o, none⟩ := (below_mergeW W s).cell (p := ⟨b, o, none⟩) h
theorem frozen_mergeW (W s : World) (b o : Nat) (h : b < W.heap.size) : (mergeW W s).frozen? ⟨b, o, none⟩ = W.frozen? ⟨b, o, none⟩ := (below_mergeW W s).frozen (p := ⟨b, o, none⟩) h
theorem wp_region_btail {P : Program} {id : Nat} {Q : Exit → Act → World → Prop} {a : Act} {w : World} {l : List Oper} (n : Nat) (hm : P.follows .mixedOrders = true) (hB : ctailB .any l.toArray n = true)
    (h : wpQuiet P l.toArray (fun w' => ∃ s, w' = mergeW w s) (fun a' => ∀ w', (∃ s, w' = mergeW w s) → wpList P l.toArray Q (l.drop n) a' w') (l.take n) a) : (Code.region id l.toArray true).wp P Q a w :=
  wp_region_ctail _ n hm hB ⟨w.drew, mergeW_of ((Below.refl _ _).drew)⟩ h
end
end Go.Proofs.Ytejjogpgolgdgaa

/-
  ALL LISTS OF A LENGTH with numbers within a bound, one after another. (No program is named.)
-/
namespace Go.Proofs.Ytejjogpgolgdgaa
namespace Pulse
theorem take_snoc' {α : Type} (l : List α) (q : Nat) (h : q < l.length) : l.take (q + 1) = l.take q ++ [l[q]] := by rw [List.take_add_one, List.getElem?_eq_getElem h]; rfl
def Forces (F : Int) (p : List Int) : Prop := ∀ f ∈ p, -F ≤ f ∧ f ≤ F
theorem Forces.tail {F f : Int} {p : List Int} (h : Forces F (f :: p)) : Forces F p := fun g hg => h g (by simp [hg])
theorem Forces.take {F : Int} {p : List Int} (h : Forces F p) (k : Nat) : Forces F (p.take k) := fun g hg => h g (List.mem_of_mem_take hg)
/-- The forces -F, .., F. -/
def digs (F : Nat) : List Int := (List.range (2 * F + 1)).map fun (i : Nat) => (i : Int) - (F : Int)
theorem digs_len (F : Nat) : (digs F).length = 2 * F + 1 := by simp [digs]
theorem digs_get (F i : Nat) (h : i < (digs F).length) : (digs F)[i] = (i : Int) - F := by simp [digs]
theorem mem_digs {F : Nat} {f : Int} : f ∈ digs F ↔ -(F : Int) ≤ f ∧ f ≤ F := by
  unfold digs
  rw [List.mem_map]
  constructor
  · rintro ⟨i, hi, rfl⟩
    rw [List.mem_range] at hi
    omega
  · intro h
    exact ⟨(f + F).toNat, by rw [List.mem_range]; omega, by omega⟩
/-- All pulses of length n, the last place the fastest (as the reference makes them). -/
def allP (F : Nat) : Nat → List (List Int)
  | 0 => [[]]
  | n + 1 => (allP F n).flatMap fun p => (digs F).map fun f => p ++ [f]
theorem mem_allP {F : Nat} : ∀ {n : Nat} {p : List Int}, p ∈ allP F n ↔ p.length = n ∧ Forces F p := by
  intro n
  induction n with
  | zero =>
    intro p
    rw [allP, List.mem_singleton]
    constructor
    · rintro rfl; exact ⟨rfl, fun f hf => by cases hf⟩
    · rintro ⟨h, _⟩; exact List.eq_nil_of_length_eq_zero h
  | succ n ih =>
    intro p
    rw [allP, List.mem_flatMap]
    constructor
    · rintro ⟨q, hq, hp⟩
      obtain ⟨f, hf, rfl⟩ := List.mem_map.1 hp
      obtain ⟨h1, h2⟩ := ih.1 hq
      refine ⟨by simp [h1], fun g hg => ?_⟩
      rcases List.mem_append.1 hg with h | h
      · exact h2 g h
      · rw [List.mem_singleton.1 h]; exact mem_digs.1 hf
    · rintro ⟨h1, h2⟩
      have hne : p ≠ [] := by intro e; subst e; simp at h1
      refine ⟨p.dropLast, ih.2 ⟨by simp [h1], fun f hf => h2 f ((List.dropLast_sublist p).subset hf)⟩, List.mem_map.2 ⟨p.getLast hne, mem_digs.2 (h2 _ (List.getLast_mem hne)), List.dropLast_concat_getLast hne⟩⟩

/-- The next pulse: the last place that is not at its end one more, the places behind it at their beginning. -/
def nxt (F : Int) : List Int → Option (List Int)
  | [] => none
  | f :: p => match nxt F p with
    | some p' => some (f :: p')
    | none => if f = F then none else some ((f + 1) :: p.map fun _ => -F)
theorem nxt_top {F : Int} {p : List Int} (h : ∀ f ∈ p, f = F) : nxt F p = none := by
  induction p with
  | nil => rfl
  | cons f p ih => rw [nxt, ih fun g hg => h g (by simp [hg])]; simp [h f (by simp)]
theorem nxt_at {F f : Int} {p : List Int} (hf : f ≠ F) (h : ∀ g ∈ p, g = F) : ∀ a : List Int, nxt F (a ++ f :: p) = some (a ++ (f + 1) :: List.replicate p.length (-F)) := by
  intro a
  induction a with
  | nil => rw [List.nil_append, nxt, nxt_top h]; simp [hf, List.map_const']
  | cons b a ih => rw [List.cons_append, nxt, ih]; rfl
/-- The same list, the first place the slowest. -/
def allC (F : Nat) : Nat → List (List Int)
  | 0 => [[]]
  | n + 1 => (digs F).flatMap fun f => (allC F n).map fun p => f :: p
theorem allC_snoc (F : Nat) : ∀ n, allC F (n + 1) = (allC F n).flatMap fun p => (digs F).map fun f => p ++ [f] := by
  intro n
  induction n with
  | zero => simp [allC, List.flatMap_singleton', List.map_eq_flatMap]
  | succ n ih =>
    have e : allC F (n + 2) = (digs F).flatMap fun f => (allC F (n + 1)).map fun p => f :: p := rfl
    rw [e]
    conv => lhs; rw [ih]
    conv => rhs; rw [show allC F (n + 1) = (digs F).flatMap fun f => (allC F n).map fun p => f :: p from rfl]
    rw [List.flatMap_assoc]
    congr 1
    funext f
    rw [List.map_flatMap, List.flatMap_map]
    congr 1
    funext p
    rw [List.map_map]
    rfl
theorem allP_eq (F : Nat) : ∀ n, allP F n = allC F n := by
  intro n
  induction n with
  | zero => rfl
  | succ n ih => rw [allP, ih, allC_snoc]
/-- Each is followed by its next one; the last has none. -/
def Steps (F : Int) : List (List Int) → Prop
  | [] => True
  | [p] => nxt F p = none
  | p :: q :: l => nxt F p = some q ∧ Steps F (q :: l)
theorem steps_get {F : Int} : ∀ {l : List (List Int)}, Steps F l → ∀ i (h : i < l.length), nxt F l[i] = l[i + 1]? := by
  intro l
  induction l with
  | nil => intro _ i h; simp at h
  | cons p l ih =>
    intro hs i h
    cases l with
    | nil =>
      have : i = 0 := by simp at h; omega
      subst this
      exact hs
    | cons q l =>
      cases i with
      | zero => exact hs.1
      | succ i => exact ih hs.2 i (by simpa using h)
theorem steps_append {F : Int} : ∀ (l m : List (List Int)) (q : List Int), (∀ i (h : i + 1 < l.length), nxt F l[i] = some l[i + 1]) → (∀ p, l.getLast? = some p → nxt F p = some q) → Steps F (q :: m) → Steps F (l ++ q :: m) := by
  intro l
  induction l with
  | nil => intro m q _ _ h; exact h
  | cons p l ih =>
    intro m q h1 h2 h3
    cases l with
    | nil => exact ⟨h2 p rfl, h3⟩
    | cons r l =>
      refine ⟨h1 0 (by simp), ih m q (fun i h => h1 (i + 1) (by simpa using h)) (fun p hp => h2 p (by simpa using hp)) h3⟩
theorem steps_map {F : Int} {f : Int} : ∀ {l : List (List Int)}, Steps F l → ∀ i (h : i + 1 < (l.map (f :: ·)).length), nxt F (l.map (f :: ·))[i] = some (l.map (f :: ·))[i + 1] := by
  intro l hs i h
  have h' : i + 1 < l.length := by simpa using h
  have := steps_get hs i (by omega)
  rw [List.getElem?_eq_getElem h'] at this
  rw [List.getElem_map, List.getElem_map, nxt, this]
theorem allC_ends (F n : Nat) : (allC F n).head? = some (List.replicate n (-(F : Int))) ∧ (allC F n).getLast? = some (List.replicate n (F : Int)) := by
  induction n with
  | zero => exact ⟨rfl, rfl⟩
  | succ n ih =>
    have hd : digs F = -(F : Int) :: (digs F).tail := by
      have h : (digs F).length = 2 * F + 1 := digs_len F
      cases hc : digs F with
      | nil => rw [hc] at h; simp at h
      | cons a t =>
        have h0 := digs_get F 0 (by omega)
        have : a = -(F : Int) := by
          have : (digs F)[0]'(by omega) = a := by simp [hc]
          rw [← this, h0]; omega
        rw [this]; rfl
    have hl : digs F = (digs F).dropLast ++ [(F : Int)] := by
      have h : (digs F).length = 2 * F + 1 := digs_len F
      have hne : digs F ≠ [] := by intro e; rw [e] at h; simp at h
      have := List.dropLast_concat_getLast hne
      rw [← this]
      congr 1
      · simp
      · rw [List.getLast_eq_getElem]
        rw [digs_get]
        simp only [digs_len]
        congr 1
        omega
    refine ⟨?_, ?_⟩
    · rw [allC, hd, List.flatMap_cons, List.head?_append, List.head?_map, ih.1]; rfl
    · rw [allC, hl, List.flatMap_append, List.flatMap_cons, List.flatMap_nil, List.append_nil, List.getLast?_append, List.getLast?_map, ih.2]; rfl
theorem last_step {F : Int} (A : List (List Int)) (q : List Int) (hm : ∀ i (h : i + 1 < (A ++ [q]).length), nxt F (A ++ [q])[i] = some (A ++ [q])[i + 1]) (p : List Int) (hp : A.getLast? = some p) : nxt F p = some q := by
  have hne : A ≠ [] := by intro e; rw [e] at hp; simp at hp
  have hpos := List.length_pos_iff.2 hne
  have := hm (A.length - 1) (by simp; omega)
  rw [List.getElem_append_left (by omega)] at this
  simp only [show A.length - 1 + 1 = A.length by omega, List.getElem_concat_length] at this
  rw [List.getLast?_eq_getElem?, List.getElem?_eq_getElem (by omega)] at hp
  injection hp with hp
  rw [← hp]
  exact this
theorem steps_blocks (F n : Nat) (hn : Steps F (allC F n)) : ∀ (k : Nat) (l : List Int), (∀ i (h : i < l.length), l[i] = (F : Int) - k + i) → l.length = k + 1 → Steps F (l.flatMap fun f => (allC F n).map fun p => f :: p) := by
  obtain ⟨e1, e2⟩ := allC_ends F n
  intro k
  induction k with
  | zero =>
    intro l hl hk
    obtain ⟨f, rfl⟩ := List.length_eq_one_iff.1 hk
    have hf : f = F := by have := hl 0 (by simp); simpa using this
    subst hf
    rw [List.flatMap_cons, List.flatMap_nil, List.append_nil]
    have hm := steps_map (f := (F : Int)) hn
    obtain ⟨a, ha⟩ : ∃ a, (allC F n) = a ++ [List.replicate n (F : Int)] := by
      refine ⟨(allC F n).dropLast, ?_⟩
      have hne : allC F n ≠ [] := by intro e; rw [e] at e2; simp at e2
      have := List.dropLast_concat_getLast hne
      rw [List.getLast?_eq_some_getLast hne] at e2
      injection e2 with e2
      rw [e2] at this
      exact this.symm
    generalize allC F n = C at *
    subst ha
    rw [show (a ++ [List.replicate n (F : Int)]).map (fun p => (F : Int) :: p) = a.map (fun p => (F : Int) :: p) ++ [(F : Int) :: List.replicate n (F : Int)] by simp]
    have hm : ∀ i (h : i + 1 < (a.map (fun p => (F : Int) :: p) ++ [(F : Int) :: List.replicate n (F : Int)]).length), nxt F (a.map (fun p => (F : Int) :: p) ++ [(F : Int) :: List.replicate n (F : Int)])[i] = some (a.map (fun p => (F : Int) :: p) ++ [(F : Int) :: List.replicate n (F : Int)])[i + 1] := by
      have e : (a ++ [List.replicate n (F : Int)]).map (fun p => (F : Int) :: p) = a.map (fun p => (F : Int) :: p) ++ [(F : Int) :: List.replicate n (F : Int)] := by simp
      intro i h
      have := hm i (by rw [e]; exact h)
      simpa only [e] using this
    refine steps_append _ [] _ (fun i h => ?_) (fun p hp => ?_) ?_
    · have := hm i (by simp at h ⊢; omega)
      rw [List.getElem_append_left (by omega), List.getElem_append_left h] at this
      exact this
    · exact last_step _ _ hm p hp
    · show nxt F ((F : Int) :: List.replicate n (F : Int)) = none
      refine nxt_top fun f hf => ?_
      rcases List.mem_cons.1 hf with h | h
      · exact h
      · exact (List.mem_replicate.1 h).2
  | succ k ih =>
    intro l hl hk
    cases l with
    | nil => simp at hk
    | cons f l =>
      have hf : f = (F : Int) - (k + 1 : Nat) := by have := hl 0 (by simp); simpa using this
      have hi := ih l (fun i h => by have := hl (i + 1) (by simpa using h); rw [List.getElem_cons_succ] at this; rw [this]; omega) (by simpa using hk)
      rw [List.flatMap_cons]
      have hh : (l.flatMap fun f => (allC F n).map fun p => f :: p).head? = some ((f + 1) :: List.replicate n (-(F : Int))) := by
        cases l with
        | nil => simp at hk
        | cons g l =>
          have hg : g = f + 1 := by have := hl 1 (by simp); simp at this; omega
          rw [List.flatMap_cons, List.head?_append, List.head?_map, e1, hg]; rfl
      generalize (l.flatMap fun f => (allC F n).map fun p => f :: p) = L at hi hh
      cases L with
      | nil => simp at hh
      | cons q L =>
        injection hh with hq
        subst hq
        refine steps_append _ L _ (steps_map hn) (fun p hp => ?_) hi
        rw [List.getLast?_map, e2] at hp
        injection hp with hp
        rw [← hp]
        have hne : f ≠ F := by omega
        have := nxt_at (F := (F : Int)) (p := List.replicate n (F : Int)) hne (fun g hg => (List.mem_replicate.1 hg).2) []
        simpa using this
theorem steps_all (F n : Nat) : Steps F (allC F n) := by
  induction n with
  | zero => rfl
  | succ n ih =>
    refine steps_blocks F n ih (2 * F) (digs F) (fun i h => ?_) (digs_len F)
    rw [digs_get]
    omega
theorem allP_nxt (F n i : Nat) (h : i < (allP F n).length) : nxt F (allP F n)[i] = (allP F n)[i + 1]? := by
  simp only [allP_eq] at h ⊢
  exact steps_get (steps_all F n) i h
theorem allP_head (F n : Nat) : ∃ h : 0 < (allP F n).length, (allP F n)[0] = List.replicate n (-(F : Int)) := by
  have h := (allC_ends F n).1
  rw [← allP_eq] at h
  cases hl : allP F n with
  | nil => rw [hl] at h; simp at h
  | cons a l => rw [hl] at h; injection h with h; exact ⟨by simp, by simpa using h⟩
theorem allP_len (F : Nat) : ∀ n, (allP F n).length = (2 * F + 1) ^ n := by
  intro n
  induction n with
  | zero => rfl
  | succ n ih =>
    rw [allP, List.length_flatMap]
    have : ∀ l : List (List Int), (l.map fun p => ((digs F).map fun f => p ++ [f]).length).sum = l.length * (2 * F + 1) := by
      intro l
      induction l with
      | nil => simp
      | cons p l ih => rw [List.map_cons, List.sum_cons, ih, List.length_map, digs_len, List.length_cons, Nat.add_mul]; omega
    rw [this, ih, Nat.pow_succ]
theorem allP_nodup (F : Nat) : ∀ n, (allP F n).Nodup := by
  have hd : (digs F).Nodup := by
    unfold digs
    rw [List.nodup_iff_pairwise_ne, List.pairwise_map]
    refine List.Pairwise.imp ?_ (List.nodup_range (n := 2 * F + 1))
    intro a b h e
    exact h (by omega)
  intro n
  induction n with
  | zero => simp [allP]
  | succ n ih =>
    rw [allP, List.nodup_iff_pairwise_ne, List.pairwise_flatMap]
    refine ⟨fun p _ => ?_, ?_⟩
    · rw [List.pairwise_map]
      exact List.Pairwise.imp (fun h e => h (by simpa using e)) hd
    · refine List.Pairwise.imp ?_ ih
      intro p q h x hx y hy e
      obtain ⟨f, _, rfl⟩ := List.mem_map.1 hx
      obtain ⟨g, _, rfl⟩ := List.mem_map.1 hy
      exact h (List.append_inj' e rfl).1
end Pulse
end Go.Proofs.Ytejjogpgolgdgaa

/-
  THE PLAIN LAWS OF PULSES, third part: the search's own step.
-/
namespace Go.Proofs.Ytejjogpgolgdgaa
namespace Pulse

/-- The first j places of p, then the beginning. -/
def rowL (F : Int) (p : List Int) (j : Nat) : List Int := p.take j ++ List.replicate (p.length - j) (-F)
theorem rowL_len {F : Int} {p : List Int} {j : Nat} (h : j ≤ p.length) : (rowL F p j).length = p.length := by simp [rowL]; omega
theorem rowL_all (F : Int) (p : List Int) : rowL F p p.length = p := by simp [rowL]
theorem rowL_get {F : Int} {p : List Int} {j : Nat} (h : j < p.length) : (rowL F p (j + 1))[j]? = p[j]? := by
  unfold rowL
  rw [List.getElem?_append_left (by simp; omega), List.getElem?_take]
  simp
theorem rowL_set {F : Int} {p : List Int} {j : Nat} (h : j < p.length) (x : Int) : (rowL F p (j + 1)).set j x = p.take j ++ x :: List.replicate (p.length - (j + 1)) (-F) := by
  unfold rowL
  have e : p.take (j + 1) = p.take j ++ [p[j]] := take_snoc' p j h
  rw [e, List.append_assoc, List.set_append_right _ _ (by simp; omega)]
  simp [Nat.min_eq_left (Nat.le_of_lt h)]
theorem rowL_back {F : Int} {p : List Int} {j : Nat} (h : j < p.length) : (rowL F p (j + 1)).set j (-F) = rowL F p j := by
  rw [rowL_set h, rowL]
  rw [show p.length - j = (p.length - (j + 1)) + 1 by omega, List.replicate_succ]
theorem nxt_row {F : Int} {p : List Int} {j : Nat} (h : j < p.length) (hf : p[j] ≠ F) (hd : ∀ f ∈ p.drop (j + 1), f = F) : nxt F p = some ((rowL F p (j + 1)).set j (p[j] + 1)) := by
  have e : p = p.take j ++ p[j] :: p.drop (j + 1) := by
    conv => lhs; rw [← List.take_append_drop j p]
    rw [List.drop_eq_getElem_cons h]
  have := nxt_at hf hd (p.take j)
  rw [← e] at this
  rw [this, rowL_set h, List.length_drop]
theorem drop_step {F : Int} {p : List Int} {j : Nat} (h : j < p.length) (hf : p[j] = F) (hd : ∀ f ∈ p.drop (j + 1), f = F) : ∀ f ∈ p.drop j, f = F := by
  rw [List.drop_eq_getElem_cons h]
  intro f hm
  rcases List.mem_cons.1 hm with e | e
  · rw [e, hf]
  · exact hd f e
theorem nxt_none {F : Int} {p : List Int} (hd : ∀ f ∈ p.drop 0, f = F) : nxt F p = none := nxt_top (by simpa using hd)
/-- The place of a list among lists. -/
def pos (p : List Int) : List (List Int) → Nat
  | [] => 0
  | q :: l => if q = p then 0 else pos p l + 1
theorem pos_get : ∀ {l : List (List Int)}, l.Nodup → ∀ i (h : i < l.length), pos l[i] l = i := by
  intro l
  induction l with
  | nil => intro _ i h; simp at h
  | cons q l ih =>
    intro hn i h
    rw [List.nodup_cons] at hn
    cases i with
    | zero => simp [pos]
    | succ i =>
      have h' : i < l.length := by simpa using h
      rw [List.getElem_cons_succ, pos, if_neg (fun e => hn.1 (by rw [e]; exact List.getElem_mem h')), ih hn.2 i h']
end Pulse
end Go.Proofs.Ytejjogpgolgdgaa
