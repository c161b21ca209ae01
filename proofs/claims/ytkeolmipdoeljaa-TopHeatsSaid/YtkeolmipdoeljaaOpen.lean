/-
  ARGUMENTS OPENED: a slice of acts, a slice of ints, a slice of windows, as they come in.
-/
import Derived.Test.YtkeolmipdoeljaaRows
import Derived.WalkKit
import Derived.ProofKit
import Derived.OpenShut
import Derived.ShutString
import Derived.ChangeOld
import Derived.Below
import Derived.Deep.Slices
import Derived.Deep.Fields
import Derived.ChangeSame
import Derived.Lib.SmallJoins
import Derived.Test.YtkeolmipdoeljaaMem3
import Derived.Test.YtkeolmipdoeljaaW8
namespace Go.Proofs.Ytkeolmipdoeljaa
open Go.ChangeShapes Go.WideShapes Go.ChangeAt Go.RowKit Go.Deep Heat

theorem ownKnob_none : ownKnob Try.prog.godebug = none := by kernel_rfl
theorem laidOut : laidOutB Try.prog = true := by kernel_rfl

def I64 (n : Int) : Prop := -9223372036854775808 ≤ n ∧ n ≤ 9223372036854775807
theorem i64_wf {n : Int} (h : (Lit.int .i64 n).wf = true) : I64 n := by
  have h1 : IntKind.min .i64 = -9223372036854775808 := by decide
  have h2 : IntKind.max .i64 = 9223372036854775807 := by decide
  simp only [Lit.wf, h1, h2, Bool.and_eq_true, decide_eq_true_eq] at h
  exact h

theorem cell_lt {w : World} {a : Addr} {v : Value} (h : w.cell? a = some v) : a.block < w.heap.size ∧ a.spot = none := by
  unfold World.cell? at h
  split at h
  · rename_i hb
    refine ⟨(Array.getElem?_eq_some_iff.1 hb).1, ?_⟩
    split at h
    · cases h
    · rename_i hs
      cases hsp : a.spot with
      | none => rfl
      | some _ => simp [hsp] at hs
  · cases h

theorem wf0 : (Lit.int .i64 0).wf = true := by decide
theorem add_none (b off k : Nat) : Addr.add ⟨b, off, none⟩ k = ⟨b, off + k, none⟩ := by
  unfold Addr.add
  split
  · rename_i h; subst h; rfl
  · rfl
theorem list3 {α : Type} {l : List α} (h : l.length = 3) : ∃ a b c, l = [a, b, c] := by
  match l, h with
  | [a, b, c], _ => exact ⟨a, b, c, rfl⟩

section
variable {H : Type} {enc : TypeId × Value → H} {w : World} {base : Nat} {spare : Nat → Bool} {held : Bool}
/-- A slice of structs of three ints, opened. -/
theorem open_three {t e : TypeId} {n0 n1 n2 : Field} {fuel : Nat} {cs : List Value} {x : DataW H × List MemPlace} (ht : Try.prog.underlying t = some (.slice e)) (he : Try.prog.underlying e = some (.struct #[n0, n1, n2]))
    (hone : oneCellFields Try.prog #[n0, n1, n2] = true) (hC : Try.prog.cellsOf e = 3) (h0 : n0.type = 3) (h1 : n1.type = 3) (h2 : n2.type = 3)
    (h : DataW.trod enc Try.prog w base spare held fuel t cs = some x) :
    ∃ (A : Option Addr) (len cap : Nat) (f : Nat → Int × Int × Int), cs = [.slice A len cap] ∧ len ≤ cap ∧ cap ≤ maxLen ∧ (0 < len → ∃ b off, A = some ⟨b, off, none⟩ ∧ b < w.heap.size ∧
      ∀ i, i < len → w.cell? ⟨b, off + i * 3, none⟩ = some (.int .i64 (f i).1) ∧ w.cell? ⟨b, off + i * 3 + 1, none⟩ = some (.int .i64 (f i).2.1) ∧ w.cell? ⟨b, off + i * 3 + 2, none⟩ = some (.int .i64 (f i).2.2)) ∧ ∀ i, I64 (f i).1 ∧ I64 (f i).2.1 ∧ I64 (f i).2.2 := by
  rcases open_slice ht h with ⟨rfl, _⟩ | ⟨a, len, cap, m, n, D, Pl, rfl, hb, hl, hm, hmm, hx, hi⟩
  · exact ⟨none, 0, 0, fun _ => (0, 0, 0), rfl, Nat.le_refl _, Nat.zero_le _, fun h => absurd h (by omega), fun _ => ⟨i64_wf wf0, i64_wf wf0, i64_wf wf0⟩⟩
  · rw [hC] at hi
    have hlm : len ≤ m := by rw [hmm]; split <;> omega
    have key : ∀ i, i < len → ∃ z : Int × Int × Int, w.cell? (a.add (i * 3)) = some (.int .i64 z.1) ∧ w.cell? ((a.add (i * 3)).add 1) = some (.int .i64 z.2.1) ∧ w.cell? ((a.add (i * 3)).add 2) = some (.int .i64 z.2.2) ∧ I64 z.1 ∧ I64 z.2.1 ∧ I64 z.2.2 := by
      intro i hil
      obtain ⟨cs', hc, ht'⟩ := hi i (by omega)
      obtain ⟨ys, n', hn', hy, hlen, hyl, hf⟩ := DataW.trod_struct he ht'
      obtain ⟨_, hcl, hat⟩ := World.cells?_some hc
      obtain ⟨c0, c1, c2, rfl⟩ := list3 hcl
      obtain ⟨y0, y1, y2, rfl⟩ := list3 hyl
      obtain ⟨o0, k0⟩ := hone_of hone 0 n0 rfl
      obtain ⟨o1, k1⟩ := hone_of hone 1 n1 rfl
      obtain ⟨o2, k2⟩ := hone_of hone 2 n2 rfl
      have g0 := hf 0 n0 rfl
      have g1 := hf 1 n1 rfl
      have g2 := hf 2 n2 rfl
      rw [o0, k0, h0] at g0
      rw [o1, k1, h1] at g1
      rw [o2, k2, h2] at g2
      obtain ⟨z0, e0, _, w0⟩ := DataW.trod_int Try.underlying3 g0
      obtain ⟨z1, e1, _, w1⟩ := DataW.trod_int Try.underlying3 g1
      obtain ⟨z2, e2, _, w2⟩ := DataW.trod_int Try.underlying3 g2
      simp at e0 e1 e2
      subst e0 e1 e2
      refine ⟨(z0, z1, z2), ?_, ?_, ?_, i64_wf w0, i64_wf w1, i64_wf w2⟩
      · have := hat 0 (by simp); simpa [Addr.add] using this
      · have := hat 1 (by simp); simpa using this
      · have := hat 2 (by simp); simpa using this
    have key' : ∀ i, ∃ z : Int × Int × Int, (i < len → w.cell? (a.add (i * 3)) = some (.int .i64 z.1) ∧ w.cell? ((a.add (i * 3)).add 1) = some (.int .i64 z.2.1) ∧ w.cell? ((a.add (i * 3)).add 2) = some (.int .i64 z.2.2)) ∧ I64 z.1 ∧ I64 z.2.1 ∧ I64 z.2.2 := by
      intro i
      by_cases hil : i < len
      · obtain ⟨z, e0, e1, e2, b⟩ := key i hil
        exact ⟨z, fun _ => ⟨e0, e1, e2⟩, b⟩
      · exact ⟨(0, 0, 0), fun h => absurd h hil, i64_wf wf0, i64_wf wf0, i64_wf wf0⟩
    obtain ⟨f, hf⟩ := Classical.axiomOfChoice key'
    refine ⟨some a, len, cap, f, rfl, hl, hm, fun hpos => ?_, fun i => (hf i).2⟩
    have h0' := ((hf 0).1 hpos).1
    obtain ⟨hlt, hsp⟩ := cell_lt h0'
    simp [Addr.add] at hlt hsp
    obtain ⟨b, off, sp⟩ := a
    simp at hlt hsp
    subst hsp
    refine ⟨b, off, rfl, hlt, fun i hil => ?_⟩
    obtain ⟨e0, e1, e2⟩ := (hf i).1 hil
    rw [add_none] at e0 e1 e2
    rw [add_none] at e1 e2
    exact ⟨e0, e1, e2⟩

def Big (l : List HAct) : Prop := ∀ a ∈ l, I64 a.kind ∧ I64 a.ion ∧ I64 a.heat
theorem open_acts {fuel : Nat} {cs : List Value} {x : DataW H × List MemPlace} (h : DataW.trod enc Try.prog w base spare held fuel 22 cs = some x) :
    ∃ (A : Option Addr) (len cap : Nat) (l : List HAct), cs = [.slice A len cap] ∧ len ≤ cap ∧ cap ≤ maxLen ∧ Rd w w.heap.size 3 A len (actCells l) ∧ Big l := by
  obtain ⟨A, len, cap, f, hcs, h1, h2, h3, h4⟩ := open_three Try.underlying22 Try.underlying48 (by kernel_rfl) (by kernel_rfl) rfl rfl rfl h
  refine ⟨A, len, cap, (List.range len).map fun i => ⟨(f i).1, (f i).2.1, (f i).2.2⟩, hcs, h1, h2, ⟨by simp [actCells_length], fun hpos => ?_⟩, ?_⟩
  · obtain ⟨b, off, rfl, hb, hc⟩ := h3 hpos
    refine ⟨b, off, rfl, hb, fun j u hu => ?_⟩
    have hj : j < len * 3 := by
      have := (List.getElem?_eq_some_iff.1 hu).1
      simpa [actCells_length] using this
    have hq : j / 3 < len := by omega
    have e : j = j / 3 * 3 + j % 3 := by omega
    have hr : j % 3 < 3 := by omega
    rw [e] at hu ⊢
    rw [acts_get _ _ _ (by simpa using hq) hr] at hu
    obtain ⟨c0, c1, c2⟩ := hc _ hq
    simp only [List.getElem_map, List.getElem_range, actCell] at hu
    generalize j % 3 = r at *
    match r, hr with
    | 0, _ => simp only [List.getElem?_cons_zero, List.getElem?_cons_succ, Option.some.injEq] at hu; subst hu; exact c0
    | 1, _ => simp only [List.getElem?_cons_zero, List.getElem?_cons_succ, Option.some.injEq] at hu; subst hu; exact c1
    | 2, _ => simp only [List.getElem?_cons_zero, List.getElem?_cons_succ, Option.some.injEq] at hu; subst hu; exact c2
  · intro a ha
    simp at ha
    obtain ⟨i, _, rfl⟩ := ha
    exact h4 i
theorem open_wins {fuel : Nat} {cs : List Value} {x : DataW H × List MemPlace} (h : DataW.trod enc Try.prog w base spare held fuel 29 cs = some x) :
    ∃ (A : Option Addr) (len cap : Nat) (l : List HWin), cs = [.slice A len cap] ∧ len ≤ cap ∧ cap ≤ maxLen ∧ Rd w w.heap.size 3 A len (winCells l) ∧ ∀ a ∈ l, I64 a.ion ∧ I64 a.frm ∧ I64 a.to := by
  obtain ⟨A, len, cap, f, hcs, h1, h2, h3, h4⟩ := open_three Try.underlying29 Try.underlying67 (by kernel_rfl) (by kernel_rfl) rfl rfl rfl h
  refine ⟨A, len, cap, (List.range len).map fun i => ⟨(f i).1, (f i).2.1, (f i).2.2⟩, hcs, h1, h2, ⟨by simp [winCells_length], fun hpos => ?_⟩, ?_⟩
  · obtain ⟨b, off, rfl, hb, hc⟩ := h3 hpos
    refine ⟨b, off, rfl, hb, fun j u hu => ?_⟩
    have hj : j < len * 3 := by
      have := (List.getElem?_eq_some_iff.1 hu).1
      simpa [winCells_length] using this
    have hq : j / 3 < len := by omega
    have e : j = j / 3 * 3 + j % 3 := by omega
    have hr : j % 3 < 3 := by omega
    rw [e] at hu ⊢
    rw [wins_get _ _ _ (by simpa using hq) hr] at hu
    obtain ⟨c0, c1, c2⟩ := hc _ hq
    simp only [List.getElem_map, List.getElem_range, winCell] at hu
    generalize j % 3 = r at *
    match r, hr with
    | 0, _ => simp only [List.getElem?_cons_zero, List.getElem?_cons_succ, Option.some.injEq] at hu; subst hu; exact c0
    | 1, _ => simp only [List.getElem?_cons_zero, List.getElem?_cons_succ, Option.some.injEq] at hu; subst hu; exact c1
    | 2, _ => simp only [List.getElem?_cons_zero, List.getElem?_cons_succ, Option.some.injEq] at hu; subst hu; exact c2
  · intro a ha
    simp at ha
    obtain ⟨i, _, rfl⟩ := ha
    exact h4 i
end
end Go.Proofs.Ytkeolmipdoeljaa
