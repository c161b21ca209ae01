/-
  ARGUMENTS OPENED: slices of ints, slices of structs of two ints, as they come in.
-/
import Derived.Test.YtlhbmfaoldajdaaRows
import Derived.WalkKit
import Derived.ProofKit
import Derived.OpenShut
import Derived.ShutString
import Derived.ChangeOld
import Derived.Below
import Derived.Deep.Slices
import Derived.Deep.Fields
import Derived.ChangeSame
import Derived.Lib.SmallJoins
import Derived.Test.YtlhbmfaoldajdaaTabR
import Derived.Test.YtlhbmfaoldajdaaW2
namespace Go.Proofs.Ytlhbmfaoldajdaa
open Go.ChangeShapes Go.WideShapes Go.ChangeAt Go.RowKit Go.Deep

theorem ownKnob_none : ownKnob Try.prog.godebug = none := by kernel_rfl
theorem laidOut : laidOutB Try.prog = true := by kernel_rfl

def I64 (n : Int) : Prop := -9223372036854775808 ≤ n ∧ n ≤ 9223372036854775807
theorem i64_wf {n : Int} (h : (Lit.int .i64 n).wf = true) : I64 n := by
  have h1 : IntKind.min .i64 = -9223372036854775808 := by decide
  have h2 : IntKind.max .i64 = 9223372036854775807 := by decide
  simp only [Lit.wf, h1, h2, Bool.and_eq_true, decide_eq_true_eq] at h
  exact h

theorem cell_lt_sp {w : World} {a : Addr} {v : Value} (h : w.cell? a = some v) : a.block < w.heap.size ∧ a.spot = none := by
  unfold World.cell? at h
  split at h
  · rename_i hb
    refine ⟨(Array.getElem?_eq_some_iff.1 hb).1, ?_⟩
    split at h
    · cases h
    · rename_i hs
      cases hsp : a.spot with
      | none => rfl
      | some _ => simp [hsp] at hs
  · cases h

theorem wf0 : (Lit.int .i64 0).wf = true := by decide
theorem add_none (b off k : Nat) : Addr.add ⟨b, off, none⟩ k = ⟨b, off + k, none⟩ := by
  unfold Addr.add
  split
  · rename_i h; subst h; rfl
  · rfl
theorem list2 {α : Type} {l : List α} (h : l.length = 2) : ∃ a b, l = [a, b] := by
  match l, h with
  | [a, b], _ => exact ⟨a, b, rfl⟩
section
variable {H : Type} {enc : TypeId × Value → H} {w : World} {base : Nat} {spare : Nat → Bool} {held : Bool}
def Big (l : List Int) : Prop := ∀ a ∈ l, I64 a
/-- A slice of ints, opened. -/
theorem open_ints {t e : TypeId} {fuel : Nat} {cs : List Value} {x : DataW H × List MemPlace} (ht : Try.prog.underlying t = some (.slice e)) (he : Try.prog.underlying e = some (.int .i64)) (hC : Try.prog.cellsOf e = 1)
    (h : DataW.trod enc Try.prog w base spare held fuel t cs = some x) :
    ∃ (A : Option Addr) (len cap : Nat) (l : List Int), cs = [.slice A len cap] ∧ len ≤ cap ∧ cap ≤ maxLen ∧ Rd w w.heap.size 1 A len (ints l) ∧ Big l := by
  rcases open_slice ht h with ⟨rfl, _⟩ | ⟨a, len, cap, m, n, D, Pl, rfl, hb, hl, hm, hmm, hx, hi⟩
  · exact ⟨none, 0, 0, [], rfl, Nat.le_refl _, Nat.zero_le _, Rd.nil, fun a ha => by cases ha⟩
  · rw [hC] at hi
    have hlm : len ≤ m := by rw [hmm]; split <;> omega
    have key : ∀ i, ∃ z : Int, (i < len → w.cell? (a.add (i * 1)) = some (.int .i64 z)) ∧ I64 z := by
      intro i
      by_cases hil : i < len
      · obtain ⟨cs', hc, ht'⟩ := hi i (by omega)
        obtain ⟨z0, e0, _, w0⟩ := DataW.trod_int he ht'
        subst e0
        obtain ⟨_, hcl, hat⟩ := World.cells?_some hc
        refine ⟨z0, fun _ => ?_, i64_wf w0⟩
        have := hat 0 (by simp)
        simpa [Addr.add] using this
      · exact ⟨0, fun h => absurd h hil, i64_wf wf0⟩
    obtain ⟨f, hf⟩ := Classical.axiomOfChoice key
    refine ⟨some a, len, cap, (List.range len).map f, rfl, hl, hm, ⟨by simp, fun hpos => ?_⟩, ?_⟩
    · have h0' := (hf 0).1 hpos
      obtain ⟨hlt, hsp⟩ := cell_lt_sp h0'
      simp [Addr.add] at hlt hsp
      obtain ⟨b, off, sp⟩ := a
      simp at hlt hsp
      subst hsp
      refine ⟨b, off, rfl, hlt, fun j u hu => ?_⟩
      have hj : j < len := by
        have := (List.getElem?_eq_some_iff.1 hu).1
        simpa using this
      have e0 := (hf j).1 hj
      rw [add_none, Nat.mul_one] at e0
      rw [e0]
      simpa [hj] using hu
    · intro a ha
      simp at ha
      obtain ⟨i, _, rfl⟩ := ha
      exact (hf i).2
/-- A slice of structs of two ints, opened. -/
theorem open_pairs {t e : TypeId} {n0 n1 : Field} {fuel : Nat} {cs : List Value} {x : DataW H × List MemPlace} (ht : Try.prog.underlying t = some (.slice e)) (he : Try.prog.underlying e = some (.struct #[n0, n1]))
    (hone : oneCellFields Try.prog #[n0, n1] = true) (hC : Try.prog.cellsOf e = 2) (h0 : n0.type = 3) (h1 : n1.type = 3)
    (h : DataW.trod enc Try.prog w base spare held fuel t cs = some x) :
    ∃ (A : Option Addr) (len cap : Nat) (l : List (Int × Int)), cs = [.slice A len cap] ∧ len ≤ cap ∧ cap ≤ maxLen ∧ Rd w w.heap.size 2 A len (prs l) := by
  rcases open_slice ht h with ⟨rfl, _⟩ | ⟨a, len, cap, m, n, D, Pl, rfl, hb, hl, hm, hmm, hx, hi⟩
  · exact ⟨none, 0, 0, [], rfl, Nat.le_refl _, Nat.zero_le _, Rd.nil⟩
  · rw [hC] at hi
    have hlm : len ≤ m := by rw [hmm]; split <;> omega
    have key : ∀ i, ∃ z : Int × Int, i < len → w.cell? (a.add (i * 2)) = some (.int .i64 z.1) ∧ w.cell? ((a.add (i * 2)).add 1) = some (.int .i64 z.2) := by
      intro i
      by_cases hil : i < len
      · obtain ⟨cs', hc, ht'⟩ := hi i (by omega)
        obtain ⟨ys, n', hn', hy, hlen, hyl, hf⟩ := DataW.trod_struct he ht'
        obtain ⟨_, hcl, hat⟩ := World.cells?_some hc
        obtain ⟨c0, c1, rfl⟩ := list2 hcl
        obtain ⟨y0, y1, rfl⟩ := list2 hyl
        obtain ⟨o0, k0⟩ := hone_of hone 0 n0 rfl
        obtain ⟨o1, k1⟩ := hone_of hone 1 n1 rfl
        have g0 := hf 0 n0 rfl
        have g1 := hf 1 n1 rfl
        rw [o0, k0, h0] at g0
        rw [o1, k1, h1] at g1
        obtain ⟨z0, e0, _, w0⟩ := DataW.trod_int Try.underlying3 g0
        obtain ⟨z1, e1, _, w1⟩ := DataW.trod_int Try.underlying3 g1
        simp at e0 e1
        subst e0 e1
        refine ⟨(z0, z1), fun _ => ⟨?_, ?_⟩⟩
        · have := hat 0 (by simp); simpa [Addr.add] using this
        · have := hat 1 (by simp); simpa using this
      · exact ⟨(0, 0), fun h => absurd h hil⟩
    obtain ⟨f, hf⟩ := Classical.axiomOfChoice key
    refine ⟨some a, len, cap, (List.range len).map f, rfl, hl, hm, ⟨by rw [prs_len]; simp, fun hpos => ?_⟩⟩
    have h0' := (hf 0 hpos).1
    obtain ⟨hlt, hsp⟩ := cell_lt_sp h0'
    simp [Addr.add] at hlt hsp
    obtain ⟨b, off, sp⟩ := a
    simp at hlt hsp
    subst hsp
    refine ⟨b, off, rfl, hlt, fun j u hu => ?_⟩
    have hj : j < len * 2 := by
      have := (List.getElem?_eq_some_iff.1 hu).1
      rw [prs_len] at this
      simpa using this
    have hq : j / 2 < len := by omega
    obtain ⟨e0, e1⟩ := hf _ hq
    rw [add_none] at e0 e1
    rw [add_none] at e1
    obtain ⟨g0, g1⟩ := prs_get (l := (List.range len).map f) (i := j / 2) (by simpa using hq)
    simp only [List.getElem_map, List.getElem_range] at g0 g1
    rcases Nat.mod_two_eq_zero_or_one j with hj0 | hj0
    · have e : j = j / 2 * 2 := by omega
      rw [e] at hu
      rw [g0] at hu
      rw [e, ← Option.some.inj hu]
      exact e0
    · have e : j = j / 2 * 2 + 1 := by omega
      rw [e] at hu
      rw [g1] at hu
      rw [e, ← Option.some.inj hu, ← Nat.add_assoc]
      exact e1
end
end Go.Proofs.Ytlhbmfaoldajdaa
