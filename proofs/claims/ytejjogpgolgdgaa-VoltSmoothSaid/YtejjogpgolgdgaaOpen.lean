/-
  ARGUMENTS OPENED: slices of ints, tables, as they come in.
-/
import Derived.Test.YtejjogpgolgdgaaRows
import Derived.WalkKit
import Derived.ProofKit
import Derived.OpenShut
import Derived.ShutString
import Derived.ChangeOld
import Derived.Below
import Derived.Deep.Slices
import Derived.Deep.Fields
import Derived.ChangeSame
import Derived.Lib.SmallJoins
import Derived.Test.YtejjogpgolgdgaaTabR
namespace Go.Proofs.Ytejjogpgolgdgaa
open Go.ChangeShapes Go.WideShapes Go.ChangeAt Go.RowKit Go.Deep

theorem ownKnob_none : ownKnob Try.prog.godebug = none := by kernel_rfl
theorem laidOut : laidOutB Try.prog = true := by kernel_rfl

def I64 (n : Int) : Prop := -9223372036854775808 ≤ n ∧ n ≤ 9223372036854775807
theorem i64_wf {n : Int} (h : (Lit.int .i64 n).wf = true) : I64 n := by
  have h1 : IntKind.min .i64 = -9223372036854775808 := by decide
  have h2 : IntKind.max .i64 = 9223372036854775807 := by decide
  simp only [Lit.wf, h1, h2, Bool.and_eq_true, decide_eq_true_eq] at h
  exact h

theorem cell_lt {w : World} {a : Addr} {v : Value} (h : w.cell? a = some v) : a.block < w.heap.size ∧ a.spot = none := by
  unfold World.cell? at h
  split at h
  · rename_i hb
    refine ⟨(Array.getElem?_eq_some_iff.1 hb).1, ?_⟩
    split at h
    · cases h
    · rename_i hs
      cases hsp : a.spot with
      | none => rfl
      | some _ => simp [hsp] at hs
  · cases h

theorem wf0 : (Lit.int .i64 0).wf = true := by decide
theorem add_none (b off k : Nat) : Addr.add ⟨b, off, none⟩ k = ⟨b, off + k, none⟩ := by
  unfold Addr.add
  split
  · rename_i h; subst h; rfl
  · rfl
section
variable {H : Type} {enc : TypeId × Value → H} {w : World} {base : Nat} {spare : Nat → Bool} {held : Bool}
def Big (l : List Int) : Prop := ∀ a ∈ l, I64 a
/-- A slice of ints, opened. -/
theorem open_ints {t e : TypeId} {fuel : Nat} {cs : List Value} {x : DataW H × List MemPlace} (ht : Try.prog.underlying t = some (.slice e)) (he : Try.prog.underlying e = some (.int .i64)) (hC : Try.prog.cellsOf e = 1)
    (h : DataW.trod enc Try.prog w base spare held fuel t cs = some x) :
    ∃ (A : Option Addr) (len cap : Nat) (l : List Int), cs = [.slice A len cap] ∧ len ≤ cap ∧ cap ≤ maxLen ∧ Rd w w.heap.size 1 A len (ints l) ∧ Big l := by
  rcases open_slice ht h with ⟨rfl, _⟩ | ⟨a, len, cap, m, n, D, Pl, rfl, hb, hl, hm, hmm, hx, hi⟩
  · exact ⟨none, 0, 0, [], rfl, Nat.le_refl _, Nat.zero_le _, Rd.nil, fun a ha => by cases ha⟩
  · rw [hC] at hi
    have hlm : len ≤ m := by rw [hmm]; split <;> omega
    have key : ∀ i, ∃ z : Int, (i < len → w.cell? (a.add (i * 1)) = some (.int .i64 z)) ∧ I64 z := by
      intro i
      by_cases hil : i < len
      · obtain ⟨cs', hc, ht'⟩ := hi i (by omega)
        obtain ⟨z0, e0, _, w0⟩ := DataW.trod_int he ht'
        subst e0
        obtain ⟨_, hcl, hat⟩ := World.cells?_some hc
        refine ⟨z0, fun _ => ?_, i64_wf w0⟩
        have := hat 0 (by simp)
        simpa [Addr.add] using this
      · exact ⟨0, fun h => absurd h hil, i64_wf wf0⟩
    obtain ⟨f, hf⟩ := Classical.axiomOfChoice key
    refine ⟨some a, len, cap, (List.range len).map f, rfl, hl, hm, ⟨by simp, fun hpos => ?_⟩, ?_⟩
    · have h0' := (hf 0).1 hpos
      obtain ⟨hlt, hsp⟩ := cell_lt h0'
      simp [Addr.add] at hlt hsp
      obtain ⟨b, off, sp⟩ := a
      simp at hlt hsp
      subst hsp
      refine ⟨b, off, rfl, hlt, fun j u hu => ?_⟩
      have hj : j < len := by
        have := (List.getElem?_eq_some_iff.1 hu).1
        simpa using this
      have e0 := (hf j).1 hj
      rw [add_none, Nat.mul_one] at e0
      rw [e0]
      simpa [hj] using hu
    · intro a ha
      simp at ha
      obtain ⟨i, _, rfl⟩ := ha
      exact (hf i).2
/-- A table of ints, opened. -/
theorem open_table {fuel : Nat} {cs : List Value} {x : DataW H × List MemPlace} (h : DataW.trod enc Try.prog w base spare held fuel 22 cs = some x) :
    ∃ (A : Option Addr) (len cap : Nat) (ps : List (List Int)), cs = [.slice A len cap] ∧ len ≤ cap ∧ cap ≤ maxLen ∧ TRd w w.heap.size A len ps ∧ (∀ l ∈ ps, l.length ≤ maxLen) := by
  have hC : Try.prog.cellsOf 23 = 1 := by kernel_rfl
  rcases open_slice Try.underlying22 h with ⟨rfl, _⟩ | ⟨a, len, cap, m, n, D, Pl, rfl, hb, hl, hm, hmm, hx, hi⟩
  · exact ⟨none, 0, 0, [], rfl, Nat.le_refl _, Nat.zero_le _, TRd.nil, fun a ha => by cases ha⟩
  · rw [hC] at hi
    have hlm : len ≤ m := by rw [hmm]; split <;> omega
    have key : ∀ i, ∃ y : Value × List Int, i < len → w.cell? (a.add (i * 1)) = some y.1 ∧ RowAt w w.heap.size (fun _ => False) y.1 y.2 ∧ y.2.length ≤ maxLen := by
      intro i
      by_cases hil : i < len
      · obtain ⟨cs', hc, ht'⟩ := hi i (by omega)
        obtain ⟨A', l', c', zs, hcs, e1, e2, e3, e4⟩ := open_ints Try.underlying23 Try.underlying3 (by kernel_rfl) ht'
        obtain ⟨_, hcl, hat⟩ := World.cells?_some hc
        obtain rfl := e3.int_len
        refine ⟨(.slice A' zs.length c', zs), fun _ => ⟨?_, ⟨A', c', rfl, e1, e2, e3, fun _ _ _ _ _ h => h⟩, Nat.le_trans e1 e2⟩⟩
        have := hat 0 (by simp)
        rw [hcs] at this
        simpa [Addr.add] using this
      · exact ⟨(.slice none 0 0, []), fun h => absurd h hil⟩
    obtain ⟨f, hf⟩ := Classical.axiomOfChoice key
    have hspot : 0 < len → a.spot = none ∧ a.block < w.heap.size := fun hpos => by
      obtain ⟨hlt, hsp⟩ := cell_lt (hf 0 hpos).1
      simp [Addr.add] at hlt hsp
      exact ⟨hsp, hlt⟩
    refine ⟨some a, len, cap, ((List.range len).map f).map (·.2), rfl, hl, hm, ⟨((List.range len).map f).map (·.1), ⟨by simp, fun hpos => ?_⟩, ⟨by simp, fun i v p hv hp => ?_⟩⟩, ?_⟩
    · obtain ⟨hsp, hlt⟩ := hspot hpos
      obtain ⟨b, off, sp⟩ := a
      simp at hlt hsp
      subst hsp
      refine ⟨b, off, rfl, hlt, fun j u hu => ?_⟩
      have hj : j < len := by
        have := (List.getElem?_eq_some_iff.1 hu).1
        simpa using this
      have e0 := (hf j hj).1
      rw [add_none, Nat.mul_one] at e0
      rw [e0]
      simpa [hj] using hu
    · have hi : i < len := by
        have := (List.getElem?_eq_some_iff.1 hv).1
        simpa using this
      have e0 := (hf i hi).2.1
      simp [hi] at hv hp
      subst hv hp
      exact e0
    · intro l hl
      simp at hl
      obtain ⟨i, hi, rfl⟩ := hl
      exact (hf i hi).2.2
end
end Go.Proofs.Ytejjogpgolgdgaa
