/-
  A REGION THAT DRAWS ITS ORDER: quiet operations first, then a forced tail: one walk of the quiet head by the cheap quiet step, then the tail as a list.
-/
import Derived.BigQuiet
import Derived.StillTail
namespace Go.Proofs.Ytlhbmfaoldajdaa
open Go

section
variable {P : Program} {ops : Array Oper} {w : World}
theorem still_of_quiet {o : Oper} {a : Act} {K : Act → Prop} (h : o.quiet P a (fun w' => w' = w) K) : o.still P a w K := by
  obtain ⟨v, h1, h2⟩ := h
  have h3 := h1 w rfl
  unfold Oper.quietAt at h3
  unfold Oper.still
  generalize (execOp a.eval o).run P w = r at *
  cases r with
  | ok n w' =>
    cases n <;> simp only [Oper.quietUpon] at h3 <;> simp only [Oper.stillUpon]
    case value u => exact ⟨h3.1, by rw [h3.2]; exact h2⟩
    case skip => exact ⟨h3.1, by rw [← h3.2]; exact h2⟩
    case enter f args => exact ⟨h3.1, v, h3.2, h2⟩
  | halt x w' => simp only [Oper.quietUpon] at h3
theorem wpStill_of_quiet {Q : Act → Prop} : ∀ (l : List Oper) (a : Act), wpQuiet P ops (fun w' => w' = w) Q l a → wpStill P ops w Q l a
  | [], _, h => h
  | o :: rest, a, h => by
    unfold wpQuiet at h
    unfold wpStill
    split
    · rename_i hw
      rw [if_pos hw] at h
      exact Oper.still_mono (wpStill_of_quiet rest) (still_of_quiet h)
    · rename_i hw
      rw [if_neg hw] at h
      exact wpStill_of_quiet rest _ h
theorem wp_region_qtail {id : Nat} {Q : Exit → Act → World → Prop} {a : Act} {l : List Oper} (n : Nat) (hm : P.follows .mixedOrders = true) (hB : Region.lexTailB .any l.toArray n = true)
    (h : wpQuiet P l.toArray (fun w' => w' = w.drew) (fun a' => wpList P l.toArray Q (l.drop n) a' w.drew) (l.take n) a) : (Code.region id l.toArray true).wp P Q a w :=
  wp_region_still_tail n hm hB (wpStill_of_quiet _ _ h)
end
end Go.Proofs.Ytlhbmfaoldajdaa
