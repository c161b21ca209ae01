/-
  WORDS FOR TABLES THAT CAME IN. No program is named.
-/
import Derived.Test.YtlhbmfaoldajdaaTab
namespace Go.Proofs.Ytlhbmfaoldajdaa
open Go.RowKit

/-- The slice of slices reads as the table ps; all of it lies below B. -/
def TRd (w : World) (B : Nat) (A : Option Addr) (k : Nat) (ps : List (List Int)) : Prop := ∃ vs, Rd w B 1 A k vs ∧ Tab w B (fun _ => False) vs ps
section
variable {w w' : World} {B B' k : Nat} {A : Option Addr} {ps : List (List Int)}
theorem TRd.len (h : TRd w B A k ps) : k = ps.length := by obtain ⟨vs, h1, h2⟩ := h; have := h1.1; have := h2.1; omega
theorem TRd.more (h : TRd w B A k ps) (hB : B ≤ B') : TRd w B' A k ps := by obtain ⟨vs, h1, h2⟩ := h; exact ⟨vs, h1.more hB, h2.more hB⟩
theorem TRd.below (h : TRd w B A k ps) (hb : Below B w w') : TRd w' B A k ps := by obtain ⟨vs, h1, h2⟩ := h; exact ⟨vs, h1.below hb, h2.below hb (Nat.le_refl _)⟩
theorem TRd.below' (h : TRd w B A k ps) (hb : Below B' w w') (hB : B ≤ B') : TRd w' B A k ps := h.below (hb.mono hB)
theorem TRd.alloc (h : TRd w B A k ps) (hB : B ≤ w.heap.size) (o : Obj) : TRd (w.alloc o) B A k ps := h.below ((Below.refl B w).alloc hB o)
theorem TRd.drewN (h : TRd w B A k ps) (n : Nat) : TRd (w.drewN n) B A k ps := h
theorem TRd.nil : TRd w B none 0 [] := ⟨[], Rd.nil, Tab.nil⟩
/-- Row i: the header's cell, and what it reads as. -/
theorem TRd.row (h : TRd w B A k ps) {i : Nat} (hi : i < ps.length) : ∃ b off A' c', A = some ⟨b, off, none⟩ ∧ b < B ∧ w.cell? ⟨b, off + i, none⟩ = some (.slice A' ps[i].length c') ∧ ps[i].length ≤ c' ∧ c' ≤ maxLen ∧ Rd w B 1 A' ps[i].length (ints ps[i]) := by
  obtain ⟨vs, h1, h2⟩ := h
  obtain ⟨v, hv, hr⟩ := h2.row hi
  obtain ⟨A', c', rfl, g1, g2, g3⟩ := hr.read
  obtain ⟨b, off, e, hb, hc⟩ := h1.head hv
  exact ⟨b, off, A', c', e, hb, hc, g1, g2, g3⟩
theorem TRd.rowAt {b off : Nat} {f : Option Nat} (h : TRd w B (some ⟨b, off, f⟩) k ps) {i : Nat} (hi : i < ps.length) : ∃ A' c', f = none ∧ b < B ∧ w.cell? ⟨b, off + i, none⟩ = some (.slice A' ps[i].length c') ∧ ps[i].length ≤ c' ∧ c' ≤ maxLen ∧ Rd w B 1 A' ps[i].length (ints ps[i]) := by
  obtain ⟨b', off', A', c', e, h1, h2, h3, h4, h5⟩ := h.row hi
  injection e with e
  injection e with e1 e2 e3
  subst e1 e2 e3
  exact ⟨A', c', rfl, h1, h2, h3, h4, h5⟩
/-- A table of the call's own. -/
theorem TRd.of_own {base : Nat} {e : TypeId} {c : Nat} {vs : List Value} {X : Nat → Prop} (h : w.ownsRow base e 1 (.slice A k c) k vs) (ht : Tab w w.heap.size X vs ps) : TRd w w.heap.size A k ps :=
  ⟨vs, Rd.of_own h, ht.at fun _ h => h.elim⟩
end
end Go.Proofs.Ytlhbmfaoldajdaa
