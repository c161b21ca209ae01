/-
  MERGED: W3, W4.
-/
import Derived.Test.YtnoocdannfeidaaK4
import Derived.RangeFuncNested
import Derived.RangeFuncBound
import Derived.RangeFuncCalls
import Derived.RangeFuncLeaves
import Derived.Shelf.Abstract
import Derived.Shelf.RegionOpen
import Derived.WalkKit
import Derived.OwnWalkIn
import Derived.TacticsInMore
import Derived.LoopNIn
import Derived.LoopIn
/-
  WALKS: which lists are sets of modes.
-/
namespace Go.Proofs.Ytnoocdannfeidaa
open Go.RowKit Pulse

theorem below_drewN {B : Nat} {w w' : World} (h : Below B w w') (n : Nat) : Below B w (w'.drewN n) := by
  induction n with
  | zero => exact h
  | succ n ih => rw [← World.drew_drewN]; exact ih.drew
/-- Is place q right: a mode, greater than the one before it? -/
def prevLt (l : List Int) : Nat → Bool
  | 0 => true
  | p + 1 => decide (l.getD p 0 < l.getD (p + 1) 0)
def okAt (l : List Int) (q : Nat) : Bool := isMode (l.getD q 0) && prevLt l q
def setTo (l : List Int) : Nat → Bool
  | 0 => true
  | q + 1 => setTo l q && okAt l q
def areModes (l : List Int) : Bool := decide (0 < l.length) && setTo l l.length
theorem setTo_false (l : List Int) (q : Nat) (h : setTo l q = false) : ∀ r, q ≤ r → setTo l r = false := by
  intro r hr
  induction r with
  | zero =>
    obtain rfl : q = 0 := by omega
    exact h
  | succ r ih =>
    by_cases e : q = r + 1
    · rw [← e]; exact h
    · rw [setTo, ih (by omega)]; rfl
theorem getD_eq {l : List Int} {q : Nat} (h : q < l.length) : l.getD q 0 = l[q] := by simp [h]
theorem setTo_modes (l : List Int) : ∀ q, q ≤ l.length → setTo l q = true → ∀ i (hi : i < l.length), i < q → 0 ≤ l[i] ∧ l[i] ≤ 3 := by
  intro q
  induction q with
  | zero => intro _ _ i _ h; omega
  | succ q ih =>
    intro hq h i hi hlt
    rw [setTo, Bool.and_eq_true] at h
    by_cases e : i = q
    · subst e
      have := h.2
      rw [okAt, Bool.and_eq_true] at this
      have := this.1
      rw [getD_eq hi] at this
      simpa [isMode] using this
    · exact ih (by omega) h.1 i hi (by omega)
theorem areModes_ok {l : List Int} (h : areModes l = true) : 0 < l.length ∧ ∀ m ∈ l, 0 ≤ m ∧ m ≤ 3 := by
  rw [areModes, Bool.and_eq_true, decide_eq_true_eq] at h
  refine ⟨h.1, fun m hm => ?_⟩
  obtain ⟨i, hi, rfl⟩ := List.mem_iff_getElem.1 hm
  exact setTo_modes l _ (Nat.le_refl _) h.2 i hi hi

theorem pmoded (A : Option Addr) (k c : Nat) (l : List Int) (m : Int) (w : World) (hl : l.length ≤ 1000) (B : Nat) (hB : B ≤ w.heap.size) (hr : Rd w B 1 A k (ints l)) :
    Calls Try.prog 56 #[.slice A k c, .int .i64 m] w fun e w' => e = .returned (.int .i64 (moded l m)) ∧ Below w.heap.size w w' := by
  have H := Lib.hid (pValidate A k c l w hl B hB hr)
  by_cases h : vald l = 0
  · have HV := Lib.hid h
    have HM := Lib.hid (show moded l m = if isMode m then 0 else 1 by rw [moded, if_pos h])
    clear h
    cases hm : isMode m with
    | true =>
      have HX := Lib.hid (show moded l m = 0 by rw [HM.out, hm]; rfl)
      have HI := Lib.hid hm
      clear hm
      go_enter Try.func56, Try.ntmps56
      go_wp2_with fail
      refine H.out.mono ?_
      rw [HV.out]
      rintro e w1 ⟨rfl, hb⟩
      go_wp2_with fail
      refine (pisMode _ _).mono ?_
      rw [HI.out]
      rintro e w2 ⟨rfl, rfl⟩
      go_wp2
      go_ret
      exact ⟨ret_int HX.out.symm, hb⟩
    | false =>
      have HX := Lib.hid (show moded l m = 1 by rw [HM.out, hm]; rfl)
      have HI := Lib.hid hm
      clear hm
      go_enter Try.func56, Try.ntmps56
      go_wp2_with fail
      refine H.out.mono ?_
      rw [HV.out]
      rintro e w1 ⟨rfl, hb⟩
      go_wp2_with fail
      refine (pisMode _ _).mono ?_
      rw [HI.out]
      rintro e w2 ⟨rfl, rfl⟩
      go_wp2
      go_ret
      exact ⟨ret_int HX.out.symm, hb⟩
  · have d1 : (vald l == 0) = false := by simpa using h
    have d2 : (vald l != 0) = true := by simpa using h
    have HX := Lib.hid (show moded l m = vald l by rw [moded, if_neg h])
    clear h
    go_enter Try.func56, Try.ntmps56
    go_wp2_with fail
    refine H.out.mono ?_
    rintro e w1 ⟨rfl, hb⟩
    go_wp2
    go_ret
    exact ⟨ret_int HX.out.symm, hb⟩

theorem rmoded (A : Option Addr) (k c : Nat) (l : List Int) (m : Int) (w : World) (hl : l.length ≤ 1000) (B : Nat) (hB : B ≤ w.heap.size) (hr : Rd w B 1 A k (ints l)) :
    Calls Try.prog 58 #[.slice A k c, .int .i64 m] w fun e w' => e = .returned (.int .i64 (moded l m)) ∧ Below w.heap.size w w' := by
  have H := Lib.hid (rValidate A k c l w hl B hB hr)
  by_cases h : vald l = 0
  · have HV := Lib.hid h
    have HM := Lib.hid (show moded l m = if isMode m then 0 else 1 by rw [moded, if_pos h])
    clear h
    cases hm : isMode m with
    | true =>
      have HX := Lib.hid (show moded l m = 0 by rw [HM.out, hm]; rfl)
      have HI := Lib.hid hm
      clear hm
      go_enter Try.func58, Try.ntmps58
      go_wp2_with fail
      refine H.out.mono ?_
      rw [HV.out]
      rintro e w1 ⟨rfl, hb⟩
      go_wp2_with fail
      refine (rwithin _ _ _ _).mono ?_
      rw [show (decide (0 ≤ m) && decide (m ≤ 3)) = true from HI.out]
      rintro e w2 ⟨rfl, rfl⟩
      go_wp2
      go_ret
      exact ⟨ret_int HX.out.symm, hb⟩
    | false =>
      have HX := Lib.hid (show moded l m = 1 by rw [HM.out, hm]; rfl)
      have HI := Lib.hid hm
      clear hm
      go_enter Try.func58, Try.ntmps58
      go_wp2_with fail
      refine H.out.mono ?_
      rw [HV.out]
      rintro e w1 ⟨rfl, hb⟩
      go_wp2_with fail
      refine (rwithin _ _ _ _).mono ?_
      rw [show (decide (0 ≤ m) && decide (m ≤ 3)) = false from HI.out]
      rintro e w2 ⟨rfl, rfl⟩
      go_wp2
      go_ret
      exact ⟨ret_int HX.out.symm, hb⟩
  · have d1 : (vald l == 0) = false := by simpa using h
    have d2 : (vald l != 0) = true := by simpa using h
    have HX := Lib.hid (show moded l m = vald l by rw [moded, if_neg h])
    clear h
    go_enter Try.func58, Try.ntmps58
    go_wp2_with fail
    refine H.out.mono ?_
    rintro e w1 ⟨rfl, hb⟩
    go_wp2
    go_ret
    exact ⟨ret_int HX.out.symm, hb⟩

set_option maxHeartbeats 1000000 in
theorem pisModes (A : Option Addr) (k c : Nat) (l : List Int) (w : World) (hl : l.length ≤ 1000) (B : Nat) (hB : B ≤ w.heap.size) (hr : Rd w B 1 A k (ints l)) :
    Calls Try.prog 71 #[.slice A k c] w fun e w' => e = .returned (.bool (areModes l)) ∧ Below w.heap.size w w' := by
  obtain rfl := hr.int_len
  have HAM := Lib.hid (show areModes l = (decide (0 < l.length) && setTo l l.length) from rfl)
  have HF := Lib.hid (fun q (h : setTo l q = false) (hq : q ≤ l.length) => show areModes l = false by rw [areModes, setTo_false l q h _ hq]; simp)
  go_enter Try.func71, Try.ntmps71
  go_wp2
  go_loopw [7] (fun i wr => ∃ q : Nat, q ≤ l.length ∧ i = .int .i64 q ∧ Below w.heap.size w wr ∧ Hid (setTo l q = true)) (fun i _ => l.length - (intOf i).toNat)
  case atStart => exact ⟨0, Nat.zero_le _, rfl, Below.refl _ _, rfl⟩
  case round =>
    obtain ⟨q, hq, rfl, hb, hall⟩ := hrel
    by_cases hlt : q < l.length
    · obtain ⟨b, off, rfl, hbb, h0⟩ := (hr.below' hb hB).int hlt
      have HS := Lib.hid (show setTo l (q + 1) = okAt l q by rw [setTo, hall.out, Bool.true_and])
      cases hm : isMode l[q] with
      | false =>
        have HM := Lib.hid hm
        have HN := Lib.hid (HF.out (q + 1) (by rw [HS.out, okAt, getD_eq hlt, hm]; rfl) (by omega))
        clear hm
        go_wp2_with fail
        refine (pisMode _ _).mono ?_
        rw [HM.out]
        rintro e w2 ⟨rfl, rfl⟩
        go_wp2
        go_ret
        exact ⟨ret_bool HN.out.symm, hb⟩
      | true =>
        have HM := Lib.hid hm
        cases q with
        | zero =>
          rw [Nat.add_zero] at h0
          have HN := Lib.hid (show setTo l (0 + 1) = true by rw [HS.out, okAt, getD_eq hlt, hm]; rfl)
          clear hm
          go_wp2_with fail
          refine (pisMode _ _).mono ?_
          rw [HM.out]
          rintro e w2 ⟨rfl, rfl⟩
          go_wp2
          go_roundw
          case rel => exact ⟨0 + 1, by omega, by go_num, hb, HN⟩
          case measure => simp [intOf]; omega
        | succ p =>
          obtain ⟨b2, off2, e2, _, h1⟩ := (hr.below' hb hB).int (show p < l.length by omega)
          obtain ⟨rfl, rfl⟩ : b2 = b ∧ off2 = off := by simp at e2; exact ⟨e2.1.symm, e2.2.symm⟩
          have HO := Lib.hid (show okAt l (p + 1) = decide (l[p] < l[p + 1]) by rw [okAt, prevLt, getD_eq hlt, getD_eq (show p < l.length by omega), hm, Bool.true_and])
          clear hm e2
          by_cases hh : l[p + 1] ≤ l[p]
          · have HN := Lib.hid (HF.out (p + 1 + 1) (by rw [HS.out, HO.out, decide_eq_false (by omega)]) (by omega))
            go_wp2_with fail
            refine (pisMode _ _).mono ?_
            rw [HM.out]
            rintro e w2 ⟨rfl, rfl⟩
            go_wp2
            go_ret
            exact ⟨ret_bool HN.out.symm, hb⟩
          · have HN := Lib.hid (show setTo l (p + 1 + 1) = true by rw [HS.out, HO.out, decide_eq_true (by omega)])
            go_wp2_with fail
            refine (pisMode _ _).mono ?_
            rw [HM.out]
            rintro e w2 ⟨rfl, rfl⟩
            go_wp2
            go_roundw
            case rel => exact ⟨p + 1 + 1, by omega, by go_num, hb, HN⟩
            case measure => simp [intOf]; omega
    · obtain rfl : q = l.length := by omega
      have HN := Lib.hid (show areModes l = decide (0 < l.length) by rw [HAM.out, hall.out, Bool.and_true])
      go_wp2
      go_ret
      exact ⟨ret_bool (by rw [HN.out]), hb⟩

set_option maxHeartbeats 2000000 in
theorem rIsSet (A : Option Addr) (k c : Nat) (l : List Int) (w : World) (hl : l.length ≤ 1000) (B : Nat) (hB : B ≤ w.heap.size) (hr : Rd w B 1 A k (ints l)) :
    Calls Try.prog 99 #[.slice A k c, .int .i64 4] w fun e w' => e = .returned (.bool (setTo l l.length)) ∧ Below w.heap.size w w' := by
  obtain rfl := hr.int_len
  have HF := Lib.hid (fun q (h : setTo l q = false) (hq : q ≤ l.length) => setTo_false l q h _ hq)
  go_enter Try.func99, Try.ntmps99
  go_wp2
  go_loopw [5] (fun i wr => ∃ q : Nat, q ≤ l.length ∧ i = .int .i64 q ∧ Below w.heap.size w wr ∧ Hid (setTo l q = true)) (fun i _ => l.length - (intOf i).toNat)
  case atStart => exact ⟨0, Nat.zero_le _, rfl, Below.refl _ _, rfl⟩
  case round =>
    obtain ⟨q, hq, rfl, hb, hall⟩ := hrel
    by_cases hlt : q < l.length
    · obtain ⟨b, off, rfl, hbb, h0⟩ := (hr.below' hb hB).int hlt
      have HS := Lib.hid (show setTo l (q + 1) = okAt l q by rw [setTo, hall.out, Bool.true_and])
      have hq0 : (0 : Int) ≤ (q : Int) := by omega
      have hq1 : (q : Int) < (l.length : Int) := by omega
      by_cases m0 : l[q] < 0
      · have HN := Lib.hid (HF.out (q + 1) (by rw [HS.out, okAt, getD_eq hlt, isMode, decide_eq_false (by omega)]; rfl) (by omega))
        go_wp2
        go_quiet (fail)
        go_wp2
        go_ret
        exact ⟨ret_bool HN.out.symm, below_drewN hb _⟩
      · have d0 : decide (l[q] < 0) = false := by simpa using m0
        by_cases m1 : 4 ≤ l[q]
        · have HN := Lib.hid (HF.out (q + 1) (by rw [HS.out, okAt, getD_eq hlt, isMode, decide_eq_false (show ¬ l[q] ≤ 3 by omega)]; simp) (by omega))
          go_wp2
          go_quiet (fail)
          go_wp2
          go_ret
          exact ⟨ret_bool HN.out.symm, below_drewN hb _⟩
        · have d1 : decide (4 ≤ l[q]) = false := by simpa using m1
          have hm : isMode l[q] = true := by rw [isMode, decide_eq_true (by omega), decide_eq_true (by omega)]; rfl
          cases q with
          | zero =>
            rw [Nat.add_zero] at h0
            have HN := Lib.hid (show setTo l (0 + 1) = true by rw [HS.out, okAt, getD_eq hlt, hm]; rfl)
            clear hm
            go_wp2
            go_quiet (fail)
            go_wp2
            go_roundw
            case rel => exact ⟨0 + 1, by omega, by go_num, below_drewN hb _, HN⟩
            case measure => simp [intOf]; omega
          | succ p =>
            obtain ⟨b2, off2, e2, _, h1⟩ := (hr.below' hb hB).int (show p < l.length by omega)
            obtain ⟨rfl, rfl⟩ : b2 = b ∧ off2 = off := by simp at e2; exact ⟨e2.1.symm, e2.2.symm⟩
            have HO := Lib.hid (show okAt l (p + 1) = decide (l[p] < l[p + 1]) by rw [okAt, prevLt, getD_eq hlt, getD_eq (show p < l.length by omega), hm, Bool.true_and])
            clear hm e2
            have v1 : (0 : Int) ≤ ((p + 1 : Nat) : Int) - 1 := by omega
            have v2 : ((p + 1 : Nat) : Int) - 1 < (l.length : Int) := by omega
            by_cases hh : l[p + 1] ≤ l[p]
            · have HN := Lib.hid (HF.out (p + 1 + 1) (by rw [HS.out, HO.out, decide_eq_false (by omega)]) (by omega))
              go_wp2
              go_quiet (fail)
              go_wp2
              go_ret
              exact ⟨ret_bool HN.out.symm, below_drewN hb _⟩
            · have HN := Lib.hid (show setTo l (p + 1 + 1) = true by rw [HS.out, HO.out, decide_eq_true (by omega)])
              have d2 : decide (l[p + 1] ≤ l[p]) = false := by simpa using hh
              go_wp2
              go_quiet (fail)
              go_wp2
              go_roundw
              case rel => exact ⟨p + 1 + 1, by omega, by go_num, below_drewN hb _, HN⟩
              case measure => simp [intOf]; omega
    · obtain rfl : q = l.length := by omega
      go_wp2
      go_ret
      exact ⟨ret_bool hall.out.symm, hb⟩

theorem rareModes (A : Option Addr) (k c : Nat) (l : List Int) (w : World) (hl : l.length ≤ 1000) (B : Nat) (hB : B ≤ w.heap.size) (hr : Rd w B 1 A k (ints l)) :
    Calls Try.prog 73 #[.slice A k c] w fun e w' => e = .returned (.bool (areModes l)) ∧ Below w.heap.size w w' := by
  obtain rfl := hr.int_len
  have HAM := Lib.hid (show areModes l = (decide (0 < l.length) && setTo l l.length) from rfl)
  have H := Lib.hid (rIsSet A l.length c l w hl B hB hr)
  by_cases h : 0 < l.length
  · have d : decide (0 < l.length) = true := by simpa using h
    go_enter Try.func73, Try.ntmps73
    go_wp2_with fail
    refine H.out.mono ?_
    rintro e w1 ⟨rfl, hb⟩
    go_wp2
    go_ret
    exact ⟨ret_bool (by rw [HAM.out, d, Bool.true_and]), hb⟩
  · have d : decide (0 < l.length) = false := by simpa using h
    go_enter Try.func73, Try.ntmps73
    go_wp2
    go_ret
    exact ⟨ret_bool (by rw [HAM.out, d, Bool.false_and]), Below.refl _ _⟩
end Go.Proofs.Ytnoocdannfeidaa

/-
  A RANGE OVER AN ITERATOR THAT KEEPS CELLS OF ITS OWN: the iterator may turn blocks of one type that lie at or beyond B; a round keeps these, and what the iterator reads.
-/
namespace Go.Proofs.Ytnoocdannfeidaa
open Go.RowKit Go.Shelf Pulse

/-- The objects that K names lie as they lay; so does the world outside the heap. -/
structure Fix (K : Nat → Obj → Prop) (W W' : World) : Prop where
  os : W'.os = W.os
  tape : W'.tape = W.tape
  output : W'.output = W.output
  size : W.heap.size ≤ W'.heap.size
  keep : ∀ g o, K g o → W.heap[g]? = some o → W'.heap[g]? = some o
theorem Fix.refl (K : Nat → Obj → Prop) (W : World) : Fix K W W := ⟨rfl, rfl, rfl, Nat.le_refl _, fun _ _ _ h => h⟩
theorem Fix.trans {K : Nat → Obj → Prop} {A B C : World} (h : Fix K A B) (k : Fix K B C) : Fix K A C :=
  ⟨k.os.trans h.os, k.tape.trans h.tape, k.output.trans h.output, Nat.le_trans h.size k.size, fun g o hg ho => k.keep g o hg (h.keep g o hg ho)⟩
theorem Fix.mono {K K' : Nat → Obj → Prop} {A B : World} (h : Fix K A B) (hk : ∀ g o, K' g o → K g o) : Fix K' A B := ⟨h.os, h.tape, h.output, h.size, fun g o hg ho => h.keep g o (hk g o hg) ho⟩
theorem Fix.of_below {K : Nat → Obj → Prop} {A B : World} {X : Nat} (h : Below X A B) (hx : A.heap.size ≤ X) : Fix K A B :=
  ⟨h.os, h.tape, h.output, h.size, fun g _ _ ho => (h.block g (Nat.lt_of_lt_of_le (Array.getElem?_eq_some_iff.1 ho).1 hx)).trans ho⟩
theorem Fix.alloc {K : Nat → Obj → Prop} (A : World) (o : Obj) : Fix K A (A.alloc o) := Fix.of_below ((Below.refl _ A).alloc (Nat.le_refl _) o) (Nat.le_refl _)
theorem Fix.setCell {K : Nat → Obj → Prop} {A : World} {p : Addr} {o : Obj} (u : Value) (ho : A.heap[p.block]? = some o) (hk : ¬ K p.block o) : Fix K A (A.setCell p u) := by
  have hb := (Below.refl p.block A).setCell (p := p) (Nat.le_refl _) u
  refine ⟨hb.os, hb.tape, hb.output, hb.size, fun g x hg hx => ?_⟩
  by_cases e : g = p.block
  · subst e
    rw [ho] at hx
    cases hx
    exact absurd hg hk
  · exact (Below.heap_setCell A p u g e).trans hx
theorem Fix.putObj {K : Nat → Obj → Prop} {A : World} {l : Nat} {o : Obj} (o' : Obj) (ho : A.heap[l]? = some o) (hk : ¬ K l o) : Fix K A (A.putObj l o') := by
  have hg := grownBy_putObj' A l o'
  have hb := (Below.refl 0 A).grown hg (Nat.zero_le _) (fun _ _ => Nat.zero_le _)
  refine ⟨hb.os, hb.tape, hb.output, hb.size, fun g x hK hx => ?_⟩
  by_cases e : g = l
  · subst e
    rw [ho] at hx
    cases hx
    exact absurd hK hk
  · exact (World.putObj_heap_other e).trans hx
theorem Fix.below {K : Nat → Obj → Prop} {A B : World} {X : Nat} (h : Fix K A B) (hk : ∀ g o, g < X → K g o) (hx : X ≤ A.heap.size) : Below X A B :=
  ⟨h.os, h.tape, h.output, h.size, fun g hg => by
    have hl : g < A.heap.size := by omega
    rw [h.keep g _ (hk g _ hg) (Array.getElem?_eq_getElem hl), Array.getElem?_eq_getElem hl]⟩
theorem Fix.frame {K : Nat → Obj → Prop} {w A B : World} {X : Nat} (hw : Below X w A) (h : Fix K A B) (hk : ∀ g o, g < X → K g o) (hx : X ≤ w.heap.size) : Below X w B :=
  hw.trans (h.below hk (Nat.le_trans hx hw.size))

/-- A block of one type, unfrozen. -/
def IsT (t : TypeId) (o : Obj) : Prop := ∃ cs, o = .cells cs t (0, 0)
theorem isT_cells {t : TypeId} {o : Obj} (h : IsT t o) : o.isCells = true := by obtain ⟨cs, rfl⟩ := h; rfl
/-- What the iterator keeps. -/
def KJ (t : TypeId) (B : Nat) (g : Nat) (o : Obj) : Prop := ¬ (B ≤ g ∧ IsT t o)
/-- What the iterator and the law keep. -/
def KI (t : TypeId) (B : Nat) (g : Nat) (o : Obj) : Prop := ¬ (B ≤ g ∧ (IsT t o ∨ o.isCells = false))
theorem ki_j {t : TypeId} {B g : Nat} {o : Obj} (h : KI t B g o) : KJ t B g o := fun ⟨a, b⟩ => h ⟨a, .inl b⟩
/-- What a round keeps: cells below n₀, the two boxes at n₁, the iterator's own. -/
def KQ (t : TypeId) (n₀ n₁ : Nat) (g : Nat) (o : Obj) : Prop := o.isCells = true ∧ (g < n₀ ∨ g = n₁ ∨ g = n₁ + 1 ∨ (n₁ + 2 ≤ g ∧ IsT t o))

/-- THE ITERATOR's CONTRACT: points x 0, .., x (N - 1). -/
def PtsIn (F : Fence) (n : Nat) (P : Program) (gf : Nat) (lb : Array Value) (t : TypeId) (n₀ n₁ N : Nat) (x : Nat → Value) (w : World) : Prop :=
  ∀ (l : Nat) (J : Nat → World → Prop) (W : World), Below w.heap.size w W → (∀ q A B, J q A → Fix (KJ t (n₁ + 2)) A B → J q B) →
    (∀ q A, J q A → q < N → YieldAt F (n - 1) P l #[x q] A fun e B => e = .returned (.bool true) ∧ J (q + 1) B ∧ Fix (KQ t n₀ n₁) A B) →
    J 0 W → CallsIn F n P gf (#[.func (.yield l) #[] #[]] ++ lb) W fun e B => (∃ v, e = .returned v) ∧ J N B

/-- THE STATEMENT 'for v := range it { .. }', its body leaving at its end alone. -/
theorem wpIn_points {F : Fence} {n : Nat} {P : Program} {g : Operand} {ps : Array Tmp} {assign body : Code} {Q : Exit → Act → World → Prop} {a : Act} {w : World}
    (hro : F.round = none) (h1 : 1 ≤ n) {gf : Nat} {lb : Array Value} (hg : a.eval g = .func (.func gf) #[] lb) (hFg : F.fn gf) (eg : ∀ args w, (callFunc gf args).run P w = .ok (.enter gf args) w)
    {t : TypeId} {n₀ n₁ N : Nat} {x : Nat → Value} (hseq : PtsIn F (n - 1) P gf lb t n₀ n₁ N x w) (hps : ps.size = 1) (hn : n₁ + 2 = w.heap.size) (hn0 : n₀ ≤ n₁)
    (I : Nat → World → Prop) (hI : ∀ q A B, I q A → Fix (KI t (n₁ + 2)) A B → I q B) (h0 : I 0 w)
    (Ax : Nat → Act → World → Prop) (hAx : ∀ q a' A l o o', Ax q a' A → A.heap[l]? = some o → o.isCells = false → Ax q a' (A.putObj l o'))
    (hassign : ∀ (l q : Nat) (W : World) (K : Act → World → Prop), I q W → q < N → (∀ a' W', KeepsFrom w.heap.size W W' → Fix (KQ t n₀ n₁) W W' → I q W' → Ax q a' W' → K a' W') →
      assign.wpIn (F.inRound l) (n - 1 - 1) P (Exit.then K (fun _ _ _ => False)) { tmps := (ps.zip #[x q]).foldl (fun t (p, v) => t.setIfInBounds p v) a.tmps, defers := [] } W)
    (hbody : ∀ (l q : Nat) (a' : Act) (W : World), I q W → Ax q a' W → q < N →
      body.wpIn (F.inRound l) (n - 1 - 1) P (fun e _ W' => e = .normal ∧ KeepsFrom w.heap.size W W' ∧ Fix (KQ t n₀ n₁) W W' ∧ I (q + 1) W') a' W)
    (hdone : ∀ (D : Nat) (W : World), w.heap.size ≤ D → I N W → W.heap[D]? = some (.deferred (some [])) → Q .normal { a with defers := { target := .collected D, args := #[] } :: a.defers } W) :
    (Code.rangeFunc g ps assign body).wpIn F n P Q a w := by
  refine wpIn_rangeFunc ?_
  intro fn hfn
  rw [hro]
  obtain ⟨rec, hrec⟩ : ∃ rec : LoopState → Option Code → Loop, rec = fun st pe => { state := st, pending := pe, fn, tmps := a.tmps, params := ps, assign, body, defers := w.heap.size } := ⟨_, rfl⟩
  obtain ⟨W1, hW1⟩ : ∃ W1, (w.alloc (.deferred (some []))).alloc (.loop (rec .ready none)) = W1 := ⟨_, rfl⟩
  have hL1 : W1.heap[w.heap.size + 1]? = some (.loop (rec .ready none)) := by
    rw [← hW1]; have := World.alloc_heap_new (w.alloc (.deferred (some []))) (.loop (rec .ready none)); rwa [World.size_alloc] at this
  have hK1 : W1.heap[w.heap.size]? = some (.deferred (some [])) := by
    rw [← hW1]; exact (Below.heap_alloc _ _ _ (by simp)).trans (World.alloc_heap_new w _)
  have hI1 : I 0 W1 := by rw [← hW1]; exact hI _ _ _ (hI _ _ _ h0 (Fix.alloc _ _)) (Fix.alloc _ _)
  have hb1 : Below w.heap.size w W1 := by rw [← hW1]; exact ((Below.refl _ w).alloc (Nat.le_refl _) _).alloc (by simp) _
  have nc : ∀ {g : Nat} {o : Obj}, n₁ + 2 ≤ g → o.isCells = false → ¬ KI t (n₁ + 2) g o := fun h1 h2 h => h ⟨h1, .inr h2⟩
  have nq : ∀ {g : Nat} {o : Obj}, o.isCells = false → ¬ KQ t n₀ n₁ g o := fun h2 h => by have h3 := h.1; rw [h2] at h3; exact absurd h3 (by decide)
  have kl : ∀ {g : Nat} {r : Loop}, KJ t (n₁ + 2) g (.loop r) := fun h => by obtain ⟨_, cs, e⟩ := h; cases e
  have kd : ∀ {g : Nat} {r : Option (List Deferred)}, KJ t (n₁ + 2) g (.deferred r) := fun h => by obtain ⟨_, cs, e⟩ := h; cases e
  refine ⟨w.heap.size + 1, [{ target := .collected w.heap.size, args := #[] }], W1, { target := .fn (.func gf) lb, args := #[.func (.yield (w.heap.size + 1)) #[] #[]] }, W1, gf,
    #[.func (.yield (w.heap.size + 1)) #[] #[]] ++ lb, W1, ?_, ?_, ?_, ?_, fun _ => h1, ?_⟩
  · rw [← hW1, hrec]; exact run_enterLoop_outer _ _ _ _ _
  · simp only [resolve, hg]
    simp [go_sem]
  · intro f' hf'; simp [Target.leads] at hf'; subst hf'; exact hFg
  · simp [invoke, go_sem, eg]
  · refine (hseq (w.heap.size + 1)
      (fun q W => I q W ∧ W.heap[w.heap.size + 1]? = some (.loop (rec .ready none)) ∧ W.heap[w.heap.size]? = some (.deferred (some [])))
      W1 hb1 (fun q A B ⟨h1, h2, h3⟩ hf => ⟨hI q A B h1 (hf.mono fun _ _ => ki_j), hf.keep _ _ kl h2, hf.keep _ _ kd h3⟩)
      ?_ ⟨hI1, hL1, hK1⟩).mono ?_
    · rintro q W ⟨hi, hl, hk⟩ hlen
      have hlt : w.heap.size + 1 < W.heap.size := (Array.getElem?_eq_some_iff.1 hl).1
      have hy := run_yield (P := P) (args := #[x q]) hl (by rw [hrec]; exact hps.symm)
      rw [hrec] at hy
      refine ⟨fn, _, assign, body, hy, roundIn_of_wpIn hfn (hassign _ q W _ hi hlen ?_)⟩
      clear hy
      intro a' Wa hkfa hkpa hia hax
      replace hl := hkfa.same _ _ (by omega) hl rfl
      replace hk := hkfa.same _ _ (Nat.le_refl _) hk rfl
      replace hlt : w.heap.size + 1 < Wa.heap.size := (Array.getElem?_eq_some_iff.1 hl).1
      refine ⟨_, run_beginRound hl (by rw [hrec]), ?_⟩
      obtain ⟨Wb, hWb⟩ : ∃ Wb, Wa.putObj (w.heap.size + 1) (.loop { rec .ready none with state := .busy }) = Wb := ⟨_, rfl⟩
      have hl2 : Wb.heap[w.heap.size + 1]? = some (.loop { rec .ready none with state := .busy }) := by rw [← hWb]; exact World.putObj_heap_same hlt
      have hk2 : Wb.heap[w.heap.size]? = some (.deferred (some [])) := by rw [← hWb]; exact (World.putObj_heap_other (by omega)).trans hk
      have hq2 : Fix (KQ t n₀ n₁) Wa Wb := by rw [← hWb]; exact Fix.putObj _ hl (nq rfl)
      have hi2 : I q Wb := by rw [← hWb]; exact hI _ _ _ hia (Fix.putObj _ hl (nc (by omega) rfl))
      have hax2 : Ax q a' Wb := by rw [← hWb]; exact hAx _ _ _ _ _ _ hax hl rfl
      show body.wpIn (F.inRound (w.heap.size + 1)) (n - 1 - 1) P _ a' (Wa.putObj (w.heap.size + 1) (.loop { rec .ready none with state := .busy }))
      rw [hWb]
      refine wpIn_mono (hbody _ q a' _ hi2 hax2 hlen) ?_
      rintro e a3 W3 ⟨rfl, hk3, hkp3, hi3⟩
      have hl3 := hk3.same _ _ (by omega) hl2 rfl
      have hr := run_endRound (P := P) none hl3
      have hk4 := hk3.same _ _ (Nat.le_refl _) hk2 rfl
      rw [hrec] at hr hl3
      refine ⟨_, _, hr, rfl, ⟨hI _ _ _ hi3 (Fix.putObj _ hl3 (nc (by omega) rfl)), ?_, (World.putObj_heap_other (by omega)).trans hk4⟩, hkpa.trans (hq2.trans (hkp3.trans (Fix.putObj _ hl3 (nq rfl))))⟩
      rw [hrec]
      exact World.putObj_heap_same (Array.getElem?_eq_some_iff.1 hl3).1
    · rintro e W2 ⟨⟨v, rfl⟩, hi, hl, hk⟩
      refine ⟨none, _, by have := run_endLoop (P := P) hl (by rw [hrec]; simp); rw [hrec] at this; exact this, hdone _ _ (Nat.le_refl _) (hI _ _ _ hi (Fix.putObj _ hl (nc (by omega) rfl))) ((World.putObj_heap_other (by omega)).trans hk)⟩
end Go.Proofs.Ytnoocdannfeidaa
