/-
  WALK: slices.Contains of ints; the closure of Areas; bounds of areas.
-/
import Derived.Test.YtnoocdannfeidaaW37
import Derived.Test.YtnoocdannfeidaaW26
namespace Go.Proofs.Ytnoocdannfeidaa
open Go.RowKit Pulse

set_option maxHeartbeats 400000 in
theorem pIndexI (A : Option Addr) (k c : Nat) (l : List Int) (x : Int) (w : World) (hl : l.length ≤ 100000) (B : Nat) (hB : B ≤ w.heap.size) (hr : Rd w B 1 A k (ints l)) :
    Calls Try.prog 102 #[.slice A k c, .int .i64 x] w fun e w' => (∃ r : Int, e = .returned (.int .i64 r) ∧ -1 ≤ r ∧ r ≤ 100000 ∧ decide (0 ≤ r) = hasB l x) ∧ Below w.heap.size w w' := by
  obtain rfl := hr.int_len
  have HD := Lib.hid (show hasB l x = l.any (fun y => y == x) from rfl)
  go_enter Try.func102, Try.ntmps102
  go_wp2
  go_loopw [8] (fun i wr => ∃ q : Nat, q ≤ l.length ∧ i = .int .i64 q ∧ Below w.heap.size w wr ∧ Hid ((l.take q).any (fun y => y == x) = false)) (fun i _ => l.length - (intOf i).toNat)
  case atStart => exact ⟨0, Nat.zero_le _, rfl, Below.refl _ _, rfl⟩
  case round =>
    obtain ⟨q, hq, rfl, hb, hall⟩ := hrel
    by_cases hlt : q < l.length
    · obtain ⟨b, off, rfl, hbb, h0⟩ := (hr.below' hb hB).int hlt
      have ht := any_take (fun y => y == x) l q hlt
      rw [hall.out, Bool.false_or] at ht
      have HIN := Lib.hid (List.getElem_mem hlt)
      have HT := Lib.hid ht
      clear ht
      generalize l[q] = f at *
      by_cases hf : f = x
      · have hd : (x == f) = true := by simpa using hf.symm
        have HX := Lib.hid (show hasB l x = true by rw [HD.out]; exact List.any_eq_true.2 ⟨f, HIN.out, by simpa using hf⟩)
        clear hf
        go_wp2
        go_ret
        exact ⟨⟨q, rfl, by omega, by omega, by rw [HX.out]; simp⟩, hb⟩
      · have hd : (x == f) = false := by simp; omega
        have HX := Lib.hid (HT.out.trans (show (f == x) = false by simpa using hf))
        clear hf
        go_wp2
        go_roundw
        case rel => exact ⟨q + 1, by omega, by go_num, hb, HX⟩
        case measure => simp [intOf]; omega
    · obtain rfl : q = l.length := by omega
      have HX := Lib.hid (show hasB l x = false by rw [HD.out]; have := hall.out; rwa [List.take_length] at this)
      go_wp2
      go_ret
      exact ⟨⟨-1, rfl, by omega, by omega, by rw [HX.out]; rfl⟩, hb⟩
set_option maxHeartbeats 400000 in
theorem pContainsI (A : Option Addr) (k c : Nat) (l : List Int) (x : Int) (w : World) (hl : l.length ≤ 100000) (B : Nat) (hB : B ≤ w.heap.size) (hr : Rd w B 1 A k (ints l)) :
    Calls Try.prog 89 #[.slice A k c, .int .i64 x] w fun e w' => e = .returned (.bool (hasB l x)) ∧ Below w.heap.size w w' := by
  have H := Lib.hid (pIndexI A k c l x w hl B hB hr)
  go_enter Try.func89, Try.ntmps89
  go_wp2_with fail
  refine H.out.mono ?_
  rintro e w1 ⟨⟨r, rfl, h1, h2, h3⟩, hb⟩
  have H3 := Lib.hid h3
  clear h3
  go_wp2
  go_ret
  exact ⟨ret_bool H3.out, hb⟩

/-! ### Areas of searched pulses are small -/
theorem area_small {m : Nat} {p : List Int} (hl : p.length ≤ 6) (h : Forces 2 p) : ∀ q, q ≤ p.length → -(48 * (q : Int)) ≤ areaL m (p.take q) ∧ areaL m (p.take q) ≤ 48 * (q : Int) := by
  intro q
  induction q with
  | zero => intro _; simp [areaL]
  | succ q ih =>
    intro hq
    have h1 := ih (by omega)
    rw [take_snoc' p q hq, areaL_snoc']
    have hw := endL_wi (F := 2) (by decide) m (p.take q) (h.take q)
    have hlen : (p.take q).length ≤ 6 := by rw [List.length_take]; omega
    have hw2 : Wi 12 (endL m (p.take q)) := hw.mono (by omega)
    have hs : Wi 2 ((rotN (m * (p.take q).length) V.e1).sm p[q]) := by
      have hf := h p[q] (List.getElem_mem hq)
      have hr := wi_e1.rotN (m * (p.take q).length)
      have b1 := mul_bd (a := p[q]) (b := (rotN (m * (p.take q).length) V.e1).x) (A := 2) (B := 1) (by decide) hf ⟨hr.1, hr.2.1⟩
      have b2 := mul_bd (a := p[q]) (b := (rotN (m * (p.take q).length) V.e1).y) (A := 2) (B := 1) (by decide) hf ⟨hr.2.2.1, hr.2.2.2⟩
      exact ⟨b1.1, b1.2, b2.1, b2.2⟩
    have hc := Pulse.cross_bd (A := 12) (B := 2) (by decide) hw2 hs
    omega
theorem area_bd1000 {m : Nat} {p : List Int} (hl : p.length ≤ 6) (h : Forces 2 p) : -288 ≤ areaL m p ∧ areaL m p ≤ 288 := by
  have h1 := area_small (m := m) hl h p.length (Nat.le_refl _)
  rw [List.take_length] at h1
  omega

/-! ### The areas, as the search meets them -/
def accN (m : Nat) (ms : List Int) (L : List (List Int)) : Nat → List Int
  | 0 => []
  | k + 1 => match L[k]? with
    | none => accN m ms L k
    | some p => if shut p ms && !hasB (accN m ms L k) (areaL m p) then accN m ms L k ++ [areaL m p] else accN m ms L k
theorem accN_skip {m : Nat} {ms : List Int} {L : List (List Int)} {k : Nat} {p : List Int} (h : L[k]? = some p) (hs : shut p ms = false) : accN m ms L (k + 1) = accN m ms L k := by
  rw [accN, h]; simp [hs]
theorem accN_had {m : Nat} {ms : List Int} {L : List (List Int)} {k : Nat} {p : List Int} (h : L[k]? = some p) (hs : hasB (accN m ms L k) (areaL m p) = true) : accN m ms L (k + 1) = accN m ms L k := by
  rw [accN, h]; simp [hs]
theorem accN_new {m : Nat} {ms : List Int} {L : List (List Int)} {k : Nat} {p : List Int} (h : L[k]? = some p) (hs : shut p ms = true) (hh : hasB (accN m ms L k) (areaL m p) = false) : accN m ms L (k + 1) = accN m ms L k ++ [areaL m p] := by
  rw [accN, h]; simp [hs, hh]
theorem hasB_iff {l : List Int} {x : Int} : hasB l x = true ↔ x ∈ l := by
  rw [hasB, List.any_eq_true]
  constructor
  · rintro ⟨y, h1, h2⟩
    have : y = x := by simpa using h2
    exact this ▸ h1
  · intro h
    exact ⟨x, h, by simp⟩
theorem accN_len {m : Nat} {ms : List Int} {L : List (List Int)} (k : Nat) : (accN m ms L k).length ≤ k := by
  induction k with
  | zero => exact Nat.le_refl _
  | succ k ih =>
    rw [accN]
    split
    · omega
    · split
      · simp; omega
      · omega
theorem accN_nodup {m : Nat} {ms : List Int} {L : List (List Int)} (k : Nat) : (accN m ms L k).Nodup := by
  induction k with
  | zero => exact List.nodup_nil
  | succ k ih =>
    rw [accN]
    split
    · exact ih
    · rename_i p _
      split
      · rename_i h
        simp only [Bool.and_eq_true, Bool.not_eq_true'] at h
        have h2 : ¬ areaL m p ∈ accN m ms L k := fun hx => by rw [hasB_iff.2 hx] at h; exact absurd h.2 (by decide)
        rw [List.nodup_append]
        refine ⟨ih, by simp, ?_⟩
        intro a ha b hb e
        simp at hb
        subst hb e
        exact h2 ha
      · exact ih
theorem mem_accN {m : Nat} {ms : List Int} {L : List (List Int)} (k : Nat) {a : Int} : a ∈ accN m ms L k ↔ ∃ j p, j < k ∧ L[j]? = some p ∧ shut p ms = true ∧ areaL m p = a := by
  induction k with
  | zero => simp [accN]
  | succ k ih =>
    have step : (∃ j p, j < k + 1 ∧ L[j]? = some p ∧ shut p ms = true ∧ areaL m p = a) ↔ (∃ j p, j < k ∧ L[j]? = some p ∧ shut p ms = true ∧ areaL m p = a) ∨ ∃ p, L[k]? = some p ∧ shut p ms = true ∧ areaL m p = a := by
      constructor
      · rintro ⟨j, p, hj, h⟩
        rcases Nat.lt_or_ge j k with h' | h'
        · exact .inl ⟨j, p, h', h⟩
        · obtain rfl : j = k := by omega
          exact .inr ⟨p, h⟩
      · rintro (⟨j, p, hj, h⟩ | ⟨p, h⟩)
        · exact ⟨j, p, by omega, h⟩
        · exact ⟨k, p, by omega, h⟩
    rw [step, ← ih, accN]
    split
    · rename_i h
      constructor
      · exact .inl
      · rintro (h' | ⟨p, h', _⟩)
        · exact h'
        · rw [h] at h'; cases h'
    · rename_i p h
      split
      · rename_i hc
        simp only [Bool.and_eq_true, Bool.not_eq_true'] at hc
        rw [List.mem_append, List.mem_singleton]
        constructor
        · rintro (h' | h')
          · exact .inl h'
          · exact .inr ⟨p, h, hc.1, h'.symm⟩
        · rintro (h' | ⟨q, h', _, e⟩)
          · exact .inl h'
          · rw [h] at h'; cases h'
            exact .inr e.symm
      · rename_i hc
        constructor
        · exact .inl
        · rintro (h' | ⟨q, h', hs, e⟩)
          · exact h'
          · rw [h] at h'; cases h'
            cases hh : hasB (accN m ms L k) (areaL m p) with
            | true => rw [← e]; exact hasB_iff.1 hh
            | false => exact absurd (by rw [hs, hh]; rfl) hc
end Go.Proofs.Ytnoocdannfeidaa
