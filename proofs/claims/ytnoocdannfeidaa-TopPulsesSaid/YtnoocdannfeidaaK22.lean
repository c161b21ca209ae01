/-
  MERGED: W40, W41.
-/
import Derived.Test.YtnoocdannfeidaaK21
import Derived.Test.YtnoocdannfeidaaK13
import Derived.Test.YtnoocdannfeidaaK12
/-
  WALK: slices.Contains of ints; the closure of Areas; bounds of areas.
-/
namespace Go.Proofs.Ytnoocdannfeidaa
open Go.RowKit Pulse

set_option maxHeartbeats 400000 in
theorem pIndexI (A : Option Addr) (k c : Nat) (l : List Int) (x : Int) (w : World) (hl : l.length ≤ 100000) (B : Nat) (hB : B ≤ w.heap.size) (hr : Rd w B 1 A k (ints l)) :
    Calls Try.prog 102 #[.slice A k c, .int .i64 x] w fun e w' => (∃ r : Int, e = .returned (.int .i64 r) ∧ -1 ≤ r ∧ r ≤ 100000 ∧ decide (0 ≤ r) = hasB l x) ∧ Below w.heap.size w w' := by
  obtain rfl := hr.int_len
  have HD := Lib.hid (show hasB l x = l.any (fun y => y == x) from rfl)
  go_enter Try.func102, Try.ntmps102
  go_wp2
  go_loopw [8] (fun i wr => ∃ q : Nat, q ≤ l.length ∧ i = .int .i64 q ∧ Below w.heap.size w wr ∧ Hid ((l.take q).any (fun y => y == x) = false)) (fun i _ => l.length - (intOf i).toNat)
  case atStart => exact ⟨0, Nat.zero_le _, rfl, Below.refl _ _, rfl⟩
  case round =>
    obtain ⟨q, hq, rfl, hb, hall⟩ := hrel
    by_cases hlt : q < l.length
    · obtain ⟨b, off, rfl, hbb, h0⟩ := (hr.below' hb hB).int hlt
      have ht := any_take (fun y => y == x) l q hlt
      rw [hall.out, Bool.false_or] at ht
      have HIN := Lib.hid (List.getElem_mem hlt)
      have HT := Lib.hid ht
      clear ht
      generalize l[q] = f at *
      by_cases hf : f = x
      · have hd : (x == f) = true := by simpa using hf.symm
        have HX := Lib.hid (show hasB l x = true by rw [HD.out]; exact List.any_eq_true.2 ⟨f, HIN.out, by simpa using hf⟩)
        clear hf
        go_wp2
        go_ret
        exact ⟨⟨q, rfl, by omega, by omega, by rw [HX.out]; simp⟩, hb⟩
      · have hd : (x == f) = false := by simp; omega
        have HX := Lib.hid (HT.out.trans (show (f == x) = false by simpa using hf))
        clear hf
        go_wp2
        go_roundw
        case rel => exact ⟨q + 1, by omega, by go_num, hb, HX⟩
        case measure => simp [intOf]; omega
    · obtain rfl : q = l.length := by omega
      have HX := Lib.hid (show hasB l x = false by rw [HD.out]; have := hall.out; rwa [List.take_length] at this)
      go_wp2
      go_ret
      exact ⟨⟨-1, rfl, by omega, by omega, by rw [HX.out]; rfl⟩, hb⟩
set_option maxHeartbeats 400000 in
theorem pContainsI (A : Option Addr) (k c : Nat) (l : List Int) (x : Int) (w : World) (hl : l.length ≤ 100000) (B : Nat) (hB : B ≤ w.heap.size) (hr : Rd w B 1 A k (ints l)) :
    Calls Try.prog 89 #[.slice A k c, .int .i64 x] w fun e w' => e = .returned (.bool (hasB l x)) ∧ Below w.heap.size w w' := by
  have H := Lib.hid (pIndexI A k c l x w hl B hB hr)
  go_enter Try.func89, Try.ntmps89
  go_wp2_with fail
  refine H.out.mono ?_
  rintro e w1 ⟨⟨r, rfl, h1, h2, h3⟩, hb⟩
  have H3 := Lib.hid h3
  clear h3
  go_wp2
  go_ret
  exact ⟨ret_bool H3.out, hb⟩

/-! ### Areas of searched pulses are small -/
theorem area_small {m : Nat} {p : List Int} (hl : p.length ≤ 6) (h : Forces 2 p) : ∀ q, q ≤ p.length → -(48 * (q : Int)) ≤ areaL m (p.take q) ∧ areaL m (p.take q) ≤ 48 * (q : Int) := by
  intro q
  induction q with
  | zero => intro _; simp [areaL]
  | succ q ih =>
    intro hq
    have h1 := ih (by omega)
    rw [take_snoc' p q hq, areaL_snoc']
    have hw := endL_wi (F := 2) (by decide) m (p.take q) (h.take q)
    have hlen : (p.take q).length ≤ 6 := by rw [List.length_take]; omega
    have hw2 : Wi 12 (endL m (p.take q)) := hw.mono (by omega)
    have hs : Wi 2 ((rotN (m * (p.take q).length) V.e1).sm p[q]) := by
      have hf := h p[q] (List.getElem_mem hq)
      have hr := wi_e1.rotN (m * (p.take q).length)
      have b1 := mul_bd (a := p[q]) (b := (rotN (m * (p.take q).length) V.e1).x) (A := 2) (B := 1) (by decide) hf ⟨hr.1, hr.2.1⟩
      have b2 := mul_bd (a := p[q]) (b := (rotN (m * (p.take q).length) V.e1).y) (A := 2) (B := 1) (by decide) hf ⟨hr.2.2.1, hr.2.2.2⟩
      exact ⟨b1.1, b1.2, b2.1, b2.2⟩
    have hc := Pulse.cross_bd (A := 12) (B := 2) (by decide) hw2 hs
    omega
theorem area_bd1000 {m : Nat} {p : List Int} (hl : p.length ≤ 6) (h : Forces 2 p) : -288 ≤ areaL m p ∧ areaL m p ≤ 288 := by
  have h1 := area_small (m := m) hl h p.length (Nat.le_refl _)
  rw [List.take_length] at h1
  omega

/-! ### The areas, as the search meets them -/
def accN (m : Nat) (ms : List Int) (L : List (List Int)) : Nat → List Int
  | 0 => []
  | k + 1 => match L[k]? with
    | none => accN m ms L k
    | some p => if shut p ms && !hasB (accN m ms L k) (areaL m p) then accN m ms L k ++ [areaL m p] else accN m ms L k
theorem accN_skip {m : Nat} {ms : List Int} {L : List (List Int)} {k : Nat} {p : List Int} (h : L[k]? = some p) (hs : shut p ms = false) : accN m ms L (k + 1) = accN m ms L k := by
  rw [accN, h]; simp [hs]
theorem accN_had {m : Nat} {ms : List Int} {L : List (List Int)} {k : Nat} {p : List Int} (h : L[k]? = some p) (hs : hasB (accN m ms L k) (areaL m p) = true) : accN m ms L (k + 1) = accN m ms L k := by
  rw [accN, h]; simp [hs]
theorem accN_new {m : Nat} {ms : List Int} {L : List (List Int)} {k : Nat} {p : List Int} (h : L[k]? = some p) (hs : shut p ms = true) (hh : hasB (accN m ms L k) (areaL m p) = false) : accN m ms L (k + 1) = accN m ms L k ++ [areaL m p] := by
  rw [accN, h]; simp [hs, hh]
theorem hasB_iff {l : List Int} {x : Int} : hasB l x = true ↔ x ∈ l := by
  rw [hasB, List.any_eq_true]
  constructor
  · rintro ⟨y, h1, h2⟩
    have : y = x := by simpa using h2
    exact this ▸ h1
  · intro h
    exact ⟨x, h, by simp⟩
theorem accN_len {m : Nat} {ms : List Int} {L : List (List Int)} (k : Nat) : (accN m ms L k).length ≤ k := by
  induction k with
  | zero => exact Nat.le_refl _
  | succ k ih =>
    rw [accN]
    split
    · omega
    · split
      · simp; omega
      · omega
theorem accN_nodup {m : Nat} {ms : List Int} {L : List (List Int)} (k : Nat) : (accN m ms L k).Nodup := by
  induction k with
  | zero => exact List.nodup_nil
  | succ k ih =>
    rw [accN]
    split
    · exact ih
    · rename_i p _
      split
      · rename_i h
        simp only [Bool.and_eq_true, Bool.not_eq_true'] at h
        have h2 : ¬ areaL m p ∈ accN m ms L k := fun hx => by rw [hasB_iff.2 hx] at h; exact absurd h.2 (by decide)
        rw [List.nodup_append]
        refine ⟨ih, by simp, ?_⟩
        intro a ha b hb e
        simp at hb
        subst hb e
        exact h2 ha
      · exact ih
theorem mem_accN {m : Nat} {ms : List Int} {L : List (List Int)} (k : Nat) {a : Int} : a ∈ accN m ms L k ↔ ∃ j p, j < k ∧ L[j]? = some p ∧ shut p ms = true ∧ areaL m p = a := by
  induction k with
  | zero => simp [accN]
  | succ k ih =>
    have step : (∃ j p, j < k + 1 ∧ L[j]? = some p ∧ shut p ms = true ∧ areaL m p = a) ↔ (∃ j p, j < k ∧ L[j]? = some p ∧ shut p ms = true ∧ areaL m p = a) ∨ ∃ p, L[k]? = some p ∧ shut p ms = true ∧ areaL m p = a := by
      constructor
      · rintro ⟨j, p, hj, h⟩
        rcases Nat.lt_or_ge j k with h' | h'
        · exact .inl ⟨j, p, h', h⟩
        · obtain rfl : j = k := by omega
          exact .inr ⟨p, h⟩
      · rintro (⟨j, p, hj, h⟩ | ⟨p, h⟩)
        · exact ⟨j, p, by omega, h⟩
        · exact ⟨k, p, by omega, h⟩
    rw [step, ← ih, accN]
    split
    · rename_i h
      constructor
      · exact .inl
      · rintro (h' | ⟨p, h', _⟩)
        · exact h'
        · rw [h] at h'; cases h'
    · rename_i p h
      split
      · rename_i hc
        simp only [Bool.and_eq_true, Bool.not_eq_true'] at hc
        rw [List.mem_append, List.mem_singleton]
        constructor
        · rintro (h' | h')
          · exact .inl h'
          · exact .inr ⟨p, h, hc.1, h'.symm⟩
        · rintro (h' | ⟨q, h', _, e⟩)
          · exact .inl h'
          · rw [h] at h'; cases h'
            exact .inr e.symm
      · rename_i hc
        constructor
        · exact .inl
        · rintro (h' | ⟨q, h', hs, e⟩)
          · exact h'
          · rw [h] at h'; cases h'
            cases hh : hasB (accN m ms L k) (areaL m p) with
            | true => rw [← e]; exact hasB_iff.1 hh
            | false => exact absurd (by rw [hs, hh]; rfl) hc
end Go.Proofs.Ytnoocdannfeidaa

/-
  WALK: the closures of Areas and Find; Find.
-/
namespace Go.Proofs.Ytnoocdannfeidaa
open Go.RowKit Pulse

def hd0 (ms : List Int) : Nat := (ms.getD 0 0).toNat
/-- All blocks below base but b lie as they lay. -/
def Bar (b base : Nat) (h : Nat) (_ : Obj) : Prop := h ≠ b ∧ h < base
theorem fix_bar {b base : Nat} {A B : World} {row : Option Nat} (hg : A.grownBy B row) (hr : ∀ g, row = some g → base ≤ g) : Fix (Bar b base) A B :=
  Fix.grown hg fun g _ h _ hk => by have := hr g h; have := hk.2; omega

set_option maxRecDepth 100000 in
set_option maxHeartbeats 1000000 in
theorem areasFn (A : Option Addr) (c : Nat) (p ms l : List Int) (A' : Option Addr) (k' c' b3 b9 base : Nat) (v : Value) (w : World) (hp : p.length ≤ 6) (hF : Forces 2 p) (hms : ∀ m ∈ ms, 0 ≤ m ∧ m ≤ 3) (hne : 0 < ms.length)
    (hr : Rd w w.heap.size 1 A p.length (ints p)) (hr' : Rd w w.heap.size 1 A' k' (ints ms)) (h3 : w.heap[b3]? = some (.cells #[.slice A' k' c'] 22 (0, 0))) (h9 : w.heap[b9]? = some (.cells #[v] 22 (0, 0)))
    (hown : w.ownsRow base 3 1 v l.length (ints l)) (hl : l.length ≤ 90000) (hb9 : b9 < base) (hbase : base ≤ w.heap.size) :
    Calls Try.prog 88 #[.slice A p.length c, .pointer (some ⟨b3, 0, none⟩), .pointer (some ⟨b9, 0, none⟩)] w fun e w' => e = .returned (.bool true) ∧ ∃ v', w'.heap[b9]? = some (.cells #[v'] 22 (0, 0)) ∧
      w'.ownsRow base 3 1 v' (if hasB l (areaL (hd0 ms) p) then l else l ++ [areaL (hd0 ms) p]).length (ints (if hasB l (areaL (hd0 ms) p) then l else l ++ [areaL (hd0 ms) p])) ∧ Fix (Bar b9 base) w w' := by
  obtain ⟨Av, cv, rfl, _, _⟩ := own_cap hown
  obtain ⟨b', off', rfl, hbb', hm0⟩ := hr'.int hne
  have hk' : 0 < k' := by rw [hr'.int_len]; exact hne
  rw [Nat.add_zero] at hm0
  have hin := hms ms[0] (List.getElem_mem hne)
  have hhd : hd0 ms = ms[0].toNat := by simp [hd0, hne]
  have hbd := area_bd1000 (m := hd0 ms) hp hF
  have HA := Lib.hid (pArea p ms[0] (by omega) (fun f hf => by have := hF f hf; omega) hin.1 hin.2 A c w w.heap.size (Nat.le_refl _) hr)
  rw [← hhd] at HA
  have l3 := blk_lt h3
  have l9 := blk_lt h9
  have c3 : w.cell? ⟨b3, 0, none⟩ = some (.slice (some ⟨b', off', none⟩) k' c') := blk_cell h3 0
  have HH := Lib.hid (And.intro h9 hown)
  obtain ⟨a, ha⟩ : ∃ a, a = areaL (hd0 ms) p := ⟨_, rfl⟩
  rw [← ha] at HA hbd ⊢
  obtain ⟨m0, hm⟩ : ∃ m0, m0 = ms[0] := ⟨_, rfl⟩
  rw [← hm] at hm0 HA
  obtain ⟨l2, hl2⟩ : ∃ l2, l2 = if hasB l a then l else l ++ [a] := ⟨_, rfl⟩
  rw [← hl2]
  have HL2 := Lib.hid hl2
  clear ha hm h3 h9 hown hhd hin hl2
  go_enter Try.func88, Try.ntmps88
  go_wp2_with fail
  refine HA.out.mono ?_
  rintro e w1 ⟨rfl, hb1⟩
  have s1 := hb1.size
  have x9 := blk_below HH.out.1 hb1 l9
  have o9 := own_below HH.out.2 hb1
  have HC := Lib.hid (pContainsI Av l.length cv l a w1 (by omega) w1.heap.size (Nat.le_refl _) (Rd.of_own o9))
  have c9 : w1.cell? ⟨b9, 0, none⟩ = some (.slice Av l.length cv) := blk_cell x9 0
  have HX := Lib.hid (And.intro x9 (And.intro o9 hb1))
  clear x9 o9 hb1 HA
  cases hh : hasB l a with
  | true =>
    rw [hh] at HC HL2
    clear hh
    have HL3 := Lib.hid (show l2 = l from HL2.out)
    go_wp2_with fail
    refine HC.out.mono ?_
    rintro e w2 ⟨rfl, hb2⟩
    go_wp2
    go_ret
    exact ⟨rfl, .slice Av l.length cv, blk_below HX.out.1 hb2 (by omega), by rw [HL3.out]; exact own_below HX.out.2.1 hb2, (Fix.of_below HX.out.2.2 (Nat.le_refl _)).trans (Fix.of_below hb2 (Nat.le_refl _))⟩
  | false =>
    rw [hh] at HC HL2
    clear hh
    have HL3 := Lib.hid (show l2 = l ++ [a] from HL2.out)
    go_wp2_with fail
    refine HC.out.mono ?_
    rintro e w2 ⟨rfl, hb2⟩
    have s2 := hb2.size
    have y9 := blk_below HX.out.1 hb2 (by omega)
    have z9 := own_below HX.out.2.1 hb2
    have HF2 := Lib.hid (show Fix (Bar b9 base) w w2 from (Fix.of_below HX.out.2.2 (Nat.le_refl _)).trans (Fix.of_below hb2 (Nat.le_refl _)))
    have d9 : w2.cell? ⟨b9, 0, none⟩ = some (.slice Av l.length cv) := blk_cell y9 0
    have HOB := Lib.hid (fun g (hg : (Value.slice Av l.length cv).ownBlock = some g) => (own_obj z9 hg).1)
    have HNE := Lib.hid (show some b9 ≠ (Value.slice Av l.length cv).ownBlock from fun e => by have := (own_obj z9 e.symm).1; omega)
    have HY := Lib.hid y9
    clear hb2 y9 c9
    go_wp2_with (at_builtin; go_must (refine app1 rfl (.tmp 15) (.tmp 17) 22 rfl 3 _ 1 8 E22 base _ _ _ _ rfl z9 _ rfl ?_ ?_ ?_ ?_ ?_ ?_); rfl; rfl; rfl; omega; omega; intro v3 w3 hown3 hg3; obtain ⟨A3, c3', rfl, _, _⟩ := own_cap hown3; have x3 := blk_grown HY.out hg3 HNE.out; have e9 : w3.cell? ⟨b9, 0, none⟩ = some (.slice Av l.length cv) := blk_cell x3 0; have e8 := blk_frozen x3 0)
    go_ret
    refine ⟨rfl, .slice A3 (l.length + 1) c3', by simpa using blk_set x3 0 (.slice A3 (l.length + 1) c3'), ?_, HF2.out.trans ((fix_bar hg3 HOB.out).trans (Fix.setCell (p := ⟨b9, 0, none⟩) _ x3 (fun h => h.1 rfl)))⟩
    rw [HL3.out, List.length_append, ints_snoc]
    exact own_set_far hown3 (p := ⟨b9, 0, none⟩) hb9 _
end Go.Proofs.Ytnoocdannfeidaa
