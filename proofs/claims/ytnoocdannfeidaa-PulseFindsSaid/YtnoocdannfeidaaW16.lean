/-
  WALK: the reference's steps.
-/
import Derived.Test.YtnoocdannfeidaaW15
namespace Go.Proofs.Ytnoocdannfeidaa
open Go.RowKit Pulse

abbrev ptCell (v : V) : List Value := [.int .i64 v.x, .int .i64 v.y]
def ptCells (l : List V) : List Value := l.flatMap ptCell
theorem ptCells_length (l : List V) : (ptCells l).length = l.length * 2 := by
  induction l with
  | nil => rfl
  | cons a l ih => simp only [ptCells, List.flatMap_cons, List.length_append] at *; rw [ih]; simp; omega
theorem pts_get (l : List V) (i j : Nat) (hi : i < l.length) (hj : j < 2) : (ptCells l)[i * 2 + j]? = (ptCell l[i])[j]? := by
  induction l generalizing i with
  | nil => simp at hi
  | cons a l ih =>
    cases i with
    | zero =>
      simp only [ptCells, List.flatMap_cons, Nat.zero_mul, Nat.zero_add]
      rw [List.getElem?_append_left (by simpa using hj)]
      rfl
    | succ i =>
      have e : (i + 1) * 2 + j = (i * 2 + j) + 2 := by omega
      simp only [ptCells, List.flatMap_cons]
      rw [List.getElem?_append_right (by simp; omega), e]
      have := ih i (by simpa using hi)
      simpa [ptCells] using this
theorem ptCells_snoc (l : List V) (v : V) : ptCells (l ++ [v]) = ptCells l ++ ptCell v := by simp [ptCells]
theorem ptCells_one (l : List V) : ((ptCells l).all fun u => u.oneCell') = true := by
  rw [List.all_eq_true]
  intro u hu
  obtain ⟨a, _, ha⟩ := List.mem_flatMap.1 hu
  simp only [ptCell, List.mem_cons, List.not_mem_nil, or_false] at ha
  rcases ha with rfl | rfl <;> rfl
theorem E22 : EOk Try.prog 22 3 (.int .i64 0) 1 8 :=
  ⟨Try.underlying22, by
    obtain ⟨i, h1, h2, h3, h4⟩ := info_parts (show (Try.prog.info? 3).map (fun i => (i.zero, i.size, i.bytes)) = some (some (.int .i64 0), 1, 8) by kernel_rfl)
    exact ⟨i, h1, h2, h3, h4⟩, rfl, by decide, by decide⟩
theorem E40 : EOk Try.prog 40 29 (.agg #[.int .i64 0, .int .i64 0]) 2 16 :=
  ⟨Try.underlying40, by
    obtain ⟨i, h1, h2, h3, h4⟩ := info_parts (show (Try.prog.info? 29).map (fun i => (i.zero, i.size, i.bytes)) = some (some (.agg #[.int .i64 0, .int .i64 0]), 2, 16) by kernel_rfl)
    exact ⟨i, h1, h2, h3, h4⟩, rfl, by decide, by decide⟩

/-- Step j of a pulse. -/
def stp (m : Int) (p : List Int) (j : Nat) : V := (stepAt m j).sm (p.getD j 0)
def stps (m : Int) (p : List Int) (q : Nat) : List V := (List.range q).map (stp m p)
theorem stps_len (m : Int) (p : List Int) (q : Nat) : (stps m p q).length = q := by simp [stps]
theorem stps_succ (m : Int) (p : List Int) (q : Nat) : stps m p (q + 1) = stps m p q ++ [stp m p q] := by simp [stps, List.range_succ]
theorem stps_get {m : Int} {p : List Int} {q j : Nat} (h : j < (stps m p q).length) : (stps m p q)[j] = stp m p j := by simp [stps]
theorem stp_turn {m : Int} (hm : 0 ≤ m) {p : List Int} {q : Nat} (h : q < p.length) : rotN (m * q % 4).toNat ⟨p[q], 0⟩ = stp m p q := by
  unfold stp stepAt
  rw [← rotN_sm, show p.getD q 0 = p[q] by simp [h]]
  have e : (⟨p[q], 0⟩ : V) = V.e1.sm p[q] := by simp [V.sm, V.e1]
  rw [e]
  refine rotN_congr ?_ _
  obtain ⟨M, rfl⟩ := Int.eq_ofNat_of_zero_le hm
  rw [show ((M : Int)).toNat = M from rfl]
  have : (M : Int) * (q : Int) = ((M * q : Nat) : Int) := by simp
  rw [this]
  omega
theorem stp_wi {m : Int} {p : List Int} (hF : Forces 99 p) (j : Nat) : Wi 99 (stp m p j) := by
  have h1 := stepAt_wi m j
  have h2 : -99 ≤ p.getD j 0 ∧ p.getD j 0 ≤ 99 := by
    rw [List.getD_eq_getElem?_getD]
    cases h : p[j]? with
    | none => simp
    | some f => exact hF f (List.mem_of_getElem? h)
  have b1 := mul_bd (a := p.getD j 0) (b := (stepAt m j).x) (A := 99) (B := 1) (by decide) h2 ⟨h1.1, h1.2.1⟩
  have b2 := mul_bd (a := p.getD j 0) (b := (stepAt m j).y) (A := 99) (B := 1) (by decide) h2 ⟨h1.2.2.1, h1.2.2.2⟩
  exact ⟨b1.1, b1.2, b2.1, b2.2⟩

set_option maxHeartbeats 1000000 in
theorem rsteps (p : List Int) (m : Int) (hl : p.length ≤ 12) (hF : Forces 99 p) (hm : 0 ≤ m) (hm' : m ≤ 3) (A : Option Addr) (c : Nat) (w : World) (B : Nat) (hB : B ≤ w.heap.size) (hr : Rd w B 1 A p.length (ints p)) :
    Calls Try.prog 93 #[.slice A p.length c, .int .i64 m] w fun e w' => ∃ v, e = .returned v ∧ w'.ownsRow w.heap.size 29 2 v p.length (ptCells (stps m p p.length)) ∧ Below w.heap.size w w' := by
  go_enter Try.func93, Try.ntmps93
  go_wp2
  go_loopw [5, 6] (fun v i wr => ∃ q : Nat, i = .int .i64 q ∧ q ≤ p.length ∧ wr.ownsRow w.heap.size 29 2 v q (ptCells (stps m p q)) ∧ Below w.heap.size w wr) (fun _ i _ => p.length - (intOf i).toNat)
  case atStart => exact ⟨0, rfl, Nat.zero_le _, World.ownsRow_nil .., Below.refl _ _⟩
  case round =>
    obtain ⟨q, rfl, hq, hown, hb⟩ := hrel
    by_cases hlt : q < p.length
    · obtain ⟨b, off, rfl, hbb, h0⟩ := (hr.below' hb hB).int hlt
      have hfb := hF p[q] (List.getElem_mem hlt)
      have hst := stp_turn hm hlt
      generalize p[q] = f at h0 hfb hst
      have HT := Lib.hid (rTurn ⟨f, 0⟩ ⟨by show (-1000000 : Int) ≤ f; omega, by show f ≤ 1000000; omega, by show (-1000000 : Int) ≤ 0; omega, by show (0 : Int) ≤ 1000000; omega⟩ (m * q) wr)
      rw [hst] at HT
      have hmq : 0 ≤ m * q ∧ m * q ≤ 36 := by
        have := mul_bd (a := m) (b := (q : Int)) (A := 3) (B := 12) (by decide) ⟨by omega, hm'⟩ ⟨by omega, by omega⟩
        exact ⟨Int.mul_nonneg hm (by omega), by omega⟩
      have HS := Lib.hid (stps_succ m p q)
      have hsz := hb.size
      clear hst
      go_wp2_with fail
      refine HT.out.mono ?_
      rintro e w2 ⟨rfl, hb2⟩
      have hown2 := own_below hown hb2
      have s2 := hb2.size
      obtain ⟨u, hu⟩ : ∃ u, u = stp m p q := ⟨_, rfl⟩
      rw [← hu] at HS ⊢
      have B2 := Lib.hid (fun (w' : World) => below_own (w' := w') (hb.trans (hb2.mono hsz)) (by omega) hown2 (Nat.le_refl _))
      clear hu hown hb hb2
      go_wp2_with (at_builtin; go_must (refine app1 rfl (.tmp 13) (.tmp 23) 40 rfl 29 _ 2 16 E40 w.heap.size _ _ _ _ rfl hown2 _ rfl ?_ ?_ ?_ ?_ ?_ ?_); rfl; rfl; rfl; omega; omega; intro v3 w3 hown3 hg3)
      go_roundw
      case rel => exact ⟨q + 1, by go_num, by omega, by rw [HS.out, ptCells_snoc]; exact hown3, B2.out _ hg3⟩
      case measure => simp [intOf]; omega
    · obtain rfl : q = p.length := by omega
      go_wp2
      go_ret
      exact ⟨_, rfl, hown, hb⟩
end Go.Proofs.Ytnoocdannfeidaa
