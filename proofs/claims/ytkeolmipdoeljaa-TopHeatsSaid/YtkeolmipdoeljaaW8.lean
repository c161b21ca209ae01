/-
  WALKS: CheckWindows, of the program and of the reference.
-/
import Derived.Test.YtkeolmipdoeljaaW7
namespace Go.Proofs.Ytkeolmipdoeljaa
open Go.RowKit Heat

/-! ### Slices of windows -/
def winCell (a : HWin) : List Value := [.int .i64 a.ion, .int .i64 a.frm, .int .i64 a.to]
def winCells (l : List HWin) : List Value := l.flatMap winCell
abbrev winV (a : HWin) : Value := .agg #[.int .i64 a.ion, .int .i64 a.frm, .int .i64 a.to]
theorem winCells_length (l : List HWin) : (winCells l).length = l.length * 3 := by
  induction l with
  | nil => rfl
  | cons a l ih => simp only [winCells, List.flatMap_cons, List.length_append] at *; rw [ih]; simp [winCell]; omega
theorem wins_get (l : List HWin) (i j : Nat) (hi : i < l.length) (hj : j < 3) : (winCells l)[i * 3 + j]? = (winCell l[i])[j]? := by
  induction l generalizing i with
  | nil => simp at hi
  | cons a l ih =>
    cases i with
    | zero =>
      simp only [winCells, List.flatMap_cons, Nat.zero_mul, Nat.zero_add]
      rw [List.getElem?_append_left (by simpa [winCell] using hj)]
      rfl
    | succ i =>
      have e : (i + 1) * 3 + j = (i * 3 + j) + 3 := by omega
      simp only [winCells, List.flatMap_cons]
      rw [List.getElem?_append_right (by simp [winCell]; omega), e]
      have := ih i (by simpa using hi)
      simpa [winCells, winCell] using this
theorem Rd.win {w : World} {B n : Nat} {A : Option Addr} {l : List HWin} (h : Rd w B 3 A n (winCells l)) {i : Nat} (hi : i < l.length) :
    ∃ b off, A = some ⟨b, off, none⟩ ∧ b < B ∧ w.cell? ⟨b, off + i * 3, none⟩ = some (.int .i64 l[i].ion) ∧ w.cell? ⟨b, off + i * 3 + 1, none⟩ = some (.int .i64 l[i].frm) ∧ w.cell? ⟨b, off + i * 3 + 2, none⟩ = some (.int .i64 l[i].to) := by
  have hl : n = l.length := by have := h.1; simp [winCells_length] at this; omega
  obtain ⟨b, off, e, hb, hc⟩ := h.2 (by omega)
  refine ⟨b, off, e, hb, hc (i * 3) _ ?_, hc (i * 3 + 1) _ ?_, hc (i * 3 + 2) _ ?_⟩
  · have := wins_get l i 0 hi (by omega); simpa [winCell] using this
  · have := wins_get l i 1 hi (by omega); simpa [winCell] using this
  · have := wins_get l i 2 hi (by omega); simpa [winCell] using this
theorem Rd.win_len {w : World} {B n : Nat} {A : Option Addr} {l : List HWin} (h : Rd w B 3 A n (winCells l)) : n = l.length := by
  have := h.1; simp [winCells_length] at this; omega
theorem winCells_take (l : List HWin) (k : Nat) : (winCells l).take (k * 3) = winCells (l.take k) := by
  induction l generalizing k with
  | nil => simp [winCells]
  | cons a l ih =>
    cases k with
    | zero => simp [winCells]
    | succ k =>
      have e : (k + 1) * 3 = k * 3 + 1 + 1 + 1 := by omega
      have := ih k
      simp only [winCells, List.flatMap_cons, winCell, List.cons_append, List.nil_append, List.take_succ_cons, e] at *
      rw [this]
theorem Rd.winFront {w : World} {B : Nat} {A : Option Addr} {n : Nat} {l : List HWin} (h : Rd w B 3 A n (winCells l)) {k : Nat} (hk : k ≤ n) : Rd w B 3 A k (winCells (l.take k)) := by
  rw [← winCells_take]; exact h.front hk

/-! ### What CheckWindows answers -/
def inside (n : Int) (m : Nat) (x : HWin) : Bool := decide (0 ≤ x.ion ∧ x.ion ≤ n - 1 ∧ 0 ≤ x.frm ∧ x.frm ≤ (m : Int) - 1 ∧ 0 ≤ x.to ∧ x.to ≤ (m : Int) - 1)
def winErr (n : Int) (l : List HAct) (limit : Int) (x : HWin) : Int := if inside n l.length x then (if isWinN l limit x.ion x.frm.toNat x.to.toNat then 0 else 7) else 1
def meets (v w : HWin) : Bool := v.ion == w.ion && decide (v.frm < w.to) && decide (w.frm < v.to)
/-- Do two of the first q windows meet? -/
def clashTo (ws : List HWin) : Nat → Bool
  | 0 => false
  | q + 1 => clashTo ws q || ((ws[q]?.map fun v => (ws.take q).any (meets v)).getD false)
def winsErr (n : Int) (l : List HAct) (limit : Int) (ws : List HWin) : Int :=
  if limited n l limit ≠ 0 then limited n l limit else if 20 < ws.length then 3 else
  match ws.find? (fun x => winErr n l limit x != 0) with
  | some x => winErr n l limit x
  | none => if clashTo ws ws.length then 8 else 0
def winsN (n : Int) (l : List HAct) (limit : Int) (ws : List HWin) : Int := if winsErr n l limit ws = 0 then (ws.length : Int) else 0

theorem find_hit {α : Type} (p : α → Bool) (ws : List α) (q : Nat) (hq : q < ws.length) (hall : (ws.take q).all (fun x => !p x) = true) (hp : p ws[q] = true) : ws.find? p = some ws[q] := by
  rw [List.find?_eq_some_iff_getElem]
  refine ⟨hp, q, hq, rfl, fun j hj => ?_⟩
  have := List.all_eq_true.1 hall ws[j] (List.mem_take_iff_getElem.2 ⟨j, by omega, rfl⟩)
  exact this
theorem find_none {α : Type} (p : α → Bool) (ws : List α) (hall : ws.all (fun x => !p x) = true) : ws.find? p = none := by
  rw [List.find?_eq_none]
  intro x hx
  have := List.all_eq_true.1 hall x hx
  simpa using this
theorem all_snoc' {α : Type} (p : α → Bool) (l : List α) (q : Nat) (h : q < l.length) : (l.take (q + 1)).all p = ((l.take q).all p && p l[q]) := by
  simp only [List.take_add_one, List.all_append, List.getElem?_eq_getElem h, Option.toList, List.all_cons, List.all_nil, Bool.and_true]
theorem winErr_in {n : Int} {l : List HAct} {limit : Int} {x : HWin} (h : inside n l.length x = true) : (isWinN l limit x.ion x.frm.toNat x.to.toNat = true → winErr n l limit x = 0) ∧ (isWinN l limit x.ion x.frm.toNat x.to.toNat = false → winErr n l limit x = 7) := by
  refine ⟨fun e => ?_, fun e => ?_⟩ <;> rw [winErr, if_pos h, e] <;> rfl
theorem winErr_out {n : Int} {l : List HAct} {limit : Int} {x : HWin} (h : inside n l.length x = false) : winErr n l limit x = 1 := by rw [winErr, h]; rfl

/-! ### The program's closure and ContainsFunc at windows -/
theorem pmeet (v x : HWin) (w : World) :
    Calls Try.prog 62 #[winV v, winV x] w fun e w' => e = .returned (.bool (meets v x)) ∧ Below w.heap.size w w' := by
  obtain ⟨a, b, c⟩ := v
  obtain ⟨d, e, f⟩ := x
  have hb : Below w.heap.size w ((w.alloc (.cells #[.int .i64 a, .int .i64 b, .int .i64 c] 67)).alloc (.cells #[.int .i64 d, .int .i64 e, .int .i64 f] 67)) := ((Below.refl _ _).alloc (Nat.le_refl _) _).alloc (by simp) _
  by_cases h1 : a = d
  · subst h1
    by_cases h2 : b < f
    · by_cases h3 : e < c
      · go_enter Try.func62, Try.ntmps62
        go_wp2
        go_ret
        exact ⟨ret_bool (by simp [meets, h2, h3]), hb⟩
      · have d3 : decide (e < c) = false := by simpa using h3
        go_enter Try.func62, Try.ntmps62
        go_wp2
        go_ret
        exact ⟨ret_bool (by simp [meets, h3]; try omega), hb⟩
    · have d2 : decide (b < f) = false := by simpa using h2
      go_enter Try.func62, Try.ntmps62
      go_wp2
      go_ret
      exact ⟨ret_bool (by simp [meets, d2]), hb⟩
  · have d1 : (a == d) = false := by simpa using h1
    have H1 := Lib.hid h1
    clear h1
    go_enter Try.func62, Try.ntmps62
    go_wp2
    go_ret
    exact ⟨ret_bool (by simp [meets, d1]), hb⟩

/-- CheckWindows' closure: does v, in a box, meet x? -/
theorem checkFn (v x : HWin) (W : World) (g : Nat) (hg : W.heap[g]? = some (.cells #[.int .i64 v.ion, .int .i64 v.frm, .int .i64 v.to] 67 (0, 0))) :
    Calls Try.prog 61 #[winV x, .pointer (some ⟨g, 0, none⟩)] W fun e W' => e = .returned (.bool (meets v x)) ∧ Below W.heap.size W W' := by
  have hlt := blk_lt hg
  have x0 : W.cell? ⟨g, 0, none⟩ = some (.int .i64 v.ion) := blk_cell hg 0
  have x1 : W.cell? ⟨g, 1, none⟩ = some (.int .i64 v.frm) := blk_cell hg 1
  have x2 : W.cell? ⟨g, 2, none⟩ = some (.int .i64 v.to) := blk_cell hg 2
  have HG := Lib.hid hg
  clear hg
  go_enter Try.func61, Try.ntmps61
  go_wp2_with fail
  refine (pmeet v x _).mono ?_
  rintro e w' ⟨rfl, hb⟩
  go_wp2
  go_ret
  exact ⟨rfl, ((Below.refl _ _).alloc (Nat.le_refl _) _).trans (hb.mono (by simp))⟩

set_option maxHeartbeats 400000 in
/-- slices.IndexFunc at windows. -/
theorem winIndexFunc (f : FuncId) (hcf : ∀ (args : Array Value) (W : World), (callFunc f args).run Try.prog W = .ok (.enter f args) W) (cs : Array Value) (p : HWin → Bool) (A : Option Addr) (k c : Nat) (l : List HWin) (w : World) (hl : l.length ≤ 1000) (B : Nat) (hB : B ≤ w.heap.size) (hr : Rd w B 3 A k (winCells l))
    (hf : ∀ a ∈ l, ∀ W, Below w.heap.size w W → Calls Try.prog f (#[winV a] ++ cs) W fun e W' => e = .returned (.bool (p a)) ∧ Below W.heap.size W W') :
    Calls Try.prog 82 #[.slice A k c, .func (.func f) #[] cs] w fun e w' => e = .returned (.int .i64 (placeOf p l)) ∧ Below w.heap.size w w' := by
  obtain rfl := hr.win_len
  have HF := Lib.hid hf
  clear hf
  go_enter Try.func82, Try.ntmps82
  go_wp2
  go_loopw [8] (fun i wr => ∃ q : Nat, q ≤ l.length ∧ i = .int .i64 q ∧ Below w.heap.size w wr ∧ (l.take q).any p = false) (fun i _ => l.length - (intOf i).toNat)
  case atStart => exact ⟨0, Nat.zero_le _, rfl, Below.refl _ _, rfl⟩
  case round =>
    obtain ⟨q, hq, rfl, hb, hall⟩ := hrel
    by_cases hlt : q < l.length
    · obtain ⟨b, off, rfl, hbb, h0, h1, h2⟩ := (hr.below' hb hB).win hlt
      have hin : l[q] ∈ l := List.getElem_mem hlt
      have ht := any_take p l q hlt
      rw [hall, Bool.false_or] at ht
      by_cases ha : p l[q] = true
      · have hx : placeOf p l = q := by
          rw [placeOf, if_pos (List.any_eq_true.2 ⟨_, hin, ha⟩)]
          congr 1
          rw [List.findIdx_eq hlt]
          refine ⟨ha, fun j hj => ?_⟩
          have hz : l[j] ∈ l.take q := List.mem_take_iff_getElem.2 ⟨j, by omega, rfl⟩
          have := List.any_eq_false.1 hall _ hz
          simpa using this
        have HX := Lib.hid hx
        have HA := Lib.hid ha
        clear hx ha ht hall
        go_wp2_with fail
        refine (HF.out _ hin _ hb).mono ?_
        rw [HA.out]
        rintro e w' ⟨rfl, hb'⟩
        go_wp2
        go_ret
        exact ⟨ret_int HX.out.symm, hb.trans (hb'.mono hb.size)⟩
      · rw [Bool.not_eq_true] at ha
        have HT := Lib.hid (ht.trans ha)
        have HA := Lib.hid ha
        clear ha ht hall
        go_wp2_with fail
        refine (HF.out _ hin _ hb).mono ?_
        rw [HA.out]
        rintro e w' ⟨rfl, hb'⟩
        go_wp2
        go_roundw
        case rel => exact ⟨q + 1, by omega, by go_num, hb.trans (hb'.mono hb.size), HT.out⟩
        case measure => simp [intOf]; omega
    · obtain rfl : q = l.length := by omega
      rw [List.take_length] at hall
      have HA := Lib.hid hall
      clear hall
      go_wp2
      go_ret
      exact ⟨ret_int (by rw [placeOf, HA.out]; rfl), hb⟩

set_option maxHeartbeats 400000 in
/-- slices.ContainsFunc at windows. -/
theorem winContainsFunc (f : FuncId) (hcf : ∀ (args : Array Value) (W : World), (callFunc f args).run Try.prog W = .ok (.enter f args) W) (cs : Array Value) (p : HWin → Bool) (A : Option Addr) (k c : Nat) (l : List HWin) (w : World) (hl : l.length ≤ 1000) (B : Nat) (hB : B ≤ w.heap.size) (hr : Rd w B 3 A k (winCells l))
    (hf : ∀ a ∈ l, ∀ W, Below w.heap.size w W → Calls Try.prog f (#[winV a] ++ cs) W fun e W' => e = .returned (.bool (p a)) ∧ Below W.heap.size W W') :
    Calls Try.prog 60 #[.slice A k c, .func (.func f) #[] cs] w fun e w' => e = .returned (.bool (l.any p)) ∧ Below w.heap.size w w' := by
  have H := Lib.hid (winIndexFunc f hcf cs p A k c l w hl B hB hr hf)
  clear hf hcf
  by_cases ha : l.any p = true
  · have HA := Lib.hid ha
    clear ha
    go_enter Try.func60, Try.ntmps60
    go_wp2_with fail
    refine H.out.mono ?_
    rw [placeOf, if_pos HA.out]
    rintro e w' ⟨rfl, hb⟩
    go_wp2
    go_ret
    exact ⟨ret_bool HA.out.symm, hb⟩
  · rw [Bool.not_eq_true] at ha
    have HA := Lib.hid ha
    clear ha
    go_enter Try.func60, Try.ntmps60
    go_wp2_with fail
    refine H.out.mono ?_
    rw [placeOf, HA.out, if_neg (by simp)]
    rintro e w' ⟨rfl, hb⟩
    go_wp2
    go_ret
    exact ⟨ret_bool HA.out.symm, hb⟩

end Go.Proofs.Ytkeolmipdoeljaa
