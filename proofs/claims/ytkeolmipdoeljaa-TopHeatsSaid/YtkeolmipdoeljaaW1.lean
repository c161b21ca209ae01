/-
  WALKS: the tests of acts.
-/
import Derived.Test.YtkeolmipdoeljaaRows
import Derived.Test.YtkeolmipdoeljaaMem
import Derived.Test.YtkeolmipdoeljaaPlain
import Derived.Deep.QuietTactic
import Derived.BigQuiet
import Derived.BigGuardPart
import Derived.Outline
namespace Go.Proofs.Ytkeolmipdoeljaa
open Go.RowKit Heat

set_option maxHeartbeats 400000 in
theorem rwithin (n lo hi : Int) (w : World) :
    Calls Try.prog 63 #[.int .i64 n, .int .i64 lo, .int .i64 hi] w fun e w' => e = .returned (.bool (decide (lo ≤ n) && decide (n ≤ hi))) ∧ w = w' := by
  by_cases h : lo ≤ n
  · go_enter Try.func63, Try.ntmps63
    go_wp2
    go_ret
    exact ⟨by simp [h], rfl⟩
  · have hd : decide (lo ≤ n) = false := by simpa using h
    go_enter Try.func63, Try.ntmps63
    go_wp2
    go_ret
    exact ⟨by simp [h], rfl⟩


set_option maxHeartbeats 400000 in
theorem risAct (n : Int) (a : HAct) (w : World) (hn : 0 ≤ n) (hn' : n ≤ 100) :
    Calls Try.prog 83 #[.int .i64 n, .agg #[.int .i64 a.kind, .int .i64 a.ion, .int .i64 a.heat]] w fun e w' => e = .returned (.bool (isAct n a)) ∧ Below w.heap.size w w' := by
  obtain ⟨k, j, x⟩ := a
  go_enter Try.func83, Try.ntmps83
  go_wp2_with (go_at_call 63; refine (rwithin _ _ _ _).mono ?_; rintro e w' ⟨rfl, rfl⟩)
  all_goals
    go_ret
    refine ⟨ret_bool ?_, (Below.refl _ _).alloc (Nat.le_refl _) _⟩
    first
      | (symm; apply decide_eq_true; omega)
      | (symm; apply decide_eq_false; omega)
      | (rw [isAct, Bool.eq_iff_iff, decide_eq_true_eq]; simp; omega)

set_option maxHeartbeats 400000 in
theorem rareActs (n : Int) (A : Option Addr) (k c : Nat) (l : List HAct) (w : World) (hn : 0 ≤ n) (hn' : n ≤ 100) (hl : l.length ≤ 1000) (B : Nat) (hB : B ≤ w.heap.size) (hr : Rd w B 3 A k (actCells l)) :
    Calls Try.prog 66 #[.int .i64 n, .slice A k c] w fun e w' => e = .returned (.bool (areActs n l)) ∧ Below w.heap.size w w' := by
  obtain rfl := hr.act_len
  go_enter Try.func66, Try.ntmps66
  go_wp2
  go_loopw [5] (fun i wr => ∃ q : Nat, q ≤ l.length ∧ i = .int .i64 q ∧ Below w.heap.size w wr ∧ areActs n (l.take q) = true) (fun i _ => l.length - (intOf i).toNat)
  case atStart => exact ⟨0, Nat.zero_le _, rfl, Below.refl _ _, rfl⟩
  case round =>
    obtain ⟨q, hq, rfl, hb, hall⟩ := hrel
    by_cases hlt : q < l.length
    · obtain ⟨b, off, rfl, hbb, h0, h1, h2⟩ := (hr.below' hb hB).act hlt
      have hin : l[q] ∈ l := List.getElem_mem hlt
      have ht : areActs n (l.take (q + 1)) = (areActs n (l.take q) && isAct n l[q]) := by
        simp only [areActs, List.take_add_one, List.all_append, List.getElem?_eq_getElem hlt, Option.toList, List.all_cons, List.all_nil, Bool.and_true]
      rw [hall, Bool.true_and] at ht
      by_cases ha : isAct n l[q] = true
      · have HT := Lib.hid (ht.trans ha)
        have HA := Lib.hid ha
        clear ht ha hall
        go_wp2_with (go_at_call 83; refine (risAct n l[q] _ hn hn').mono ?_; rw [HA.out]; rintro e w' ⟨rfl, hb'⟩)
        go_roundw
        case rel => exact ⟨q + 1, by omega, by go_num, hb.trans (hb'.mono hb.size), HT.out⟩
        case measure => simp [intOf]; omega
      · have hf : areActs n l = false := by
          rw [Bool.eq_false_iff]; intro hx; exact ha (areActs_iff.1 hx _ hin)
        have HF := Lib.hid hf
        have HA := Lib.hid (Bool.eq_false_iff.2 ha)
        clear ht ha hf hall
        go_wp2_with (go_at_call 83; refine (risAct n l[q] _ hn hn').mono ?_; rw [HA.out]; rintro e w' ⟨rfl, hb'⟩)
        go_ret
        exact ⟨ret_bool HF.out.symm, hb.trans (hb'.mono hb.size)⟩
    · obtain rfl : q = l.length := by omega
      rw [List.take_length] at hall
      have HA := Lib.hid hall
      clear hall
      go_wp2
      go_ret
      exact ⟨ret_bool HA.out.symm, hb⟩

/-! ### The program's own tests of acts -/
set_option maxHeartbeats 400000 in
theorem pwithin (n lo hi : Int) (w : World) :
    Calls Try.prog 58 #[.int .i64 n, .int .i64 lo, .int .i64 hi] w fun e w' => e = .returned (.bool (decide (lo ≤ n) && decide (n ≤ hi))) ∧ w = w' := by
  by_cases h : lo ≤ n
  · go_enter Try.func58, Try.ntmps58
    go_wp2
    go_ret
    exact ⟨by simp [h], rfl⟩
  · have hd : decide (lo ≤ n) = false := by simpa using h
    go_enter Try.func58, Try.ntmps58
    go_wp2
    go_ret
    exact ⟨by simp [h], rfl⟩

set_option maxHeartbeats 400000 in
theorem pisAct (n : Int) (a : HAct) (w : World) (hn : 0 ≤ n) (hn' : n ≤ 100) :
    Calls Try.prog 88 #[.int .i64 n, .agg #[.int .i64 a.kind, .int .i64 a.ion, .int .i64 a.heat]] w fun e w' => e = .returned (.bool (isAct n a)) ∧ Below w.heap.size w w' := by
  obtain ⟨k, j, x⟩ := a
  go_enter Try.func88, Try.ntmps88
  go_wp2_with (go_at_call 58; refine (pwithin _ _ _ _).mono ?_; rintro e w' ⟨rfl, rfl⟩)
  all_goals
    go_ret
    refine ⟨ret_bool ?_, (Below.refl _ _).alloc (Nat.le_refl _) _⟩
    first
      | (symm; apply decide_eq_true; omega)
      | (symm; apply decide_eq_false; omega)
      | (rw [isAct, Bool.eq_iff_iff, decide_eq_true_eq]; simp; omega)

/-- acts' closure: is it no act of n ions? n lies in a box. -/
theorem actsFn (n : Int) (a : HAct) (W : World) (g : Nat) (hn : 0 ≤ n) (hn' : n ≤ 100) (hg : W.cell? ⟨g, 0, none⟩ = some (.int .i64 n)) :
    Calls Try.prog 87 #[actV a, .pointer (some ⟨g, 0, none⟩)] W fun e W' => e = .returned (.bool (!isAct n a)) ∧ Below W.heap.size W W' := by
  have hlt : g < W.heap.size := World.block_lt_of_cell? _ _ hg
  have hg2 : (W.alloc (.cells #[.int .i64 a.kind, .int .i64 a.ion, .int .i64 a.heat] 48)).cell? ⟨g, 0, none⟩ = some (.int .i64 n) := by
    rw [World.cell?_alloc_past _ _ _ hlt]; exact hg
  have H := Lib.hid (pisAct n a)
  go_enter Try.func87, Try.ntmps87
  go_wp2_with fail
  refine (H.out _ hn hn').mono ?_
  rintro e w' ⟨rfl, hb⟩
  go_wp2
  go_ret
  exact ⟨rfl, ((Below.refl _ _).alloc (Nat.le_refl _) _).trans (hb.mono (by simp))⟩

/-- Where the first one is, -1 if there is none. -/
def placeOf {α : Type} (p : α → Bool) (l : List α) : Int := if l.any p then (l.findIdx p : Int) else -1
set_option maxHeartbeats 400000 in
/-- slices.IndexFunc at acts. -/
theorem actIndexFunc (f : FuncId) (hcf : ∀ (args : Array Value) (W : World), (callFunc f args).run Try.prog W = .ok (.enter f args) W) (cs : Array Value) (p : HAct → Bool) (A : Option Addr) (k c : Nat) (l : List HAct) (w : World) (hl : l.length ≤ 1000) (B : Nat) (hB : B ≤ w.heap.size) (hr : Rd w B 3 A k (actCells l))
    (hf : ∀ a ∈ l, ∀ W, Below w.heap.size w W → Calls Try.prog f (#[actV a] ++ cs) W fun e W' => e = .returned (.bool (p a)) ∧ Below W.heap.size W W') :
    Calls Try.prog 84 #[.slice A k c, .func (.func f) #[] cs] w fun e w' => e = .returned (.int .i64 (placeOf p l)) ∧ Below w.heap.size w w' := by
  obtain rfl := hr.act_len
  have HF := Lib.hid hf
  clear hf
  go_enter Try.func84, Try.ntmps84
  go_wp2
  go_loopw [8] (fun i wr => ∃ q : Nat, q ≤ l.length ∧ i = .int .i64 q ∧ Below w.heap.size w wr ∧ (l.take q).any p = false) (fun i _ => l.length - (intOf i).toNat)
  case atStart => exact ⟨0, Nat.zero_le _, rfl, Below.refl _ _, rfl⟩
  case round =>
    obtain ⟨q, hq, rfl, hb, hall⟩ := hrel
    by_cases hlt : q < l.length
    · obtain ⟨b, off, rfl, hbb, h0, h1, h2⟩ := (hr.below' hb hB).act hlt
      have hin : l[q] ∈ l := List.getElem_mem hlt
      have ht := any_take p l q hlt
      rw [hall, Bool.false_or] at ht
      by_cases ha : p l[q] = true
      · have hx : placeOf p l = q := by
          rw [placeOf, if_pos (List.any_eq_true.2 ⟨_, hin, ha⟩)]
          congr 1
          rw [List.findIdx_eq hlt]
          refine ⟨ha, fun j hj => ?_⟩
          have hz : l[j] ∈ l.take q := List.mem_take_iff_getElem.2 ⟨j, by omega, rfl⟩
          have := List.any_eq_false.1 hall _ hz
          simpa using this
        have HX := Lib.hid hx
        have HA := Lib.hid ha
        clear hx ha ht hall
        go_wp2_with fail
        refine (HF.out _ hin _ hb).mono ?_
        rw [HA.out]
        rintro e w' ⟨rfl, hb'⟩
        go_wp2
        go_ret
        exact ⟨ret_int HX.out.symm, hb.trans (hb'.mono hb.size)⟩
      · rw [Bool.not_eq_true] at ha
        have HT := Lib.hid (ht.trans ha)
        have HA := Lib.hid ha
        clear ha ht hall
        go_wp2_with fail
        refine (HF.out _ hin _ hb).mono ?_
        rw [HA.out]
        rintro e w' ⟨rfl, hb'⟩
        go_wp2
        go_roundw
        case rel => exact ⟨q + 1, by omega, by go_num, hb.trans (hb'.mono hb.size), HT.out⟩
        case measure => simp [intOf]; omega
    · obtain rfl : q = l.length := by omega
      rw [List.take_length] at hall
      have HA := Lib.hid hall
      clear hall
      go_wp2
      go_ret
      exact ⟨ret_int (by rw [placeOf, HA.out]; rfl), hb⟩

set_option maxHeartbeats 400000 in
/-- slices.ContainsFunc at acts. -/
theorem actContainsFunc (f : FuncId) (hcf : ∀ (args : Array Value) (W : World), (callFunc f args).run Try.prog W = .ok (.enter f args) W) (cs : Array Value) (p : HAct → Bool) (A : Option Addr) (k c : Nat) (l : List HAct) (w : World) (hl : l.length ≤ 1000) (B : Nat) (hB : B ≤ w.heap.size) (hr : Rd w B 3 A k (actCells l))
    (hf : ∀ a ∈ l, ∀ W, Below w.heap.size w W → Calls Try.prog f (#[actV a] ++ cs) W fun e W' => e = .returned (.bool (p a)) ∧ Below W.heap.size W W') :
    Calls Try.prog 86 #[.slice A k c, .func (.func f) #[] cs] w fun e w' => e = .returned (.bool (l.any p)) ∧ Below w.heap.size w w' := by
  have H := Lib.hid (actIndexFunc f hcf cs p A k c l w hl B hB hr hf)
  clear hf hcf
  by_cases ha : l.any p = true
  · have HA := Lib.hid ha
    clear ha
    go_enter Try.func86, Try.ntmps86
    go_wp2_with fail
    refine H.out.mono ?_
    rw [placeOf, if_pos HA.out]
    rintro e w' ⟨rfl, hb⟩
    go_wp2
    go_ret
    exact ⟨ret_bool HA.out.symm, hb⟩
  · rw [Bool.not_eq_true] at ha
    have HA := Lib.hid ha
    clear ha
    go_enter Try.func86, Try.ntmps86
    go_wp2_with fail
    refine H.out.mono ?_
    rw [placeOf, HA.out, if_neg (by simp)]
    rintro e w' ⟨rfl, hb⟩
    go_wp2
    go_ret
    exact ⟨ret_bool HA.out.symm, hb⟩

def actsErr (n : Int) (l : List HAct) : Int := if areActs n l then 0 else 1
set_option maxHeartbeats 400000 in
theorem pacts (n : Int) (A : Option Addr) (k c : Nat) (l : List HAct) (w : World) (hn : 0 ≤ n) (hn' : n ≤ 100) (hl : l.length ≤ 1000) (B : Nat) (hB : B ≤ w.heap.size) (hr : Rd w B 3 A k (actCells l)) :
    Calls Try.prog 76 #[.int .i64 n, .slice A k c] w fun e w' => e = .returned (.int .i64 (actsErr n l)) ∧ Below w.heap.size w w' := by
  have hc : (w.alloc (.cells #[.int .i64 n] 3)).cell? ⟨w.heap.size, 0, none⟩ = some (.int .i64 n) := by rw [World.cell?_alloc_at _ _ _ _ rfl]; rfl
  have H := Lib.hid (actContainsFunc 87 Try.call87 #[.pointer (some ⟨w.heap.size, 0, none⟩)] (fun a => !isAct n a) A k c l (w.alloc (.cells #[.int .i64 n] 3)) hl B (by simp; omega) (hr.alloc hB _)
    (fun a _ W hW => actsFn n a W w.heap.size hn hn' ((hW.cell (p := ⟨w.heap.size, 0, none⟩) (by simp)).trans hc)))
  have hany : (l.any fun a => !isAct n a) = !areActs n l := by simp [areActs, List.any_eq_not_all_not]
  rw [hany] at H
  clear hc hany
  by_cases ha : areActs n l = true
  · have HA := Lib.hid ha
    clear ha
    go_enter Try.func76, Try.ntmps76
    go_wp2_with fail
    refine H.out.mono ?_
    rw [HA.out]
    rintro e w' ⟨rfl, hb⟩
    go_wp2
    go_ret
    exact ⟨ret_int (by rw [actsErr, HA.out]; rfl), ((Below.refl _ _).alloc (Nat.le_refl _) _).trans (hb.mono (by simp))⟩
  · rw [Bool.not_eq_true] at ha
    have HA := Lib.hid ha
    clear ha
    go_enter Try.func76, Try.ntmps76
    go_wp2_with fail
    refine H.out.mono ?_
    rw [HA.out]
    rintro e w' ⟨rfl, hb⟩
    go_wp2
    go_ret
    exact ⟨ret_int (by rw [actsErr, HA.out]; rfl), ((Below.refl _ _).alloc (Nat.le_refl _) _).trans (hb.mono (by simp))⟩

set_option maxHeartbeats 400000 in
theorem rValidate (n : Int) (A : Option Addr) (k c : Nat) (l : List HAct) (w : World) (hl : l.length ≤ 1000) (B : Nat) (hB : B ≤ w.heap.size) (hr : Rd w B 3 A k (actCells l)) :
    Calls Try.prog 43 #[.int .i64 n, .slice A k c] w fun e w' => e = .returned (.int .i64 (validate n l)) ∧ Below w.heap.size w w' := by
  obtain rfl := hr.act_len
  by_cases h1 : 1 ≤ n
  · by_cases h2 : n ≤ 4
    · by_cases h3 : 20 < l.length
      · have HV := Lib.hid (show validate n l = 3 by rw [validate, if_pos ⟨h1, h2⟩, if_pos h3])
        go_enter Try.func43, Try.ntmps43
        go_wp2_with (go_at_call 63; refine (rwithin _ _ _ _).mono ?_; rintro e w' ⟨rfl, rfl⟩)
        go_ret
        exact ⟨ret_int HV.out.symm, Below.refl _ _⟩
      · by_cases ha : areActs n l = true
        · have HV := Lib.hid (show validate n l = 0 by rw [validate, if_pos ⟨h1, h2⟩, if_neg (by omega), if_pos ha])
          have HA := Lib.hid ha
          clear ha
          go_enter Try.func43, Try.ntmps43
          go_wp2_with (first | (go_at_call 63; refine (rwithin _ _ _ _).mono ?_; rintro e w' ⟨rfl, rfl⟩) | (go_at_call 66; refine (rareActs n A l.length c l _ (by omega) (by omega) hl B hB hr).mono ?_; rw [HA.out]; rintro e w' ⟨rfl, hb⟩))
          go_ret
          exact ⟨ret_int HV.out.symm, hb⟩
        · rw [Bool.not_eq_true] at ha
          have HV := Lib.hid (show validate n l = 1 by rw [validate, if_pos ⟨h1, h2⟩, if_neg (by omega), ha]; rfl)
          have HA := Lib.hid ha
          clear ha
          go_enter Try.func43, Try.ntmps43
          go_wp2_with (first | (go_at_call 63; refine (rwithin _ _ _ _).mono ?_; rintro e w' ⟨rfl, rfl⟩) | (go_at_call 66; refine (rareActs n A l.length c l _ (by omega) (by omega) hl B hB hr).mono ?_; rw [HA.out]; rintro e w' ⟨rfl, hb⟩))
          go_ret
          exact ⟨ret_int HV.out.symm, hb⟩
    · have hd : decide (n ≤ 4) = false := by simpa using h2
      have HV := Lib.hid (show validate n l = 1 by rw [validate, if_neg (by omega)])
      go_enter Try.func43, Try.ntmps43
      go_wp2_with (go_at_call 63; refine (rwithin _ _ _ _).mono ?_; rintro e w' ⟨rfl, rfl⟩)
      go_ret
      exact ⟨ret_int HV.out.symm, Below.refl _ _⟩
  · have hd : decide (1 ≤ n) = false := by simpa using h1
    have HV := Lib.hid (show validate n l = 1 by rw [validate, if_neg (by omega)])
    go_enter Try.func43, Try.ntmps43
    go_wp2_with (go_at_call 63; refine (rwithin _ _ _ _).mono ?_; rintro e w' ⟨rfl, rfl⟩)
    go_ret
    exact ⟨ret_int HV.out.symm, Below.refl _ _⟩

set_option maxHeartbeats 400000 in
theorem pValidate (n : Int) (A : Option Addr) (k c : Nat) (l : List HAct) (w : World) (hl : l.length ≤ 1000) (B : Nat) (hB : B ≤ w.heap.size) (hr : Rd w B 3 A k (actCells l)) :
    Calls Try.prog 42 #[.int .i64 n, .slice A k c] w fun e w' => e = .returned (.int .i64 (validate n l)) ∧ Below w.heap.size w w' := by
  obtain rfl := hr.act_len
  by_cases h1 : 1 ≤ n
  · by_cases h2 : n ≤ 4
    · by_cases h3 : 20 < l.length
      · have HV := Lib.hid (show validate n l = 3 by rw [validate, if_pos ⟨h1, h2⟩, if_pos h3])
        go_enter Try.func42, Try.ntmps42
        go_wp2_with (go_at_call 58; refine (pwithin _ _ _ _).mono ?_; rintro e w' ⟨rfl, rfl⟩)
        go_ret
        exact ⟨ret_int HV.out.symm, Below.refl _ _⟩
      · have hv : validate n l = actsErr n l := by rw [validate, if_pos ⟨h1, h2⟩, if_neg (by omega)]; rfl
        have HV := Lib.hid hv
        clear hv
        go_enter Try.func42, Try.ntmps42
        go_wp2_with (first | (go_at_call 58; refine (pwithin _ _ _ _).mono ?_; rintro e w' ⟨rfl, rfl⟩) | (go_at_call 76; refine (pacts n A l.length c l _ (by omega) (by omega) hl B hB hr).mono ?_; rintro e w' ⟨rfl, hb⟩))
        go_ret
        exact ⟨ret_int (by rw [HV.out]), hb⟩
    · have hd : decide (n ≤ 4) = false := by simpa using h2
      have HV := Lib.hid (show validate n l = 1 by rw [validate, if_neg (by omega)])
      go_enter Try.func42, Try.ntmps42
      go_wp2_with (go_at_call 58; refine (pwithin _ _ _ _).mono ?_; rintro e w' ⟨rfl, rfl⟩)
      go_ret
      exact ⟨ret_int HV.out.symm, Below.refl _ _⟩
  · have hd : decide (1 ≤ n) = false := by simpa using h1
    have HV := Lib.hid (show validate n l = 1 by rw [validate, if_neg (by omega)])
    go_enter Try.func42, Try.ntmps42
    go_wp2_with (go_at_call 58; refine (pwithin _ _ _ _).mono ?_; rintro e w' ⟨rfl, rfl⟩)
    go_ret
    exact ⟨ret_int HV.out.symm, Below.refl _ _⟩

set_option maxHeartbeats 400000 in
theorem rlimited (n : Int) (A : Option Addr) (k c : Nat) (l : List HAct) (limit : Int) (w : World) (hl : l.length ≤ 1000) (B : Nat) (hB : B ≤ w.heap.size) (hr : Rd w B 3 A k (actCells l)) :
    Calls Try.prog 56 #[.int .i64 n, .slice A k c, .int .i64 limit] w fun e w' => e = .returned (.int .i64 (limited n l limit)) ∧ Below w.heap.size w w' := by
  by_cases hv : validate n l = 0
  · have HV := Lib.hid hv
    by_cases h1 : 0 ≤ limit
    · by_cases h2 : limit ≤ 100
      · have HL := Lib.hid (show limited n l limit = 0 by rw [limited, if_pos hv, if_pos ⟨h1, h2⟩])
        clear hv
        go_enter Try.func56, Try.ntmps56
        go_wp2_with (first | (go_at_call 63; refine (rwithin _ _ _ _).mono ?_; rintro e w' ⟨rfl, rfl⟩) | (go_at_call 43; refine (rValidate n A k c l _ hl B hB hr).mono ?_; rw [HV.out]; rintro e w' ⟨rfl, hb⟩))
        go_ret
        exact ⟨ret_int HL.out.symm, hb⟩
      · have hd : decide (limit ≤ 100) = false := by simpa using h2
        have HL := Lib.hid (show limited n l limit = 1 by rw [limited, if_pos hv, if_neg (by omega)])
        clear hv
        go_enter Try.func56, Try.ntmps56
        go_wp2_with (first | (go_at_call 63; refine (rwithin _ _ _ _).mono ?_; rintro e w' ⟨rfl, rfl⟩) | (go_at_call 43; refine (rValidate n A k c l _ hl B hB hr).mono ?_; rw [HV.out]; rintro e w' ⟨rfl, hb⟩))
        go_ret
        exact ⟨ret_int HL.out.symm, hb⟩
    · have hd : decide (0 ≤ limit) = false := by simpa using h1
      have HL := Lib.hid (show limited n l limit = 1 by rw [limited, if_pos hv, if_neg (by omega)])
      clear hv
      go_enter Try.func56, Try.ntmps56
      go_wp2_with (first | (go_at_call 63; refine (rwithin _ _ _ _).mono ?_; rintro e w' ⟨rfl, rfl⟩) | (go_at_call 43; refine (rValidate n A k c l _ hl B hB hr).mono ?_; rw [HV.out]; rintro e w' ⟨rfl, hb⟩))
      go_ret
      exact ⟨ret_int HL.out.symm, hb⟩
  · have HL := Lib.hid (show limited n l limit = validate n l by rw [limited, if_neg hv])
    have hd : (validate n l == 0) = false := by simpa using hv
    have hd' : (validate n l != 0) = true := by simpa using hv
    clear hv
    go_enter Try.func56, Try.ntmps56
    go_wp2_with (go_at_call 43; refine (rValidate n A k c l _ hl B hB hr).mono ?_; rintro e w' ⟨rfl, hb⟩)
    go_ret
    exact ⟨ret_int HL.out.symm, hb⟩

set_option maxHeartbeats 400000 in
theorem plimited (n : Int) (A : Option Addr) (k c : Nat) (l : List HAct) (limit : Int) (w : World) (hl : l.length ≤ 1000) (B : Nat) (hB : B ≤ w.heap.size) (hr : Rd w B 3 A k (actCells l)) :
    Calls Try.prog 54 #[.int .i64 n, .slice A k c, .int .i64 limit] w fun e w' => e = .returned (.int .i64 (limited n l limit)) ∧ Below w.heap.size w w' := by
  by_cases hv : validate n l = 0
  · have HV := Lib.hid hv
    by_cases h1 : 0 ≤ limit
    · by_cases h2 : limit ≤ 100
      · have HL := Lib.hid (show limited n l limit = 0 by rw [limited, if_pos hv, if_pos ⟨h1, h2⟩])
        clear hv
        go_enter Try.func54, Try.ntmps54
        go_wp2_with (first | (go_at_call 58; refine (pwithin _ _ _ _).mono ?_; rintro e w' ⟨rfl, rfl⟩) | (go_at_call 42; refine (pValidate n A k c l _ hl B hB hr).mono ?_; rw [HV.out]; rintro e w' ⟨rfl, hb⟩))
        go_ret
        exact ⟨ret_int HL.out.symm, hb⟩
      · have hd : decide (limit ≤ 100) = false := by simpa using h2
        have HL := Lib.hid (show limited n l limit = 1 by rw [limited, if_pos hv, if_neg (by omega)])
        clear hv
        go_enter Try.func54, Try.ntmps54
        go_wp2_with (first | (go_at_call 58; refine (pwithin _ _ _ _).mono ?_; rintro e w' ⟨rfl, rfl⟩) | (go_at_call 42; refine (pValidate n A k c l _ hl B hB hr).mono ?_; rw [HV.out]; rintro e w' ⟨rfl, hb⟩))
        go_ret
        exact ⟨ret_int HL.out.symm, hb⟩
    · have hd : decide (0 ≤ limit) = false := by simpa using h1
      have HL := Lib.hid (show limited n l limit = 1 by rw [limited, if_pos hv, if_neg (by omega)])
      clear hv
      go_enter Try.func54, Try.ntmps54
      go_wp2_with (first | (go_at_call 58; refine (pwithin _ _ _ _).mono ?_; rintro e w' ⟨rfl, rfl⟩) | (go_at_call 42; refine (pValidate n A k c l _ hl B hB hr).mono ?_; rw [HV.out]; rintro e w' ⟨rfl, hb⟩))
      go_ret
      exact ⟨ret_int HL.out.symm, hb⟩
  · have HL := Lib.hid (show limited n l limit = validate n l by rw [limited, if_neg hv])
    have hd : (validate n l == 0) = false := by simpa using hv
    have hd' : (validate n l != 0) = true := by simpa using hv
    clear hv
    go_enter Try.func54, Try.ntmps54
    go_wp2_with (go_at_call 42; refine (pValidate n A k c l _ hl B hB hr).mono ?_; rintro e w' ⟨rfl, hb⟩)
    go_ret
    exact ⟨ret_int HL.out.symm, hb⟩
end Go.Proofs.Ytkeolmipdoeljaa
