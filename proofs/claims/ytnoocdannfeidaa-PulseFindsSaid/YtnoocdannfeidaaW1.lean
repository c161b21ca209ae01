/-
  WALKS: which pulses and modes are right.
-/
import Derived.Test.YtnoocdannfeidaaProg
import Derived.Test.YtnoocdannfeidaaMem
import Derived.Test.YtnoocdannfeidaaQTail
import Derived.Test.YtnoocdannfeidaaQTail2
import Derived.Test.YtnoocdannfeidaaPlain2
namespace Go.Proofs.Ytnoocdannfeidaa
open Go.RowKit Pulse

def isF (n : Int) : Bool := decide (-99 ≤ n) && decide (n ≤ 99)
/-- The error of a pulse: 0, 1 (ErrArg), 3 (ErrLarge). -/
def vald (p : List Int) : Int := if 12 < p.length then 3 else if p.all isF then 0 else 1
def isMode (m : Int) : Bool := decide (0 ≤ m) && decide (m ≤ 3)
def moded (p : List Int) (m : Int) : Int := if vald p = 0 then (if isMode m then 0 else 1) else vald p
theorem vald_ok {p : List Int} (h : vald p = 0) : p.length ≤ 12 ∧ Forces 99 p := by
  unfold vald at h
  split at h
  · omega
  · split at h
    · rename_i h1 h2
      refine ⟨by omega, fun f hf => ?_⟩
      have := List.all_eq_true.1 h2 f hf
      simp only [isF, Bool.and_eq_true, decide_eq_true_eq] at this
      omega
    · omega
theorem moded_ok {p : List Int} {m : Int} (h : moded p m = 0) : vald p = 0 ∧ 0 ≤ m ∧ m ≤ 3 := by
  unfold moded at h
  split at h
  · rename_i h1
    split at h
    · rename_i h2
      simp only [isMode, Bool.and_eq_true, decide_eq_true_eq] at h2
      exact ⟨h1, h2.1, h2.2⟩
    · omega
  · contradiction

theorem pisForce (n : Int) (w : World) : Calls Try.prog 78 #[.int .i64 n] w fun e w' => e = .returned (.bool (isF n)) ∧ w = w' := by
  unfold isF
  by_cases h : -99 ≤ n
  · go_enter Try.func78, Try.ntmps78
    go_wp2
    go_ret
    exact ⟨by simp [h], rfl⟩
  · have hd : decide (-99 ≤ n) = false := by simpa using h
    go_enter Try.func78, Try.ntmps78
    go_wp2
    go_ret
    exact ⟨by simp [h], rfl⟩
theorem pisMode (n : Int) (w : World) : Calls Try.prog 91 #[.int .i64 n] w fun e w' => e = .returned (.bool (isMode n)) ∧ w = w' := by
  unfold isMode
  by_cases h : 0 ≤ n
  · go_enter Try.func91, Try.ntmps91
    go_wp2
    go_ret
    exact ⟨by simp [h], rfl⟩
  · have hd : decide (0 ≤ n) = false := by simpa using h
    go_enter Try.func91, Try.ntmps91
    go_wp2
    go_ret
    exact ⟨by simp [h], rfl⟩
theorem rwithin (n lo hi : Int) (w : World) :
    Calls Try.prog 23 #[.int .i64 n, .int .i64 lo, .int .i64 hi] w fun e w' => e = .returned (.bool (decide (lo ≤ n) && decide (n ≤ hi))) ∧ w = w' := by
  by_cases h : lo ≤ n
  · go_enter Try.func23, Try.ntmps23
    go_wp2
    go_ret
    exact ⟨by simp [h], rfl⟩
  · have hd : decide (lo ≤ n) = false := by simpa using h
    go_enter Try.func23, Try.ntmps23
    go_wp2
    go_ret
    exact ⟨by simp [h], rfl⟩
/-- Validate's closure. -/
theorem valFn (n : Int) (W : World) : Calls Try.prog 77 #[.int .i64 n] W fun e W' => e = .returned (.bool (!isF n)) ∧ Below W.heap.size W W' := by
  go_enter Try.func77, Try.ntmps77
  go_wp2_with (go_at_call 78; refine (pisForce _ _).mono ?_; rintro e w' ⟨rfl, rfl⟩)
  go_ret
  exact ⟨rfl, Below.refl _ _⟩

/-- Where the first one is, -1 if there is none. -/
def placeOf {α : Type} (p : α → Bool) (l : List α) : Int := if l.any p then (l.findIdx p : Int) else -1
set_option maxHeartbeats 400000 in
/-- slices.IndexFunc at ints. -/
theorem intIndexFunc (f : FuncId) (hcf : ∀ (args : Array Value) (W : World), (callFunc f args).run Try.prog W = .ok (.enter f args) W) (cs : Array Value) (p : Int → Bool) (A : Option Addr) (k c : Nat) (l : List Int) (w : World) (hl : l.length ≤ 1000) (B : Nat) (hB : B ≤ w.heap.size) (hr : Rd w B 1 A k (ints l))
    (hf : ∀ a ∈ l, ∀ W, Below w.heap.size w W → Calls Try.prog f (#[.int .i64 a] ++ cs) W fun e W' => e = .returned (.bool (p a)) ∧ Below W.heap.size W W') :
    Calls Try.prog 97 #[.slice A k c, .func (.func f) #[] cs] w fun e w' => e = .returned (.int .i64 (placeOf p l)) ∧ Below w.heap.size w w' := by
  obtain rfl := hr.int_len
  have HF := Lib.hid hf
  clear hf
  go_enter Try.func97, Try.ntmps97
  go_wp2
  go_loopw [8] (fun i wr => ∃ q : Nat, q ≤ l.length ∧ i = .int .i64 q ∧ Below w.heap.size w wr ∧ (l.take q).any p = false) (fun i _ => l.length - (intOf i).toNat)
  case atStart => exact ⟨0, Nat.zero_le _, rfl, Below.refl _ _, rfl⟩
  case round =>
    obtain ⟨q, hq, rfl, hb, hall⟩ := hrel
    by_cases hlt : q < l.length
    · obtain ⟨b, off, rfl, hbb, h0⟩ := (hr.below' hb hB).int hlt
      have hin : l[q] ∈ l := List.getElem_mem hlt
      have ht := any_take p l q hlt
      rw [hall, Bool.false_or] at ht
      by_cases ha : p l[q] = true
      · have hx : placeOf p l = q := by
          rw [placeOf, if_pos (List.any_eq_true.2 ⟨_, hin, ha⟩)]
          congr 1
          rw [List.findIdx_eq hlt]
          refine ⟨ha, fun j hj => ?_⟩
          have hz : l[j] ∈ l.take q := List.mem_take_iff_getElem.2 ⟨j, by omega, rfl⟩
          have := List.any_eq_false.1 hall _ hz
          simpa using this
        have HX := Lib.hid hx
        have HA := Lib.hid ha
        clear hx ha ht hall
        go_wp2_with fail
        refine (HF.out _ hin _ hb).mono ?_
        rw [HA.out]
        rintro e w' ⟨rfl, hb'⟩
        go_wp2
        go_ret
        exact ⟨ret_int HX.out.symm, hb.trans (hb'.mono hb.size)⟩
      · rw [Bool.not_eq_true] at ha
        have HT := Lib.hid (ht.trans ha)
        have HA := Lib.hid ha
        clear ha ht hall
        go_wp2_with fail
        refine (HF.out _ hin _ hb).mono ?_
        rw [HA.out]
        rintro e w' ⟨rfl, hb'⟩
        go_wp2
        go_roundw
        case rel => exact ⟨q + 1, by omega, by go_num, hb.trans (hb'.mono hb.size), HT.out⟩
        case measure => simp [intOf]; omega
    · obtain rfl : q = l.length := by omega
      rw [List.take_length] at hall
      have HA := Lib.hid hall
      clear hall
      go_wp2
      go_ret
      exact ⟨ret_int (by rw [placeOf, HA.out]; rfl), hb⟩

set_option maxHeartbeats 400000 in
/-- slices.ContainsFunc at ints. -/
theorem intContainsFunc (f : FuncId) (hcf : ∀ (args : Array Value) (W : World), (callFunc f args).run Try.prog W = .ok (.enter f args) W) (cs : Array Value) (p : Int → Bool) (A : Option Addr) (k c : Nat) (l : List Int) (w : World) (hl : l.length ≤ 1000) (B : Nat) (hB : B ≤ w.heap.size) (hr : Rd w B 1 A k (ints l))
    (hf : ∀ a ∈ l, ∀ W, Below w.heap.size w W → Calls Try.prog f (#[.int .i64 a] ++ cs) W fun e W' => e = .returned (.bool (p a)) ∧ Below W.heap.size W W') :
    Calls Try.prog 66 #[.slice A k c, .func (.func f) #[] cs] w fun e w' => e = .returned (.bool (l.any p)) ∧ Below w.heap.size w w' := by
  have H := Lib.hid (intIndexFunc f hcf cs p A k c l w hl B hB hr hf)
  clear hf hcf
  by_cases ha : l.any p = true
  · have HA := Lib.hid ha
    clear ha
    go_enter Try.func66, Try.ntmps66
    go_wp2_with fail
    refine H.out.mono ?_
    rw [placeOf, if_pos HA.out]
    rintro e w' ⟨rfl, hb⟩
    go_wp2
    go_ret
    exact ⟨ret_bool HA.out.symm, hb⟩
  · rw [Bool.not_eq_true] at ha
    have HA := Lib.hid ha
    clear ha
    go_enter Try.func66, Try.ntmps66
    go_wp2_with fail
    refine H.out.mono ?_
    rw [placeOf, HA.out, if_neg (by simp)]
    rintro e w' ⟨rfl, hb⟩
    go_wp2
    go_ret
    exact ⟨ret_bool HA.out.symm, hb⟩

set_option maxHeartbeats 400000 in
theorem pValidate (A : Option Addr) (k c : Nat) (l : List Int) (w : World) (hl : l.length ≤ 1000) (B : Nat) (hB : B ≤ w.heap.size) (hr : Rd w B 1 A k (ints l)) :
    Calls Try.prog 34 #[.slice A k c] w fun e w' => e = .returned (.int .i64 (vald l)) ∧ Below w.heap.size w w' := by
  obtain rfl := hr.int_len
  have H := Lib.hid (intContainsFunc 77 Try.call77 #[] (fun n => !isF n) A l.length c l w hl B hB hr (fun a _ W _ => valFn a W))
  by_cases h : 12 < l.length
  · have hd : decide (12 < l.length) = true := by simpa using h
    have HV := Lib.hid (show vald l = 3 by rw [vald, if_pos h])
    go_enter Try.func34, Try.ntmps34
    go_wp2
    go_ret
    exact ⟨ret_int HV.out.symm, Below.refl _ _⟩
  · have hd : decide (12 < l.length) = false := by simpa using h
    have hany : (l.any fun n => !isF n) = !l.all isF := by simp [List.any_eq_not_all_not]
    rw [hany] at H
    cases ha : l.all isF with
    | true =>
      have HV := Lib.hid (show vald l = 0 by rw [vald, if_neg h, if_pos ha])
      rw [ha] at H
      clear ha hany
      go_enter Try.func34, Try.ntmps34
      go_wp2_with fail
      refine H.out.mono ?_
      rintro e w' ⟨rfl, hb⟩
      go_wp2
      go_ret
      exact ⟨ret_int HV.out.symm, hb⟩
    | false =>
      have HV := Lib.hid (show vald l = 1 by rw [vald, if_neg h, if_neg (by rw [ha]; decide)])
      rw [ha] at H
      clear ha hany
      go_enter Try.func34, Try.ntmps34
      go_wp2_with fail
      refine H.out.mono ?_
      rintro e w' ⟨rfl, hb⟩
      go_wp2
      go_ret
      exact ⟨ret_int HV.out.symm, hb⟩

set_option maxHeartbeats 400000 in
theorem rValidate (A : Option Addr) (k c : Nat) (l : List Int) (w : World) (hl : l.length ≤ 1000) (B : Nat) (hB : B ≤ w.heap.size) (hr : Rd w B 1 A k (ints l)) :
    Calls Try.prog 35 #[.slice A k c] w fun e w' => e = .returned (.int .i64 (vald l)) ∧ Below w.heap.size w w' := by
  obtain rfl := hr.int_len
  by_cases h : 12 < l.length
  · have hd : decide (12 < l.length) = true := by simpa using h
    have HV := Lib.hid (show vald l = 3 by rw [vald, if_pos h])
    go_enter Try.func35, Try.ntmps35
    go_wp2
    go_ret
    exact ⟨ret_int HV.out.symm, Below.refl _ _⟩
  · have hd : decide (12 < l.length) = false := by simpa using h
    have HV0 := Lib.hid (show l.all isF = true → vald l = 0 from fun ha => by rw [vald, if_neg h, if_pos ha])
    have HV1 := Lib.hid (show l.all isF = false → vald l = 1 from fun ha => by rw [vald, if_neg h, if_neg (by rw [ha]; decide)])
    go_enter Try.func35, Try.ntmps35
    go_wp2
    go_loopw [3] (fun i wr => ∃ q : Nat, q ≤ l.length ∧ i = .int .i64 q ∧ Below w.heap.size w wr ∧ Hid ((l.take q).all isF = true)) (fun i _ => l.length - (intOf i).toNat)
    case atStart => exact ⟨0, Nat.zero_le _, rfl, Below.refl _ _, rfl⟩
    case round =>
      obtain ⟨q, hq, rfl, hb, hall⟩ := hrel
      by_cases hlt : q < l.length
      · obtain ⟨b, off, rfl, hbb, h0⟩ := (hr.below' hb hB).int hlt
        have ht := all_take isF l q hlt
        rw [hall.out, Bool.true_and] at ht
        cases ha : isF l[q] with
        | true =>
          have HT := Lib.hid (ht.trans ha)
          have HA := Lib.hid ha
          clear ha ht
          go_wp2_with fail
          refine (rwithin _ _ _ _).mono ?_
          rw [show (decide (-99 ≤ l[q]) && decide (l[q] ≤ 99)) = true from HA.out]
          rintro e w' ⟨rfl, rfl⟩
          go_wp2
          go_roundw
          case rel => exact ⟨q + 1, by omega, by go_num, hb, HT⟩
          case measure => simp [intOf]; omega
        | false =>
          have HN := Lib.hid (HV1.out (by
            rw [Bool.eq_false_iff]
            intro hx
            have := List.all_eq_true.1 hx _ (List.getElem_mem hlt)
            rw [ha] at this
            cases this))
          have HA := Lib.hid ha
          clear ha ht
          go_wp2_with fail
          refine (rwithin _ _ _ _).mono ?_
          rw [show (decide (-99 ≤ l[q]) && decide (l[q] ≤ 99)) = false from HA.out]
          rintro e w' ⟨rfl, rfl⟩
          go_wp2
          go_ret
          exact ⟨ret_int HN.out.symm, hb⟩
      · obtain rfl : q = l.length := by omega
        have HN := Lib.hid (HV0.out (by have := hall.out; rwa [List.take_length] at this))
        go_wp2
        go_ret
        exact ⟨ret_int HN.out.symm, hb⟩
end Go.Proofs.Ytnoocdannfeidaa
