/-
  WALK: Has.
-/
import Derived.Test.YtnoocdannfeidaaW25
namespace Go.Proofs.Ytnoocdannfeidaa
open Go.RowKit Pulse

def hasB (l : List Int) (x : Int) : Bool := l.any fun y => y == x
set_option maxHeartbeats 400000 in
theorem rHas (A : Option Addr) (k c : Nat) (l : List Int) (x : Int) (w : World) (hl : l.length ≤ 5000) (B : Nat) (hB : B ≤ w.heap.size) (hr : Rd w B 1 A k (ints l)) :
    Calls Try.prog 42 #[.slice A k c, .int .i64 x] w fun e w' => e = .returned (.bool (hasB l x)) ∧ Below w.heap.size w w' := by
  obtain rfl := hr.int_len
  have HD := Lib.hid (show hasB l x = l.any (fun y => y == x) from rfl)
  go_enter Try.func42, Try.ntmps42
  go_wp2
  go_loopw [5] (fun i wr => ∃ q : Nat, q ≤ l.length ∧ i = .int .i64 q ∧ Below w.heap.size w wr ∧ Hid ((l.take q).any (fun y => y == x) = false)) (fun i _ => l.length - (intOf i).toNat)
  case atStart => exact ⟨0, Nat.zero_le _, rfl, Below.refl _ _, rfl⟩
  case round =>
    obtain ⟨q, hq, rfl, hb, hall⟩ := hrel
    by_cases hlt : q < l.length
    · obtain ⟨b, off, rfl, hbb, h0⟩ := (hr.below' hb hB).int hlt
      have ht := any_take (fun y => y == x) l q hlt
      rw [hall.out, Bool.false_or] at ht
      have HIN := Lib.hid (List.getElem_mem hlt)
      have HT := Lib.hid ht
      clear ht
      generalize l[q] = f at *
      by_cases hf : f = x
      · have hd : (f == x) = true := by simpa using hf
        have HX := Lib.hid (show hasB l x = true by rw [HD.out]; exact List.any_eq_true.2 ⟨f, HIN.out, hd⟩)
        clear hf
        go_wp2
        go_ret
        exact ⟨ret_bool HX.out.symm, hb⟩
      · have hd : (f == x) = false := by simpa using hf
        have HX := Lib.hid (HT.out.trans hd)
        clear hf
        go_wp2
        go_roundw
        case rel => exact ⟨q + 1, by omega, by go_num, hb, HX⟩
        case measure => simp [intOf]; omega
    · obtain rfl : q = l.length := by omega
      have HX := Lib.hid (show hasB l x = false by rw [HD.out]; have := hall.out; rwa [List.take_length] at this)
      go_wp2
      go_ret
      exact ⟨ret_bool HX.out.symm, hb⟩
end Go.Proofs.Ytnoocdannfeidaa
