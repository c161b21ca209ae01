/-
  THE WALK of the law PulseChecks.
-/
import Derived.Test.YtnoocdannfeidaaOpen
import Derived.Test.YtnoocdannfeidaaW21
namespace Go.Proofs.Ytnoocdannfeidaa
open Go.RowKit Pulse

set_option maxHeartbeats 2000000 in
theorem lawChecks (A : Option Addr) (k c : Nat) (p : List Int) (A' : Option Addr) (k' c' : Nat) (ms : List Int) (a : Int) (w : World) (hk : k ≤ c) (hc : c ≤ maxLen) (hr : Rd w w.heap.size 1 A k (ints p)) (_ : Big p)
    (hk' : k' ≤ c') (hc' : c' ≤ maxLen) (hr' : Rd w w.heap.size 1 A' k' (ints ms)) (_ : Big ms) (_ : I64 a) :
    Calls Try.prog 6 #[.slice A k c, .slice A' k' c', .int .i64 a] w fun e w' => e = .returned (.bool true) ∧ Below w.heap.size w w' := by
  have hkm : k ≤ maxLen := Nat.le_trans hk hc
  have hkm' : k' ≤ maxLen := Nat.le_trans hk' hc'
  obtain rfl := hr.int_len
  obtain rfl := hr'.int_len
  by_cases hL : 100 < p.length
  · have hd : decide (100 < p.length) = true := by simpa using hL
    have HD := Lib.hid hd
    clear hd
    go_enter Try.func6, Try.ntmps6
    go_wp2_with fail
    refine (long _ _ _ _ hkm).mono ?_
    rw [HD.out]
    rintro e w1 ⟨rfl, rfl⟩
    go_wp2_with fail
    refine (known _).mono ?_
    rintro e w2 ⟨rfl, hb2⟩
    go_wp2
    go_ret
    exact ⟨rfl, hb2⟩
  · have HD := Lib.hid (show decide (100 < p.length) = false by simpa using hL)
    by_cases hL' : 100 < ms.length
    · have HD' := Lib.hid (show decide (100 < ms.length) = true by simpa using hL')
      go_enter Try.func6, Try.ntmps6
      go_wp2_with fail
      refine (long _ _ _ _ hkm).mono ?_
      rw [HD.out]
      rintro e w1 ⟨rfl, rfl⟩
      go_wp2_with fail
      refine (long _ _ _ _ hkm').mono ?_
      rw [HD'.out]
      rintro e w1 ⟨rfl, rfl⟩
      go_wp2_with fail
      refine (known _).mono ?_
      rintro e w2 ⟨rfl, hb2⟩
      go_wp2
      go_ret
      exact ⟨rfl, hb2⟩
    · have HD' := Lib.hid (show decide (100 < ms.length) = false by simpa using hL')
      have H1 := Lib.hid (pCheck A A' p.length c ms.length c' p ms a w (by omega) (by omega) w.heap.size (Nat.le_refl _) hr hr')
      have H2 := Lib.hid (fun w1 (hb : Below w.heap.size w w1) => rCheck A A' p.length c ms.length c' p ms a w1 (by omega) (by omega) w.heap.size hb.size (hr.below hb) (hr'.below hb))
      generalize chkE p ms a = x at *
      go_enter Try.func6, Try.ntmps6
      go_wp2_with fail
      refine (long _ _ _ _ hkm).mono ?_
      rw [HD.out]
      rintro e w1 ⟨rfl, rfl⟩
      go_wp2_with fail
      refine (long _ _ _ _ hkm').mono ?_
      rw [HD'.out]
      rintro e w1 ⟨rfl, rfl⟩
      go_wp2_with fail
      refine H1.out.mono ?_
      rintro e w1 ⟨rfl, hb1⟩
      have s1 := hb1.size
      go_wp2_with fail
      refine (H2.out w1 hb1).mono ?_
      rintro e w2 ⟨rfl, hb2⟩
      go_wp2_with fail
      refine (known _).mono ?_
      rintro e w3 ⟨rfl, hb3⟩
      go_wp2
      go_ret
      exact ⟨rfl, hb1.trans ((hb2.mono s1).trans (hb3.mono (by have := hb2.size; omega)))⟩
end Go.Proofs.Ytnoocdannfeidaa
