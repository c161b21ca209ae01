/-
  WALKS: the jump of two lists. (Printed by gen_w16.py.)
-/
import Derived.Test.YtejjogpgolgdgaaW15
namespace Go.Proofs.Ytejjogpgolgdgaa
open Go.RowKit Pulse

def subL (a b : List Int) : List Int := List.zipWith (· - ·) a b
/-- The greatest difference. -/
def jumpL (a b : List Int) : Int := sizeL (subL a b)
theorem subL_len {a b : List Int} (h : b.length = a.length) : (subL a b).length = a.length := by simp [subL]; omega
theorem subL_get {a b : List Int} {q : Nat} (h : q < a.length) (h' : q < b.length) (h2 : q < (subL a b).length) : (subL a b)[q] = a[q] - b[q] := by simp [subL]
theorem subL_bd {a b : List Int} {x y : Int} (ha : Forces x a) (hb : Forces y b) : Forces (x + y) (subL a b) := by
  intro f hf
  obtain ⟨i, hi, rfl⟩ := List.getElem_of_mem hf
  have h1 : i < a.length := by simp [subL] at hi; omega
  have h2 : i < b.length := by simp [subL] at hi; omega
  rw [subL_get h1 h2]
  have := ha _ (List.getElem_mem h1)
  have := hb _ (List.getElem_mem h2)
  omega
theorem jumpL_nn (a b : List Int) : 0 ≤ jumpL a b := sizeL_nn _
theorem jumpL_le {a b : List Int} {x y : Int} (hx : 0 ≤ x) (hy : 0 ≤ y) (ha : Forces x a) (hb : Forces y b) : jumpL a b ≤ x + y := sizeL_le (by omega) (subL_bd ha hb)
theorem psizeB (n : Int) (w : World) (h0 : -10000 ≤ n) (h1 : n ≤ 10000) : Calls Try.prog 72 #[.int .i64 n] w fun e w' => e = .returned (.int .i64 (absI n)) ∧ Below w.heap.size w w' :=
  (psize n w h0 h1).mono fun e w' ⟨h, hw⟩ => ⟨h, by subst hw; exact Below.refl _ _⟩

set_option maxRecDepth 100000 in
set_option maxHeartbeats 1000000 in
theorem papart (A A' : Option Addr) (k c k' c' : Nat) (a b : List Int) (w : World) (hl : a.length ≤ 1000) (hlb : b.length = a.length) (ha : Forces 1000 a) (hb : Forces 1000 b) (B : Nat) (hB : B ≤ w.heap.size) (hr : Rd w B 1 A k (ints a)) (hr' : Rd w B 1 A' k' (ints b)) :
    Calls Try.prog 76 #[.slice A k c, .slice A' k' c'] w fun e w' => e = .returned (.int .i64 (jumpL a b)) ∧ Below w.heap.size w w' := by
  obtain rfl := hr.int_len
  obtain rfl := hr'.int_len
  have HF := Lib.hid (subL_bd ha hb)
  have HA := Lib.hid ha
  have HBB := Lib.hid hb
  have HLB := Lib.hid hlb
  have HJ := Lib.hid (show jumpL a b = sizeL (subL a b) from rfl)
  have HDL := Lib.hid (subL_len hlb)
  clear ha hb
  obtain ⟨n, hn⟩ : ∃ n, n = a.length := ⟨_, rfl⟩
  have HN := Lib.hid hn
  rw [← hn] at hl hr hlb
  rw [hlb] at hr'
  rw [← hn, hlb]
  clear hn hlb
  go_enter Try.func76, Try.ntmps76
  go_wp2
  go_loopw [9, 5] (fun i s wr => ∃ q : Nat, i = .int .i64 q ∧ q ≤ n ∧ s = .int .i64 (sizeL ((subL a b).take q)) ∧ Below w.heap.size w wr) (fun i _ _ => n - (intOf i).toNat)
  case atStart => exact ⟨0, rfl, Nat.zero_le _, rfl, Below.refl _ _⟩
  case round =>
    obtain ⟨q, rfl, hq, rfl, hbw⟩ := hrel
    have sb := hbw.size
    by_cases hlt : q < n
    · have h1 : q < a.length := by have := HN.out; omega
      have h2 : q < b.length := by have := HN.out; have := HLB.out; omega
      have h3 : q < (subL a b).length := by have := HDL.out; have := HN.out; omega
      obtain ⟨b1, off1, rfl, hb1, g1⟩ := (hr.below' hbw hB).int h1
      obtain ⟨b2, off2, rfl, hb2, g2⟩ := (hr'.below' hbw hB).int h2
      have e1 := HA.out _ (List.getElem_mem h1)
      have e2 := HBB.out _ (List.getElem_mem h2)
      have HT := Lib.hid (sizeL_take h3)
      rw [subL_get h1 h2 h3] at HT
      have e3 := sizeL_nn ((subL a b).take q)
      have e4 := sizeL_le (b := 2000) (by decide) (HF.out.take q)
      obtain ⟨x, hx⟩ : ∃ x, x = a[q] := ⟨_, rfl⟩
      obtain ⟨y, hy⟩ : ∃ y, y = b[q] := ⟨_, rfl⟩
      rw [← hx] at g1 e1 HT
      rw [← hy] at g2 e2 HT
      obtain ⟨s, hs⟩ : ∃ s, s = sizeL ((subL a b).take q) := ⟨_, rfl⟩
      rw [← hs] at e3 e4 HT ⊢
      clear hx hy hs h1 h2 h3
      have z0 : (0 : Int) ≤ (q : Int) := by omega
      have z1 : (q : Int) < (n : Int) := by omega
      have y1 := IntWalk.i64_in (x - y) (by omega)
      have HS := Lib.hid (fun s => psizeB (x - y) (mergeW wr s) (by omega) (by omega))
      obtain ⟨z, hz⟩ : ∃ z, z = absI (x - y) := ⟨_, rfl⟩
      have e5 := absI_bd (n := x - y) (b := 10000) (by omega)
      rw [← hz] at HS HT e5
      have HZ := Lib.hid hz
      clear hz
      have mc := cell_mergeW wr
      have mf := frozen_mergeW wr
      have lb1 : b1 < wr.heap.size := by omega
      have lb2 : b2 < wr.heap.size := by omega
      go_wp2
      refine wp_region_btail 11 (by kernel_rfl) (by kernel_rfl) ?_
      simp only [List.take_succ_cons, List.take_zero, List.drop_succ_cons, List.drop_zero]
      repeat (go_big_quiet_step (first | (go_at_call 72; refine (HS.out _).mono ?_; rintro e w4 ⟨rfl, hb4⟩; exact ⟨rfl, in_mergeW hb4⟩)))
      refine wpQuiet_nil ?_
      rintro w4 ⟨s4, hs4⟩
      have hb4 := below_mergeW wr s4
      rw [← hs4] at hb4
      clear hs4 mc mf HS y1
      have hbk := Lib.hid (hbw.trans (hb4.mono sb))
      clear hb4
      go_wp2
      all_goals
        go_roundw
        case rel => exact ⟨q + 1, by go_num, by omega, by rw [HT.out]; exact int_eq (by omega), hbk.out⟩
        case measure => simp [intOf]; omega
    · obtain rfl : q = n := by omega
      have HE := Lib.hid (show sizeL ((subL a b).take q) = jumpL a b by rw [HJ.out, List.take_of_length_le (by have := HDL.out; have := HN.out; omega)])
      rw [HE.out]
      go_wp2
      go_ret
      exact ⟨rfl, hbw⟩

set_option maxRecDepth 100000 in
set_option maxHeartbeats 1000000 in
theorem rjump (A A' : Option Addr) (k c k' c' : Nat) (a b : List Int) (w : World) (hl : a.length ≤ 1000) (hlb : b.length = a.length) (ha : Forces 1000 a) (hb : Forces 1000 b) (B : Nat) (hB : B ≤ w.heap.size) (hr : Rd w B 1 A k (ints a)) (hr' : Rd w B 1 A' k' (ints b)) :
    Calls Try.prog 77 #[.slice A k c, .slice A' k' c'] w fun e w' => e = .returned (.int .i64 (jumpL a b)) ∧ Below w.heap.size w w' := by
  obtain rfl := hr.int_len
  obtain rfl := hr'.int_len
  have HF := Lib.hid (subL_bd ha hb)
  have HA := Lib.hid ha
  have HBB := Lib.hid hb
  have HLB := Lib.hid hlb
  have HJ := Lib.hid (show jumpL a b = sizeL (subL a b) from rfl)
  have HDL := Lib.hid (subL_len hlb)
  clear ha hb
  obtain ⟨n, hn⟩ : ∃ n, n = a.length := ⟨_, rfl⟩
  have HN := Lib.hid hn
  rw [← hn] at hl hr hlb
  rw [hlb] at hr'
  rw [← hn, hlb]
  clear hn hlb
  go_enter Try.func77, Try.ntmps77
  go_wp2
  go_loopw [6, 5] (fun i s wr => ∃ q : Nat, i = .int .i64 q ∧ q ≤ n ∧ s = .int .i64 (sizeL ((subL a b).take q)) ∧ Below w.heap.size w wr) (fun i _ _ => n - (intOf i).toNat)
  case atStart => exact ⟨0, rfl, Nat.zero_le _, rfl, Below.refl _ _⟩
  case round =>
    obtain ⟨q, rfl, hq, rfl, hbw⟩ := hrel
    have sb := hbw.size
    by_cases hlt : q < n
    · have h1 : q < a.length := by have := HN.out; omega
      have h2 : q < b.length := by have := HN.out; have := HLB.out; omega
      have h3 : q < (subL a b).length := by have := HDL.out; have := HN.out; omega
      obtain ⟨b1, off1, rfl, hb1, g1⟩ := (hr.below' hbw hB).int h1
      obtain ⟨b2, off2, rfl, hb2, g2⟩ := (hr'.below' hbw hB).int h2
      have e1 := HA.out _ (List.getElem_mem h1)
      have e2 := HBB.out _ (List.getElem_mem h2)
      have HT := Lib.hid (sizeL_take h3)
      rw [subL_get h1 h2 h3] at HT
      have e3 := sizeL_nn ((subL a b).take q)
      have e4 := sizeL_le (b := 2000) (by decide) (HF.out.take q)
      obtain ⟨x, hx⟩ : ∃ x, x = a[q] := ⟨_, rfl⟩
      obtain ⟨y, hy⟩ : ∃ y, y = b[q] := ⟨_, rfl⟩
      rw [← hx] at g1 e1 HT
      rw [← hy] at g2 e2 HT
      obtain ⟨s, hs⟩ : ∃ s, s = sizeL ((subL a b).take q) := ⟨_, rfl⟩
      rw [← hs] at e3 e4 HT ⊢
      clear hx hy hs h1 h2 h3
      have z0 : (0 : Int) ≤ (q : Int) := by omega
      have z1 : (q : Int) < (n : Int) := by omega
      have y1 := IntWalk.i64_in (x - y) (by omega)
      have y2 := IntWalk.i64_in (y - x) (by omega)
      go_wp2
      refine wp_region_qtail 19 (by kernel_rfl) (by kernel_rfl) ?_
      simp only [List.take_succ_cons, List.take_zero, List.drop_succ_cons, List.drop_zero]
      repeat (go_big_quiet_step (fail))
      refine wpQuiet_nil ?_
      clear y1 y2
      go_wp2
      all_goals
        go_roundw
        case rel => exact ⟨q + 1, by go_num, by omega, by rw [HT.out]; exact int_eq (by unfold absI; omega), hbw.drew⟩
        case measure => simp [intOf]; omega
    · obtain rfl : q = n := by omega
      have HE := Lib.hid (show sizeL ((subL a b).take q) = jumpL a b by rw [HJ.out, List.take_of_length_le (by have := HDL.out; have := HN.out; omega)])
      rw [HE.out]
      go_wp2
      go_ret
      exact ⟨rfl, hbw⟩
end Go.Proofs.Ytejjogpgolgdgaa
