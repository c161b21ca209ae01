/-
  WALKS: size, greatest.
-/
import Derived.Test.YtejjogpgolgdgaaW13
namespace Go.Proofs.Ytejjogpgolgdgaa
open Go.RowKit Pulse

def absI (n : Int) : Int := max n (-n)
theorem int_eq {a b : Int} (h : a = b) : Value.int .i64 a = .int .i64 b := by rw [h]
theorem absI_bd {n b : Int} (h : -b ≤ n ∧ n ≤ b) : 0 ≤ absI n ∧ absI n ≤ b := by unfold absI; omega
/-- The greatest absolute value. -/
def sizeL (l : List Int) : Int := l.foldl (fun n a => max n (absI a)) 0
theorem sizeL_snoc (l : List Int) (a : Int) : sizeL (l ++ [a]) = max (sizeL l) (absI a) := by simp [sizeL]
theorem sizeL_take {l : List Int} {q : Nat} (h : q < l.length) : sizeL (l.take (q + 1)) = max (sizeL (l.take q)) (absI l[q]) := by rw [take_snoc' l q h, sizeL_snoc]
theorem foldl_ge (l : List Int) : ∀ n : Int, n ≤ l.foldl (fun n a => max n (absI a)) n := by
  induction l with
  | nil => intro n; exact Int.le_refl _
  | cons a l ih => intro n; have := ih (max n (absI a)); simp only [List.foldl_cons]; omega
theorem sizeL_nn (l : List Int) : 0 ≤ sizeL l := foldl_ge l 0
theorem foldl_le {l : List Int} {b : Int} (h : Forces b l) : ∀ n : Int, n ≤ b → l.foldl (fun n a => max n (absI a)) n ≤ b := by
  induction l with
  | nil => intro n hn; exact hn
  | cons a l ih =>
    intro n hn
    have h1 := absI_bd (h a (by simp))
    exact ih h.tail _ (show max n (absI a) ≤ b by omega)
theorem sizeL_le {l : List Int} {b : Int} (hb : 0 ≤ b) (h : Forces b l) : sizeL l ≤ b := foldl_le h 0 hb
theorem psize (n : Int) (w : World) (h0 : -10000 ≤ n) (h1 : n ≤ 10000) : Calls Try.prog 72 #[.int .i64 n] w fun e w' => e = .returned (.int .i64 (absI n)) ∧ w = w' := by
  have HE := Lib.hid (show absI n = max n (-n) from rfl)
  go_enter Try.func72, Try.ntmps72
  go_wp2
  all_goals
    go_ret
    exact ⟨ret_int (by rw [HE.out]; omega), rfl⟩

set_option maxRecDepth 100000 in
set_option maxHeartbeats 1000000 in
theorem pgreatest (A : Option Addr) (k c : Nat) (l : List Int) (w : World) (hl : l.length ≤ 1000) (hf : Forces 1000 l) (B : Nat) (hr : Rd w B 1 A k (ints l)) :
    Calls Try.prog 71 #[.slice A k c, .func (.func 72) #[] #[]] w fun e w' => e = .returned (.int .i64 (sizeL l)) ∧ w = w' := by
  obtain rfl := hr.int_len
  have HF := Lib.hid hf
  have hcf := Try.call72
  clear hf
  go_enter Try.func71, Try.ntmps71
  go_wp2
  go_loop [11, 5] (fun i s => ∃ q : Nat, i = .int .i64 q ∧ q ≤ l.length ∧ s = .int .i64 (sizeL (l.take q))) (fun i _ => l.length - (intOf i).toNat)
  case atStart => exact ⟨0, rfl, Nat.zero_le _, rfl⟩
  case round =>
    obtain ⟨q, rfl, hq, rfl⟩ := hrel
    by_cases hlt : q < l.length
    · obtain ⟨b, off, rfl, _, g0⟩ := hr.int hlt
      have hb := HF.out _ (List.getElem_mem hlt)
      have HT := Lib.hid (sizeL_take hlt)
      have h0 := sizeL_nn (l.take q)
      have h1 := sizeL_le (b := 1000) (by decide) (HF.out.take q)
      have h2 := absI_bd hb
      have HZ := Lib.hid (show q = 0 → sizeL (l.take q) = 0 from fun e => by subst e; rfl)
      obtain ⟨a, ha⟩ : ∃ a, a = l[q] := ⟨_, rfl⟩
      rw [← ha] at g0 hb HT h2
      obtain ⟨s, hs⟩ : ∃ s, s = sizeL (l.take q) := ⟨_, rfl⟩
      rw [← hs] at h0 h1 HT HZ ⊢
      clear ha hs
      obtain ⟨x, hx⟩ : ∃ x, x = absI a := ⟨_, rfl⟩
      have HX := Lib.hid hx
      rw [← hx] at h2 HT
      clear hx
      have z0 : (0 : Int) ≤ (q : Int) := by omega
      have z1 : (q : Int) < (l.length : Int) := by omega
      by_cases hq0 : q = 0
      · have HS0 := Lib.hid (HZ.out hq0)
        have hd : ((q : Int) == 0) = true := by simpa using hq0
        clear hq0
        go_wp2_with fail
        refine (psize a _ (by omega) (by omega)).mono ?_
        rw [← HX.out]
        rintro e w' ⟨rfl, rfl⟩
        go_wp2
        go_round
        case rel => exact ⟨q + 1, by go_num, by omega, by rw [HT.out, HS0.out]; exact int_eq (by omega)⟩
        case measure => simp [intOf]; omega
      · have hd : ((q : Int) == 0) = false := by simpa using hq0
        clear hq0
        by_cases hxs : s < x
        · go_wp2_with fail
          refine (psize a _ (by omega) (by omega)).mono ?_
          rw [← HX.out]
          rintro e w' ⟨rfl, rfl⟩
          go_wp2
          go_round
          case rel => exact ⟨q + 1, by go_num, by omega, by rw [HT.out]; exact int_eq (by omega)⟩
          case measure => simp [intOf]; omega
        · go_wp2_with fail
          refine (psize a _ (by omega) (by omega)).mono ?_
          rw [← HX.out]
          rintro e w' ⟨rfl, rfl⟩
          go_wp2
          go_round
          case rel => exact ⟨q + 1, by go_num, by omega, by rw [HT.out]; exact int_eq (by omega)⟩
          case measure => simp [intOf]; omega
    · obtain rfl : q = l.length := by omega
      rw [List.take_length]
      go_wp2
      go_ret
      exact ⟨rfl, rfl⟩

set_option maxRecDepth 100000 in
set_option maxHeartbeats 1000000 in
theorem rsize (A : Option Addr) (k c : Nat) (l : List Int) (w : World) (hl : l.length ≤ 1000) (hf : Forces 1000 l) (B : Nat) (hB : B ≤ w.heap.size) (hr : Rd w B 1 A k (ints l)) :
    Calls Try.prog 73 #[.slice A k c] w fun e w' => e = .returned (.int .i64 (sizeL l)) ∧ Below w.heap.size w w' := by
  obtain rfl := hr.int_len
  have HF := Lib.hid hf
  clear hf
  go_enter Try.func73, Try.ntmps73
  go_wp2
  go_loopw [4, 3] (fun i s wr => ∃ q : Nat, i = .int .i64 q ∧ q ≤ l.length ∧ s = .int .i64 (sizeL (l.take q)) ∧ Below w.heap.size w wr) (fun i _ _ => l.length - (intOf i).toNat)
  case atStart => exact ⟨0, rfl, Nat.zero_le _, rfl, Below.refl _ _⟩
  case round =>
    obtain ⟨q, rfl, hq, rfl, hbw⟩ := hrel
    by_cases hlt : q < l.length
    · obtain ⟨b, off, rfl, _, g0⟩ := (hr.below' hbw hB).int hlt
      have hb := HF.out _ (List.getElem_mem hlt)
      have HT := Lib.hid (sizeL_take hlt)
      have h0 := sizeL_nn (l.take q)
      have h1 := sizeL_le (b := 1000) (by decide) (HF.out.take q)
      obtain ⟨a, ha⟩ : ∃ a, a = l[q] := ⟨_, rfl⟩
      rw [← ha] at g0 hb HT
      obtain ⟨s, hs⟩ : ∃ s, s = sizeL (l.take q) := ⟨_, rfl⟩
      rw [← hs] at h0 h1 HT ⊢
      clear ha hs
      have z0 : (0 : Int) ≤ (q : Int) := by omega
      have z1 : (q : Int) < (l.length : Int) := by omega
      go_wp2
      refine wp_region_qtail 10 (by kernel_rfl) (by kernel_rfl) ?_
      simp only [List.take_succ_cons, List.take_zero, List.drop_succ_cons, List.drop_zero]
      repeat (go_big_quiet_step (fail))
      refine wpQuiet_nil ?_
      go_wp2
      all_goals
        go_roundw
        case rel => exact ⟨q + 1, by go_num, by omega, by rw [HT.out]; exact int_eq (by unfold absI; omega), hbw.drew⟩
        case measure => simp [intOf]; omega
    · obtain rfl : q = l.length := by omega
      rw [List.take_length]
      go_wp2
      go_ret
      exact ⟨rfl, hbw⟩
end Go.Proofs.Ytejjogpgolgdgaa
