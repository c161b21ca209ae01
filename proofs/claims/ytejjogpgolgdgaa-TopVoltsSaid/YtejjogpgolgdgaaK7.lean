/-
  MERGED: W13, W14.
-/
import Derived.Test.YtejjogpgolgdgaaK6
/-
  WALKS: Ways of both, Volts. (Printed by gen_w13.py.)
-/
namespace Go.Proofs.Ytejjogpgolgdgaa
open Go.RowKit Pulse

theorem headD_get {M : List (List Int)} (h : 0 < M.length) : M.headD [] = M[0] := by
  cases M with
  | nil => simp at h
  | cons a t => rfl
def waysN (g : List (List Int)) (l : List Int) : Int := if wishE g l = 0 then ((makeL g l).length : Int) else 0
def voltsIs (g : List (List Int)) (l : List Int) : Bool := decide (wishE g l = 0) && decide (0 < (makeL g l).length)
def voltsL (g : List (List Int)) (l : List Int) : List Int := if voltsIs g l then (makeL g l).headD [] else []
theorem mem_makeL {g : List (List Int)} {l v : List Int} : v ∈ makeL g l ↔ (v.length = wid g ∧ Forces 3 v) ∧ fieldL g v = l := by
  rw [makeL, List.mem_filter, decide_eq_true_eq, mem_allP]; rfl
theorem makeL_len {g : List (List Int)} {l : List Int} (h : vldG g = 0) : (makeL g l).length ≤ 343 := by
  rw [← makeTo_all]; exact makeTo_len g l _ (vldG_ok h).2.2.2.1

set_option maxRecDepth 100000 in
set_option maxHeartbeats 1000000 in
theorem pWays (A A' : Option Addr) (k c k' c' : Nat) (g : List (List Int)) (l : List Int) (w : World) (hs : Sm g) (hl : l.length ≤ 1000) (B : Nat) (hB : B ≤ w.heap.size) (hr : TRd w B A k g) (hr' : Rd w B 1 A' k' (ints l)) :
    Calls Try.prog 19 #[.slice A k c, .slice A' k' c'] w fun e w' => e = .returned (.tuple #[.int .i64 (waysN g l), .int .i64 (wishE g l)]) ∧ Below w.heap.size w w' := by
  have hr := hr.more hB
  have hr' := hr'.more hB
  by_cases h : wishE g l = 0
  · have HV := Lib.hid h
    have HG := Lib.hid (wishE_ok h).1
    have HE := Lib.hid (show waysN g l = ((makeL g l).length : Int) by rw [waysN, if_pos h])
    have hml := makeL_len (l := l) (wishE_ok h).1
    clear h
    go_enter Try.func19, Try.ntmps19
    go_wp2_with fail
    refine (pwished _ _ _ _ _ _ g l w hs hl w.heap.size (Nat.le_refl _) hr hr').mono ?_
    rw [HV.out]
    rintro e w1 ⟨rfl, hb1⟩
    have s1 := hb1.size
    have HB1 := Lib.hid hb1
    have hr := (hr.below hb1).more s1
    have hr' := (hr'.below hb1).more s1
    clear hb1
    go_wp2_with fail
    refine (pmaking _ _ _ _ _ _ g l w1 HG.out hl w1.heap.size (Nat.le_refl _) hr hr').mono ?_
    rintro e w2 ⟨v2, rfl, hown2, hb2⟩
    have s2 := hb2.size
    have HB2 := Lib.hid (HB1.out.trans (hb2.mono (by have := HB1.out.size; omega)))
    have hr := (hr.below hb2).more s2
    have hr' := (hr'.below hb2).more s2
    obtain ⟨A2, c2, rfl, r2⟩ := hown2.cap
    clear hb2 hown2
    go_wp2
    go_ret2
    exact ⟨ret_pair (by rw [HE.out]; rfl) (by rw [HV.out]; rfl), HB2.out⟩
  · have hd : (wishE g l != 0) = true := by simpa using h
    have HE := Lib.hid (show waysN g l = 0 by rw [waysN, if_neg h])
    clear h
    have H := Lib.hid (pwished _ _ _ c _ c' g l w hs hl w.heap.size (Nat.le_refl _) hr hr')
    generalize wishE g l = x at *
    go_enter Try.func19, Try.ntmps19
    go_wp2_with fail
    refine (H.out).mono ?_
    rintro e w1 ⟨rfl, hb1⟩
    have s1 := hb1.size
    have HB1 := Lib.hid hb1
    have hr := (hr.below hb1).more s1
    have hr' := (hr'.below hb1).more s1
    clear hb1
    go_wp2
    go_ret2
    exact ⟨ret_pair (by rw [HE.out]; rfl) rfl, HB1.out⟩

set_option maxRecDepth 100000 in
set_option maxHeartbeats 1000000 in
theorem rWays (A A' : Option Addr) (k c k' c' : Nat) (g : List (List Int)) (l : List Int) (w : World) (hs : Sm g) (hl : l.length ≤ 1000) (B : Nat) (hB : B ≤ w.heap.size) (hr : TRd w B A k g) (hr' : Rd w B 1 A' k' (ints l)) :
    Calls Try.prog 20 #[.slice A k c, .slice A' k' c'] w fun e w' => e = .returned (.tuple #[.int .i64 (waysN g l), .int .i64 (wishE g l)]) ∧ Below w.heap.size w w' := by
  have hr := hr.more hB
  have hr' := hr'.more hB
  by_cases h : wishE g l = 0
  · have HV := Lib.hid h
    have HG := Lib.hid (wishE_ok h).1
    have HE := Lib.hid (show waysN g l = ((makeL g l).length : Int) by rw [waysN, if_pos h])
    have hml := makeL_len (l := l) (wishE_ok h).1
    clear h
    go_enter Try.func20, Try.ntmps20
    go_wp2_with fail
    refine (rWished _ _ _ _ _ _ g l w hs hl w.heap.size (Nat.le_refl _) hr hr').mono ?_
    rw [HV.out]
    rintro e w1 ⟨rfl, hb1⟩
    have s1 := hb1.size
    have HB1 := Lib.hid hb1
    have hr := (hr.below hb1).more s1
    have hr' := (hr'.below hb1).more s1
    clear hb1
    go_wp2_with fail
    refine (rmeeting _ _ _ _ _ _ g l w1 HG.out hl w1.heap.size (Nat.le_refl _) hr hr').mono ?_
    rintro e w2 ⟨v2, rfl, hown2, hb2⟩
    have s2 := hb2.size
    have HB2 := Lib.hid (HB1.out.trans (hb2.mono (by have := HB1.out.size; omega)))
    have hr := (hr.below hb2).more s2
    have hr' := (hr'.below hb2).more s2
    obtain ⟨A2, c2, rfl, r2⟩ := hown2.cap
    clear hb2 hown2
    go_wp2
    go_ret2
    exact ⟨ret_pair (by rw [HE.out]; rfl) (by rw [HV.out]; rfl), HB2.out⟩
  · have hd : (wishE g l != 0) = true := by simpa using h
    have HE := Lib.hid (show waysN g l = 0 by rw [waysN, if_neg h])
    clear h
    have H := Lib.hid (rWished _ _ _ c _ c' g l w hs hl w.heap.size (Nat.le_refl _) hr hr')
    generalize wishE g l = x at *
    go_enter Try.func20, Try.ntmps20
    go_wp2_with fail
    refine (H.out).mono ?_
    rintro e w1 ⟨rfl, hb1⟩
    have s1 := hb1.size
    have HB1 := Lib.hid hb1
    have hr := (hr.below hb1).more s1
    have hr' := (hr'.below hb1).more s1
    clear hb1
    go_wp2
    go_ret2
    exact ⟨ret_pair (by rw [HE.out]; rfl) rfl, HB1.out⟩

set_option maxRecDepth 100000 in
set_option maxHeartbeats 1000000 in
theorem pVolts (A A' : Option Addr) (k c k' c' : Nat) (g : List (List Int)) (l : List Int) (w : World) (hs : Sm g) (hl : l.length ≤ 1000) (B : Nat) (hB : B ≤ w.heap.size) (hr : TRd w B A k g) (hr' : Rd w B 1 A' k' (ints l)) :
    Calls Try.prog 41 #[.slice A k c, .slice A' k' c'] w fun e w' => ∃ A2 c2, e = .returned (.tuple #[.slice A2 (voltsL g l).length c2, .bool (voltsIs g l), .int .i64 (wishE g l)]) ∧ Rd w' w'.heap.size 1 A2 (voltsL g l).length (ints (voltsL g l)) ∧ Below w.heap.size w w' := by
  have hr := hr.more hB
  have hr' := hr'.more hB
  by_cases h : wishE g l = 0
  · have HV := Lib.hid h
    have HG := Lib.hid (wishE_ok h).1
    have hml := makeL_len (l := l) (wishE_ok h).1
    by_cases hp : 0 < (makeL g l).length
    · have HI := Lib.hid (show voltsIs g l = true by rw [voltsIs, h]; simpa using hp)
      have HL := Lib.hid (show voltsL g l = (makeL g l)[0] by rw [voltsL, if_pos HI.out]; exact headD_get hp)
      have q1 : (((makeL g l).length : Int) == 0) = false := by simp; intro e; rw [e] at hp; simp at hp
      have z0 : (0 : Int) < ((makeL g l).length : Int) := by omega
      clear h
      obtain ⟨M, hM⟩ : ∃ M, M = makeL g l := ⟨_, rfl⟩
      go_enter Try.func41, Try.ntmps41
      go_wp2_with fail
      refine (pwished _ _ _ _ _ _ g l w hs hl w.heap.size (Nat.le_refl _) hr hr').mono ?_
      rw [HV.out]
      rintro e w1 ⟨rfl, hb1⟩
      have s1 := hb1.size
      have HB1 := Lib.hid hb1
      have hr := (hr.below hb1).more s1
      have hr' := (hr'.below hb1).more s1
      clear hb1
      go_wp2_with fail
      refine (pmaking _ _ _ _ _ _ g l w1 HG.out hl w1.heap.size (Nat.le_refl _) hr hr').mono ?_
      rintro e w2 ⟨v2, rfl, hown2, hb2⟩
      have s2 := hb2.size
      have HB2 := Lib.hid (HB1.out.trans (hb2.mono (by have := HB1.out.size; omega)))
      have hr := (hr.below hb2).more s2
      have hr' := (hr'.below hb2).more s2
      obtain ⟨A2, c2, rfl, r2⟩ := hown2.cap
      clear hb2 hown2
      obtain ⟨b, off, A0, c0, rfl, hb0, hc0, _, _, h0⟩ := r2.row hp
      rw [Nat.add_zero] at hc0
      have HR0 := Lib.hid h0
      clear h0 hM
      go_wp2
      refine bodyPost_ret (results_tmp3 rfl _ _ _) rfl ?_
      exact ⟨A0, c0, ret_three (by rw [HL.out]; rfl) (by rw [HI.out]; rfl) (by rw [HV.out]; rfl), by rw [HL.out]; exact HR0.out, HB2.out⟩
    · have HI := Lib.hid (show voltsIs g l = false by rw [voltsIs, decide_eq_false hp, Bool.and_false])
      have HL := Lib.hid (show voltsL g l = [] by rw [voltsL, HI.out]; rfl)
      have HM0 := Lib.hid (show (makeL g l).length = 0 by omega)
      clear h hp
      go_enter Try.func41, Try.ntmps41
      go_wp2_with fail
      refine (pwished _ _ _ _ _ _ g l w hs hl w.heap.size (Nat.le_refl _) hr hr').mono ?_
      rw [HV.out]
      rintro e w1 ⟨rfl, hb1⟩
      have s1 := hb1.size
      have HB1 := Lib.hid hb1
      have hr := (hr.below hb1).more s1
      have hr' := (hr'.below hb1).more s1
      clear hb1
      go_wp2_with fail
      refine (pmaking _ _ _ _ _ _ g l w1 HG.out hl w1.heap.size (Nat.le_refl _) hr hr').mono ?_
      rintro e w2 ⟨v2, rfl, hown2, hb2⟩
      have s2 := hb2.size
      have HB2 := Lib.hid (HB1.out.trans (hb2.mono (by have := HB1.out.size; omega)))
      have hr := (hr.below hb2).more s2
      have hr' := (hr'.below hb2).more s2
      obtain ⟨A2, c2, rfl, r2⟩ := hown2.cap
      clear hb2 hown2
      rw [HM0.out]
      go_wp2
      refine bodyPost_ret (results_tmp3 rfl _ _ _) rfl ?_
      exact ⟨none, 0, ret_three (by rw [HL.out]; rfl) (by rw [HI.out]; rfl) (by rw [HV.out]; rfl), by rw [HL.out]; exact Rd.nil, HB2.out⟩
  · have hd : (wishE g l != 0) = true := by simpa using h
    have HI := Lib.hid (show voltsIs g l = false by rw [voltsIs, decide_eq_false h, Bool.false_and])
    have HL := Lib.hid (show voltsL g l = [] by rw [voltsL, HI.out]; rfl)
    clear h
    have H := Lib.hid (pwished _ _ _ c _ c' g l w hs hl w.heap.size (Nat.le_refl _) hr hr')
    generalize wishE g l = x at *
    go_enter Try.func41, Try.ntmps41
    go_wp2_with fail
    refine (H.out).mono ?_
    rintro e w1 ⟨rfl, hb1⟩
    have s1 := hb1.size
    have HB1 := Lib.hid hb1
    have hr := (hr.below hb1).more s1
    have hr' := (hr'.below hb1).more s1
    clear hb1
    go_wp2
    refine bodyPost_ret (results_tmp3 rfl _ _ _) rfl ?_
    exact ⟨none, 0, ret_three (by rw [HL.out]; rfl) (by rw [HI.out]; rfl) rfl, by rw [HL.out]; exact Rd.nil, HB1.out⟩
end Go.Proofs.Ytejjogpgolgdgaa

/-
  WALKS: size, greatest.
-/
namespace Go.Proofs.Ytejjogpgolgdgaa
open Go.RowKit Pulse

def absI (n : Int) : Int := max n (-n)
theorem int_eq {a b : Int} (h : a = b) : Value.int .i64 a = .int .i64 b := by rw [h]
theorem absI_bd {n b : Int} (h : -b ≤ n ∧ n ≤ b) : 0 ≤ absI n ∧ absI n ≤ b := by unfold absI; omega
/-- The greatest absolute value. -/
def sizeL (l : List Int) : Int := l.foldl (fun n a => max n (absI a)) 0
theorem sizeL_snoc (l : List Int) (a : Int) : sizeL (l ++ [a]) = max (sizeL l) (absI a) := by simp [sizeL]
theorem sizeL_take {l : List Int} {q : Nat} (h : q < l.length) : sizeL (l.take (q + 1)) = max (sizeL (l.take q)) (absI l[q]) := by rw [take_snoc' l q h, sizeL_snoc]
theorem foldl_ge (l : List Int) : ∀ n : Int, n ≤ l.foldl (fun n a => max n (absI a)) n := by
  induction l with
  | nil => intro n; exact Int.le_refl _
  | cons a l ih => intro n; have := ih (max n (absI a)); simp only [List.foldl_cons]; omega
theorem sizeL_nn (l : List Int) : 0 ≤ sizeL l := foldl_ge l 0
theorem foldl_le {l : List Int} {b : Int} (h : Forces b l) : ∀ n : Int, n ≤ b → l.foldl (fun n a => max n (absI a)) n ≤ b := by
  induction l with
  | nil => intro n hn; exact hn
  | cons a l ih =>
    intro n hn
    have h1 := absI_bd (h a (by simp))
    exact ih h.tail _ (show max n (absI a) ≤ b by omega)
theorem sizeL_le {l : List Int} {b : Int} (hb : 0 ≤ b) (h : Forces b l) : sizeL l ≤ b := foldl_le h 0 hb
theorem psize (n : Int) (w : World) (h0 : -10000 ≤ n) (h1 : n ≤ 10000) : Calls Try.prog 72 #[.int .i64 n] w fun e w' => e = .returned (.int .i64 (absI n)) ∧ w = w' := by
  have HE := Lib.hid (show absI n = max n (-n) from rfl)
  go_enter Try.func72, Try.ntmps72
  go_wp2
  all_goals
    go_ret
    exact ⟨ret_int (by rw [HE.out]; omega), rfl⟩

set_option maxRecDepth 100000 in
set_option maxHeartbeats 1000000 in
theorem pgreatest (A : Option Addr) (k c : Nat) (l : List Int) (w : World) (hl : l.length ≤ 1000) (hf : Forces 1000 l) (B : Nat) (hr : Rd w B 1 A k (ints l)) :
    Calls Try.prog 71 #[.slice A k c, .func (.func 72) #[] #[]] w fun e w' => e = .returned (.int .i64 (sizeL l)) ∧ w = w' := by
  obtain rfl := hr.int_len
  have HF := Lib.hid hf
  have hcf := Try.call72
  clear hf
  go_enter Try.func71, Try.ntmps71
  go_wp2
  go_loop [11, 5] (fun i s => ∃ q : Nat, i = .int .i64 q ∧ q ≤ l.length ∧ s = .int .i64 (sizeL (l.take q))) (fun i _ => l.length - (intOf i).toNat)
  case atStart => exact ⟨0, rfl, Nat.zero_le _, rfl⟩
  case round =>
    obtain ⟨q, rfl, hq, rfl⟩ := hrel
    by_cases hlt : q < l.length
    · obtain ⟨b, off, rfl, _, g0⟩ := hr.int hlt
      have hb := HF.out _ (List.getElem_mem hlt)
      have HT := Lib.hid (sizeL_take hlt)
      have h0 := sizeL_nn (l.take q)
      have h1 := sizeL_le (b := 1000) (by decide) (HF.out.take q)
      have h2 := absI_bd hb
      have HZ := Lib.hid (show q = 0 → sizeL (l.take q) = 0 from fun e => by subst e; rfl)
      obtain ⟨a, ha⟩ : ∃ a, a = l[q] := ⟨_, rfl⟩
      rw [← ha] at g0 hb HT h2
      obtain ⟨s, hs⟩ : ∃ s, s = sizeL (l.take q) := ⟨_, rfl⟩
      rw [← hs] at h0 h1 HT HZ ⊢
      clear ha hs
      obtain ⟨x, hx⟩ : ∃ x, x = absI a := ⟨_, rfl⟩
      have HX := Lib.hid hx
      rw [← hx] at h2 HT
      clear hx
      have z0 : (0 : Int) ≤ (q : Int) := by omega
      have z1 : (q : Int) < (l.length : Int) := by omega
      by_cases hq0 : q = 0
      · have HS0 := Lib.hid (HZ.out hq0)
        have hd : ((q : Int) == 0) = true := by simpa using hq0
        clear hq0
        go_wp2_with fail
        refine (psize a _ (by omega) (by omega)).mono ?_
        rw [← HX.out]
        rintro e w' ⟨rfl, rfl⟩
        go_wp2
        go_round
        case rel => exact ⟨q + 1, by go_num, by omega, by rw [HT.out, HS0.out]; exact int_eq (by omega)⟩
        case measure => simp [intOf]; omega
      · have hd : ((q : Int) == 0) = false := by simpa using hq0
        clear hq0
        by_cases hxs : s < x
        · go_wp2_with fail
          refine (psize a _ (by omega) (by omega)).mono ?_
          rw [← HX.out]
          rintro e w' ⟨rfl, rfl⟩
          go_wp2
          go_round
          case rel => exact ⟨q + 1, by go_num, by omega, by rw [HT.out]; exact int_eq (by omega)⟩
          case measure => simp [intOf]; omega
        · go_wp2_with fail
          refine (psize a _ (by omega) (by omega)).mono ?_
          rw [← HX.out]
          rintro e w' ⟨rfl, rfl⟩
          go_wp2
          go_round
          case rel => exact ⟨q + 1, by go_num, by omega, by rw [HT.out]; exact int_eq (by omega)⟩
          case measure => simp [intOf]; omega
    · obtain rfl : q = l.length := by omega
      rw [List.take_length]
      go_wp2
      go_ret
      exact ⟨rfl, rfl⟩

set_option maxRecDepth 100000 in
set_option maxHeartbeats 1000000 in
theorem rsize (A : Option Addr) (k c : Nat) (l : List Int) (w : World) (hl : l.length ≤ 1000) (hf : Forces 1000 l) (B : Nat) (hB : B ≤ w.heap.size) (hr : Rd w B 1 A k (ints l)) :
    Calls Try.prog 73 #[.slice A k c] w fun e w' => e = .returned (.int .i64 (sizeL l)) ∧ Below w.heap.size w w' := by
  obtain rfl := hr.int_len
  have HF := Lib.hid hf
  clear hf
  go_enter Try.func73, Try.ntmps73
  go_wp2
  go_loopw [4, 3] (fun i s wr => ∃ q : Nat, i = .int .i64 q ∧ q ≤ l.length ∧ s = .int .i64 (sizeL (l.take q)) ∧ Below w.heap.size w wr) (fun i _ _ => l.length - (intOf i).toNat)
  case atStart => exact ⟨0, rfl, Nat.zero_le _, rfl, Below.refl _ _⟩
  case round =>
    obtain ⟨q, rfl, hq, rfl, hbw⟩ := hrel
    by_cases hlt : q < l.length
    · obtain ⟨b, off, rfl, _, g0⟩ := (hr.below' hbw hB).int hlt
      have hb := HF.out _ (List.getElem_mem hlt)
      have HT := Lib.hid (sizeL_take hlt)
      have h0 := sizeL_nn (l.take q)
      have h1 := sizeL_le (b := 1000) (by decide) (HF.out.take q)
      obtain ⟨a, ha⟩ : ∃ a, a = l[q] := ⟨_, rfl⟩
      rw [← ha] at g0 hb HT
      obtain ⟨s, hs⟩ : ∃ s, s = sizeL (l.take q) := ⟨_, rfl⟩
      rw [← hs] at h0 h1 HT ⊢
      clear ha hs
      have z0 : (0 : Int) ≤ (q : Int) := by omega
      have z1 : (q : Int) < (l.length : Int) := by omega
      go_wp2
      refine wp_region_qtail 10 (by kernel_rfl) (by kernel_rfl) ?_
      simp only [List.take_succ_cons, List.take_zero, List.drop_succ_cons, List.drop_zero]
      repeat (go_big_quiet_step (fail))
      refine wpQuiet_nil ?_
      go_wp2
      all_goals
        go_roundw
        case rel => exact ⟨q + 1, by go_num, by omega, by rw [HT.out]; exact int_eq (by unfold absI; omega), hbw.drew⟩
        case measure => simp [intOf]; omega
    · obtain rfl : q = l.length := by omega
      rw [List.take_length]
      go_wp2
      go_ret
      exact ⟨rfl, hbw⟩
end Go.Proofs.Ytejjogpgolgdgaa
