/-
  MERGED: W15, W16.
-/
import Derived.Test.YtejjogpgolgdgaaK7
/-
  WALKS: Quiet, Calmest of both. (Printed by gen_w15.py.)
-/
namespace Go.Proofs.Ytejjogpgolgdgaa
open Go.RowKit Pulse

theorem made_zeros (n : Nat) : (madeCells #[.int .i64 0] n).toList = ints (List.replicate n 0) := by
  rw [toList_madeCells_one]; simp [ints]
theorem own_made (w : World) (n : Nat) (hn : n ≤ 1000) : (w.alloc (.cells (madeCells #[.int .i64 0] n) 3)).ownsRow w.heap.size 3 1 (.slice (some ⟨w.heap.size, 0, none⟩) n n) n (ints (List.replicate n 0)) := by
  refine ⟨by simp, .inr ⟨w.heap.size, n, madeCells #[.int .i64 0] n, rfl, Nat.le_refl _, blk_new _ _ _, Nat.le_refl _, by unfold maxLen; omega, ?_, ?_⟩⟩
  · rw [← Array.length_toList, made_zeros]; simp
  · rw [made_zeros, List.take_of_length_le (by simp)]
theorem find_at {α : Type} {P : α → Bool} {L : List α} {k : Nat} {p : α} (hk : L[k]? = some p) (hp : P p = true) (hno : ∀ j q, j < k → L[j]? = some q → P q = false) : L.find? P = some p := by
  obtain ⟨h1, h2⟩ := List.getElem?_eq_some_iff.1 hk
  rw [List.find?_eq_some_iff_getElem]
  refine ⟨hp, k, h1, h2, fun j hj => ?_⟩
  rw [hno j _ hj (List.getElem?_eq_getElem (by omega))]; rfl
theorem find_no {α : Type} {P : α → Bool} {L : List α} (hno : ∀ j q, j < L.length → L[j]? = some q → P q = false) : L.find? P = none := by
  rw [List.find?_eq_none]
  intro p hp
  obtain ⟨j, hj, rfl⟩ := List.getElem_of_mem hp
  rw [hno j _ hj (List.getElem?_eq_getElem hj)]; decide
/-- The smallest of the greatest absolute values, from 3 on. -/
def minS (M : List (List Int)) : Int := M.foldl (fun n v => min n (sizeL v)) 3
theorem minS_take {M : List (List Int)} {q : Nat} (h : q < M.length) : minS (M.take (q + 1)) = min (minS (M.take q)) (sizeL M[q]) := by
  rw [take_snoc' M q h, minS, List.foldl_append]; rfl
def calmM (M : List (List Int)) : Int := if M.length = 0 then 0 else minS M
theorem minS_bd (M : List (List Int)) : 0 ≤ minS M ∧ minS M ≤ 3 := by
  unfold minS
  have : ∀ (l : List (List Int)) (n : Int), 0 ≤ n ∧ n ≤ 3 → 0 ≤ l.foldl (fun n v => min n (sizeL v)) n ∧ l.foldl (fun n v => min n (sizeL v)) n ≤ 3 := by
    intro l
    induction l with
    | nil => intro n h; exact h
    | cons v l ih => intro n h; have := sizeL_nn v; exact ih _ (show 0 ≤ min n (sizeL v) ∧ min n (sizeL v) ≤ 3 by omega)
  exact this M 3 (by omega)
theorem calmM_bd (M : List (List Int)) : 0 ≤ calmM M ∧ calmM M ≤ 3 := by
  unfold calmM
  split
  · omega
  · exact minS_bd _
theorem calmM_take {M : List (List Int)} {q : Nat} (h : q < M.length) (hs : sizeL M[q] ≤ 3) : calmM (M.take (q + 1)) = if q = 0 then sizeL M[q] else min (calmM (M.take q)) (sizeL M[q]) := by
  have e1 : calmM (M.take (q + 1)) = minS (M.take (q + 1)) := by rw [calmM, if_neg (by simp; intro e; subst e; simp at h)]
  rw [e1, minS_take h]
  split
  · rename_i e; subst e; simp only [List.take_zero]; simp [minS]; omega
  · rename_i e; rw [calmM, if_neg (by rw [List.length_take]; omega)]
def calmN (g : List (List Int)) (l : List Int) : Int := if wishE g l = 0 then calmM (makeL g l) else 0
/-- Rows that can be walked. -/
def Rows3 (M : List (List Int)) : Prop := M.length ≤ 1000 ∧ ∀ v ∈ M, v.length ≤ 1000 ∧ Forces 3 v
theorem rows3_make {g : List (List Int)} {l : List Int} (h : vldG g = 0) : Rows3 (makeL g l) :=
  ⟨by have := makeL_len (l := l) h; omega, fun v hv => by
    have h1 := mem_makeL.1 hv
    have := (vldG_ok h).2.2.2.1
    exact ⟨by omega, h1.1.2⟩⟩
def zerosL (n : Nat) : List Int := List.replicate n 0
def quietO (g : List (List Int)) : Option (List Int) := if vldG g = 0 then (makeL g (zerosL g.length)).find? (fun v => decide (0 < sizeL v)) else none
def quietL (g : List (List Int)) : List Int := (quietO g).getD []
def quietIs (g : List (List Int)) : Bool := (quietO g).isSome

theorem pcalm1 (A : Option Addr) (k c : Nat) (l : List Int) (w : World) (hl : l.length ≤ 1000) (hf : Forces 3 l) (B : Nat) (hr : Rd w B 1 A k (ints l)) :
    Calls Try.prog 75 #[.slice A k c] w fun e w' => e = .returned (.int .i64 (-(sizeL l))) ∧ w = w' := by
  obtain rfl := hr.int_len
  have h0 := sizeL_nn l
  have h1 := sizeL_le (b := 3) (by decide) hf
  have H := Lib.hid (pgreatest A l.length c l w hl (fun f h => by have := hf f h; omega) B hr)
  generalize sizeL l = s at *
  go_enter Try.func75, Try.ntmps75
  go_wp2_with fail
  refine H.out.mono ?_
  rintro e w' ⟨rfl, rfl⟩
  go_wp2
  go_ret
  exact ⟨rfl, rfl⟩

set_option maxRecDepth 100000 in
set_option maxHeartbeats 1000000 in
theorem pgreatestT (A : Option Addr) (k c : Nat) (M : List (List Int)) (w : World) (hM : Rows3 M) (B : Nat) (hr : TRd w B A k M) :
    Calls Try.prog 74 #[.slice A k c, .func (.func 75) #[] #[]] w fun e w' => e = .returned (.int .i64 (-(calmM M))) ∧ w = w' := by
  obtain rfl := hr.len
  have HF := Lib.hid hM.2
  have hml := hM.1
  have hcf := Try.call75
  clear hM
  go_enter Try.func74, Try.ntmps74
  go_wp2
  go_loop [11, 5] (fun i s => ∃ q : Nat, i = .int .i64 q ∧ q ≤ M.length ∧ s = .int .i64 (-(calmM (M.take q)))) (fun i _ => M.length - (intOf i).toNat)
  case atStart => exact ⟨0, rfl, Nat.zero_le _, rfl⟩
  case round =>
    obtain ⟨q, rfl, hq, rfl⟩ := hrel
    by_cases hlt : q < M.length
    · obtain ⟨b, off, A1, c1, rfl, _, g0, _, _, g1⟩ := hr.row hlt
      obtain ⟨f1, f2⟩ := HF.out _ (List.getElem_mem hlt)
      have h3 := sizeL_le (b := 3) (by decide) f2
      have h4 := sizeL_nn M[q]
      have HT := Lib.hid (calmM_take hlt h3)
      have hcb := calmM_bd (M.take q)
      have HC := Lib.hid (pcalm1 A1 M[q].length c1 M[q] w f1 f2 B g1)
      obtain ⟨v, hv⟩ : ∃ v, v = M[q] := ⟨_, rfl⟩
      rw [← hv] at g0 HC h3 h4 HT
      clear hv f1 f2 g1
      obtain ⟨s, hs⟩ : ∃ s, s = calmM (M.take q) := ⟨_, rfl⟩
      rw [← hs] at hcb HT ⊢
      clear hs
      obtain ⟨x, hx⟩ : ∃ x, x = sizeL v := ⟨_, rfl⟩
      rw [← hx] at HC h3 h4 HT
      clear hx
      have z0 : (0 : Int) ≤ (q : Int) := by omega
      have z1 : (q : Int) < (M.length : Int) := by omega
      by_cases hq0 : q = 0
      · have HQ := Lib.hid hq0
        have hd : ((q : Int) == 0) = true := by simpa using hq0
        clear hq0
        go_wp2_with fail
        refine HC.out.mono ?_
        rintro e w' ⟨rfl, rfl⟩
        go_wp2
        go_round
        case rel => exact ⟨q + 1, by go_num, by omega, by rw [HT.out, if_pos HQ.out]⟩
        case measure => simp [intOf]; omega
      · have HQ := Lib.hid hq0
        have hd : ((q : Int) == 0) = false := by simpa using hq0
        clear hq0
        by_cases hxs : x < s
        · have hd1 : -s < -x := by omega
          go_wp2_with fail
          refine HC.out.mono ?_
          rintro e w' ⟨rfl, rfl⟩
          go_wp2
          go_round
          case rel => exact ⟨q + 1, by go_num, by omega, by rw [HT.out, if_neg HQ.out]; exact int_eq (by omega)⟩
          case measure => simp [intOf]; omega
        · have hd1 : ¬ -s < -x := by omega
          go_wp2_with fail
          refine HC.out.mono ?_
          rintro e w' ⟨rfl, rfl⟩
          go_wp2
          go_round
          case rel => exact ⟨q + 1, by go_num, by omega, by rw [HT.out, if_neg HQ.out]; exact int_eq (by omega)⟩
          case measure => simp [intOf]; omega
    · obtain rfl : q = M.length := by omega
      rw [List.take_length]
      go_wp2
      go_ret
      exact ⟨rfl, rfl⟩

set_option maxRecDepth 100000 in
set_option maxHeartbeats 1000000 in
theorem pCalmest (A A' : Option Addr) (k c k' c' : Nat) (g : List (List Int)) (l : List Int) (w : World) (hs : Sm g) (hl : l.length ≤ 1000) (B : Nat) (hB : B ≤ w.heap.size) (hr : TRd w B A k g) (hr' : Rd w B 1 A' k' (ints l)) :
    Calls Try.prog 31 #[.slice A k c, .slice A' k' c'] w fun e w' => e = .returned (.tuple #[.int .i64 (calmN g l), .bool (voltsIs g l), .int .i64 (wishE g l)]) ∧ Below w.heap.size w w' := by
  have hr := hr.more hB
  have hr' := hr'.more hB
  by_cases h : wishE g l = 0
  · have HV := Lib.hid h
    have HG := Lib.hid (wishE_ok h).1
    have HE := Lib.hid (show calmN g l = calmM (makeL g l) by rw [calmN, if_pos h])
    have HI := Lib.hid (show voltsIs g l = decide (0 < (makeL g l).length) by rw [voltsIs, h]; rfl)
    have hml := makeL_len (l := l) (wishE_ok h).1
    have HR3 := Lib.hid (rows3_make (l := l) (wishE_ok h).1)
    clear h
    obtain ⟨M, hM⟩ : ∃ M, M = makeL g l := ⟨_, rfl⟩
    rw [← hM] at HE HI hml HR3
    have HMM := Lib.hid hM
    clear hM
    by_cases hp : 0 < M.length
    · have HP := Lib.hid hp
      have q1 : ((M.length : Int) == 0) = false := by simp; intro e; rw [e] at hp; simp at hp
      have q2 : decide (0 < M.length) = true := by simpa using hp
      clear hp
      go_enter Try.func31, Try.ntmps31
      go_wp2_with fail
      refine (pwished _ _ _ _ _ _ g l w hs hl w.heap.size (Nat.le_refl _) hr hr').mono ?_
      rw [HV.out]
      rintro e w1 ⟨rfl, hb1⟩
      have s1 := hb1.size
      have HB1 := Lib.hid hb1
      have hr := (hr.below hb1).more s1
      have hr' := (hr'.below hb1).more s1
      clear hb1
      go_wp2_with fail
      refine (pmaking _ _ _ _ _ _ g l w1 HG.out hl w1.heap.size (Nat.le_refl _) hr hr').mono ?_
      rw [← HMM.out]
      rintro e w2 ⟨v2, rfl, hown2, hb2⟩
      have s2 := hb2.size
      have HB2 := Lib.hid (HB1.out.trans (hb2.mono (by have := HB1.out.size; omega)))
      have hr := (hr.below hb2).more s2
      have hr' := (hr'.below hb2).more s2
      obtain ⟨A2, c2, rfl, r2⟩ := hown2.cap
      clear hb2 hown2
      have hcb := calmM_bd M
      have HGT := Lib.hid (pgreatestT A2 M.length c2 M w2 HR3.out w2.heap.size r2)
      obtain ⟨s, hs⟩ : ∃ s, s = calmM M := ⟨_, rfl⟩
      rw [← hs] at HGT hcb HE
      clear hs
      go_wp2_with fail
      refine HGT.out.mono ?_
      rintro e w' ⟨rfl, rfl⟩
      go_wp2
      refine bodyPost_ret (results_tmp3 rfl _ _ _) rfl ?_
      exact ⟨ret_three (by rw [HE.out]; simp) (by rw [HI.out, decide_eq_true HP.out]; rfl) (by rw [HV.out]; rfl), HB2.out⟩
    · have HP := Lib.hid hp
      have HM0 := Lib.hid (show M.length = 0 by omega)
      clear hp
      go_enter Try.func31, Try.ntmps31
      go_wp2_with fail
      refine (pwished _ _ _ _ _ _ g l w hs hl w.heap.size (Nat.le_refl _) hr hr').mono ?_
      rw [HV.out]
      rintro e w1 ⟨rfl, hb1⟩
      have s1 := hb1.size
      have HB1 := Lib.hid hb1
      have hr := (hr.below hb1).more s1
      have hr' := (hr'.below hb1).more s1
      clear hb1
      go_wp2_with fail
      refine (pmaking _ _ _ _ _ _ g l w1 HG.out hl w1.heap.size (Nat.le_refl _) hr hr').mono ?_
      rw [← HMM.out]
      rintro e w2 ⟨v2, rfl, hown2, hb2⟩
      have s2 := hb2.size
      have HB2 := Lib.hid (HB1.out.trans (hb2.mono (by have := HB1.out.size; omega)))
      have hr := (hr.below hb2).more s2
      have hr' := (hr'.below hb2).more s2
      obtain ⟨A2, c2, rfl, r2⟩ := hown2.cap
      clear hb2 hown2
      have HC0 := Lib.hid (show calmM M = 0 by rw [calmM, if_pos HM0.out])
      have hcb := calmM_bd M
      have HGT := Lib.hid (pgreatestT A2 M.length c2 M w2 HR3.out w2.heap.size r2)
      rw [HC0.out] at HGT HE
      rw [HM0.out] at HGT ⊢
      clear hcb
      go_wp2_with fail
      refine HGT.out.mono ?_
      rintro e w' ⟨rfl, rfl⟩
      go_wp2
      refine bodyPost_ret (results_tmp3 rfl _ _ _) rfl ?_
      exact ⟨ret_three (by rw [HE.out]; rfl) (by rw [HI.out, decide_eq_false HP.out]; rfl) (by rw [HV.out]; rfl), HB2.out⟩
  · have hd : (wishE g l != 0) = true := by simpa using h
    have HI := Lib.hid (show voltsIs g l = false by rw [voltsIs, decide_eq_false h, Bool.false_and])
    have HE := Lib.hid (show calmN g l = 0 by rw [calmN, if_neg h])
    clear h
    have H := Lib.hid (pwished _ _ _ c _ c' g l w hs hl w.heap.size (Nat.le_refl _) hr hr')
    generalize wishE g l = x at *
    go_enter Try.func31, Try.ntmps31
    go_wp2_with fail
    refine (H.out).mono ?_
    rintro e w1 ⟨rfl, hb1⟩
    have s1 := hb1.size
    have HB1 := Lib.hid hb1
    have hr := (hr.below hb1).more s1
    have hr' := (hr'.below hb1).more s1
    clear hb1
    go_wp2
    refine bodyPost_ret (results_tmp3 rfl _ _ _) rfl ?_
    exact ⟨ret_three (by rw [HE.out]; rfl) (by rw [HI.out]; rfl) rfl, HB1.out⟩

set_option maxRecDepth 100000 in
set_option maxHeartbeats 1000000 in
theorem rCalmest (A A' : Option Addr) (k c k' c' : Nat) (g : List (List Int)) (l : List Int) (w : World) (hs : Sm g) (hl : l.length ≤ 1000) (B : Nat) (hB : B ≤ w.heap.size) (hr : TRd w B A k g) (hr' : Rd w B 1 A' k' (ints l)) :
    Calls Try.prog 32 #[.slice A k c, .slice A' k' c'] w fun e w' => e = .returned (.tuple #[.int .i64 (calmN g l), .bool (voltsIs g l), .int .i64 (wishE g l)]) ∧ Below w.heap.size w w' := by
  have hr := hr.more hB
  have hr' := hr'.more hB
  by_cases h : wishE g l = 0
  · have HV := Lib.hid h
    have HG := Lib.hid (wishE_ok h).1
    have HE := Lib.hid (show calmN g l = calmM (makeL g l) by rw [calmN, if_pos h])
    have HI := Lib.hid (show voltsIs g l = decide (0 < (makeL g l).length) by rw [voltsIs, h]; rfl)
    have hml := makeL_len (l := l) (wishE_ok h).1
    have HR3 := Lib.hid (rows3_make (l := l) (wishE_ok h).1)
    clear h
    obtain ⟨M, hM⟩ : ∃ M, M = makeL g l := ⟨_, rfl⟩
    rw [← hM] at HE HI hml HR3
    have HMM := Lib.hid hM
    clear hM
    by_cases hp : 0 < M.length
    · have HP := Lib.hid hp
      have q1 : ((M.length : Int) == 0) = false := by simp; intro e; rw [e] at hp; simp at hp
      have q2 : decide (0 < M.length) = true := by simpa using hp
      clear hp
      go_enter Try.func32, Try.ntmps32
      go_wp2_with fail
      refine (rWished _ _ _ _ _ _ g l w hs hl w.heap.size (Nat.le_refl _) hr hr').mono ?_
      rw [HV.out]
      rintro e w1 ⟨rfl, hb1⟩
      have s1 := hb1.size
      have HB1 := Lib.hid hb1
      have hr := (hr.below hb1).more s1
      have hr' := (hr'.below hb1).more s1
      clear hb1
      go_wp2_with fail
      refine (rmeeting _ _ _ _ _ _ g l w1 HG.out hl w1.heap.size (Nat.le_refl _) hr hr').mono ?_
      rw [← HMM.out]
      rintro e w2 ⟨v2, rfl, hown2, hb2⟩
      have s2 := hb2.size
      have HB2 := Lib.hid (HB1.out.trans (hb2.mono (by have := HB1.out.size; omega)))
      have hr := (hr.below hb2).more s2
      have hr' := (hr'.below hb2).more s2
      obtain ⟨A2, c2, rfl, r2⟩ := hown2.cap
      clear hb2 hown2
      go_wp2
      go_loopw [10, 9] (fun i s wr => ∃ q : Nat, i = .int .i64 q ∧ q ≤ M.length ∧ s = .int .i64 (minS (M.take q)) ∧ Below w2.heap.size w2 wr) (fun i _ _ => M.length - (intOf i).toNat)
      case atStart => exact ⟨0, rfl, Nat.zero_le _, rfl, Below.refl _ _⟩
      case round =>
        obtain ⟨q, rfl, hq, rfl, hb⟩ := hrel
        have sb := hb.size
        by_cases hlt : q < M.length
        · obtain ⟨b, off, A1, c1, rfl, hbb, g0, _, _, g1⟩ := ((r2.below hb).more sb).row hlt
          obtain ⟨f1, f2⟩ := HR3.out.2 _ (List.getElem_mem hlt)
          have h3 := sizeL_le (b := 3) (by decide) f2
          have h4 := sizeL_nn M[q]
          have HT := Lib.hid (minS_take hlt)
          have hcb := minS_bd (M.take q)
          have HC := Lib.hid (rsize A1 M[q].length c1 M[q] wr f1 (fun f h => by have := f2 f h; omega) wr.heap.size (Nat.le_refl _) g1)
          obtain ⟨v, hv⟩ : ∃ v, v = M[q] := ⟨_, rfl⟩
          rw [← hv] at g0 HC h3 h4 HT
          clear hv f1 f2 g1
          obtain ⟨s, hs⟩ : ∃ s, s = minS (M.take q) := ⟨_, rfl⟩
          rw [← hs] at hcb HT ⊢
          clear hs
          obtain ⟨x, hx⟩ : ∃ x, x = sizeL v := ⟨_, rfl⟩
          rw [← hx] at HC h3 h4 HT
          clear hx
          have z0 : (0 : Int) ≤ (q : Int) := by omega
          have z1 : (q : Int) < (M.length : Int) := by omega
          go_wp2_with fail
          refine HC.out.mono ?_
          rintro e w9 ⟨rfl, hb9⟩
          have hb9 := Lib.hid (hb.trans (hb9.mono sb))
          go_wp2
          all_goals
            go_roundw
            case rel => exact ⟨q + 1, by go_num, by omega, by rw [HT.out]; exact int_eq (by omega), hb9.out⟩
            case measure => simp [intOf]; omega
        · obtain rfl : q = M.length := by omega
          have hcm : calmM M = minS M := by rw [calmM, if_neg (by have := HP.out; omega)]
          rw [hcm] at HE
          clear hcm
          rw [List.take_length]
          go_wp2
          refine bodyPost_ret (results_tmp3 rfl _ _ _) rfl ?_
          exact ⟨ret_three (by rw [HE.out]; rfl) (by rw [HI.out, decide_eq_true HP.out]; rfl) (by rw [HV.out]; rfl), HB2.out.trans (hb.mono (by have := HB2.out.size; omega))⟩
    · have HP := Lib.hid hp
      have HM0 := Lib.hid (show M.length = 0 by omega)
      clear hp
      go_enter Try.func32, Try.ntmps32
      go_wp2_with fail
      refine (rWished _ _ _ _ _ _ g l w hs hl w.heap.size (Nat.le_refl _) hr hr').mono ?_
      rw [HV.out]
      rintro e w1 ⟨rfl, hb1⟩
      have s1 := hb1.size
      have HB1 := Lib.hid hb1
      have hr := (hr.below hb1).more s1
      have hr' := (hr'.below hb1).more s1
      clear hb1
      go_wp2_with fail
      refine (rmeeting _ _ _ _ _ _ g l w1 HG.out hl w1.heap.size (Nat.le_refl _) hr hr').mono ?_
      rw [← HMM.out]
      rintro e w2 ⟨v2, rfl, hown2, hb2⟩
      have s2 := hb2.size
      have HB2 := Lib.hid (HB1.out.trans (hb2.mono (by have := HB1.out.size; omega)))
      have hr := (hr.below hb2).more s2
      have hr' := (hr'.below hb2).more s2
      obtain ⟨A2, c2, rfl, r2⟩ := hown2.cap
      clear hb2 hown2
      rw [HM0.out]
      go_wp2
      refine bodyPost_ret (results_tmp3 rfl _ _ _) rfl ?_
      exact ⟨ret_three (by rw [HE.out, calmM, if_pos HM0.out]; rfl) (by rw [HI.out, decide_eq_false HP.out]; rfl) (by rw [HV.out]; rfl), HB2.out⟩
  · have hd : (wishE g l != 0) = true := by simpa using h
    have HI := Lib.hid (show voltsIs g l = false by rw [voltsIs, decide_eq_false h, Bool.false_and])
    have HE := Lib.hid (show calmN g l = 0 by rw [calmN, if_neg h])
    clear h
    have H := Lib.hid (rWished _ _ _ c _ c' g l w hs hl w.heap.size (Nat.le_refl _) hr hr')
    generalize wishE g l = x at *
    go_enter Try.func32, Try.ntmps32
    go_wp2_with fail
    refine (H.out).mono ?_
    rintro e w1 ⟨rfl, hb1⟩
    have s1 := hb1.size
    have HB1 := Lib.hid hb1
    have hr := (hr.below hb1).more s1
    have hr' := (hr'.below hb1).more s1
    clear hb1
    go_wp2
    refine bodyPost_ret (results_tmp3 rfl _ _ _) rfl ?_
    exact ⟨ret_three (by rw [HE.out]; rfl) (by rw [HI.out]; rfl) rfl, HB1.out⟩

set_option maxRecDepth 100000 in
set_option maxHeartbeats 1000000 in
theorem pQuiet (A : Option Addr) (k c : Nat) (g : List (List Int)) (w : World) (hs : Sm g) (B : Nat) (hB : B ≤ w.heap.size) (hr : TRd w B A k g) :
    Calls Try.prog 29 #[.slice A k c] w fun e w' => ∃ A2 c2, e = .returned (.tuple #[.slice A2 (quietL g).length c2, .bool (quietIs g), .int .i64 (vldG g)]) ∧ Rd w' w'.heap.size 1 A2 (quietL g).length (ints (quietL g)) ∧ Below w.heap.size w w' := by
  have hr := hr.more hB
  obtain rfl := hr.len
  by_cases h : vldG g = 0
  · have HG := Lib.hid h
    obtain ⟨v1, v2, _, _, _⟩ := vldG_ok h
    have HR3 := Lib.hid (rows3_make (l := zerosL g.length) h)
    have HQ := Lib.hid (show quietO g = (makeL g (zerosL g.length)).find? (fun v => decide (0 < sizeL v)) by rw [quietO, if_pos h])
    clear h
    obtain ⟨M, hM⟩ : ∃ M, M = makeL g (zerosL g.length) := ⟨_, rfl⟩
    rw [← hM] at HQ HR3
    have HMM := Lib.hid hM
    have hml := HR3.out.1
    clear hM
    have hmk := fun W => run_make_row' (P := Try.prog) 23 3 (.int .i64 0) 8 Try.underlying23 (show (Try.prog.info? 3).map (fun i => (i.zero, i.size, i.bytes)) = some (some (.int .i64 0), 1, 8) by kernel_rfl) rfl .i64 .i64 g.length (by omega) (by omega) W
    go_enter Try.func29, Try.ntmps29
    go_wp2_with fail
    refine (pValidate _ _ _ g w hs w.heap.size (Nat.le_refl _) hr).mono ?_
    rw [HG.out]
    rintro e w1 ⟨rfl, hb1⟩
    have s1 := hb1.size
    have HB1 := Lib.hid hb1
    have hr := (hr.below hb1).more s1
    clear hb1
    have HO := Lib.hid (Rd.of_own (own_made w1 g.length (by omega)))
    go_wp2_with fail
    have s2 : (w1.alloc (.cells (madeCells #[.int .i64 0] g.length) 3)).heap.size = w1.heap.size + 1 := by simp
    have hr := (hr.alloc (Nat.le_refl _) (.cells (madeCells #[.int .i64 0] g.length) 3)).more (B' := (w1.alloc (.cells (madeCells #[.int .i64 0] g.length) 3)).heap.size) (by omega)
    have HZ := Lib.hid (blk_new w1 3 (madeCells #[.int .i64 0] g.length))
    have HB2 := Lib.hid (HB1.out.alloc (HB1.out.size) (.cells (madeCells #[.int .i64 0] g.length) 3))
    skip
    refine (pmaking _ _ _ _ _ _ g (zerosL g.length) (w1.alloc (.cells (madeCells #[.int .i64 0] g.length) 3)) HG.out (by simp [zerosL]; omega) (w1.alloc (.cells (madeCells #[.int .i64 0] g.length) 3)).heap.size (Nat.le_refl _) hr HO.out).mono ?_
    rw [← HMM.out]
    rintro e w3 ⟨v3, rfl, hown3, hb3⟩
    have s3 := hb3.size
    have HB3 := Lib.hid (HB2.out.trans (hb3.mono (by have := HB2.out.size; omega)))
    have hr := (hr.below hb3).more s3
    have HZ := Lib.hid (blk_below HZ.out hb3 (blk_lt HZ.out))
    obtain ⟨A3, c3, rfl, r3⟩ := hown3.cap
    clear hb3 hown3
    clear HZ
    clear hmk
    go_wp2
    go_loopw [19] (fun i wr => ∃ q : Nat, i = .int .i64 q ∧ q ≤ M.length ∧ Hid (∀ j v, j < q → M[j]? = some v → decide (0 < sizeL v) = false) ∧ Below w3.heap.size w3 wr) (fun i _ => M.length - (intOf i).toNat)
    case atStart => exact ⟨0, rfl, Nat.zero_le _, fun j v h => absurd h (by omega), Below.refl _ _⟩
    case round =>
      obtain ⟨q, rfl, hq, HNO, hb⟩ := hrel
      have sb := hb.size
      by_cases hlt : q < M.length
      · obtain ⟨b, off, A1, c1, rfl, hbb, g0, _, _, g1⟩ := ((r3.below hb).more sb).row hlt
        obtain ⟨f1, f2⟩ := HR3.out.2 _ (List.getElem_mem hlt)
        have h3 := sizeL_le (b := 3) (by decide) f2
        have h4 := sizeL_nn M[q]
        have HK := Lib.hid (show M[q]? = some M[q] from List.getElem?_eq_getElem hlt)
        have HC := Lib.hid (pgreatest A1 M[q].length c1 M[q] wr f1 (fun f h => by have := f2 f h; omega) wr.heap.size g1)
        obtain ⟨v, hv⟩ : ∃ v, v = M[q] := ⟨_, rfl⟩
        rw [← hv] at g0 HC h3 h4 HK g1
        clear hv f1 f2
        obtain ⟨x, hx⟩ : ∃ x, x = sizeL v := ⟨_, rfl⟩
        have HX := Lib.hid hx
        rw [← hx] at HC h3 h4
        clear hx
        have HG1 := Lib.hid g1
        clear g1
        have z0 : (0 : Int) ≤ (q : Int) := by omega
        have z1 : (q : Int) < (M.length : Int) := by omega
        by_cases hx0 : 0 < x
        · have HX0 := Lib.hid hx0
          go_wp2_with fail
          refine HC.out.mono ?_
          rintro e w9 ⟨rfl, rfl⟩
          have hbk := Lib.hid hb
          have HG2 := HG1
          have HF := Lib.hid (find_at (P := fun v => decide (0 < sizeL v)) HK.out (decide_eq_true (by rw [← HX.out]; have := HX0.out; omega)) HNO.out)
          go_wp2
          refine bodyPost_ret (results_tmp3 rfl _ _ _) rfl ?_
          have hL : quietL g = v := by rw [quietL, HQ.out, HF.out]; rfl
          exact ⟨A1, c1, ret_three (by rw [hL]; rfl) (by rw [quietIs, HQ.out, HF.out]; rfl) (by rw [HG.out]; rfl), by rw [hL]; exact HG2.out, HB3.out.trans (hbk.out.mono (by have := HB3.out.size; omega))⟩
        · have HX0 := Lib.hid hx0
          go_wp2_with fail
          refine HC.out.mono ?_
          rintro e w9 ⟨rfl, rfl⟩
          have hbk := Lib.hid hb
          have HG2 := HG1
          go_wp2
          go_roundw
          case rel =>
            refine ⟨q + 1, by go_num, by omega, ?_, hbk.out⟩
            intro j u hj hu
            rcases Nat.lt_or_ge j q with h | h
            · exact HNO.out j u h hu
            · obtain rfl : j = q := by omega
              have := HK.out
              rw [hu] at this
              injection this with this
              rw [this, ← HX.out]; exact decide_eq_false (by have := HX0.out; omega)
          case measure => simp [intOf]; omega
      · obtain rfl : q = M.length := by omega
        have HF := Lib.hid (find_no HNO.out)
        go_wp2
        refine bodyPost_ret (results_tmp3 rfl _ _ _) rfl ?_
        have hL : quietL g = [] := by rw [quietL, HQ.out, HF.out]; rfl
        exact ⟨none, 0, ret_three (by rw [hL]; rfl) (by rw [quietIs, HQ.out, HF.out]; rfl) (by rw [HG.out]; rfl), by rw [hL]; exact Rd.nil, HB3.out.trans (hb.mono (by have := HB3.out.size; omega))⟩
  · have hd : (vldG g != 0) = true := by simpa using h
    have HQ := Lib.hid (show quietO g = none by rw [quietO, if_neg h])
    have HL := Lib.hid (show quietL g = [] by rw [quietL, HQ.out]; rfl)
    have HI := Lib.hid (show quietIs g = false by rw [quietIs, HQ.out]; rfl)
    clear h
    have H := Lib.hid (pValidate _ _ c g w hs w.heap.size (Nat.le_refl _) hr)
    generalize vldG g = x at *
    go_enter Try.func29, Try.ntmps29
    go_wp2_with fail
    refine (H.out).mono ?_
    rintro e w1 ⟨rfl, hb1⟩
    have s1 := hb1.size
    have HB1 := Lib.hid hb1
    have hr := (hr.below hb1).more s1
    clear hb1
    go_wp2
    refine bodyPost_ret (results_tmp3 rfl _ _ _) rfl ?_
    exact ⟨none, 0, ret_three (by rw [HL.out]; rfl) (by rw [HI.out]; rfl) rfl, by rw [HL.out]; exact Rd.nil, HB1.out⟩

set_option maxRecDepth 100000 in
set_option maxHeartbeats 1000000 in
theorem rQuiet (A : Option Addr) (k c : Nat) (g : List (List Int)) (w : World) (hs : Sm g) (B : Nat) (hB : B ≤ w.heap.size) (hr : TRd w B A k g) :
    Calls Try.prog 30 #[.slice A k c] w fun e w' => ∃ A2 c2, e = .returned (.tuple #[.slice A2 (quietL g).length c2, .bool (quietIs g), .int .i64 (vldG g)]) ∧ Rd w' w'.heap.size 1 A2 (quietL g).length (ints (quietL g)) ∧ Below w.heap.size w w' := by
  have hr := hr.more hB
  obtain rfl := hr.len
  by_cases h : vldG g = 0
  · have HG := Lib.hid h
    obtain ⟨v1, v2, _, _, _⟩ := vldG_ok h
    have HR3 := Lib.hid (rows3_make (l := zerosL g.length) h)
    have HQ := Lib.hid (show quietO g = (makeL g (zerosL g.length)).find? (fun v => decide (0 < sizeL v)) by rw [quietO, if_pos h])
    clear h
    obtain ⟨M, hM⟩ : ∃ M, M = makeL g (zerosL g.length) := ⟨_, rfl⟩
    rw [← hM] at HQ HR3
    have HMM := Lib.hid hM
    have hml := HR3.out.1
    clear hM
    have hmk := fun W => run_make_row' (P := Try.prog) 23 3 (.int .i64 0) 8 Try.underlying23 (show (Try.prog.info? 3).map (fun i => (i.zero, i.size, i.bytes)) = some (some (.int .i64 0), 1, 8) by kernel_rfl) rfl .i64 .i64 g.length (by omega) (by omega) W
    go_enter Try.func30, Try.ntmps30
    go_wp2_with fail
    refine (rValidate _ _ _ g w hs w.heap.size (Nat.le_refl _) hr).mono ?_
    rw [HG.out]
    rintro e w1 ⟨rfl, hb1⟩
    have s1 := hb1.size
    have HB1 := Lib.hid hb1
    have hr := (hr.below hb1).more s1
    clear hb1
    have HO := Lib.hid (Rd.of_own (own_made w1 g.length (by omega)))
    go_wp2_with fail
    have s2 : (w1.alloc (.cells (madeCells #[.int .i64 0] g.length) 3)).heap.size = w1.heap.size + 1 := by simp
    have hr := (hr.alloc (Nat.le_refl _) (.cells (madeCells #[.int .i64 0] g.length) 3)).more (B' := (w1.alloc (.cells (madeCells #[.int .i64 0] g.length) 3)).heap.size) (by omega)
    have HZ := Lib.hid (blk_new w1 3 (madeCells #[.int .i64 0] g.length))
    have HB2 := Lib.hid (HB1.out.alloc (HB1.out.size) (.cells (madeCells #[.int .i64 0] g.length) 3))
    skip
    refine (rmeeting _ _ _ _ _ _ g (zerosL g.length) (w1.alloc (.cells (madeCells #[.int .i64 0] g.length) 3)) HG.out (by simp [zerosL]; omega) (w1.alloc (.cells (madeCells #[.int .i64 0] g.length) 3)).heap.size (Nat.le_refl _) hr HO.out).mono ?_
    rw [← HMM.out]
    rintro e w3 ⟨v3, rfl, hown3, hb3⟩
    have s3 := hb3.size
    have HB3 := Lib.hid (HB2.out.trans (hb3.mono (by have := HB2.out.size; omega)))
    have hr := (hr.below hb3).more s3
    have HZ := Lib.hid (blk_below HZ.out hb3 (blk_lt HZ.out))
    obtain ⟨A3, c3, rfl, r3⟩ := hown3.cap
    clear hb3 hown3
    clear HZ
    clear hmk
    go_wp2
    go_loopw [7] (fun i wr => ∃ q : Nat, i = .int .i64 q ∧ q ≤ M.length ∧ Hid (∀ j v, j < q → M[j]? = some v → decide (0 < sizeL v) = false) ∧ Below w3.heap.size w3 wr) (fun i _ => M.length - (intOf i).toNat)
    case atStart => exact ⟨0, rfl, Nat.zero_le _, fun j v h => absurd h (by omega), Below.refl _ _⟩
    case round =>
      obtain ⟨q, rfl, hq, HNO, hb⟩ := hrel
      have sb := hb.size
      by_cases hlt : q < M.length
      · obtain ⟨b, off, A1, c1, rfl, hbb, g0, _, _, g1⟩ := ((r3.below hb).more sb).row hlt
        obtain ⟨f1, f2⟩ := HR3.out.2 _ (List.getElem_mem hlt)
        have h3 := sizeL_le (b := 3) (by decide) f2
        have h4 := sizeL_nn M[q]
        have HK := Lib.hid (show M[q]? = some M[q] from List.getElem?_eq_getElem hlt)
        have HC := Lib.hid (rsize A1 M[q].length c1 M[q] wr f1 (fun f h => by have := f2 f h; omega) wr.heap.size (Nat.le_refl _) g1)
        obtain ⟨v, hv⟩ : ∃ v, v = M[q] := ⟨_, rfl⟩
        rw [← hv] at g0 HC h3 h4 HK g1
        clear hv f1 f2
        obtain ⟨x, hx⟩ : ∃ x, x = sizeL v := ⟨_, rfl⟩
        have HX := Lib.hid hx
        rw [← hx] at HC h3 h4
        clear hx
        have HG1 := Lib.hid g1
        clear g1
        have z0 : (0 : Int) ≤ (q : Int) := by omega
        have z1 : (q : Int) < (M.length : Int) := by omega
        by_cases hx0 : 0 < x
        · have HX0 := Lib.hid hx0
          go_wp2_with fail
          refine HC.out.mono ?_
          rintro e w9 ⟨rfl, hb9⟩
          have hbk := Lib.hid (hb.trans (hb9.mono sb))
          have g1 := (HG1.out.below hb9).more hb9.size
          have g0 := (hb9.cell (p := ⟨b, off + q, none⟩) hbb).trans g0
          have HG2 := Lib.hid g1
          clear g1 hb9
          have HF := Lib.hid (find_at (P := fun v => decide (0 < sizeL v)) HK.out (decide_eq_true (by rw [← HX.out]; have := HX0.out; omega)) HNO.out)
          go_wp2
          refine bodyPost_ret (results_tmp3 rfl _ _ _) rfl ?_
          have hL : quietL g = v := by rw [quietL, HQ.out, HF.out]; rfl
          exact ⟨A1, c1, ret_three (by rw [hL]; rfl) (by rw [quietIs, HQ.out, HF.out]; rfl) (by rw [HG.out]; rfl), by rw [hL]; exact HG2.out, HB3.out.trans (hbk.out.mono (by have := HB3.out.size; omega))⟩
        · have HX0 := Lib.hid hx0
          go_wp2_with fail
          refine HC.out.mono ?_
          rintro e w9 ⟨rfl, hb9⟩
          have hbk := Lib.hid (hb.trans (hb9.mono sb))
          have g1 := (HG1.out.below hb9).more hb9.size
          have g0 := (hb9.cell (p := ⟨b, off + q, none⟩) hbb).trans g0
          have HG2 := Lib.hid g1
          clear g1 hb9
          go_wp2
          go_roundw
          case rel =>
            refine ⟨q + 1, by go_num, by omega, ?_, hbk.out⟩
            intro j u hj hu
            rcases Nat.lt_or_ge j q with h | h
            · exact HNO.out j u h hu
            · obtain rfl : j = q := by omega
              have := HK.out
              rw [hu] at this
              injection this with this
              rw [this, ← HX.out]; exact decide_eq_false (by have := HX0.out; omega)
          case measure => simp [intOf]; omega
      · obtain rfl : q = M.length := by omega
        have HF := Lib.hid (find_no HNO.out)
        go_wp2
        refine bodyPost_ret (results_tmp3 rfl _ _ _) rfl ?_
        have hL : quietL g = [] := by rw [quietL, HQ.out, HF.out]; rfl
        exact ⟨none, 0, ret_three (by rw [hL]; rfl) (by rw [quietIs, HQ.out, HF.out]; rfl) (by rw [HG.out]; rfl), by rw [hL]; exact Rd.nil, HB3.out.trans (hb.mono (by have := HB3.out.size; omega))⟩
  · have hd : (vldG g != 0) = true := by simpa using h
    have HQ := Lib.hid (show quietO g = none by rw [quietO, if_neg h])
    have HL := Lib.hid (show quietL g = [] by rw [quietL, HQ.out]; rfl)
    have HI := Lib.hid (show quietIs g = false by rw [quietIs, HQ.out]; rfl)
    clear h
    have H := Lib.hid (rValidate _ _ c g w hs w.heap.size (Nat.le_refl _) hr)
    generalize vldG g = x at *
    go_enter Try.func30, Try.ntmps30
    go_wp2_with fail
    refine (H.out).mono ?_
    rintro e w1 ⟨rfl, hb1⟩
    have s1 := hb1.size
    have HB1 := Lib.hid hb1
    have hr := (hr.below hb1).more s1
    clear hb1
    go_wp2
    refine bodyPost_ret (results_tmp3 rfl _ _ _) rfl ?_
    exact ⟨none, 0, ret_three (by rw [HL.out]; rfl) (by rw [HI.out]; rfl) rfl, by rw [HL.out]; exact Rd.nil, HB1.out⟩
end Go.Proofs.Ytejjogpgolgdgaa

/-
  WALKS: the jump of two lists. (Printed by gen_w16.py.)
-/
namespace Go.Proofs.Ytejjogpgolgdgaa
open Go.RowKit Pulse

def subL (a b : List Int) : List Int := List.zipWith (· - ·) a b
/-- The greatest difference. -/
def jumpL (a b : List Int) : Int := sizeL (subL a b)
theorem subL_len {a b : List Int} (h : b.length = a.length) : (subL a b).length = a.length := by simp [subL]; omega
theorem subL_get {a b : List Int} {q : Nat} (h : q < a.length) (h' : q < b.length) (h2 : q < (subL a b).length) : (subL a b)[q] = a[q] - b[q] := by simp [subL]
theorem subL_bd {a b : List Int} {x y : Int} (ha : Forces x a) (hb : Forces y b) : Forces (x + y) (subL a b) := by
  intro f hf
  obtain ⟨i, hi, rfl⟩ := List.getElem_of_mem hf
  have h1 : i < a.length := by simp [subL] at hi; omega
  have h2 : i < b.length := by simp [subL] at hi; omega
  rw [subL_get h1 h2]
  have := ha _ (List.getElem_mem h1)
  have := hb _ (List.getElem_mem h2)
  omega
theorem jumpL_nn (a b : List Int) : 0 ≤ jumpL a b := sizeL_nn _
theorem jumpL_le {a b : List Int} {x y : Int} (hx : 0 ≤ x) (hy : 0 ≤ y) (ha : Forces x a) (hb : Forces y b) : jumpL a b ≤ x + y := sizeL_le (by omega) (subL_bd ha hb)
theorem psizeB (n : Int) (w : World) (h0 : -10000 ≤ n) (h1 : n ≤ 10000) : Calls Try.prog 72 #[.int .i64 n] w fun e w' => e = .returned (.int .i64 (absI n)) ∧ Below w.heap.size w w' :=
  (psize n w h0 h1).mono fun e w' ⟨h, hw⟩ => ⟨h, by subst hw; exact Below.refl _ _⟩

set_option maxRecDepth 100000 in
set_option maxHeartbeats 1000000 in
theorem papart (A A' : Option Addr) (k c k' c' : Nat) (a b : List Int) (w : World) (hl : a.length ≤ 1000) (hlb : b.length = a.length) (ha : Forces 1000 a) (hb : Forces 1000 b) (B : Nat) (hB : B ≤ w.heap.size) (hr : Rd w B 1 A k (ints a)) (hr' : Rd w B 1 A' k' (ints b)) :
    Calls Try.prog 76 #[.slice A k c, .slice A' k' c'] w fun e w' => e = .returned (.int .i64 (jumpL a b)) ∧ Below w.heap.size w w' := by
  obtain rfl := hr.int_len
  obtain rfl := hr'.int_len
  have HF := Lib.hid (subL_bd ha hb)
  have HA := Lib.hid ha
  have HBB := Lib.hid hb
  have HLB := Lib.hid hlb
  have HJ := Lib.hid (show jumpL a b = sizeL (subL a b) from rfl)
  have HDL := Lib.hid (subL_len hlb)
  clear ha hb
  obtain ⟨n, hn⟩ : ∃ n, n = a.length := ⟨_, rfl⟩
  have HN := Lib.hid hn
  rw [← hn] at hl hr hlb
  rw [hlb] at hr'
  rw [← hn, hlb]
  clear hn hlb
  go_enter Try.func76, Try.ntmps76
  go_wp2
  go_loopw [9, 5] (fun i s wr => ∃ q : Nat, i = .int .i64 q ∧ q ≤ n ∧ s = .int .i64 (sizeL ((subL a b).take q)) ∧ Below w.heap.size w wr) (fun i _ _ => n - (intOf i).toNat)
  case atStart => exact ⟨0, rfl, Nat.zero_le _, rfl, Below.refl _ _⟩
  case round =>
    obtain ⟨q, rfl, hq, rfl, hbw⟩ := hrel
    have sb := hbw.size
    by_cases hlt : q < n
    · have h1 : q < a.length := by have := HN.out; omega
      have h2 : q < b.length := by have := HN.out; have := HLB.out; omega
      have h3 : q < (subL a b).length := by have := HDL.out; have := HN.out; omega
      obtain ⟨b1, off1, rfl, hb1, g1⟩ := (hr.below' hbw hB).int h1
      obtain ⟨b2, off2, rfl, hb2, g2⟩ := (hr'.below' hbw hB).int h2
      have e1 := HA.out _ (List.getElem_mem h1)
      have e2 := HBB.out _ (List.getElem_mem h2)
      have HT := Lib.hid (sizeL_take h3)
      rw [subL_get h1 h2 h3] at HT
      have e3 := sizeL_nn ((subL a b).take q)
      have e4 := sizeL_le (b := 2000) (by decide) (HF.out.take q)
      obtain ⟨x, hx⟩ : ∃ x, x = a[q] := ⟨_, rfl⟩
      obtain ⟨y, hy⟩ : ∃ y, y = b[q] := ⟨_, rfl⟩
      rw [← hx] at g1 e1 HT
      rw [← hy] at g2 e2 HT
      obtain ⟨s, hs⟩ : ∃ s, s = sizeL ((subL a b).take q) := ⟨_, rfl⟩
      rw [← hs] at e3 e4 HT ⊢
      clear hx hy hs h1 h2 h3
      have z0 : (0 : Int) ≤ (q : Int) := by omega
      have z1 : (q : Int) < (n : Int) := by omega
      have y1 := IntWalk.i64_in (x - y) (by omega)
      have HS := Lib.hid (fun s => psizeB (x - y) (mergeW wr s) (by omega) (by omega))
      obtain ⟨z, hz⟩ : ∃ z, z = absI (x - y) := ⟨_, rfl⟩
      have e5 := absI_bd (n := x - y) (b := 10000) (by omega)
      rw [← hz] at HS HT e5
      have HZ := Lib.hid hz
      clear hz
      have mc := cell_mergeW wr
      have mf := frozen_mergeW wr
      have lb1 : b1 < wr.heap.size := by omega
      have lb2 : b2 < wr.heap.size := by omega
      go_wp2
      refine wp_region_btail 11 (by kernel_rfl) (by kernel_rfl) ?_
      simp only [List.take_succ_cons, List.take_zero, List.drop_succ_cons, List.drop_zero]
      repeat (go_big_quiet_step (first | (go_at_call 72; refine (HS.out _).mono ?_; rintro e w4 ⟨rfl, hb4⟩; exact ⟨rfl, in_mergeW hb4⟩)))
      refine wpQuiet_nil ?_
      rintro w4 ⟨s4, hs4⟩
      have hb4 := below_mergeW wr s4
      rw [← hs4] at hb4
      clear hs4 mc mf HS y1
      have hbk := Lib.hid (hbw.trans (hb4.mono sb))
      clear hb4
      go_wp2
      all_goals
        go_roundw
        case rel => exact ⟨q + 1, by go_num, by omega, by rw [HT.out]; exact int_eq (by omega), hbk.out⟩
        case measure => simp [intOf]; omega
    · obtain rfl : q = n := by omega
      have HE := Lib.hid (show sizeL ((subL a b).take q) = jumpL a b by rw [HJ.out, List.take_of_length_le (by have := HDL.out; have := HN.out; omega)])
      rw [HE.out]
      go_wp2
      go_ret
      exact ⟨rfl, hbw⟩

set_option maxRecDepth 100000 in
set_option maxHeartbeats 1000000 in
theorem rjump (A A' : Option Addr) (k c k' c' : Nat) (a b : List Int) (w : World) (hl : a.length ≤ 1000) (hlb : b.length = a.length) (ha : Forces 1000 a) (hb : Forces 1000 b) (B : Nat) (hB : B ≤ w.heap.size) (hr : Rd w B 1 A k (ints a)) (hr' : Rd w B 1 A' k' (ints b)) :
    Calls Try.prog 77 #[.slice A k c, .slice A' k' c'] w fun e w' => e = .returned (.int .i64 (jumpL a b)) ∧ Below w.heap.size w w' := by
  obtain rfl := hr.int_len
  obtain rfl := hr'.int_len
  have HF := Lib.hid (subL_bd ha hb)
  have HA := Lib.hid ha
  have HBB := Lib.hid hb
  have HLB := Lib.hid hlb
  have HJ := Lib.hid (show jumpL a b = sizeL (subL a b) from rfl)
  have HDL := Lib.hid (subL_len hlb)
  clear ha hb
  obtain ⟨n, hn⟩ : ∃ n, n = a.length := ⟨_, rfl⟩
  have HN := Lib.hid hn
  rw [← hn] at hl hr hlb
  rw [hlb] at hr'
  rw [← hn, hlb]
  clear hn hlb
  go_enter Try.func77, Try.ntmps77
  go_wp2
  go_loopw [6, 5] (fun i s wr => ∃ q : Nat, i = .int .i64 q ∧ q ≤ n ∧ s = .int .i64 (sizeL ((subL a b).take q)) ∧ Below w.heap.size w wr) (fun i _ _ => n - (intOf i).toNat)
  case atStart => exact ⟨0, rfl, Nat.zero_le _, rfl, Below.refl _ _⟩
  case round =>
    obtain ⟨q, rfl, hq, rfl, hbw⟩ := hrel
    have sb := hbw.size
    by_cases hlt : q < n
    · have h1 : q < a.length := by have := HN.out; omega
      have h2 : q < b.length := by have := HN.out; have := HLB.out; omega
      have h3 : q < (subL a b).length := by have := HDL.out; have := HN.out; omega
      obtain ⟨b1, off1, rfl, hb1, g1⟩ := (hr.below' hbw hB).int h1
      obtain ⟨b2, off2, rfl, hb2, g2⟩ := (hr'.below' hbw hB).int h2
      have e1 := HA.out _ (List.getElem_mem h1)
      have e2 := HBB.out _ (List.getElem_mem h2)
      have HT := Lib.hid (sizeL_take h3)
      rw [subL_get h1 h2 h3] at HT
      have e3 := sizeL_nn ((subL a b).take q)
      have e4 := sizeL_le (b := 2000) (by decide) (HF.out.take q)
      obtain ⟨x, hx⟩ : ∃ x, x = a[q] := ⟨_, rfl⟩
      obtain ⟨y, hy⟩ : ∃ y, y = b[q] := ⟨_, rfl⟩
      rw [← hx] at g1 e1 HT
      rw [← hy] at g2 e2 HT
      obtain ⟨s, hs⟩ : ∃ s, s = sizeL ((subL a b).take q) := ⟨_, rfl⟩
      rw [← hs] at e3 e4 HT ⊢
      clear hx hy hs h1 h2 h3
      have z0 : (0 : Int) ≤ (q : Int) := by omega
      have z1 : (q : Int) < (n : Int) := by omega
      have y1 := IntWalk.i64_in (x - y) (by omega)
      have y2 := IntWalk.i64_in (y - x) (by omega)
      go_wp2
      refine wp_region_qtail 19 (by kernel_rfl) (by kernel_rfl) ?_
      simp only [List.take_succ_cons, List.take_zero, List.drop_succ_cons, List.drop_zero]
      repeat (go_big_quiet_step (fail))
      refine wpQuiet_nil ?_
      clear y1 y2
      go_wp2
      all_goals
        go_roundw
        case rel => exact ⟨q + 1, by go_num, by omega, by rw [HT.out]; exact int_eq (by unfold absI; omega), hbw.drew⟩
        case measure => simp [intOf]; omega
    · obtain rfl : q = n := by omega
      have HE := Lib.hid (show sizeL ((subL a b).take q) = jumpL a b by rw [HJ.out, List.take_of_length_le (by have := HDL.out; have := HN.out; omega)])
      rw [HE.out]
      go_wp2
      go_ret
      exact ⟨rfl, hbw⟩
end Go.Proofs.Ytejjogpgolgdgaa
