/-
  MERGED: W22, W23, W24.
-/
import Derived.Test.YtnoocdannfeidaaK11
/-
  WALK: SameInts; Closed of both. (Printed by gen_closed.py.)
-/
namespace Go.Proofs.Ytnoocdannfeidaa
open Go.RowKit Pulse

set_option maxRecDepth 100000 in
theorem rSameInts (A A' : Option Addr) (k k' c c' : Nat) (l m : List Int) (w : World) (hl : l.length ≤ 1000) (hm : m.length ≤ 1000) (B : Nat) (hB : B ≤ w.heap.size) (hr : Rd w B 1 A k (ints l)) (hr' : Rd w B 1 A' k' (ints m)) :
    Calls Try.prog 39 #[.slice A k c, .slice A' k' c'] w fun e w' => e = .returned (.bool (decide (l = m))) ∧ Below w.heap.size w w' := by
  obtain rfl := hr.int_len
  obtain rfl := hr'.int_len
  by_cases hlm : l.length = m.length
  · have HLM := Lib.hid hlm
    have hd : ((l.length : Int) == (m.length : Int)) = true := by simp [hlm]
    have hd' : ((l.length : Int) != (m.length : Int)) = false := by simp [hlm]
    clear hlm
    go_enter Try.func39, Try.ntmps39
    go_wp2
    go_loopw [5] (fun i wr => ∃ q : Nat, q ≤ l.length ∧ i = .int .i64 q ∧ Below w.heap.size w wr ∧ Hid (l.take q = m.take q)) (fun i _ => l.length - (intOf i).toNat)
    case atStart => exact ⟨0, Nat.zero_le _, rfl, Below.refl _ _, rfl⟩
    case round =>
      obtain ⟨q, hq, rfl, hb, HT⟩ := hrel
      by_cases hlt : q < l.length
      · have hlt' : q < m.length := by have := HLM.out; omega
        obtain ⟨b, off, rfl, _, h0⟩ := (hr.below' hb hB).int hlt
        obtain ⟨b', off', rfl, _, h0'⟩ := (hr'.below' hb hB).int hlt'
        have z0 : (0 : Int) ≤ (q : Int) := Int.natCast_nonneg _
        have z1 : (q : Int) < (l.length : Int) := by omega
        have z2 : (q : Int) < (m.length : Int) := by omega
        have HS := Lib.hid (take_snoc' l q hlt)
        have HS' := Lib.hid (take_snoc' m q hlt')
        by_cases he : l[q] = m[q]
        · have HE := Lib.hid he
          have hd1 : (l[q] != m[q]) = false := by simpa using he
          have hd2 : (l[q] == m[q]) = true := by simpa using he
          clear he
          go_wp2
          go_quiet (fail)
          go_wp2
          go_roundw
          case rel => exact ⟨q + 1, by omega, by go_num, below_drewN hb nq, by show l.take (q + 1) = m.take (q + 1); rw [HS.out, HS'.out, HT.out, HE.out]⟩
          case measure => simp [intOf]; omega
        · have HE := Lib.hid he
          have hd1 : (l[q] != m[q]) = true := by simpa using he
          have hd2 : (l[q] == m[q]) = false := by simpa using he
          clear he
          go_wp2
          go_quiet (fail)
          go_wp2
          go_ret
          exact ⟨ret_bool (by symm; apply decide_eq_false; intro h; subst h; exact HE.out rfl), below_drewN hb nq⟩
      · obtain rfl : q = l.length := by omega
        have HE := Lib.hid (show l = m by have := HT.out; rw [List.take_length, HLM.out, List.take_length] at this; exact this)
        go_wp2
        go_ret
        exact ⟨ret_bool (decide_eq_true HE.out).symm, hb⟩
  · have hd : ((l.length : Int) == (m.length : Int)) = false := by simp; omega
    have hd' : ((l.length : Int) != (m.length : Int)) = true := by simp; omega
    have HLM := Lib.hid hlm
    clear hlm
    go_enter Try.func39, Try.ntmps39
    go_wp2
    go_ret
    exact ⟨ret_bool (by symm; apply decide_eq_false; intro h; subst h; exact HLM.out rfl), Below.refl _ _⟩

/-- The modes below q in which a pulse is closed. -/
def clTo (p : List Int) : Nat → List Int
  | 0 => []
  | q + 1 => clTo p q ++ (if away p q then [] else [(q : Int)])
def closedN (p : List Int) : List Int := if vald p = 0 then clTo p 4 else []
theorem clTo_len (p : List Int) (q : Nat) : (clTo p q).length ≤ q := by
  induction q with
  | zero => exact Nat.le_refl _
  | succ q ih => rw [clTo, List.length_append]; split <;> simp <;> omega
theorem shut_one (p : List Int) (m : Int) : shut p [m] = !away p m := by simp [shut]

set_option maxHeartbeats 1000000 in
theorem pClosed (A : Option Addr) (k c : Nat) (p : List Int) (w : World) (hl : p.length ≤ 1000) (B : Nat) (hB : B ≤ w.heap.size) (hr : Rd w B 1 A k (ints p)) :
    Calls Try.prog 45 #[.slice A k c] w fun e w' => ∃ v, e = .returned (.tuple #[v, .int .i64 (vald p)]) ∧ w'.ownsRow w.heap.size 3 1 v (closedN p).length (ints (closedN p)) ∧ Below w.heap.size w w' := by
  obtain rfl := hr.int_len
  have H := Lib.hid (pValidate A p.length c p w hl B hB hr)
  have HC := Lib.hid (show closedN p = if vald p = 0 then clTo p 4 else [] from rfl)
  by_cases h : vald p = 0
  · obtain ⟨h4, h5⟩ := vald_ok h
    have HV := Lib.hid h
    rw [h] at H
    rw [if_pos h] at HC
    have HF := Lib.hid h5
    clear h h5
    go_enter Try.func45, Try.ntmps45
    go_wp2_with fail
    refine H.out.mono ?_
    rintro e w1 ⟨rfl, hb1⟩
    go_wp2
    go_loopw [5, 12] (fun v i wr => ∃ q : Nat, i = .int .i64 q ∧ q ≤ 4 ∧ wr.ownsRow w.heap.size 3 1 v (clTo p q).length (ints (clTo p q)) ∧ Below w.heap.size w wr) (fun _ i _ => 4 - (intOf i).toNat)
    case atStart => exact ⟨0, rfl, Nat.zero_le _, World.ownsRow_nil .., hb1⟩
    case round =>
      clear hb1
      obtain ⟨q, rfl, hq, hown, hb⟩ := hrel
      have hsz := hb.size
      by_cases hlt : q < 4
      · have HSQ := Lib.hid (show clTo p (q + 1) = clTo p q ++ (if away p q then [] else [(q : Int)]) from rfl)
        have hlen := clTo_len p q
        have HCL := Lib.hid (pisClosed p [(q : Int)] A (some ⟨wr.heap.size, 0, none⟩) c 1 1 h4 HF.out (fun m hm => by rw [List.mem_singleton.1 hm]; omega) (by simp) (wr.alloc (.cells #[.int .i64 q] 3)) (wr.heap.size + 1) (by simp)
          (((hr.below' hb hB).alloc (by omega) _).more (by omega)) (rd_lit (blk_new wr 3 #[.int .i64 q]) rfl))
        rw [shut_one] at HCL
        have HOW := Lib.hid (And.intro hown hb)
        cases haw : away p q with
        | true =>
          rw [haw] at HCL HSQ
          clear haw hown hb
          go_wp2_with fail
          refine HCL.out.mono ?_
          rintro e w2 ⟨rfl, hb2⟩
          have V := Lib.hid (And.intro (own_below (own_below HOW.out.1 ((Below.refl _ wr).alloc (Nat.le_refl _) _)) hb2) ((HOW.out.2.alloc hsz _).trans (hb2.mono (by simp; omega))))
          clear hb2
          go_wp2
          go_roundw
          case rel => exact ⟨q + 1, by go_num, by omega, by rw [HSQ.out]; simpa using V.out.1, V.out.2⟩
          case measure => simp [intOf]; omega
        | false =>
          rw [haw] at HCL HSQ
          clear haw hown hb
          go_wp2_with fail
          refine HCL.out.mono ?_
          rintro e w2 ⟨rfl, hb2⟩
          have hown2 := own_below (own_below HOW.out.1 ((Below.refl _ wr).alloc (Nat.le_refl _) _)) hb2
          have B2 := (HOW.out.2.alloc hsz _).trans (hb2.mono (by simp; omega))
          have s2 := B2.size
          clear hb2
          have V := Lib.hid (fun (w' : World) => below_own (w' := w') B2 s2 hown2 (Nat.le_refl _))
          clear B2
          go_wp2_with (at_builtin; go_must (refine app1 rfl (.tmp 19) (.tmp 21) 22 rfl 3 _ 1 8 E22 w.heap.size _ _ _ _ rfl hown2 _ rfl ?_ ?_ ?_ ?_ ?_ ?_); rfl; rfl; rfl; omega; omega; intro v3 w3 hown3 hg3)
          go_roundw
          case rel => exact ⟨q + 1, by go_num, by omega, by rw [HSQ.out]; simpa using hown3, V.out _ hg3⟩
          case measure => simp [intOf]; omega
      · obtain rfl : q = 4 := by omega
        go_wp2
        go_ret2
        exact ⟨_, ret_two rfl (by rw [HV.out]; rfl), by rw [HC.out]; exact hown, hb⟩
  · have hd : (vald p != 0) = true := by simpa using h
    rw [if_neg h] at HC
    clear h
    go_enter Try.func45, Try.ntmps45
    go_wp2_with fail
    refine H.out.mono ?_
    rintro e w1 ⟨rfl, hb1⟩
    go_wp2
    go_ret2
    exact ⟨_, ret_two rfl rfl, by rw [HC.out]; exact World.ownsRow_nil .., hb1⟩
end Go.Proofs.Ytnoocdannfeidaa

/-
  WALK: Closed of the reference.
-/
namespace Go.Proofs.Ytnoocdannfeidaa
open Go.RowKit Pulse

set_option maxHeartbeats 1000000 in
theorem rClosed (A : Option Addr) (k c : Nat) (p : List Int) (w : World) (hl : p.length ≤ 1000) (B : Nat) (hB : B ≤ w.heap.size) (hr : Rd w B 1 A k (ints p)) :
    Calls Try.prog 46 #[.slice A k c] w fun e w' => ∃ v, e = .returned (.tuple #[v, .int .i64 (vald p)]) ∧ w'.ownsRow w.heap.size 3 1 v (closedN p).length (ints (closedN p)) ∧ Below w.heap.size w w' := by
  obtain rfl := hr.int_len
  have H := Lib.hid (rValidate A p.length c p w hl B hB hr)
  have HC := Lib.hid (show closedN p = if vald p = 0 then clTo p 4 else [] from rfl)
  by_cases h : vald p = 0
  · obtain ⟨h4, h5⟩ := vald_ok h
    have HV := Lib.hid h
    rw [h] at H
    rw [if_pos h] at HC
    have HF := Lib.hid h5
    clear h h5
    go_enter Try.func46, Try.ntmps46
    go_wp2_with fail
    refine H.out.mono ?_
    rintro e w1 ⟨rfl, hb1⟩
    go_wp2
    go_loopw [5, 6] (fun v i wr => ∃ q : Nat, i = .int .i64 q ∧ q ≤ 4 ∧ wr.ownsRow w.heap.size 3 1 v (clTo p q).length (ints (clTo p q)) ∧ Below w.heap.size w wr) (fun _ i _ => 4 - (intOf i).toNat)
    case atStart => exact ⟨0, rfl, Nat.zero_le _, World.ownsRow_nil .., hb1⟩
    case round =>
      clear hb1
      obtain ⟨q, rfl, hq, hown, hb⟩ := hrel
      have hsz := hb.size
      by_cases hlt : q < 4
      · have HSQ := Lib.hid (show clTo p (q + 1) = clTo p q ++ (if away p q then [] else [(q : Int)]) from rfl)
        have hlen := clTo_len p q
        have HE := Lib.hid (rend p (q : Int) h4 HF.out (by omega) (by omega) A c wr B (by omega) (hr.below' hb hB))
        have HAW := Lib.hid (show away p (q : Int) = !(decide ((endL ((q : Int)).toNat p).x = 0) && decide ((endL ((q : Int)).toNat p).y = 0)) from rfl)
        obtain ⟨u, hu⟩ : ∃ u, u = endL ((q : Int)).toNat p := ⟨_, rfl⟩
        rw [← hu] at HE HAW
        clear hu
        have HOW := Lib.hid (And.intro hown hb)
        clear hown hb
        by_cases hx : u.x = 0
        · by_cases hy : u.y = 0
          · have HSR := Lib.hid (show clTo p (q + 1) = clTo p q ++ [(q : Int)] by rw [HSQ.out, HAW.out, hx, hy]; rfl)
            go_wp2_with fail
            refine HE.out.mono ?_
            rintro e w2 ⟨rfl, hb2⟩
            have hown2 := own_below HOW.out.1 hb2
            have B2 := HOW.out.2.trans (hb2.mono hsz)
            have s2 := B2.size
            clear hb2
            have V := Lib.hid (fun (w' : World) => below_own (w' := w') B2 s2 hown2 (Nat.le_refl _))
            clear B2
            go_wp2_with (at_builtin; go_must (refine app1 rfl (.tmp 21) (.tmp 23) 22 rfl 3 _ 1 8 E22 w.heap.size _ _ _ _ rfl hown2 _ rfl ?_ ?_ ?_ ?_ ?_ ?_); rfl; rfl; rfl; omega; omega; intro v3 w3 hown3 hg3)
            go_roundw
            case rel => exact ⟨q + 1, by go_num, by omega, by rw [HSR.out]; simpa using hown3, V.out _ hg3⟩
            case measure => simp [intOf]; omega
          · have HSR := Lib.hid (show clTo p (q + 1) = clTo p q by rw [HSQ.out, HAW.out, decide_eq_false hy, Bool.and_false]; simp)
            go_wp2_with fail
            refine HE.out.mono ?_
            rintro e w2 ⟨rfl, hb2⟩
            have V := Lib.hid (And.intro (own_below HOW.out.1 hb2) (HOW.out.2.trans (hb2.mono hsz)))
            clear hb2
            go_wp2
            go_roundw
            case rel => exact ⟨q + 1, by go_num, by omega, by rw [HSR.out]; exact V.out.1, V.out.2⟩
            case measure => simp [intOf]; omega
        · have HSR := Lib.hid (show clTo p (q + 1) = clTo p q by rw [HSQ.out, HAW.out, decide_eq_false hx, Bool.false_and]; simp)
          go_wp2_with fail
          refine HE.out.mono ?_
          rintro e w2 ⟨rfl, hb2⟩
          have V := Lib.hid (And.intro (own_below HOW.out.1 hb2) (HOW.out.2.trans (hb2.mono hsz)))
          clear hb2
          go_wp2
          go_roundw
          case rel => exact ⟨q + 1, by go_num, by omega, by rw [HSR.out]; exact V.out.1, V.out.2⟩
          case measure => simp [intOf]; omega
      · obtain rfl : q = 4 := by omega
        go_wp2
        go_ret2
        exact ⟨_, ret_two rfl (by rw [HV.out]; rfl), by rw [HC.out]; exact hown, hb⟩
  · have hd : (vald p != 0) = true := by simpa using h
    rw [if_neg h] at HC
    clear h
    go_enter Try.func46, Try.ntmps46
    go_wp2_with fail
    refine H.out.mono ?_
    rintro e w1 ⟨rfl, hb1⟩
    go_wp2
    go_ret2
    exact ⟨_, ret_two rfl rfl, by rw [HC.out]; exact World.ownsRow_nil .., hb1⟩
end Go.Proofs.Ytnoocdannfeidaa

/-
  WALK: Clone of ints; the errors of two pulses; told.
-/
namespace Go.Proofs.Ytnoocdannfeidaa
open Go.RowKit Pulse

theorem q22 (w : World) (a : Option Addr) (n c n' c' : Nat) : (binOp .eql 22 (.slice a n c) (.slice none n' c')).run Try.prog w = .ok (.bool a.isNone) w := Lib.run_eql_slice_nil w _ _ a n c n' c' Try.underlying22
set_option maxRecDepth 100000 in
/-- slices.Clone of ints. -/
theorem pClone (A : Option Addr) (k c : Nat) (l : List Int) (w : World) (hl : l.length ≤ 1000) (B : Nat) (hB : B ≤ w.heap.size) (hr : Rd w B 1 A k (ints l)) :
    Calls Try.prog 81 #[.slice A k c] w fun e w' => ∃ v, e = .returned v ∧ w'.ownsRow w.heap.size 3 1 v k (ints l) ∧ Below w.heap.size w w' := by
  obtain rfl := hr.int_len
  have qT := q22
  cases A with
  | none =>
    have hl0 : l.length = 0 := by
      rcases Nat.eq_zero_or_pos l.length with h | h
      · exact h
      · obtain ⟨_, _, h, _⟩ := hr.2 h; cases h
    have hl1 : l = [] := List.eq_nil_of_length_eq_zero hl0
    subst hl1
    go_enter Try.func81, Try.ntmps81
    go_wp2
    go_ret
    exact ⟨_, rfl, World.ownsRow_nil _ _ _ _, Below.refl _ _⟩
  | some a =>
    have HO := Lib.hid (show (w.alloc (.cells #[] 3)).ownsRow w.heap.size 3 1 (.slice (some ⟨w.heap.size, 0, none⟩) 0 0) 0 [] from own_empty (blk_new w 3 #[]) (Nat.le_refl _))
    have HB := Lib.hid ((Below.refl w.heap.size w).alloc (Nat.le_refl _) (.cells #[] 3))
    have HR := hr.alloc hB (.cells #[] 3)
    go_enter Try.func81, Try.ntmps81
    go_wp2_with (at_builtin; go_must (refine appN rfl (.tmp 5) (.tmp 6) 22 rfl 3 _ 1 8 E22 w.heap.size _ _ _ rfl HO.out B (some a) l.length c (ints l) rfl HR (ints_one _) (by omega) (by simp) ?_); intro v4 w4 hown4 hg4)
    go_ret
    exact ⟨_, rfl, by simpa using hown4, below_own HB.out (by simp) HO.out (Nat.le_refl _) hg4⟩

def bothE (p q : List Int) : Int := if vald p = 0 then vald q else vald p

set_option maxHeartbeats 400000 in
theorem pboth (A A' : Option Addr) (k c k' c' : Nat) (p q : List Int) (w : World) (hl : p.length ≤ 1000) (hl' : q.length ≤ 1000) (B : Nat) (hB : B ≤ w.heap.size) (hr : Rd w B 1 A k (ints p)) (hr' : Rd w B 1 A' k' (ints q)) :
    Calls Try.prog 85 #[.slice A k c, .slice A' k' c'] w fun e w' => e = .returned (.int .i64 (bothE p q)) ∧ Below w.heap.size w w' := by
  have H := Lib.hid (pValidate A k c p w hl B hB hr)
  have HC := Lib.hid (show bothE p q = if vald p = 0 then vald q else vald p from rfl)
  by_cases h : vald p = 0
  · have HV := Lib.hid h
    rw [h] at H
    rw [if_pos h] at HC
    clear h
    go_enter Try.func85, Try.ntmps85
    go_wp2_with fail
    refine H.out.mono ?_
    rintro e w1 ⟨rfl, hb1⟩
    have s1 := hb1.size
    have H2 := Lib.hid (pValidate A' k' c' q w1 hl' B (by omega) (hr'.below' hb1 hB))
    go_wp2_with fail
    refine H2.out.mono ?_
    rintro e w2 ⟨rfl, hb2⟩
    go_wp2
    go_ret
    exact ⟨ret_int HC.out.symm, hb1.trans (hb2.mono s1)⟩
  · have hd : (vald p != 0) = true := by simpa using h
    rw [if_neg h] at HC
    clear h
    go_enter Try.func85, Try.ntmps85
    go_wp2_with fail
    refine H.out.mono ?_
    rintro e w1 ⟨rfl, hb1⟩
    go_wp2
    go_ret
    exact ⟨ret_int HC.out.symm, hb1⟩

set_option maxHeartbeats 400000 in
theorem rboth (A A' : Option Addr) (k c k' c' : Nat) (p q : List Int) (w : World) (hl : p.length ≤ 1000) (hl' : q.length ≤ 1000) (B : Nat) (hB : B ≤ w.heap.size) (hr : Rd w B 1 A k (ints p)) (hr' : Rd w B 1 A' k' (ints q)) :
    Calls Try.prog 86 #[.slice A k c, .slice A' k' c'] w fun e w' => e = .returned (.int .i64 (bothE p q)) ∧ Below w.heap.size w w' := by
  have H := Lib.hid (rValidate A k c p w hl B hB hr)
  have HC := Lib.hid (show bothE p q = if vald p = 0 then vald q else vald p from rfl)
  by_cases h : vald p = 0
  · have HV := Lib.hid h
    rw [h] at H
    rw [if_pos h] at HC
    clear h
    go_enter Try.func86, Try.ntmps86
    go_wp2_with fail
    refine H.out.mono ?_
    rintro e w1 ⟨rfl, hb1⟩
    have s1 := hb1.size
    have H2 := Lib.hid (rValidate A' k' c' q w1 hl' B (by omega) (hr'.below' hb1 hB))
    go_wp2_with fail
    refine H2.out.mono ?_
    rintro e w2 ⟨rfl, hb2⟩
    go_wp2
    go_ret
    exact ⟨ret_int HC.out.symm, hb1.trans (hb2.mono s1)⟩
  · have hd : (vald p != 0) = true := by simpa using h
    rw [if_neg h] at HC
    clear h
    go_enter Try.func86, Try.ntmps86
    go_wp2_with fail
    refine H.out.mono ?_
    rintro e w1 ⟨rfl, hb1⟩
    go_wp2
    go_ret
    exact ⟨ret_int HC.out.symm, hb1⟩

set_option maxHeartbeats 400000 in
/-- told: the slice itself, or ErrArg. -/
theorem pTold (A : Option Addr) (k c : Nat) (p : List Int) (w : World) (hl : p.length ≤ 1000) (B : Nat) (hB : B ≤ w.heap.size) (hr : Rd w B 1 A k (ints p)) :
    Calls Try.prog 79 #[.slice A k c] w fun e w' => e = .returned (if vald p = 0 then .tuple #[.slice A k c, .int .i64 0] else .tuple #[.slice none 0 0, .int .i64 1]) ∧ Below w.heap.size w w' := by
  have H := Lib.hid (pValidate A k c p w hl B hB hr)
  by_cases h : vald p = 0
  · rw [h] at H
    rw [if_pos h]
    clear h
    go_enter Try.func79, Try.ntmps79
    go_wp2_with fail
    refine H.out.mono ?_
    rintro e w1 ⟨rfl, hb1⟩
    go_wp2
    go_ret2
    exact ⟨rfl, hb1⟩
  · have hd : (vald p != 0) = true := by simpa using h
    rw [if_neg h]
    clear h
    go_enter Try.func79, Try.ntmps79
    go_wp2_with fail
    refine H.out.mono ?_
    rintro e w1 ⟨rfl, hb1⟩
    go_wp2
    go_ret2
    exact ⟨rfl, hb1⟩
end Go.Proofs.Ytnoocdannfeidaa
