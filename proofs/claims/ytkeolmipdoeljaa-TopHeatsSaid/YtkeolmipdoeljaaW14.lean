/-
  WALKS: Insert of the program, CheckInsert of the reference (printed by gen_checkinsert.py).
-/
import Derived.Test.YtkeolmipdoeljaaW13
namespace Go.Proofs.Ytkeolmipdoeljaa
open Go.RowKit Heat

/-- The reference's match: an act that is the plan's next one is taken for it, a cooling is passed over. -/
def greedy : List HAct → List HAct → Bool
  | [], [] => true
  | _ :: _, [] => false
  | [], b :: m => b.kind == 2 && greedy [] m
  | a :: l, b :: m => if b = a then greedy l m else b.kind == 2 && greedy (a :: l) m
def checkErr (n : Int) (l m : List HAct) (limit : Int) : Int :=
  if limited n l limit ≠ 0 then limited n l limit else if 40 < m.length then 3 else if areActs n m = false then 1 else if greedy l m = false then 5 else if hot limit m ≠ [] then 8 else 0
def checkN (n : Int) (l m : List HAct) (limit : Int) : Int := if checkErr n l m limit = 0 then (m.length : Int) - (l.length : Int) else 0
def insertL (n : Int) (l : List HAct) (limit : Int) : List HAct := if limited n l limit = 0 then putIn limit cold l else []

theorem hotFrom_len (L : Int) (l : List HAct) : ∀ (h : Int → Int) (i : Nat), (hotFrom L h i l).length ≤ l.length := by
  induction l with
  | nil => intro h i; exact Nat.le_refl _
  | cons a l ih =>
    intro h i
    have := ih (put h a) (i + 1)
    rw [hotFrom]
    split
    · simp only [List.length_cons]; omega
    · simp only [List.length_cons]; omega
theorem hot_len (L : Int) (l : List HAct) : (hot L l).length ≤ l.length := hotFrom_len L l cold 0
theorem greedy_take {l m : List HAct} {k q : Nat} (hk : k < l.length) (hq : q < m.length) (h : m[q] = l[k]) : greedy (l.drop (k + 1)) (m.drop (q + 1)) = greedy (l.drop k) (m.drop q) := by
  rw [List.drop_eq_getElem_cons hk, List.drop_eq_getElem_cons hq, greedy, if_pos h]
theorem greedy_pass {l m : List HAct} {k q : Nat} (hk : k < l.length) (hq : q < m.length) (h : m[q] ≠ l[k]) : greedy (l.drop k) (m.drop q) = (m[q].kind == 2 && greedy (l.drop k) (m.drop (q + 1))) := by
  rw [List.drop_eq_getElem_cons hk, List.drop_eq_getElem_cons hq, greedy, if_neg h]
theorem greedy_end {l m : List HAct} {q : Nat} (hq : q < m.length) : greedy (l.drop l.length) (m.drop q) = (m[q].kind == 2 && greedy (l.drop l.length) (m.drop (q + 1))) := by
  rw [List.drop_length, List.drop_eq_getElem_cons hq, greedy]

theorem pInsert (n : Int) (A : Option Addr) (k c : Nat) (limit : Int) (l : List HAct) (w : World) (hl : l.length ≤ 1000) (B : Nat) (hB : B ≤ w.heap.size) (hr : Rd w B 3 A k (actCells l)) :
    Calls Try.prog 27 #[.int .i64 n, .slice A k c, .int .i64 limit] w fun e w' => ∃ v, e = .returned (.tuple #[v, .int .i64 (limited n l limit)]) ∧ w'.ownsRow w.heap.size 48 3 v (insertL n l limit).length (actCells (insertL n l limit)) ∧ Below w.heap.size w w' := by
  have H := Lib.hid (plimited n A k c l limit w hl B hB hr)
  by_cases h : limited n l limit = 0
  · obtain ⟨⟨h1, h2, h3, h4⟩, h5, h6⟩ := limited_ok h
    obtain ⟨m, rfl⟩ := Int.eq_ofNat_of_zero_le (show 0 ≤ n by omega)
    have HL := Lib.hid h
    have HA := Lib.hid h4
    have HI := Lib.hid (show insertL m l limit = putIn limit cold l by rw [insertL, if_pos h])
    clear h h4
    go_enter Try.func27, Try.ntmps27
    go_wp2_with fail
    refine H.out.mono ?_
    rw [HL.out]
    rintro e w1 ⟨rfl, hb⟩
    go_wp2_with fail
    refine (pinsert m A k c limit l w1 (by omega) hl HA.out B (by have := hb.size; omega) (hr.below' hb hB)).mono ?_
    rintro e w2 ⟨v, rfl, hown, hb2⟩
    have hown' := own_base hown hb.size
    go_wp2
    go_ret2
    exact ⟨_, ret_vi HL.out.symm, by rw [HI.out]; exact hown', hb.trans (hb2.mono hb.size)⟩
  · have hd : (limited n l limit == 0) = false := by simpa using h
    have hd' : (limited n l limit != 0) = true := by simpa using h
    have HI := Lib.hid (show insertL n l limit = [] by rw [insertL, if_neg h])
    clear h
    go_enter Try.func27, Try.ntmps27
    go_wp2_with fail
    refine H.out.mono ?_
    rintro e w1 ⟨rfl, hb⟩
    go_wp2
    go_ret2
    exact ⟨_, rfl, by rw [HI.out]; exact World.ownsRow_nil _ _ _ _, hb⟩

set_option maxRecDepth 100000 in
set_option maxHeartbeats 4000000 in
theorem rCheckInsert (n : Int) (A A' : Option Addr) (k c k' c' : Nat) (limit : Int) (l m : List HAct) (w : World) (hl : l.length ≤ 1000) (hm : m.length ≤ 1000) (B : Nat) (hB : B ≤ w.heap.size) (hr : Rd w B 3 A k (actCells l)) (hr' : Rd w B 3 A' k' (actCells m)) :
    Calls Try.prog 28 #[.int .i64 n, .slice A k c, .slice A' k' c', .int .i64 limit] w fun e w' => e = .returned (.tuple #[.int .i64 (checkN n l m limit), .int .i64 (checkErr n l m limit)]) ∧ Below w.heap.size w w' := by
  obtain rfl := hr.act_len
  obtain rfl := hr'.act_len
  have H := Lib.hid (rlimited n A l.length c l limit w hl B hB hr)
  by_cases h : limited n l limit = 0
  · obtain ⟨⟨h1, h2, h3, h4⟩, h5, h6⟩ := limited_ok h
    have HL := Lib.hid h
    by_cases hw : 40 < m.length
    · have HE := Lib.hid (show checkErr n l m limit = 3 by rw [checkErr, if_neg (by simpa using h), if_pos hw])
      clear h h4
      go_enter Try.func28, Try.ntmps28
      go_wp2_with fail
      refine H.out.mono ?_
      rw [HL.out]
      rintro e w1 ⟨rfl, hb⟩
      go_wp2
      go_ret2
      exact ⟨ret_ii (by rw [checkN, HE.out]; rfl) HE.out.symm, hb⟩
    · by_cases ha : areActs n m = true
      · have HA := Lib.hid ha
        have HM := Lib.hid (mild_of ha)
        have HC := Lib.hid (show checkErr n l m limit = if greedy l m = false then 5 else if hot limit m ≠ [] then 8 else 0 by rw [checkErr, if_neg (by simpa using h), if_neg hw, if_neg (by rw [ha]; decide)])
        clear h h4 ha
        go_enter Try.func28, Try.ntmps28
        go_wp2_with fail
        refine H.out.mono ?_
        rw [HL.out]
        rintro e w1 ⟨rfl, hb1⟩
        have s1 := hb1.size
        go_wp2_with fail
        refine (rareActs n A' m.length c' m w1 (by omega) (by omega) (by omega) B (by omega) (hr'.below' hb1 hB)).mono ?_
        rw [HA.out]
        rintro e w2 ⟨rfl, hb2⟩
        have hb := hb1.trans (hb2.mono s1)
        clear hb1 hb2
        go_wp2
        go_loopw [11, 12] (fun a b wr => ∃ p q : Nat, b = .int .i64 q ∧ a = .int .i64 p ∧ p ≤ l.length ∧ q ≤ m.length ∧ Hid (greedy (l.drop p) (m.drop q) = greedy l m) ∧ Below w.heap.size w wr) (fun _ b _ => m.length - (intOf b).toNat)
        case atStart => exact ⟨0, 0, rfl, rfl, Nat.zero_le _, Nat.zero_le _, rfl, hb⟩
        case round =>
          clear hb
          obtain ⟨p, q, rfl, rfl, hp, hq, HG, hb⟩ := hrel
          by_cases hlt : q < m.length
          · obtain ⟨b, off, rfl, _, h0, h1, h2⟩ := (hr'.below' hb hB).act hlt
            have z0 : (0 : Int) ≤ (q : Int) := Int.natCast_nonneg _
            have z1 : (q : Int) < (m.length : Int) := by omega
            by_cases hpl : p < l.length
            · obtain ⟨b', off', rfl, _, h0', h1', h2'⟩ := (hr.below' hb hB).act hpl
              have y0 : (0 : Int) ≤ (p : Int) := Int.natCast_nonneg _
              have y1 : (p : Int) < (l.length : Int) := by omega
              have HEQ := Lib.hid (fun e : m[q] = l[p] => (greedy_take hpl hlt e).trans HG.out)
              have HNE := Lib.hid (fun e : m[q] ≠ l[p] => show (m[q].kind = 2 → greedy (l.drop p) (m.drop (q + 1)) = greedy l m) ∧ (m[q].kind ≠ 2 → checkErr n l m limit = 5) from by
                have hg := (greedy_pass hpl hlt e).symm.trans HG.out
                refine ⟨fun e2 => ?_, fun e2 => ?_⟩
                · rw [← hg, e2]; rfl
                · have e3 : (m[q].kind == 2) = false := by simpa using e2
                  rw [HC.out, if_pos (by rw [← hg, e3]; rfl)])
              generalize m[q] = x at *
              generalize l[p] = y at *
              obtain ⟨x0, x1, x2⟩ := x
              obtain ⟨u0, u1, u2⟩ := y
              dsimp only at *
              by_cases e0 : x0 = u0
              · by_cases e1 : x1 = u1
                · by_cases e2 : x2 = u2
                  · have HN := Lib.hid (HEQ.out (by rw [e0, e1, e2]))
                    have d0 : (x0 == u0) = true := by simpa using e0
                    have b0 : (x0 != u0) = false := by simpa using e0
                    have d1 : (x1 == u1) = true := by simpa using e1
                    have b1 : (x1 != u1) = false := by simpa using e1
                    have d2 : (x2 == u2) = true := by simpa using e2
                    have b2 : (x2 != u2) = false := by simpa using e2
                    clear e0 e1 e2
                    go_wp2
                    go_quiet (fail)
                    go_wp2
                    go_roundw
                    case rel => exact ⟨p + 1, q + 1, by go_num, by go_num, by omega, by omega, HN.out, below_drewN hb nq⟩
                    case measure => simp [intOf]; omega
                  · have HO := HNE.out (by simp [e2])
                    by_cases ek : x0 = 2
                    · have HN := Lib.hid (HO.1 ek)
                      have k0 : (x0 == 2) = true := by simpa using ek
                      have k1 : (x0 != 2) = false := by simpa using ek
                      have d0 : (x0 == u0) = true := by simpa using e0
                      have b0 : (x0 != u0) = false := by simpa using e0
                      have d1 : (x1 == u1) = true := by simpa using e1
                      have b1 : (x1 != u1) = false := by simpa using e1
                      have d2 : (x2 == u2) = false := by simpa using e2
                      have b2 : (x2 != u2) = true := by simpa using e2
                      clear e0 e1 e2 ek
                      go_wp2
                      go_quiet (fail)
                      go_wp2
                      go_roundw
                      case rel => exact ⟨p, q + 1, by go_num, rfl, by omega, by omega, HN.out, below_drewN hb nq⟩
                      case measure => simp [intOf]; omega
                    · have HN := Lib.hid (HO.2 ek)
                      have k0 : (x0 == 2) = false := by simpa using ek
                      have k1 : (x0 != 2) = true := by simpa using ek
                      have d0 : (x0 == u0) = true := by simpa using e0
                      have b0 : (x0 != u0) = false := by simpa using e0
                      have d1 : (x1 == u1) = true := by simpa using e1
                      have b1 : (x1 != u1) = false := by simpa using e1
                      have d2 : (x2 == u2) = false := by simpa using e2
                      have b2 : (x2 != u2) = true := by simpa using e2
                      clear e0 e1 e2 ek
                      go_wp2
                      go_quiet (fail)
                      go_wp2
                      go_ret2
                      exact ⟨ret_ii (by rw [checkN, HN.out]; rfl) HN.out.symm, below_drewN hb nq⟩
                · have HO := HNE.out (by simp [e1])
                  by_cases ek : x0 = 2
                  · have HN := Lib.hid (HO.1 ek)
                    have k0 : (x0 == 2) = true := by simpa using ek
                    have k1 : (x0 != 2) = false := by simpa using ek
                    have d0 : (x0 == u0) = true := by simpa using e0
                    have b0 : (x0 != u0) = false := by simpa using e0
                    have d1 : (x1 == u1) = false := by simpa using e1
                    have b1 : (x1 != u1) = true := by simpa using e1
                    clear e0 e1 ek
                    go_wp2
                    go_quiet (fail)
                    go_wp2
                    go_roundw
                    case rel => exact ⟨p, q + 1, by go_num, rfl, by omega, by omega, HN.out, below_drewN hb nq⟩
                    case measure => simp [intOf]; omega
                  · have HN := Lib.hid (HO.2 ek)
                    have k0 : (x0 == 2) = false := by simpa using ek
                    have k1 : (x0 != 2) = true := by simpa using ek
                    have d0 : (x0 == u0) = true := by simpa using e0
                    have b0 : (x0 != u0) = false := by simpa using e0
                    have d1 : (x1 == u1) = false := by simpa using e1
                    have b1 : (x1 != u1) = true := by simpa using e1
                    clear e0 e1 ek
                    go_wp2
                    go_quiet (fail)
                    go_wp2
                    go_ret2
                    exact ⟨ret_ii (by rw [checkN, HN.out]; rfl) HN.out.symm, below_drewN hb nq⟩
              · have HO := HNE.out (by simp [e0])
                by_cases ek : x0 = 2
                · have HN := Lib.hid (HO.1 ek)
                  have k0 : (x0 == 2) = true := by simpa using ek
                  have k1 : (x0 != 2) = false := by simpa using ek
                  have d0 : (x0 == u0) = false := by simpa using e0
                  have b0 : (x0 != u0) = true := by simpa using e0
                  clear e0 ek
                  go_wp2
                  go_quiet (fail)
                  go_wp2
                  go_roundw
                  case rel => exact ⟨p, q + 1, by go_num, rfl, by omega, by omega, HN.out, below_drewN hb nq⟩
                  case measure => simp [intOf]; omega
                · have HN := Lib.hid (HO.2 ek)
                  have k0 : (x0 == 2) = false := by simpa using ek
                  have k1 : (x0 != 2) = true := by simpa using ek
                  have d0 : (x0 == u0) = false := by simpa using e0
                  have b0 : (x0 != u0) = true := by simpa using e0
                  clear e0 ek
                  go_wp2
                  go_quiet (fail)
                  go_wp2
                  go_ret2
                  exact ⟨ret_ii (by rw [checkN, HN.out]; rfl) HN.out.symm, below_drewN hb nq⟩
            · obtain rfl : p = l.length := by omega
              have HNE := Lib.hid (show (m[q].kind = 2 → greedy (l.drop l.length) (m.drop (q + 1)) = greedy l m) ∧ (m[q].kind ≠ 2 → checkErr n l m limit = 5) from by
                have hg := (greedy_end hlt).symm.trans HG.out
                refine ⟨fun e2 => ?_, fun e2 => ?_⟩
                · rw [← hg, e2]; rfl
                · have e3 : (m[q].kind == 2) = false := by simpa using e2
                  rw [HC.out, if_pos (by rw [← hg, e3]; rfl)])
              have hpp : decide (l.length < l.length) = false := by simp
              generalize m[q] = x at *
              obtain ⟨x0, x1, x2⟩ := x
              dsimp only at *
              by_cases ek : x0 = 2
              · have HN := Lib.hid (HNE.out.1 ek)
                have k0 : (x0 == 2) = true := by simpa using ek
                have k1 : (x0 != 2) = false := by simpa using ek
                clear ek
                go_wp2
                go_quiet (fail)
                go_wp2
                go_roundw
                case rel => exact ⟨l.length, q + 1, by go_num, rfl, by omega, by omega, HN.out, below_drewN hb nq⟩
                case measure => simp [intOf]; omega
              · have HN := Lib.hid (HNE.out.2 ek)
                have k0 : (x0 == 2) = false := by simpa using ek
                have k1 : (x0 != 2) = true := by simpa using ek
                clear ek
                go_wp2
                go_quiet (fail)
                go_wp2
                go_ret2
                exact ⟨ret_ii (by rw [checkN, HN.out]; rfl) HN.out.symm, below_drewN hb nq⟩
          · obtain rfl : q = m.length := by omega
            by_cases hpl : p < l.length
            · have HE := Lib.hid (show checkErr n l m limit = 5 by
                rw [HC.out, if_pos (by rw [← HG.out, List.drop_length, List.drop_eq_getElem_cons hpl]; rfl)])
              go_wp2
              go_ret2
              exact ⟨ret_ii (by rw [checkN, HE.out]; rfl) HE.out.symm, hb⟩
            · obtain rfl : p = l.length := by omega
              have hsz := hb.size
              have HC2 := Lib.hid (show checkErr n l m limit = if hot limit m ≠ [] then 8 else 0 by
                rw [HC.out, if_neg (by rw [← HG.out, List.drop_length, List.drop_length]; decide)])
              have hH := rhot A' m.length c' limit m wr (by omega) HM.out B (by omega) (hr'.below' hb hB)
              rw [hotTo_all] at hH
              have HH := Lib.hid hH
              clear hH
              cases hx : hot limit m with
              | nil =>
                have HX := Lib.hid hx
                have HE := Lib.hid (show checkErr n l m limit = 0 by rw [HC2.out, if_neg (by rw [hx]; simp)])
                clear hx
                go_wp2_with fail
                refine HH.out.mono ?_
                rw [HX.out]
                rintro e w3 ⟨v, rfl, hown, hb3⟩
                obtain ⟨A1, c1, rfl, _, _⟩ := own_cap hown
                go_wp2
                go_ret2
                exact ⟨ret_ii (by rw [checkN, if_pos HE.out]) HE.out.symm, hb.trans (hb3.mono hsz)⟩
              | cons a rs =>
                have HX := Lib.hid hx
                have HE := Lib.hid (show checkErr n l m limit = 8 by rw [HC2.out, if_pos (by rw [hx]; simp)])
                have has : rs.length ≤ 1000 := by
                  have := hot_len limit m
                  rw [hx, List.length_cons] at this
                  omega
                clear hx
                go_wp2_with fail
                refine HH.out.mono ?_
                rw [HX.out]
                rintro e w3 ⟨v, rfl, hown, hb3⟩
                obtain ⟨A1, c1, rfl, _, _⟩ := own_cap hown
                rw [List.length_cons]
                go_wp2
                go_ret2
                exact ⟨ret_ii (by rw [checkN, HE.out]; rfl) HE.out.symm, hb.trans (hb3.mono hsz)⟩
      · rw [Bool.not_eq_true] at ha
        have HA := Lib.hid ha
        have HE := Lib.hid (show checkErr n l m limit = 1 by rw [checkErr, if_neg (by simpa using h), if_neg hw, if_pos ha])
        clear h h4 ha
        go_enter Try.func28, Try.ntmps28
        go_wp2_with fail
        refine H.out.mono ?_
        rw [HL.out]
        rintro e w1 ⟨rfl, hb1⟩
        have s1 := hb1.size
        go_wp2_with fail
        refine (rareActs n A' m.length c' m w1 (by omega) (by omega) (by omega) B (by omega) (hr'.below' hb1 hB)).mono ?_
        rw [HA.out]
        rintro e w2 ⟨rfl, hb2⟩
        go_wp2
        go_ret2
        exact ⟨ret_ii (by rw [checkN, HE.out]; rfl) HE.out.symm, hb1.trans (hb2.mono s1)⟩
  · have hd : (limited n l limit == 0) = false := by simpa using h
    have hd' : (limited n l limit != 0) = true := by simpa using h
    have HE := Lib.hid (show checkErr n l m limit = limited n l limit by rw [checkErr, if_pos h])
    have HL := Lib.hid h
    clear h
    go_enter Try.func28, Try.ntmps28
    go_wp2_with fail
    refine H.out.mono ?_
    rintro e w1 ⟨rfl, hb⟩
    go_wp2
    go_ret2
    exact ⟨ret_ii (by rw [checkN, HE.out, if_neg HL.out]) HE.out.symm, hb⟩
end Go.Proofs.Ytkeolmipdoeljaa

