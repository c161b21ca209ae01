/-
  WALKS: Uncool and Only, of the program and of the reference (printed by gen_uncool.py).
-/
import Derived.Test.YtkeolmipdoeljaaW17
namespace Go.Proofs.Ytkeolmipdoeljaa
open Go.RowKit Heat

def isCool (a : HAct) : Bool := a.kind == 2
def notOf (ion : Int) (a : HAct) : Bool := a.ion != ion
def uncoolL (n : Int) (l : List HAct) : List HAct := if validate n l = 0 then keep isCool l else []
def onlyErr (n : Int) (l : List HAct) (ion : Int) : Int := if validate n l ≠ 0 then validate n l else if (decide (0 ≤ ion) && decide (ion ≤ n - 1)) = true then 0 else 4
def onlyL (n : Int) (l : List HAct) (ion : Int) : List HAct := if onlyErr n l ion = 0 then keep (notOf ion) l else []
theorem keep_len (p : HAct → Bool) (l : List HAct) : (keep p l).length ≤ l.length := List.length_filter_le _ _

theorem uncoolFn (a : HAct) (W : World) : Calls Try.prog 70 #[actV a] W fun e W' => e = .returned (.bool (isCool a)) ∧ Below W.heap.size W W' := by
  obtain ⟨k, i, h⟩ := a
  go_enter Try.func70, Try.ntmps70
  go_wp2
  go_ret
  exact ⟨rfl, (Below.refl _ _).alloc (Nat.le_refl _) _⟩
theorem onlyFn (ion : Int) (a : HAct) (W : World) (g : Nat) (hg : W.heap[g]? = some (.cells #[.int .i64 ion] 3 (0, 0))) : Calls Try.prog 71 #[actV a, .pointer (some ⟨g, 0, none⟩)] W fun e W' => e = .returned (.bool (notOf ion a)) ∧ Below W.heap.size W W' := by
  obtain ⟨k, i, h⟩ := a
  have hlt := blk_lt hg
  have x0 : W.cell? ⟨g, 0, none⟩ = some (.int .i64 ion) := blk_cell hg 0
  have HG := Lib.hid hg
  clear hg
  go_enter Try.func71, Try.ntmps71
  go_wp2
  go_ret
  exact ⟨rfl, (Below.refl _ _).alloc (Nat.le_refl _) _⟩

set_option maxRecDepth 100000 in
theorem pUncool (n : Int) (A : Option Addr) (k c : Nat) (l : List HAct) (w : World) (hl : l.length ≤ 1000) (B : Nat) (hB : B ≤ w.heap.size) (hr : Rd w B 3 A k (actCells l)) :
    Calls Try.prog 32 #[.int .i64 n, .slice A k c] w fun e w' => ∃ v, e = .returned (.tuple #[v, .int .i64 (validate n l)]) ∧ w'.ownsRow w.heap.size 48 3 v (uncoolL n l).length (actCells (uncoolL n l)) ∧ Below w.heap.size w w' := by
  obtain rfl := hr.act_len
  have H := Lib.hid (pValidate n A l.length c l w hl B hB hr)
  by_cases h : validate n l = 0
  · have HL := Lib.hid h
    have HU := Lib.hid (show uncoolL n l = keep isCool l by rw [uncoolL, if_pos h])
    clear h
    go_enter Try.func32, Try.ntmps32
    go_wp2_with fail
    refine H.out.mono ?_
    rw [HL.out]
    rintro e w1 ⟨rfl, hb⟩
    have s1 := hb.size
    go_wp2_with fail
    refine (pClone A l.length c l w1 hl B (by omega) (hr.below' hb hB)).mono ?_
    rintro e w2 ⟨v, rfl, hown, hb2⟩
    obtain ⟨A2, c2, rfl, _, _⟩ := own_cap hown
    have s2 := hb2.size
    go_wp2_with fail
    refine (pDeleteFunc 70 Try.call70 #[] isCool A2 c2 l w2 hl w1.heap.size s2 hown (fun a _ W _ => uncoolFn a W)).mono ?_
    rintro e w3 ⟨v3, rfl, hown3, hb3⟩
    go_wp2
    go_ret2
    exact ⟨_, ret_vi HL.out.symm, by rw [HU.out]; exact own_base hown3 s1, hb.trans ((hb2.trans hb3).mono s1)⟩
  · have hd : (validate n l == 0) = false := by simpa using h
    have hd' : (validate n l != 0) = true := by simpa using h
    have HSL := Lib.hid (show uncoolL n l = [] by rw [uncoolL, if_neg h])
    clear h
    go_enter Try.func32, Try.ntmps32
    go_wp2_with fail
    refine H.out.mono ?_
    rintro e w1 ⟨rfl, hb⟩
    go_wp2
    go_ret2
    exact ⟨_, rfl, by rw [HSL.out]; exact World.ownsRow_nil _ _ _ _, hb⟩

set_option maxRecDepth 100000 in
theorem pOnly (n : Int) (A : Option Addr) (k c : Nat) (ion : Int) (l : List HAct) (w : World) (hl : l.length ≤ 1000) (B : Nat) (hB : B ≤ w.heap.size) (hr : Rd w B 3 A k (actCells l)) :
    Calls Try.prog 34 #[.int .i64 n, .slice A k c, .int .i64 ion] w fun e w' => ∃ v, e = .returned (.tuple #[v, .int .i64 (onlyErr n l ion)]) ∧ w'.ownsRow w.heap.size 48 3 v (onlyL n l ion).length (actCells (onlyL n l ion)) ∧ Below w.heap.size w w' := by
  obtain rfl := hr.act_len
  have H := Lib.hid (pValidate n A l.length c l (w.alloc (.cells #[.int .i64 ion] 3)) hl B (by simp; omega) (hr.alloc hB _))
  have HX := Lib.hid (blk_new w 3 #[.int .i64 ion])
  have hB0 := (Below.refl w.heap.size w).alloc (Nat.le_refl _) (.cells #[.int .i64 ion] 3)
  by_cases h : validate n l = 0
  · obtain ⟨h1, h2, h3, h4⟩ := validate_ok h
    have HL := Lib.hid h
    by_cases hi : (decide (0 ≤ ion) && decide (ion ≤ n - 1)) = true
    · have HE := Lib.hid (show onlyErr n l ion = 0 by rw [onlyErr, if_neg (by simpa using h), if_pos hi])
      have HU := Lib.hid (show onlyL n l ion = keep (notOf ion) l by rw [onlyL, if_pos HE.out])
      clear h h4
      go_enter Try.func34, Try.ntmps34
      go_wp2_with fail
      refine H.out.mono ?_
      rw [HL.out]
      rintro e w1 ⟨rfl, hb⟩
      have s1 := hb.size
      have x1 := blk_below HX.out hb (by simp)
      have B1 := hB0.trans (hb.mono (by simp))
      have c0 : w1.cell? ⟨w.heap.size, 0, none⟩ = some (.int .i64 ion) := blk_cell x1 0
      have X1 := Lib.hid x1
      have S1 := B1.size
      clear x1
      go_wp2_with (go_at_call 58; refine (pwithin _ _ _ _).mono ?_; rintro e w' ⟨rfl, rfl⟩)
      refine (pClone A l.length c l w1 hl B (by omega) (hr.below' B1 hB)).mono ?_
      rintro e w2 ⟨v, rfl, hown, hb2⟩
      obtain ⟨A2, c2, rfl, _, _⟩ := own_cap hown
      have s2 := hb2.size
      have x2 := blk_below X1.out hb2 (blk_lt X1.out)
      have X2 := Lib.hid x2
      have hlx := blk_lt X1.out
      clear x2 c0
      go_wp2_with fail
      refine (pDeleteFunc 71 Try.call71 #[.pointer (some ⟨w.heap.size, 0, none⟩)] (notOf ion) A2 c2 l w2 hl w1.heap.size s2 hown (fun a _ W hW => onlyFn ion a W w.heap.size (blk_below X2.out hW hlx))).mono ?_
      rintro e w3 ⟨v3, rfl, hown3, hb3⟩
      go_wp2
      go_ret2
      exact ⟨_, ret_vi HE.out.symm, by rw [HU.out]; exact own_base hown3 S1, B1.trans ((hb2.trans hb3).mono S1)⟩
    · rw [Bool.not_eq_true] at hi
      have HE := Lib.hid (show onlyErr n l ion = 4 by rw [onlyErr, if_neg (by simpa using h), if_neg (by rw [hi]; decide)])
      have HU := Lib.hid (show onlyL n l ion = [] by rw [onlyL, HE.out]; rfl)
      clear h h4
      go_enter Try.func34, Try.ntmps34
      go_wp2_with fail
      refine H.out.mono ?_
      rw [HL.out]
      rintro e w1 ⟨rfl, hb⟩
      have x1 := blk_below HX.out hb (by simp)
      have B1 := hB0.trans (hb.mono (by simp))
      have c0 : w1.cell? ⟨w.heap.size, 0, none⟩ = some (.int .i64 ion) := blk_cell x1 0
      have X1 := Lib.hid x1
      clear x1
      go_wp2_with (go_at_call 58; refine (pwithin _ _ _ _).mono ?_; rintro e w' ⟨rfl, rfl⟩)
      go_ret2
      exact ⟨_, ret_vi HE.out.symm, by rw [HU.out]; exact World.ownsRow_nil _ _ _ _, B1⟩
  · have hd : (validate n l == 0) = false := by simpa using h
    have hd' : (validate n l != 0) = true := by simpa using h
    have HE := Lib.hid (show onlyErr n l ion = validate n l by rw [onlyErr, if_pos h])
    have HU := Lib.hid (show onlyL n l ion = [] by rw [onlyL, HE.out, if_neg h])
    clear h
    go_enter Try.func34, Try.ntmps34
    go_wp2_with fail
    refine H.out.mono ?_
    rintro e w1 ⟨rfl, hb⟩
    go_wp2
    go_ret2
    exact ⟨_, ret_vi HE.out.symm, by rw [HU.out]; exact World.ownsRow_nil _ _ _ _, hB0.trans (hb.mono (by simp))⟩

set_option maxRecDepth 100000 in
set_option maxHeartbeats 1000000 in
theorem rUncool (n : Int) (A : Option Addr) (k c : Nat) (l : List HAct) (w : World) (hl : l.length ≤ 1000) (B : Nat) (hB : B ≤ w.heap.size) (hr : Rd w B 3 A k (actCells l)) :
    Calls Try.prog 33 #[.int .i64 n, .slice A k c] w fun e w' => ∃ v, e = .returned (.tuple #[v, .int .i64 (validate n l)]) ∧ w'.ownsRow w.heap.size 48 3 v (uncoolL n l).length (actCells (uncoolL n l)) ∧ Below w.heap.size w w' := by
  obtain rfl := hr.act_len
  have H := Lib.hid (rValidate n A l.length c l w hl B hB hr)
  by_cases h : validate n l = 0
  · have HE := Lib.hid h
    have HU := Lib.hid (show uncoolL n l = keep isCool l by rw [uncoolL, if_pos h])
    clear h
    go_enter Try.func33, Try.ntmps33
    go_wp2_with fail
    refine H.out.mono ?_
    rw [HE.out]
    rintro e w1 ⟨rfl, hb⟩
    go_wp2
    go_loopw [7, 8] (fun v i wr => ∃ q : Nat, q ≤ l.length ∧ i = .int .i64 q ∧ wr.ownsRow w.heap.size 48 3 v (keep isCool (l.take q)).length (actCells (keep isCool (l.take q))) ∧ Below w.heap.size w wr) (fun _ i _ => l.length - (intOf i).toNat)
    case atStart => exact ⟨0, Nat.zero_le _, rfl, World.ownsRow_nil _ _ _ _, hb⟩
    case round =>
      clear hb
      obtain ⟨q, hq, rfl, hown, hb⟩ := hrel
      have hsz := hb.size
      by_cases hlt : q < l.length
      · obtain ⟨b', off', rfl, _, k0, k1, k2⟩ := (hr.below' hb hB).act hlt
        have hkl := keep_len isCool (l.take q)
        have hkq : (l.take q).length = q := by rw [List.length_take]; omega
        have hkl2 : (keep isCool (l.take q)).length ≤ q := by omega
        have HT : isCool l[q] = false → Hid (keep isCool (l.take (q + 1)) = keep isCool (l.take q) ++ [l[q]]) := fun e => keep_take isCool l q hlt e
        have HD : isCool l[q] = true → Hid (keep isCool (l.take (q + 1)) = keep isCool (l.take q)) := fun e => keep_drop isCool l q hlt e
        have HTH := Lib.hid HT
        have HDH := Lib.hid HD
        have HOW := Lib.hid hown
        clear HT HD hkl hkq
        generalize l[q] = x at *
        obtain ⟨xk, xi, xh⟩ := x
        dsimp only at *
        by_cases z : xk = 2
        · have d0 : (xk == 2) = true := by simpa using z
          have d1 : (xk != 2) = false := by simpa using z
          have HN := HDH.out (by rw [isCool, d0])
          clear z hown
          go_wp2
          go_roundw
          case rel => exact ⟨q + 1, by omega, by go_num, by rw [HN.out]; exact HOW.out, hb⟩
          case measure => simp [intOf]; omega
        · have d0 : (xk == 2) = false := by simpa using z
          have d1 : (xk != 2) = true := by simpa using z
          have HN := HTH.out (by rw [isCool, d0])
          clear z
          go_wp2_with (at_builtin; go_must (refine app1 rfl (.tmp 27) (.tmp 32) 22 rfl 48 _ 3 24 E22 w.heap.size _ _ _ _ rfl hown _ rfl ?_ ?_ ?_ ?_ ?_ ?_); rfl; rfl; rfl; omega; omega; intro v5 w5 hown5 hgrow5)
          go_roundw
          case rel => exact ⟨q + 1, by omega, by go_num, by rw [HN.out, actCells_snoc, List.length_append]; exact hown5, below_own hb hsz HOW.out (Nat.le_refl _) hgrow5⟩
          case measure => simp [intOf]; omega
      · obtain rfl : q = l.length := by omega
        rw [List.take_length] at hown
        go_wp2
        go_ret2
        exact ⟨_, ret_vi HE.out.symm, by rw [HU.out]; exact hown, hb⟩
  · have hd : (validate n l == 0) = false := by simpa using h
    have hd' : (validate n l != 0) = true := by simpa using h
    have HSL := Lib.hid (show uncoolL n l = [] by rw [uncoolL, if_neg h])
    clear h
    go_enter Try.func33, Try.ntmps33
    go_wp2_with fail
    refine H.out.mono ?_
    rintro e w1 ⟨rfl, hb⟩
    go_wp2
    go_ret2
    exact ⟨_, rfl, by rw [HSL.out]; exact World.ownsRow_nil _ _ _ _, hb⟩

set_option maxRecDepth 100000 in
set_option maxHeartbeats 1000000 in
theorem rOnly (n : Int) (A : Option Addr) (k c : Nat) (ion : Int) (l : List HAct) (w : World) (hl : l.length ≤ 1000) (B : Nat) (hB : B ≤ w.heap.size) (hr : Rd w B 3 A k (actCells l)) :
    Calls Try.prog 35 #[.int .i64 n, .slice A k c, .int .i64 ion] w fun e w' => ∃ v, e = .returned (.tuple #[v, .int .i64 (onlyErr n l ion)]) ∧ w'.ownsRow w.heap.size 48 3 v (onlyL n l ion).length (actCells (onlyL n l ion)) ∧ Below w.heap.size w w' := by
  obtain rfl := hr.act_len
  have H := Lib.hid (rValidate n A l.length c l w hl B hB hr)
  by_cases h : validate n l = 0
  · obtain ⟨h1, h2, h3, h4⟩ := validate_ok h
    have HL := Lib.hid h
    by_cases hi : (decide (0 ≤ ion) && decide (ion ≤ n - 1)) = true
    · have HE := Lib.hid (show onlyErr n l ion = 0 by rw [onlyErr, if_neg (by simpa using h), if_pos hi])
      have HU := Lib.hid (show onlyL n l ion = keep (notOf ion) l by rw [onlyL, if_pos HE.out])
      clear h h4
      go_enter Try.func35, Try.ntmps35
      go_wp2_with fail
      refine H.out.mono ?_
      rw [HL.out]
      rintro e w1 ⟨rfl, hb⟩
      go_wp2_with (go_at_call 63; refine (rwithin _ _ _ _).mono ?_; rintro e w' ⟨rfl, rfl⟩)
      go_loopw [9, 10] (fun v i wr => ∃ q : Nat, q ≤ l.length ∧ i = .int .i64 q ∧ wr.ownsRow w.heap.size 48 3 v (keep (notOf ion) (l.take q)).length (actCells (keep (notOf ion) (l.take q))) ∧ Below w.heap.size w wr) (fun _ i _ => l.length - (intOf i).toNat)
      case atStart => exact ⟨0, Nat.zero_le _, rfl, World.ownsRow_nil _ _ _ _, hb⟩
      case round =>
        clear hb
        obtain ⟨q, hq, rfl, hown, hb⟩ := hrel
        have hsz := hb.size
        by_cases hlt : q < l.length
        · obtain ⟨b', off', rfl, _, k0, k1, k2⟩ := (hr.below' hb hB).act hlt
          have hkl := keep_len (notOf ion) (l.take q)
          have hkq : (l.take q).length = q := by rw [List.length_take]; omega
          have hkl2 : (keep (notOf ion) (l.take q)).length ≤ q := by omega
          have HT : (notOf ion) l[q] = false → Hid (keep (notOf ion) (l.take (q + 1)) = keep (notOf ion) (l.take q) ++ [l[q]]) := fun e => keep_take (notOf ion) l q hlt e
          have HD : (notOf ion) l[q] = true → Hid (keep (notOf ion) (l.take (q + 1)) = keep (notOf ion) (l.take q)) := fun e => keep_drop (notOf ion) l q hlt e
          have HTH := Lib.hid HT
          have HDH := Lib.hid HD
          have HOW := Lib.hid hown
          clear HT HD hkl hkq
          generalize l[q] = x at *
          obtain ⟨xk, xi, xh⟩ := x
          dsimp only at *
          by_cases z : xi ≠ ion
          · have d0 : (xi == ion) = false := by simpa using z
            have d1 : (xi != ion) = true := by simpa using z
            have HN := HDH.out (by rw [notOf, d1])
            clear z hown
            go_wp2
            go_roundw
            case rel => exact ⟨q + 1, by omega, by go_num, by rw [HN.out]; exact HOW.out, hb⟩
            case measure => simp [intOf]; omega
          · have d0 : (xi == ion) = true := by simpa using z
            have d1 : (xi != ion) = false := by simpa using z
            have HN := HTH.out (by rw [notOf, d1])
            clear z
            go_wp2_with (at_builtin; go_must (refine app1 rfl (.tmp 35) (.tmp 40) 22 rfl 48 _ 3 24 E22 w.heap.size _ _ _ _ rfl hown _ rfl ?_ ?_ ?_ ?_ ?_ ?_); rfl; rfl; rfl; omega; omega; intro v5 w5 hown5 hgrow5)
            go_roundw
            case rel => exact ⟨q + 1, by omega, by go_num, by rw [HN.out, actCells_snoc, List.length_append]; exact hown5, below_own hb hsz HOW.out (Nat.le_refl _) hgrow5⟩
            case measure => simp [intOf]; omega
        · obtain rfl : q = l.length := by omega
          rw [List.take_length] at hown
          go_wp2
          go_ret2
          exact ⟨_, ret_vi HE.out.symm, by rw [HU.out]; exact hown, hb⟩
    · rw [Bool.not_eq_true] at hi
      have HE := Lib.hid (show onlyErr n l ion = 4 by rw [onlyErr, if_neg (by simpa using h), if_neg (by rw [hi]; decide)])
      have HU := Lib.hid (show onlyL n l ion = [] by rw [onlyL, HE.out]; rfl)
      clear h h4
      go_enter Try.func35, Try.ntmps35
      go_wp2_with fail
      refine H.out.mono ?_
      rw [HL.out]
      rintro e w1 ⟨rfl, hb⟩
      go_wp2_with (go_at_call 63; refine (rwithin _ _ _ _).mono ?_; rintro e w' ⟨rfl, rfl⟩)
      go_ret2
      exact ⟨_, ret_vi HE.out.symm, by rw [HU.out]; exact World.ownsRow_nil _ _ _ _, hb⟩
  · have hd : (validate n l == 0) = false := by simpa using h
    have hd' : (validate n l != 0) = true := by simpa using h
    have HE := Lib.hid (show onlyErr n l ion = validate n l by rw [onlyErr, if_pos h])
    have HU := Lib.hid (show onlyL n l ion = [] by rw [onlyL, HE.out, if_neg h])
    clear h
    go_enter Try.func35, Try.ntmps35
    go_wp2_with fail
    refine H.out.mono ?_
    rintro e w1 ⟨rfl, hb⟩
    go_wp2
    go_ret2
    exact ⟨_, ret_vi HE.out.symm, by rw [HU.out]; exact World.ownsRow_nil _ _ _ _, hb⟩
end Go.Proofs.Ytkeolmipdoeljaa

