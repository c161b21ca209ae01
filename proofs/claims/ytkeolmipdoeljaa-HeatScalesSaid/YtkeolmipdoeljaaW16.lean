/-
  WALKS: Scale of the reference.
-/
import Derived.Test.YtkeolmipdoeljaaW15
namespace Go.Proofs.Ytkeolmipdoeljaa
open Go.RowKit Heat

theorem scaled_snoc (b : Int) (l : List HAct) (q : Nat) (h : q < l.length) : actCells ((l.take (q + 1)).map (scaled b)) = actCells ((l.take q).map (scaled b)) ++ [.int .i64 l[q].kind, .int .i64 l[q].ion, .int .i64 (l[q].heat * b)] := by
  rw [take_snoc l q h, List.map_append, List.map_cons, List.map_nil, actCells_snoc]; rfl

set_option maxRecDepth 100000 in
set_option maxHeartbeats 2000000 in
theorem rScale (n : Int) (A : Option Addr) (k c : Nat) (b : Int) (l : List HAct) (w : World) (hb1 : -9223372036854775808 ≤ b ∧ b ≤ 9223372036854775807) (hl : l.length ≤ 1000) (B : Nat) (hB : B ≤ w.heap.size) (hr : Rd w B 3 A k (actCells l)) :
    Calls Try.prog 30 #[.int .i64 n, .slice A k c, .int .i64 b] w fun e w' => ∃ v, e = .returned (.tuple #[v, .int .i64 (scaleErr n l b)]) ∧ w'.ownsRow w.heap.size 48 3 v (scaleL n l b).length (actCells (scaleL n l b)) ∧ Below w.heap.size w w' := by
  obtain rfl := hr.act_len
  have H := Lib.hid (rValidate n A l.length c l w hl B hB hr)
  by_cases h : validate n l = 0
  · obtain ⟨h1, h2, h3, h4⟩ := validate_ok h
    have HL := Lib.hid h
    have HM := Lib.hid (mild_of h4)
    have HS := Lib.hid (show scaleErr n l b = if l.any (badBy b) then 1 else 0 by rw [scaleErr, if_neg (by simpa using h)])
    clear h h4
    go_enter Try.func30, Try.ntmps30
    go_wp2_with fail
    refine H.out.mono ?_
    rw [HL.out]
    rintro e w1 ⟨rfl, hb⟩
    have s1 := hb.size
    go_wp2
    go_loopw [9, 10] (fun v i wr => ∃ q : Nat, q ≤ l.length ∧ i = .int .i64 q ∧ wr.ownsRow w.heap.size 48 3 v q (actCells ((l.take q).map (scaled b))) ∧ Hid ((l.take q).any (badBy b) = false) ∧ Below w.heap.size w wr) (fun _ i _ => l.length - (intOf i).toNat)
    case atStart => exact ⟨0, Nat.zero_le _, rfl, World.ownsRow_nil _ _ _ _, rfl, hb⟩
    case round =>
      clear hb
      obtain ⟨q, hq, rfl, hown, HA, hb⟩ := hrel
      have hsz := hb.size
      by_cases hlt : q < l.length
      · obtain ⟨b', off', rfl, _, k0, k1, k2⟩ := (hr.below' hb hB).act hlt
        have hx := HM.out _ (List.getElem_mem hlt)
        have HT := Lib.hid (any_take (badBy b) l q hlt)
        have HN := Lib.hid (scaled_snoc b l q hlt)
        have hown1 := fun (x y z : Int) => hown.alloc (.cells #[.int .i64 x, .int .i64 y, .int .i64 z] 48)
        have HO := Lib.hid hown
        have HAN := Lib.hid (fun e : badBy b l[q] = true => show scaleErr n l b = 1 by rw [HS.out, if_pos (List.any_eq_true.2 ⟨_, List.getElem_mem hlt, e⟩)])
        clear hown
        generalize l[q] = x at *
        obtain ⟨xk, xi, xh⟩ := x
        dsimp only at *
        by_cases z : xh = 0
        · have HZ := Lib.hid (show (l.take (q + 1)).any (badBy b) = false by rw [HT.out, HA.out, badBy]; simp [z])
          subst z
          have hown2 := hown1 xk xi 0
          have HB2 := Lib.hid (hb.alloc hsz (.cells #[.int .i64 xk, .int .i64 xi, .int .i64 0] 48))
          clear hown1
          go_wp2_with (at_builtin; go_must (refine app1 rfl (.tmp 47) (.tmp 49) 22 rfl 48 _ 3 24 E22 w.heap.size _ _ _ _ rfl hown2 _ rfl ?_ ?_ ?_ ?_ ?_ ?_); simp; rfl; rfl; omega; (simp; omega); intro v5 w5 hown5 hgrow5)
          go_roundw
          case rel => exact ⟨q + 1, by omega, by go_num, by rw [HN.out, Int.zero_mul]; exact hown5, HZ.out, below_own HB2.out (by simp; omega) hown2 (Nat.le_refl _) hgrow5⟩
          case measure => simp [intOf]; omega
        · have hz : decide (0 < xh) = true := by simp; omega
          have hz' : (xh != 0) = true := by simpa using z
          by_cases hby : 0 ≤ b ∧ b ≤ 100
          · have hm1 : 0 ≤ xh * b := Int.mul_nonneg hx.1 hby.1
            have hm2 : xh * b ≤ 10000 := by
              have := Int.mul_le_mul hx.2 hby.2 hby.1 (by omega)
              omega
            have hd : (decide (0 ≤ b) && decide (b ≤ 100)) = true := by simpa using hby
            by_cases hh : xh * b ≤ 100
            · have hd2 : decide (xh * b ≤ 100) = true := by simpa using hh
              have HZ := Lib.hid (show (l.take (q + 1)).any (badBy b) = false by rw [HT.out, HA.out, badBy, decide_eq_true hby.1, decide_eq_true hby.2, decide_eq_true hh]; simp)
              have hown2 := hown1 xk xi (xh * b)
              have HB2 := Lib.hid (hb.alloc hsz (.cells #[.int .i64 xk, .int .i64 xi, .int .i64 (xh * b)] 48))
              clear z hown1
              go_wp2_with (first | (go_at_call 63; refine (rwithin _ _ _ _).mono ?_; rintro e w' ⟨rfl, rfl⟩) | (at_builtin; go_must (refine app1 rfl (.tmp 47) (.tmp 49) 22 rfl 48 _ 3 24 E22 w.heap.size _ _ _ _ rfl hown2 _ rfl ?_ ?_ ?_ ?_ ?_ ?_); simp; rfl; rfl; omega; (simp; omega); intro v5 w5 hown5 hgrow5))
              go_roundw
              case rel => exact ⟨q + 1, by omega, by go_num, by rw [HN.out]; exact hown5, HZ.out, below_own HB2.out (by simp; omega) hown2 (Nat.le_refl _) hgrow5⟩
              case measure => simp [intOf]; omega
            · have hd2 : decide (xh * b ≤ 100) = false := by simpa using hh
              have HE := Lib.hid (HAN.out (by rw [badBy, hz', decide_eq_false hh]; simp))
              have HSL := Lib.hid (show scaleL n l b = [] by rw [scaleL, HE.out]; rfl)
              clear z
              go_wp2_with (go_at_call 63; refine (rwithin _ _ _ _).mono ?_; rintro e w' ⟨rfl, rfl⟩)
              all_goals first
                | (go_ret2; exact ⟨_, ret_vi HE.out.symm, by rw [HSL.out]; exact World.ownsRow_nil _ _ _ _, hb.alloc hsz _⟩)
                | (exfalso; omega)
          · have hd : (decide (0 ≤ b) && decide (b ≤ 100)) = false := by
              rw [Bool.eq_false_iff]
              intro e
              exact hby (by simpa using e)
            have HE := Lib.hid (HAN.out (by rw [badBy, hz', hd]; rfl))
            have HSL := Lib.hid (show scaleL n l b = [] by rw [scaleL, HE.out]; rfl)
            clear z
            go_wp2_with (go_at_call 63; refine (rwithin _ _ _ _).mono ?_; rintro e w' ⟨rfl, rfl⟩)
            all_goals first
              | (go_ret2; exact ⟨_, ret_vi HE.out.symm, by rw [HSL.out]; exact World.ownsRow_nil _ _ _ _, hb.alloc hsz _⟩)
              | (exfalso; omega)
      · obtain rfl : q = l.length := by omega
        have HE := Lib.hid (show scaleErr n l b = 0 by rw [HS.out, if_neg (by have := HA.out; rw [List.take_length] at this; rw [this]; decide)])
        have HSL := Lib.hid (show scaleL n l b = l.map (scaled b) by rw [scaleL, if_pos HE.out])
        go_wp2
        go_ret2
        exact ⟨_, ret_vi HE.out.symm, by rw [HSL.out, List.length_map]; rw [List.take_length] at hown; exact hown, hb⟩
  · have hd : (validate n l == 0) = false := by simpa using h
    have hd' : (validate n l != 0) = true := by simpa using h
    have HE := Lib.hid (show scaleErr n l b = validate n l by rw [scaleErr, if_pos h])
    have HSL := Lib.hid (show scaleL n l b = [] by rw [scaleL, HE.out, if_neg h])
    clear h
    go_enter Try.func30, Try.ntmps30
    go_wp2_with fail
    refine H.out.mono ?_
    rintro e w1 ⟨rfl, hb⟩
    go_wp2
    go_ret2
    exact ⟨_, ret_vi HE.out.symm, by rw [HSL.out]; exact World.ownsRow_nil _ _ _ _, hb⟩
end Go.Proofs.Ytkeolmipdoeljaa
