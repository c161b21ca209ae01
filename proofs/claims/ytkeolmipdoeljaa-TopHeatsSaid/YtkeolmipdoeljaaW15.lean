/-
  WALKS: Scale, of the program and of the reference.
-/
import Derived.Test.YtkeolmipdoeljaaMem4
import Derived.Test.YtkeolmipdoeljaaW14
namespace Go.Proofs.Ytkeolmipdoeljaa
open Go.RowKit Heat

def scaled (b : Int) (a : HAct) : HAct := ⟨a.kind, a.ion, a.heat * b⟩
def badBy (b : Int) (a : HAct) : Bool := a.heat != 0 && !(decide (0 ≤ b) && decide (b ≤ 100) && decide (a.heat * b ≤ 100))
def scaleErr (n : Int) (l : List HAct) (b : Int) : Int := if validate n l ≠ 0 then validate n l else if l.any (badBy b) then 1 else 0
def scaleL (n : Int) (l : List HAct) (b : Int) : List HAct := if scaleErr n l b = 0 then l.map (scaled b) else []
def half (b : Int) (l : List HAct) (q : Nat) : List HAct := (l.take q).map (scaled b) ++ l.drop q

theorem half_len (b : Int) (l : List HAct) (q : Nat) (h : q ≤ l.length) : (half b l q).length = l.length := by simp [half]; omega
theorem half_get? (b : Int) (l : List HAct) (q : Nat) (h : q < l.length) : (half b l q)[q]? = some l[q] := by
  unfold half
  have hlen : ((l.take q).map (scaled b)).length = q := by simp; omega
  rw [List.getElem?_append_right (by omega), hlen, Nat.sub_self, List.getElem?_drop, Nat.add_zero, List.getElem?_eq_getElem h]
theorem half_get (b : Int) (l : List HAct) (q : Nat) (h : q < l.length) (h' : q < (half b l q).length) : (half b l q)[q] = l[q] := (List.getElem?_eq_some_iff.1 (half_get? b l q h)).2
theorem half_zero (b : Int) (l : List HAct) : half b l 0 = l := by simp [half]
theorem half_all (b : Int) (l : List HAct) : half b l l.length = l.map (scaled b) := by simp [half]
theorem half_succ (b : Int) (l : List HAct) (q : Nat) (h : q < l.length) : half b l (q + 1) = (half b l q).set q (scaled b l[q]) := by
  unfold half
  have hlen : ((l.take q).map (scaled b)).length = q := by simp; omega
  rw [List.set_append_right _ _ (by omega), hlen, Nat.sub_self, List.drop_eq_getElem_cons h, List.set_cons_zero, take_snoc l q h, List.map_append, List.append_assoc]
  rfl
theorem half_same (b : Int) (l : List HAct) (q : Nat) (h : q < l.length) (e : scaled b l[q] = l[q]) : half b l (q + 1) = half b l q := by
  have h' : q < (half b l q).length := by rw [half_len b l q (by omega)]; exact h
  rw [half_succ b l q h, e, ← half_get b l q h h', List.set_getElem_self]
theorem scaled_zero {b : Int} {a : HAct} (h : a.heat = 0) : scaled b a = a := by
  unfold scaled
  obtain ⟨x, y, z⟩ := a
  dsimp only at h
  subst h
  simp

theorem own_scale {w : World} {base g n c q : Nat} {m : List HAct} (h : w.ownsRow base 48 3 (.slice (some ⟨g, 0, none⟩) n c) n (actCells m)) (hq : q < m.length) (x : Int) :
    (w.setCell ⟨g, q * 3 + 2, none⟩ (.int .i64 x)).ownsRow base 48 3 (.slice (some ⟨g, 0, none⟩) n c) n (actCells (m.set q ⟨m[q].kind, m[q].ion, x⟩)) := by
  rw [← actCells_set_heat m q hq x]
  exact own_set h _
theorem own_frozen {w : World} {base g n c sz : Nat} {e : TypeId} {xs : List Value} (h : w.ownsRow base e sz (.slice (some ⟨g, 0, none⟩) n c) n xs) (i : Nat) : w.frozen? ⟨g, i, none⟩ = false := by
  obtain ⟨h1, h2⟩ := h
  rcases h2 with ⟨h2, _⟩ | ⟨g', cap, cur, hv, hg, hh, _⟩
  · cases h2
  · injection hv with a b d
    injection a with a
    injection a with a
    subst a
    exact blk_frozen hh i

set_option maxRecDepth 100000 in
set_option maxHeartbeats 2000000 in
theorem pScale (n : Int) (A : Option Addr) (k c : Nat) (b : Int) (l : List HAct) (w : World) (hb1 : -9223372036854775808 ≤ b ∧ b ≤ 9223372036854775807) (hl : l.length ≤ 1000) (B : Nat) (hB : B ≤ w.heap.size) (hr : Rd w B 3 A k (actCells l)) :
    Calls Try.prog 29 #[.int .i64 n, .slice A k c, .int .i64 b] w fun e w' => ∃ v, e = .returned (.tuple #[v, .int .i64 (scaleErr n l b)]) ∧ w'.ownsRow w.heap.size 48 3 v (scaleL n l b).length (actCells (scaleL n l b)) ∧ Below w.heap.size w w' := by
  obtain rfl := hr.act_len
  have H := Lib.hid (pValidate n A l.length c l w hl B hB hr)
  by_cases h : validate n l = 0
  · obtain ⟨h1, h2, h3, h4⟩ := validate_ok h
    have HL := Lib.hid h
    have HM := Lib.hid (mild_of h4)
    have HS := Lib.hid (show scaleErr n l b = if l.any (badBy b) then 1 else 0 by rw [scaleErr, if_neg (by simpa using h)])
    clear h h4
    go_enter Try.func29, Try.ntmps29
    go_wp2_with fail
    refine H.out.mono ?_
    rw [HL.out]
    rintro e w1 ⟨rfl, hb⟩
    have s1 := hb.size
    go_wp2_with fail
    refine (pClone A l.length c l w1 hl B (by omega) (hr.below' hb hB)).mono ?_
    rintro e w2 ⟨v, rfl, hown, hb2⟩
    obtain ⟨A2, c2, rfl, _, _⟩ := own_cap hown
    have hown' := own_base hown s1
    have hb3 := hb.trans (hb2.mono s1)
    clear hown hb2 hb
    go_wp2
    go_loopw [22] (fun i wr => ∃ q : Nat, q ≤ l.length ∧ i = .int .i64 q ∧ wr.ownsRow w.heap.size 48 3 (.slice A2 l.length c2) l.length (actCells (half b l q)) ∧ Hid ((l.take q).any (badBy b) = false) ∧ Below w.heap.size w wr) (fun i _ => l.length - (intOf i).toNat)
    case atStart => exact ⟨0, Nat.zero_le _, rfl, by rw [half_zero]; exact hown', rfl, hb3⟩
    case round =>
      clear hown' hb3
      obtain ⟨q, hq, rfl, hown, HA, hb⟩ := hrel
      have hsz := hb.size
      by_cases hlt : q < l.length
      · have hhl := half_len b l q hq
        have hqh : q < (half b l q).length := by omega
        have hge := half_get b l q hlt hqh
        obtain ⟨g, cap, hv, hg1, hg2⟩ := hown.form (by omega)
        simp only [Value.slice.injEq, true_and] at hv
        obtain ⟨rfl, rfl⟩ := hv
        have r0 := acts_get (half b l q) q 0 hqh (by omega)
        have r1 := acts_get (half b l q) q 1 hqh (by omega)
        have r2 := acts_get (half b l q) q 2 hqh (by omega)
        rw [hge] at r0 r1 r2
        have k0 : wr.cell? ⟨g, q * 3, none⟩ = some (.int .i64 l[q].kind) := (hown.cellAt (q * 3) (by omega)).trans r0
        have k1 : wr.cell? ⟨g, q * 3 + 1, none⟩ = some (.int .i64 l[q].ion) := (hown.cellAt (q * 3 + 1) (by omega)).trans r1
        have k2 : wr.cell? ⟨g, q * 3 + 2, none⟩ = some (.int .i64 l[q].heat) := (hown.cellAt (q * 3 + 2) (by omega)).trans r2
        have kf : wr.frozen? ⟨g, q * 3 + 2, none⟩ = false := own_frozen hown _
        have hx := HM.out _ (List.getElem_mem hlt)
        have HT := Lib.hid (any_take (badBy b) l q hlt)
        have HN := Lib.hid (half_succ b l q hlt)
        have HZH := Lib.hid (fun e : l[q].heat = 0 => half_same b l q hlt (scaled_zero e))
        have HOS := Lib.hid (own_scale hown hqh (l[q].heat * b))
        rw [hge] at HOS
        have HO := Lib.hid hown
        have HAN := Lib.hid (fun e : badBy b l[q] = true => show scaleErr n l b = 1 by rw [HS.out, if_pos (List.any_eq_true.2 ⟨_, List.getElem_mem hlt, e⟩)])
        clear hown r0 r1 r2 hge hqh hhl
        generalize l[q] = x at *
        obtain ⟨xk, xi, xh⟩ := x
        dsimp only at *
        by_cases z : xh = 0
        · have HZ := Lib.hid (show (l.take (q + 1)).any (badBy b) = false by rw [HT.out, HA.out, badBy]; simp [z])
          have HZ2 := Lib.hid (HZH.out z)
          have hz : (xh == 0) = true := by simpa using z
          clear z
          go_wp2
          go_roundw
          case rel => exact ⟨q + 1, by omega, by go_num, by rw [HZ2.out]; exact HO.out.alloc _, HZ.out, hb.alloc hsz _⟩
          case measure => simp [intOf]; omega
        · have hz : (xh == 0) = false := by simpa using z
          have hz' : (xh != 0) = true := by simpa using z
          by_cases hby : 0 ≤ b ∧ b ≤ 100
          · have hm1 : 0 ≤ xh * b := Int.mul_nonneg hx.1 hby.1
            have hm2 : xh * b ≤ 10000 := by
              have := Int.mul_le_mul hx.2 hby.2 hby.1 (by omega)
              omega
            have hd : (decide (0 ≤ b) && decide (b ≤ 100)) = true := by simpa using hby
            by_cases hh : xh * b ≤ 100
            · have hd2 : decide (100 < xh * b) = false := by simpa using hh
              have HZ := Lib.hid (show (l.take (q + 1)).any (badBy b) = false by rw [HT.out, HA.out, badBy, decide_eq_true hby.1, decide_eq_true hby.2, decide_eq_true hh]; simp)
              clear z
              go_wp2_with (go_at_call 58; refine (pwithin _ _ _ _).mono ?_; rintro e w' ⟨rfl, rfl⟩)
              go_roundw
              case rel => exact ⟨q + 1, by omega, by go_num, by rw [HN.out]; exact HOS.out.alloc _, HZ.out, (hb.setCell hg1 _).alloc (by simp; omega) _⟩
              case measure => simp [intOf]; omega
            · have hd2 : decide (100 < xh * b) = true := by simpa using hh
              have HE := Lib.hid (HAN.out (by rw [badBy, hz', decide_eq_false hh]; simp))
              have HSL := Lib.hid (show scaleL n l b = [] by rw [scaleL, HE.out]; rfl)
              clear z
              go_wp2_with (go_at_call 58; refine (pwithin _ _ _ _).mono ?_; rintro e w' ⟨rfl, rfl⟩)
              go_ret2
              exact ⟨_, ret_vi HE.out.symm, by rw [HSL.out]; exact World.ownsRow_nil _ _ _ _, hb.alloc hsz _⟩
          · have hd : (decide (0 ≤ b) && decide (b ≤ 100)) = false := by
              rw [Bool.eq_false_iff]
              intro e
              exact hby (by simpa using e)
            have HE := Lib.hid (HAN.out (by rw [badBy, hz', hd]; rfl))
            have HSL := Lib.hid (show scaleL n l b = [] by rw [scaleL, HE.out]; rfl)
            clear z
            go_wp2_with (go_at_call 58; refine (pwithin _ _ _ _).mono ?_; rintro e w' ⟨rfl, rfl⟩)
            all_goals first
              | (go_ret2; exact ⟨_, ret_vi HE.out.symm, by rw [HSL.out]; exact World.ownsRow_nil _ _ _ _, hb.alloc hsz _⟩)
              | (exfalso; omega)
      · obtain rfl : q = l.length := by omega
        have HE := Lib.hid (show scaleErr n l b = 0 by rw [HS.out, if_neg (by have := HA.out; rw [List.take_length] at this; rw [this]; decide)])
        have HSL := Lib.hid (show scaleL n l b = l.map (scaled b) by rw [scaleL, if_pos HE.out])
        go_wp2
        go_ret2
        exact ⟨_, ret_vi HE.out.symm, by rw [HSL.out, ← half_all, half_len b l _ (Nat.le_refl _)]; exact hown, hb⟩
  · have hd : (validate n l == 0) = false := by simpa using h
    have hd' : (validate n l != 0) = true := by simpa using h
    have HE := Lib.hid (show scaleErr n l b = validate n l by rw [scaleErr, if_pos h])
    have HSL := Lib.hid (show scaleL n l b = [] by rw [scaleL, HE.out, if_neg h])
    clear h
    go_enter Try.func29, Try.ntmps29
    go_wp2_with fail
    refine H.out.mono ?_
    rintro e w1 ⟨rfl, hb⟩
    go_wp2
    go_ret2
    exact ⟨_, ret_vi HE.out.symm, by rw [HSL.out]; exact World.ownsRow_nil _ _ _ _, hb⟩
end Go.Proofs.Ytkeolmipdoeljaa
