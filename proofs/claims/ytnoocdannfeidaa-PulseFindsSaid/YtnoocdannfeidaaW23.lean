/-
  WALK: Closed of the reference.
-/
import Derived.Test.YtnoocdannfeidaaW22
namespace Go.Proofs.Ytnoocdannfeidaa
open Go.RowKit Pulse

set_option maxHeartbeats 1000000 in
theorem rClosed (A : Option Addr) (k c : Nat) (p : List Int) (w : World) (hl : p.length ≤ 1000) (B : Nat) (hB : B ≤ w.heap.size) (hr : Rd w B 1 A k (ints p)) :
    Calls Try.prog 46 #[.slice A k c] w fun e w' => ∃ v, e = .returned (.tuple #[v, .int .i64 (vald p)]) ∧ w'.ownsRow w.heap.size 3 1 v (closedN p).length (ints (closedN p)) ∧ Below w.heap.size w w' := by
  obtain rfl := hr.int_len
  have H := Lib.hid (rValidate A p.length c p w hl B hB hr)
  have HC := Lib.hid (show closedN p = if vald p = 0 then clTo p 4 else [] from rfl)
  by_cases h : vald p = 0
  · obtain ⟨h4, h5⟩ := vald_ok h
    have HV := Lib.hid h
    rw [h] at H
    rw [if_pos h] at HC
    have HF := Lib.hid h5
    clear h h5
    go_enter Try.func46, Try.ntmps46
    go_wp2_with fail
    refine H.out.mono ?_
    rintro e w1 ⟨rfl, hb1⟩
    go_wp2
    go_loopw [5, 6] (fun v i wr => ∃ q : Nat, i = .int .i64 q ∧ q ≤ 4 ∧ wr.ownsRow w.heap.size 3 1 v (clTo p q).length (ints (clTo p q)) ∧ Below w.heap.size w wr) (fun _ i _ => 4 - (intOf i).toNat)
    case atStart => exact ⟨0, rfl, Nat.zero_le _, World.ownsRow_nil .., hb1⟩
    case round =>
      clear hb1
      obtain ⟨q, rfl, hq, hown, hb⟩ := hrel
      have hsz := hb.size
      by_cases hlt : q < 4
      · have HSQ := Lib.hid (show clTo p (q + 1) = clTo p q ++ (if away p q then [] else [(q : Int)]) from rfl)
        have hlen := clTo_len p q
        have HE := Lib.hid (rend p (q : Int) h4 HF.out (by omega) (by omega) A c wr B (by omega) (hr.below' hb hB))
        have HAW := Lib.hid (show away p (q : Int) = !(decide ((endL ((q : Int)).toNat p).x = 0) && decide ((endL ((q : Int)).toNat p).y = 0)) from rfl)
        obtain ⟨u, hu⟩ : ∃ u, u = endL ((q : Int)).toNat p := ⟨_, rfl⟩
        rw [← hu] at HE HAW
        clear hu
        have HOW := Lib.hid (And.intro hown hb)
        clear hown hb
        by_cases hx : u.x = 0
        · by_cases hy : u.y = 0
          · have HSR := Lib.hid (show clTo p (q + 1) = clTo p q ++ [(q : Int)] by rw [HSQ.out, HAW.out, hx, hy]; rfl)
            go_wp2_with fail
            refine HE.out.mono ?_
            rintro e w2 ⟨rfl, hb2⟩
            have hown2 := own_below HOW.out.1 hb2
            have B2 := HOW.out.2.trans (hb2.mono hsz)
            have s2 := B2.size
            clear hb2
            have V := Lib.hid (fun (w' : World) => below_own (w' := w') B2 s2 hown2 (Nat.le_refl _))
            clear B2
            go_wp2_with (at_builtin; go_must (refine app1 rfl (.tmp 21) (.tmp 23) 22 rfl 3 _ 1 8 E22 w.heap.size _ _ _ _ rfl hown2 _ rfl ?_ ?_ ?_ ?_ ?_ ?_); rfl; rfl; rfl; omega; omega; intro v3 w3 hown3 hg3)
            go_roundw
            case rel => exact ⟨q + 1, by go_num, by omega, by rw [HSR.out]; simpa using hown3, V.out _ hg3⟩
            case measure => simp [intOf]; omega
          · have HSR := Lib.hid (show clTo p (q + 1) = clTo p q by rw [HSQ.out, HAW.out, decide_eq_false hy, Bool.and_false]; simp)
            go_wp2_with fail
            refine HE.out.mono ?_
            rintro e w2 ⟨rfl, hb2⟩
            have V := Lib.hid (And.intro (own_below HOW.out.1 hb2) (HOW.out.2.trans (hb2.mono hsz)))
            clear hb2
            go_wp2
            go_roundw
            case rel => exact ⟨q + 1, by go_num, by omega, by rw [HSR.out]; exact V.out.1, V.out.2⟩
            case measure => simp [intOf]; omega
        · have HSR := Lib.hid (show clTo p (q + 1) = clTo p q by rw [HSQ.out, HAW.out, decide_eq_false hx, Bool.false_and]; simp)
          go_wp2_with fail
          refine HE.out.mono ?_
          rintro e w2 ⟨rfl, hb2⟩
          have V := Lib.hid (And.intro (own_below HOW.out.1 hb2) (HOW.out.2.trans (hb2.mono hsz)))
          clear hb2
          go_wp2
          go_roundw
          case rel => exact ⟨q + 1, by go_num, by omega, by rw [HSR.out]; exact V.out.1, V.out.2⟩
          case measure => simp [intOf]; omega
      · obtain rfl : q = 4 := by omega
        go_wp2
        go_ret2
        exact ⟨_, ret_two rfl (by rw [HV.out]; rfl), by rw [HC.out]; exact hown, hb⟩
  · have hd : (vald p != 0) = true := by simpa using h
    rw [if_neg h] at HC
    clear h
    go_enter Try.func46, Try.ntmps46
    go_wp2_with fail
    refine H.out.mono ?_
    rintro e w1 ⟨rfl, hb1⟩
    go_wp2
    go_ret2
    exact ⟨_, ret_two rfl rfl, by rw [HC.out]; exact World.ownsRow_nil .., hb1⟩
end Go.Proofs.Ytnoocdannfeidaa
