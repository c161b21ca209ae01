/-
  WALK: the reference's Path, SamePoints.
-/
import Derived.Test.YtnoocdannfeidaaW37
namespace Go.Proofs.Ytnoocdannfeidaa
open Go.RowKit Pulse

theorem pt_take {m : Int} {p : List Int} {q : Nat} : endL m.toNat (p.take q) = pt m p q := rfl

set_option maxRecDepth 100000 in
set_option maxHeartbeats 2000000 in
theorem rPath (A : Option Addr) (k c : Nat) (p : List Int) (m : Int) (w : World) (hl : p.length ≤ 1000) (hkc : k ≤ c) (hcm : c ≤ maxLen) (B : Nat) (hB : B ≤ w.heap.size) (hr : Rd w B 1 A k (ints p)) :
    Calls Try.prog 31 #[.slice A k c, .int .i64 m] w fun e w' => ∃ v, e = .returned (.tuple #[v, .int .i64 (moded p m)]) ∧ w'.ownsRow w.heap.size 29 2 v (pathN p m).length (ptCells (pathN p m)) ∧ Below w.heap.size w w' := by
  obtain rfl := hr.int_len
  have H := Lib.hid (rmoded A p.length c p m w hl B hB hr)
  have HC := Lib.hid (show pathN p m = if moded p m = 0 then ptsTo m p (p.length + 1) else [] from rfl)
  by_cases h : moded p m = 0
  · obtain ⟨hv0, hm, hm'⟩ := moded_ok h
    obtain ⟨hl12, hF⟩ := vald_ok hv0
    have HV := Lib.hid h
    rw [h] at H
    rw [if_pos h] at HC
    have HFF := Lib.hid hF
    clear h hv0 hF
    go_enter Try.func31, Try.ntmps31
    go_wp2_with fail
    refine H.out.mono ?_
    rintro e w1 ⟨rfl, hb1⟩
    go_wp2
    go_loopw [7, 8] (fun v j wr => ∃ q : Nat, j = .int .i64 q ∧ q ≤ p.length + 1 ∧ wr.ownsRow w.heap.size 29 2 v q (ptCells (ptsTo m p q)) ∧ Below w.heap.size w wr) (fun _ j _ => p.length + 1 - (intOf j).toNat)
    case atStart => exact ⟨0, rfl, Nat.zero_le _, World.ownsRow_nil .., hb1⟩
    case round =>
      clear hb1
      obtain ⟨q, rfl, hq, hown, hb⟩ := hrel
      have hsz := hb.size
      by_cases hlt : q ≤ p.length
      · have HSU := Lib.hid (ptsTo_succ m p q)
        have HE := Lib.hid (rend (p.take q) m (by rw [List.length_take]; omega) (HFF.out.take q) hm hm' A c wr B (by omega) (by
          have := (hr.below' hb hB).front hlt
          rw [List.length_take, Nat.min_eq_left hlt]
          rw [Nat.mul_one] at this
          rw [ints, List.map_take]; exact this))
        rw [pt_take, List.length_take, Nat.min_eq_left hlt] at HE
        obtain ⟨u, hu⟩ : ∃ u, u = pt m p q := ⟨_, rfl⟩
        rw [← hu] at HE HSU
        clear hu
        have HO := Lib.hid (And.intro hown hb)
        have hcq : q ≤ c := by omega
        clear hown hb
        go_wp2_with fail
        refine HE.out.mono ?_
        rintro e w2 ⟨rfl, hb2⟩
        have hown2 := own_below HO.out.1 hb2
        have B2 := HO.out.2.trans (hb2.mono hsz)
        have s2 := B2.size
        clear hb2
        go_wp2_with (at_builtin; go_must (refine app1 rfl (.tmp 21) (.tmp 27) 40 rfl 29 _ 2 16 E40 w.heap.size _ _ _ _ rfl hown2 _ rfl ?_ ?_ ?_ ?_ ?_ ?_); rfl; rfl; rfl; omega; omega; intro v3 w3 hown3 hg3)
        have B3 := below_own B2 s2 hown2 (Nat.le_refl _) hg3
        go_roundw
        case rel => exact ⟨q + 1, by go_num, by omega, by rw [HSU.out, ptCells_snoc]; exact hown3, B3⟩
        case measure => simp [intOf]; omega
      · obtain rfl : q = p.length + 1 := by omega
        have HO := Lib.hid (And.intro hown hb)
        obtain ⟨A2, c2, rfl, _, _⟩ := own_cap hown
        clear hown hb
        go_wp2
        go_ret2
        exact ⟨_, ret_two rfl (by rw [HV.out]; rfl), by rw [HC.out, ptsTo_len]; exact HO.out.1, HO.out.2⟩
  · have hd : (moded p m != 0) = true := by simpa using h
    rw [if_neg h] at HC
    clear h
    go_enter Try.func31, Try.ntmps31
    go_wp2_with fail
    refine H.out.mono ?_
    rintro e w1 ⟨rfl, hb1⟩
    go_wp2
    go_ret2
    exact ⟨_, ret_two rfl rfl, by rw [HC.out]; exact World.ownsRow_nil .., hb1⟩

theorem rd_pt {w : World} {B n : Nat} {A : Option Addr} {l : List V} (h : Rd w B 2 A n (ptCells l)) {q : Nat} (hq : q < l.length) :
    ∃ b off, A = some ⟨b, off, none⟩ ∧ b < B ∧ w.cell? ⟨b, off + q * 2, none⟩ = some (.int .i64 l[q].x) ∧ w.cell? ⟨b, off + q * 2 + 1, none⟩ = some (.int .i64 l[q].y) := by
  have hn : n = l.length := by have := h.1; rw [ptCells_length] at this; omega
  obtain ⟨b, off, e, hb, hc⟩ := h.2 (by omega)
  refine ⟨b, off, e, hb, ?_, ?_⟩
  · have := pts_get l q 0 hq (by omega)
    exact hc (q * 2) _ (by rw [Nat.add_zero] at this; rw [this]; rfl)
  · have := pts_get l q 1 hq (by omega)
    have := hc (q * 2 + 1) _ (by rw [this]; rfl)
    rw [← Nat.add_assoc] at this
    exact this
set_option maxRecDepth 100000 in
set_option maxHeartbeats 2000000 in
theorem rSamePoints (A A' : Option Addr) (k c c' : Nat) (l : List V) (w : World) (hl : k ≤ 1000) (B : Nat) (hB : B ≤ w.heap.size) (hr : Rd w B 2 A k (ptCells l)) (hr' : Rd w B 2 A' k (ptCells l)) :
    Calls Try.prog 36 #[.slice A k c, .slice A' k c'] w fun e w' => e = .returned (.bool true) ∧ Below w.heap.size w w' := by
  have hn : k = l.length := by have := hr.1; rw [ptCells_length] at this; omega
  have HN := Lib.hid hn
  clear hn
  go_enter Try.func36, Try.ntmps36
  go_wp2
  go_loopw [5] (fun i wr => ∃ q : Nat, q ≤ k ∧ i = .int .i64 q ∧ Below w.heap.size w wr) (fun i _ => k - (intOf i).toNat)
  case atStart => exact ⟨0, Nat.zero_le _, rfl, Below.refl _ _⟩
  case round =>
    obtain ⟨q, hq, rfl, hb⟩ := hrel
    by_cases hlt : q < k
    · have hlq : q < l.length := by have := HN.out; omega
      obtain ⟨b, off, rfl, _, h0, h1⟩ := rd_pt (hr.below' hb hB) hlq
      obtain ⟨b', off', rfl, _, h0', h1'⟩ := rd_pt (hr'.below' hb hB) hlq
      generalize l[q] = u at *
      have z0 : (0 : Int) ≤ (q : Int) := Int.natCast_nonneg _
      have z1 : (q : Int) < (k : Int) := by omega
      go_wp2
      go_quiet (fail)
      go_wp2
      go_roundw
      case rel => exact ⟨q + 1, by omega, by go_num, below_drewN hb nq⟩
      case measure => simp [intOf]; omega
    · obtain rfl : q = k := by omega
      go_wp2
      go_ret
      exact ⟨rfl, hb⟩
end Go.Proofs.Ytnoocdannfeidaa
