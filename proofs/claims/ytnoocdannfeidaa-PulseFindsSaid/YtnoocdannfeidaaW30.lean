/-
  WALK: Back of the program.
-/
import Derived.Test.YtnoocdannfeidaaW29
namespace Go.Proofs.Ytnoocdannfeidaa
open Go.RowKit Pulse

set_option maxHeartbeats 1000000 in
theorem pBack (A : Option Addr) (k c : Nat) (p : List Int) (w : World) (hl : p.length ≤ 1000) (B : Nat) (hB : B ≤ w.heap.size) (hr : Rd w B 1 A k (ints p)) :
    Calls Try.prog 43 #[.slice A k c] w fun e w' => ∃ v, e = .returned (.tuple #[v, .int .i64 (vald p)]) ∧ w'.ownsRow w.heap.size 3 1 v (backL p).length (ints (backL p)) ∧ Below w.heap.size w w' := by
  obtain rfl := hr.int_len
  have H := Lib.hid (pValidate A p.length c p w hl B hB hr)
  have HL := Lib.hid (show backL p = if vald p = 0 then p.reverse else [] from rfl)
  by_cases h : vald p = 0
  · have HV := Lib.hid h
    rw [h] at H
    rw [if_pos h] at HL
    clear h
    go_enter Try.func43, Try.ntmps43
    go_wp2_with fail
    refine H.out.mono ?_
    rintro e w1 ⟨rfl, hb1⟩
    have s1 := hb1.size
    go_wp2_with fail
    refine (pClone A p.length c p w1 hl B (by omega) (hr.below' hb1 hB)).mono ?_
    rintro e w2 ⟨v2, rfl, hown2, hb2⟩
    obtain ⟨A2, c2, rfl, _, _⟩ := own_cap hown2
    have B2 := hb1.trans (hb2.mono s1)
    have s2 := B2.size
    have hown2 := own_base hown2 s1
    have HO := Lib.hid hown2
    clear hown2 hb1 hb2
    go_wp2_with fail
    refine (pReverse A2 c2 p w2 hl w.heap.size s2 HO.out).mono ?_
    rintro e w3 ⟨⟨v3, rfl⟩, hown3, hb3⟩
    go_wp2
    go_ret2
    exact ⟨_, ret_two rfl (by rw [HV.out]; rfl), by rw [HL.out, List.length_reverse]; exact hown3, B2.trans hb3⟩
  · have hd : (vald p != 0) = true := by simpa using h
    rw [if_neg h] at HL
    clear h
    go_enter Try.func43, Try.ntmps43
    go_wp2_with fail
    refine H.out.mono ?_
    rintro e w1 ⟨rfl, hb1⟩
    go_wp2
    go_ret2
    exact ⟨_, ret_two rfl rfl, by rw [HL.out]; exact World.ownsRow_nil .., hb1⟩
end Go.Proofs.Ytnoocdannfeidaa
