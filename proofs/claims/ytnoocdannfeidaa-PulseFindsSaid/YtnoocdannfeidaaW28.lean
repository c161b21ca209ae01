/-
  WALK: Back of the reference.
-/
import Derived.Test.YtnoocdannfeidaaW27
namespace Go.Proofs.Ytnoocdannfeidaa
open Go.RowKit Pulse

def backL (p : List Int) : List Int := if vald p = 0 then p.reverse else []
theorem drop_back {p : List Int} {j : Nat} (h : j < p.length) : (p.drop j).reverse = (p.drop (j + 1)).reverse ++ [p[j]] := by
  rw [List.drop_eq_getElem_cons h, List.reverse_cons]
set_option maxHeartbeats 1000000 in
theorem rBack (A : Option Addr) (k c : Nat) (p : List Int) (w : World) (hl : p.length ≤ 1000) (B : Nat) (hB : B ≤ w.heap.size) (hr : Rd w B 1 A k (ints p)) :
    Calls Try.prog 44 #[.slice A k c] w fun e w' => ∃ v, e = .returned (.tuple #[v, .int .i64 (vald p)]) ∧ w'.ownsRow w.heap.size 3 1 v (backL p).length (ints (backL p)) ∧ Below w.heap.size w w' := by
  obtain rfl := hr.int_len
  have H := Lib.hid (rValidate A p.length c p w hl B hB hr)
  have HL := Lib.hid (show backL p = if vald p = 0 then p.reverse else [] from rfl)
  by_cases h : vald p = 0
  · have HV := Lib.hid h
    rw [h] at H
    rw [if_pos h] at HL
    clear h
    go_enter Try.func44, Try.ntmps44
    go_wp2_with fail
    refine H.out.mono ?_
    rintro e w1 ⟨rfl, hb1⟩
    go_wp2
    go_loopw [5, 6] (fun v i wr => ∃ j : Nat, i = .int .i64 ((j : Int) - 1) ∧ j ≤ p.length ∧ wr.ownsRow w.heap.size 3 1 v (p.length - j) (ints (p.drop j).reverse) ∧ Below w.heap.size w wr) (fun _ i _ => (intOf i + 1).toNat)
    case atStart => exact ⟨p.length, by go_num, Nat.le_refl _, by rw [Nat.sub_self, List.drop_length]; exact World.ownsRow_nil .., hb1⟩
    case round =>
      clear hb1
      obtain ⟨j, rfl, hj, hown, hb⟩ := hrel
      have hsz := hb.size
      cases j with
      | zero =>
        rw [show ((0 : Nat) : Int) - 1 = -1 by omega]
        rw [Nat.sub_zero, List.drop_zero] at hown
        have HO := Lib.hid hown
        clear hown
        go_wp2
        go_ret2
        exact ⟨_, ret_two rfl (by rw [HV.out]; rfl), by rw [HL.out, List.length_reverse]; exact HO.out, hb⟩
      | succ j =>
        rw [show ((j + 1 : Nat) : Int) - 1 = (j : Int) by omega]
        have hjp : j < p.length := by omega
        obtain ⟨bb, off, rfl, hbb, h0⟩ := (hr.below' hb hB).int hjp
        have HSN := Lib.hid (drop_back hjp)
        generalize p[j] = f at *
        have hn : p.length - (j + 1) ≤ 1000 := by omega
        have HNN := Lib.hid (show p.length - j = p.length - (j + 1) + 1 by omega)
        have V := Lib.hid (fun (w' : World) => below_own (w' := w') hb hsz hown (Nat.le_refl _))
        go_wp2_with (at_builtin; go_must (refine app1 rfl (.tmp 19) (.tmp 24) 22 rfl 3 _ 1 8 E22 w.heap.size _ _ _ _ rfl hown _ rfl ?_ ?_ ?_ ?_ ?_ ?_); rfl; rfl; rfl; omega; omega; intro v3 w3 hown3 hg3)
        go_roundw
        case rel => exact ⟨j, by go_num, by omega, by rw [HNN.out, HSN.out]; simpa using hown3, V.out _ hg3⟩
        case measure => simp [intOf]
  · have hd : (vald p != 0) = true := by simpa using h
    rw [if_neg h] at HL
    clear h
    go_enter Try.func44, Try.ntmps44
    go_wp2_with fail
    refine H.out.mono ?_
    rintro e w1 ⟨rfl, hb1⟩
    go_wp2
    go_ret2
    exact ⟨_, ret_two rfl rfl, by rw [HL.out]; exact World.ownsRow_nil .., hb1⟩
end Go.Proofs.Ytnoocdannfeidaa
