/-
  WALKS: the field of voltages.
-/
import Derived.Test.YtejjogpgolgdgaaW4
import Derived.Test.YtejjogpgolgdgaaPlain4
import Derived.IntWalk
namespace Go.Proofs.Ytejjogpgolgdgaa
open Go.RowKit Pulse

set_option maxRecDepth 100000 in
set_option maxHeartbeats 2000000 in
theorem pfield (A A' : Option Addr) (k c k' c' : Nat) (g : List (List Int)) (v : List Int) (w : World) (hgl : g.length ≤ 3) (hvl : v.length ≤ 3) (hg : ∀ l ∈ g, l.length = v.length ∧ Forces 9 l) (hv : Forces 3 v) (B : Nat) (hB : B ≤ w.heap.size) (hr : TRd w B A k g) (hr' : Rd w B 1 A' k' (ints v)) :
    Calls Try.prog 63 #[.slice A k c, .slice A' k' c'] w fun e w' => ∃ u, e = .returned u ∧ w'.ownsRow w.heap.size 3 1 u (fieldL g v).length (ints (fieldL g v)) ∧ Below w.heap.size w w' := by
  obtain rfl := hr.len
  obtain rfl := hr'.int_len
  have HG := Lib.hid hg
  have HF := Lib.hid hv
  clear hg hv
  go_enter Try.func63, Try.ntmps63
  go_wp2
  go_loopw [13, 5] (fun i u wr => ∃ q : Nat, i = .int .i64 q ∧ q ≤ g.length ∧ wr.ownsRow w.heap.size 3 1 u q (ints (fieldL (g.take q) v)) ∧ Below w.heap.size w wr) (fun i _ _ => g.length - (intOf i).toNat)
  case atStart => exact ⟨0, rfl, Nat.zero_le _, World.ownsRow_nil .., Below.refl _ _⟩
  case round =>
    obtain ⟨q, rfl, hq, hown, hb⟩ := hrel
    have hsz := hb.size
    by_cases hlt : q < g.length
    · obtain ⟨b, off, A1, c1, rfl, hb1, hc1, _, _, hr1⟩ := (hr.below' hb hB).row hlt
      obtain ⟨hl1, hf1⟩ := HG.out _ (List.getElem_mem hlt)
      have HSU := Lib.hid (fieldL_succ g v hlt)
      obtain ⟨l, hl⟩ : ∃ l, l = g[q] := ⟨_, rfl⟩
      rw [← hl] at hc1 hr1 hl1 hf1 HSU
      clear hl
      have HO := Lib.hid (And.intro hown hb)
      have HL := Lib.hid hl1
      have HF1 := Lib.hid hf1
      have z0 : (0 : Int) ≤ (q : Int) := by omega
      have z1 : (q : Int) < (g.length : Int) := by omega
      have hrv := hr'.below' hb hB
      rw [hl1] at hc1 hr1
      have hl3 : l.length ≤ 3 := by omega
      have hdb := fun j => dot_bd3 (l := l.take j) (v := v.take j) (HF1.out.take j) (HF.out.take j) (by rw [List.length_take]; omega)
      have HDB := Lib.hid hdb
      clear hl1 hf1 hdb hown hb
      go_wp2
      go_loop [19, 8] (fun i s => ∃ j : Nat, i = .int .i64 j ∧ j ≤ v.length ∧ s = .int .i64 (dot (l.take j) (v.take j))) (fun i _ => v.length - (intOf i).toNat)
      case atStart => exact ⟨0, rfl, Nat.zero_le _, rfl⟩
      case round =>
        obtain ⟨j, rfl, hj, rfl⟩ := hrel
        by_cases hlt2 : j < v.length
        · have hj1 : j < l.length := by have := HL.out; omega
          obtain ⟨b1, off1, rfl, _, g1⟩ := hr1.int hj1
          obtain ⟨b2, off2, rfl, _, g2⟩ := hrv.int hlt2
          have HT := Lib.hid (dot_take hj1 hlt2)
          have e1 := HDB.out j
          have e2 := HDB.out (j + 1)
          rw [HT.out] at e2
          have e3 := mul_bd (A := 9) (B := 3) (by decide) (HF1.out _ (List.getElem_mem hj1)) (HF.out _ (List.getElem_mem hlt2))
          obtain ⟨x, hx⟩ : ∃ x, x = l[j] := ⟨_, rfl⟩
          obtain ⟨y, hy⟩ : ∃ y, y = v[j] := ⟨_, rfl⟩
          obtain ⟨d, hd⟩ : ∃ d, d = dot (l.take j) (v.take j) := ⟨_, rfl⟩
          have e4 := HF1.out _ (List.getElem_mem hj1)
          have e5 := HF.out _ (List.getElem_mem hlt2)
          rw [← hx] at g1 e2 e3 e4 HT
          rw [← hy] at g2 e2 e3 e5 HT
          rw [← hd] at e1 e2 HT
          rw [← hd]
          clear hx hy hd
          have y0 : (0 : Int) ≤ (j : Int) := by omega
          have y1 : (j : Int) < (v.length : Int) := by omega
          go_wp2
          go_round
          case rel => exact ⟨j + 1, by go_num, by omega, by rw [HT.out]⟩
          case measure => simp [intOf]; omega
        · obtain rfl : j = v.length := by omega
          have HE := Lib.hid (show dot (l.take v.length) (v.take v.length) = dot l v by rw [List.take_length, List.take_of_length_le (by have := HL.out; omega)])
          rw [HE.out]
          obtain ⟨hown, hb⟩ := HO.out
          go_wp2_with (at_builtin; go_must (refine app1 rfl (.tmp 33) (.tmp 35) 23 rfl 3 _ 1 8 E23 w.heap.size _ _ _ _ rfl hown _ rfl ?_ ?_ ?_ ?_ ?_ ?_); rfl; rfl; rfl; omega; omega; intro v3 w3 hown3 hg3)
          have B3 := below_own hb hsz hown (Nat.le_refl _) hg3
          go_roundw
          case rel => exact ⟨q + 1, by go_num, by omega, by rw [HSU.out, ints_snoc]; exact hown3, B3⟩
          case measure => simp [intOf]; omega
    · obtain rfl : q = g.length := by omega
      rw [List.take_length] at hown
      have HO := Lib.hid (And.intro hown hb)
      obtain ⟨A2, c2, rfl, _, _⟩ := own_cap hown
      clear hown hb
      go_wp2
      go_ret
      exact ⟨_, rfl, by rw [fieldL_len]; exact HO.out.1, HO.out.2⟩

set_option maxRecDepth 100000 in
set_option maxHeartbeats 2000000 in
theorem rfield (A A' : Option Addr) (k c k' c' : Nat) (g : List (List Int)) (v : List Int) (w : World) (hgl : g.length ≤ 3) (hvl : v.length ≤ 3) (hg : ∀ l ∈ g, l.length = v.length ∧ Forces 9 l) (hv : Forces 3 v) (B : Nat) (hB : B ≤ w.heap.size) (hr : TRd w B A k g) (hr' : Rd w B 1 A' k' (ints v)) :
    Calls Try.prog 65 #[.slice A k c, .slice A' k' c'] w fun e w' => ∃ u, e = .returned u ∧ w'.ownsRow w.heap.size 3 1 u (fieldL g v).length (ints (fieldL g v)) ∧ Below w.heap.size w w' := by
  obtain rfl := hr.len
  obtain rfl := hr'.int_len
  have HG := Lib.hid hg
  have HF := Lib.hid hv
  clear hg hv
  go_enter Try.func65, Try.ntmps65
  go_wp2
  go_loopw [6, 5] (fun i u wr => ∃ q : Nat, i = .int .i64 q ∧ q ≤ g.length ∧ wr.ownsRow w.heap.size 3 1 u q (ints (fieldL (g.take q) v)) ∧ Below w.heap.size w wr) (fun i _ _ => g.length - (intOf i).toNat)
  case atStart => exact ⟨0, rfl, Nat.zero_le _, World.ownsRow_nil .., Below.refl _ _⟩
  case round =>
    obtain ⟨q, rfl, hq, hown, hb⟩ := hrel
    have hsz := hb.size
    by_cases hlt : q < g.length
    · obtain ⟨b, off, A1, c1, rfl, hb1, hc1, _, _, hr1⟩ := (hr.below' hb hB).row hlt
      obtain ⟨hl1, hf1⟩ := HG.out _ (List.getElem_mem hlt)
      have HSU := Lib.hid (fieldL_succ g v hlt)
      obtain ⟨l, hl⟩ : ∃ l, l = g[q] := ⟨_, rfl⟩
      rw [← hl] at hc1 hr1 hl1 hf1 HSU
      clear hl
      have HO := Lib.hid (And.intro hown hb)
      have HL := Lib.hid hl1
      have HF1 := Lib.hid hf1
      have z0 : (0 : Int) ≤ (q : Int) := by omega
      have z1 : (q : Int) < (g.length : Int) := by omega
      have hrv := hr'.below' hb hB
      rw [hl1] at hc1 hr1
      have hl3 : l.length ≤ 3 := by omega
      have hdb := fun j => dot_bd3 (l := l.take j) (v := v.take j) (HF1.out.take j) (HF.out.take j) (by rw [List.length_take]; omega)
      have HDB := Lib.hid hdb
      clear hl1 hf1 hdb hown hb
      go_wp2
      go_loopw [8, 7] (fun i s wx => ∃ j m : Nat, i = .int .i64 j ∧ j ≤ v.length ∧ s = .int .i64 (dot (l.take j) (v.take j)) ∧ wx = wr.drewN m) (fun i _ _ => v.length - (intOf i).toNat)
      case atStart => exact ⟨0, 0, rfl, Nat.zero_le _, rfl, rfl⟩
      case round =>
        obtain ⟨j, m, rfl, hj, rfl, rfl⟩ := hrel
        by_cases hlt2 : j < v.length
        · have hj1 : j < l.length := by have := HL.out; omega
          have hj2 : j < v.length := hlt2
          obtain ⟨b1, off1, rfl, _, g1⟩ := hr1.int hj1
          obtain ⟨b2, off2, rfl, _, g2⟩ := hrv.int hlt2
          have HT := Lib.hid (dot_take hj1 hlt2)
          have e1 := HDB.out j
          have e2 := HDB.out (j + 1)
          rw [HT.out] at e2
          have e3 := mul_bd (A := 9) (B := 3) (by decide) (HF1.out _ (List.getElem_mem hj1)) (HF.out _ (List.getElem_mem hlt2))
          obtain ⟨x, hx⟩ : ∃ x, x = l[j] := ⟨_, rfl⟩
          obtain ⟨y, hy⟩ : ∃ y, y = v[j] := ⟨_, rfl⟩
          obtain ⟨d, hd⟩ : ∃ d, d = dot (l.take j) (v.take j) := ⟨_, rfl⟩
          have e4 := HF1.out _ (List.getElem_mem hj1)
          have e5 := HF.out _ (List.getElem_mem hlt2)
          rw [← hx] at g1 e2 e3 e4 HT
          rw [← hy] at g2 e2 e3 e5 HT
          rw [← hd] at e1 e2 HT
          rw [← hd]
          clear hx hy hd
          have y0 : (0 : Int) ≤ (j : Int) := by omega
          have y1 : (j : Int) < (v.length : Int) := by omega
          have y2 := IntWalk.i64_in (x * y) (by omega)
          have y3 := IntWalk.i64_in (d + x * y) (by omega)
          go_wp2
          go_quiet (fail)
          clear y2 y3
          go_wp2
          go_roundw
          case rel => exact ⟨j + 1, m + nq, by go_num, by omega, by rw [HT.out], rfl⟩
          case measure => simp [intOf]; omega
        · obtain rfl : j = v.length := by omega
          have HE := Lib.hid (show dot (l.take v.length) (v.take v.length) = dot l v by rw [List.take_length, List.take_of_length_le (by have := HL.out; omega)])
          rw [HE.out]
          obtain ⟨hown0, hb0⟩ := HO.out
          have hb := below_drewN hb0 m
          have hown : (wr.drewN m).ownsRow w.heap.size 3 1 _ q (ints (fieldL (g.take q) v)) := own_keep hown0 (fun g _ => rfl)
          have hsz2 : w.heap.size ≤ (wr.drewN m).heap.size := hb.size
          clear hown0 hb0
          go_wp2_with (at_builtin; go_must (refine app1 rfl (.tmp 35) (.tmp 37) 23 rfl 3 _ 1 8 E23 w.heap.size _ _ _ _ rfl hown _ rfl ?_ ?_ ?_ ?_ ?_ ?_); rfl; rfl; rfl; omega; omega; intro v3 w3 hown3 hg3)
          have B3 := below_own hb hsz2 hown (Nat.le_refl _) hg3
          go_roundw
          case rel => exact ⟨q + 1, by go_num, by omega, by rw [HSU.out, ints_snoc]; exact hown3, B3⟩
          case measure => simp [intOf]; omega
    · obtain rfl : q = g.length := by omega
      rw [List.take_length] at hown
      have HO := Lib.hid (And.intro hown hb)
      obtain ⟨A2, c2, rfl, _, _⟩ := own_cap hown
      clear hown hb
      go_wp2
      go_ret
      exact ⟨_, rfl, by rw [fieldL_len]; exact HO.out.1, HO.out.2⟩
end Go.Proofs.Ytejjogpgolgdgaa
