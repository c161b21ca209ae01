/-
  WALKS: SameTables, CopyTable. (Printed by gen_w33.py.)
-/
import Derived.Test.YtejjogpgolgdgaaW32
namespace Go.Proofs.Ytejjogpgolgdgaa
open Go.RowKit Pulse

theorem take_eq_succ {g h : List (List Int)} {q : Nat} (h1 : q < g.length) (h2 : q < h.length) (e : g.take q = h.take q) : g.take (q + 1) = h.take (q + 1) ↔ g[q] = h[q] := by
  rw [take_snoc' g q h1, take_snoc' h q h2, e, List.append_cancel_left_eq, List.cons.injEq]
  simp only [and_true]

set_option maxRecDepth 100000 in
set_option maxHeartbeats 2000000 in
theorem rSameTables (r : Bool) (A A' : Option Addr) (k c k' c' : Nat) (g h : List (List Int)) (hr0 : decide (g = h) = r) (w : World) (hs : Sm g) (hs' : Sm h) (B : Nat) (hB : B ≤ w.heap.size) (hr : TRd w B A k g) (hr' : TRd w B A' k' h) :
    Calls Try.prog 50 #[.slice A k c, .slice A' k' c'] w fun e w' => e = .returned (.bool r) ∧ Below w.heap.size w w' := by
  have hr := hr.more hB
  have hr' := hr'.more hB
  obtain rfl := hr.len
  obtain rfl := hr'.len
  have HD := Lib.hid hr0
  have HS1 := Lib.hid hs.2
  have HS2 := Lib.hid hs'.2
  have hg1 := hs.1
  have hg2 := hs'.1
  clear hr0
  by_cases hl : g.length = h.length
  · have HL := Lib.hid hl
    have d1 : ((g.length : Int) != (h.length : Int)) = false := by simp [hl]
    have z8 : g.length ≤ h.length := by omega
    have z9 : h.length ≤ g.length := by omega
    clear hl
    go_enter Try.func50, Try.ntmps50
    go_wp2
    go_loopw [5] (fun i wr => ∃ q : Nat, i = .int .i64 q ∧ q ≤ g.length ∧ Hid (g.take q = h.take q) ∧ Below w.heap.size w wr) (fun i _ => g.length - (intOf i).toNat)
    case atStart => exact ⟨0, rfl, Nat.zero_le _, by exact rfl, Below.refl _ _⟩
    case round =>
      obtain ⟨q, rfl, hq, he, hb⟩ := hrel
      have hsz := hb.size
      by_cases hlt : q < g.length
      · have hlt2 : q < h.length := by omega
        obtain ⟨b1, o1, A1, c1, rfl, lb1, g1, _, _, r1⟩ := (hr.below' hb (Nat.le_refl _)).row hlt
        obtain ⟨b2, o2, A2, c2, rfl, lb2, g2, _, _, r2⟩ := (hr'.below' hb (Nat.le_refl _)).row hlt2
        have hx1 := HS1.out _ (List.getElem_mem hlt)
        have hx2 := HS2.out _ (List.getElem_mem hlt2)
        have HE := Lib.hid (take_eq_succ hlt hlt2 he.out)
        obtain ⟨x, hx⟩ : ∃ x, x = g[q] := ⟨_, rfl⟩
        obtain ⟨y, hy⟩ : ∃ y, y = h[q] := ⟨_, rfl⟩
        rw [← hx] at g1 r1 hx1 HE
        rw [← hy] at g2 r2 hx2 HE
        have HNE := Lib.hid (show x ≠ y → g ≠ h from fun hn e => hn (by rw [hx, hy]; simp only [e]))
        clear hx hy
        obtain ⟨d, hd⟩ : ∃ d, d = decide (x = y) := ⟨_, rfl⟩
        have HS := Lib.hid (fun s => rSameInts_is d A1 A2 x.length y.length c1 c2 x y hd.symm (mergeW wr s) hx1 hx2 wr.heap.size (below_mergeW wr s).size ((r1.more hsz).below (below_mergeW wr s)) ((r2.more hsz).below (below_mergeW wr s)))
        have HDD := Lib.hid hd
        clear hd r1 r2
        have z0 : (0 : Int) ≤ (q : Int) := by omega
        have z1 : (q : Int) < (g.length : Int) := by omega
        have z2 : (q : Int) < (h.length : Int) := by omega
        have mc := cell_mergeW wr
        have mf := frozen_mergeW wr
        have lb3 : b1 < wr.heap.size := by omega
        have lb4 : b2 < wr.heap.size := by omega
        cases d with
        | true =>
          go_wp2
          refine wp_region_btail 9 (by kernel_rfl) (by kernel_rfl) ?_
          simp only [List.take_succ_cons, List.take_zero, List.drop_succ_cons, List.drop_zero]
          repeat (go_big_quiet_step (first | (go_at_call 26; refine (HS.out _).mono ?_; rintro e w4 ⟨rfl, hb4⟩; exact ⟨rfl, in_mergeW hb4⟩)))
          refine wpQuiet_nil ?_
          rintro w4 ⟨s4, hs4⟩
          have hb4 := below_mergeW wr s4
          rw [← hs4] at hb4
          clear hs4 mc mf HS
          have HBK := Lib.hid (hb.trans (hb4.mono hsz))
          clear hb4
          have hxy : x = y := by have := HDD.out; simpa using this
          have HE2 := Lib.hid (HE.out.2 hxy)
          clear hxy
          go_wp2
          go_roundw
          case rel => exact ⟨q + 1, by go_num, by omega, HE2, HBK.out⟩
          case measure => simp [intOf]; omega
        | false =>
          go_wp2
          refine wp_region_btail 9 (by kernel_rfl) (by kernel_rfl) ?_
          simp only [List.take_succ_cons, List.take_zero, List.drop_succ_cons, List.drop_zero]
          repeat (go_big_quiet_step (first | (go_at_call 26; refine (HS.out _).mono ?_; rintro e w4 ⟨rfl, hb4⟩; exact ⟨rfl, in_mergeW hb4⟩)))
          refine wpQuiet_nil ?_
          rintro w4 ⟨s4, hs4⟩
          have hb4 := below_mergeW wr s4
          rw [← hs4] at hb4
          clear hs4 mc mf HS
          have HBK := Lib.hid (hb.trans (hb4.mono hsz))
          clear hb4
          have hxy : g ≠ h := HNE.out (by have := HDD.out; simpa using this)
          have HR := Lib.hid (show r = false by rw [← HD.out]; exact decide_eq_false hxy)
          clear hxy
          go_wp2
          go_ret
          exact ⟨ret_bool HR.out.symm, HBK.out⟩
      · obtain rfl : q = g.length := by omega
        have HR := Lib.hid (show r = true by
          rw [← HD.out, decide_eq_true_eq]
          have := he.out
          rwa [List.take_length, HL.out, List.take_length] at this)
        go_wp2
        go_ret
        exact ⟨ret_bool HR.out.symm, hb⟩
  · have HR := Lib.hid (show r = false by rw [← HD.out]; exact decide_eq_false (fun e => hl (by rw [e])))
    have d1 : ((g.length : Int) != (h.length : Int)) = true := by simp; omega
    clear hl
    go_enter Try.func50, Try.ntmps50
    go_wp2
    go_ret
    exact ⟨ret_bool HR.out.symm, Below.refl _ _⟩

set_option maxRecDepth 100000 in
set_option maxHeartbeats 2000000 in
theorem rCopyTable (A : Option Addr) (k c : Nat) (g : List (List Int)) (w : World) (hs : Sm g) (B : Nat) (hB : B ≤ w.heap.size) (hr : TRd w B A k g) :
    Calls Try.prog 51 #[.slice A k c] w fun e w' => ∃ A2 c2, e = .returned (.slice A2 g.length c2) ∧ TRd w' w'.heap.size A2 g.length g ∧ Below w.heap.size w w' := by
  have hr := hr.more hB
  obtain rfl := hr.len
  have HS1 := Lib.hid hs.2
  have hg1 := hs.1
  clear hs
  go_enter Try.func51, Try.ntmps51
  go_wp2
  go_loopw [4, 3] (fun i u wr => ∃ q : Nat, i = .int .i64 q ∧ q ≤ g.length ∧ OwnS wr w.heap.size u (g.take q) ∧ Below w.heap.size w wr) (fun i _ _ => g.length - (intOf i).toNat)
  case atStart => exact ⟨0, rfl, Nat.zero_le _, OwnS.nil, Below.refl _ _⟩
  case round =>
    obtain ⟨q, rfl, hq, hos, hb⟩ := hrel
    have hsz := hb.size
    by_cases hlt : q < g.length
    · obtain ⟨b1, o1, A1, c1, rfl, lb1, g1, hc1, hc2, r1⟩ := (hr.below' hb (Nat.le_refl _)).row hlt
      have hx1 := HS1.out _ (List.getElem_mem hlt)
      have HT := Lib.hid (take_snoc' g q hlt)
      obtain ⟨l, hl⟩ : ∃ l, l = g[q] := ⟨_, rfl⟩
      rw [← hl] at g1 r1 hx1 HT hc1
      clear hl
      obtain ⟨vs, hown, ht, hsf⟩ := hos
      have hlq : (g.take q).length = q := by simp; omega
      rw [hlq] at hown
      have HLQ := Lib.hid hlq
      clear hlq
      have HOA := Lib.hid (And.intro hown (And.intro ht (And.intro hsf hb)))
      have HRR := Lib.hid ((r1.more hsz).alloc (Nat.le_refl _) (.cells #[] 3))
      have c1x := (World.cell?_alloc_lt wr (.cells #[] 3) ⟨b1, o1 + q, none⟩ (show b1 < wr.heap.size by omega)).trans g1
      have HO := Lib.hid (show (wr.alloc (.cells #[] 3)).ownsRow wr.heap.size 3 1 (.slice (some ⟨wr.heap.size, 0, none⟩) 0 0) 0 [] from own_empty (blk_new wr 3 #[]) (Nat.le_refl _))
      have HB1 := Lib.hid ((Below.refl wr.heap.size wr).alloc (Nat.le_refl _) (.cells #[] 3))
      have z0 : (0 : Int) ≤ (q : Int) := by omega
      have z1 : (q : Int) < (g.length : Int) := by omega
      clear hown ht hsf hb r1 g1
      go_wp2_with (at_builtin; first
        | ((refine app1x rfl (.tmp 11) (.tmp 18) 22 rfl 23 _ 1 24 E22 w.heap.size _ _ _ _ rfl u1 _ rfl ?_ ?_ ?_ ?_ ?_ ?_); rfl; rfl; rfl; omega; omega; intro v7 w7 hown7 hg7 hx7)
        | ((refine appN rfl (.tmp 12) (.tmp 16) 23 rfl 3 _ 1 8 E23 wr.heap.size _ _ _ rfl HO.out wr.heap.size A1 l.length c1 (ints l) rfl HRR.out (ints_one _) (by omega) (by simp) ?_); intro v5 w5 hown5 hg5; rw [Nat.zero_add, List.nil_append] at hown5; have HB5 := Lib.hid (below_own HB1.out (by simp) HO.out (Nat.le_refl _) hg5); have sz5 := HB5.out.size; have u1 := own_below HOA.out.1 HB5.out; obtain ⟨A5, c5, rfl, _, _⟩ := own_cap hown5))
      have HOS := Lib.hid (OwnS.push (by rw [HLQ.out]; exact u1) ((HOA.out.2.1.below HB5.out (Nat.le_refl _)).more sz5) (fun v hv => (HOA.out.2.2.1 v hv).below HB5.out) hown5 hsz (fun g hg => (HOA.out.1.lt g hg).2) hown7 (by rw [HLQ.out]) hg7 hx7)
      have HB7 := Lib.hid (below_own (HOA.out.2.2.2.trans (HB5.out.mono hsz)) (by omega) u1 (Nat.le_refl _) hg7)
      clear hown7 hg7 hx7 hown5 hg5 u1
      go_roundw
      case rel => exact ⟨q + 1, by go_num, by omega, by rw [HT.out]; exact HOS.out, HB7.out⟩
      case measure => simp [intOf]; omega
    · obtain rfl : q = g.length := by omega
      rw [List.take_length] at hos
      obtain ⟨A2, c2, rfl, h2⟩ := hos.cap
      have HO := Lib.hid (And.intro h2 hb)
      clear hos h2 hb
      go_wp2
      go_ret
      exact ⟨A2, c2, rfl, HO.out.1, HO.out.2⟩
end Go.Proofs.Ytejjogpgolgdgaa
