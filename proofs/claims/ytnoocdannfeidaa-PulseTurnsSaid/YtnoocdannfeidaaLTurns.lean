/-
  THE WALK of the law PulseTurns.
-/
import Derived.Test.YtnoocdannfeidaaOpen
import Derived.Test.YtnoocdannfeidaaW15
namespace Go.Proofs.Ytnoocdannfeidaa
open Go.RowKit Pulse

set_option maxHeartbeats 2000000 in
theorem lawTurns (x y : Int) (q : Int) (w : World) (hx : I64 x) (hy : I64 y) (hq : I64 q) :
    Calls Try.prog 4 #[.agg #[.int .i64 x, .int .i64 y], .int .i64 q] w fun e w' => e = .returned (.bool true) ∧ Below w.heap.size w w' := by
  have hnw := blk_new w 29 #[.int .i64 x, .int .i64 y]
  have HB1 := Lib.hid ((Below.refl w.heap.size w).alloc (Nat.le_refl _) (.cells #[.int .i64 x, .int .i64 y] 29))
  have n1 : (w.alloc (.cells #[.int .i64 x, .int .i64 y] 29)).cell? ⟨w.heap.size, 0, none⟩ = some (.int .i64 x) := blk_cell hnw 0
  have n2 : (w.alloc (.cells #[.int .i64 x, .int .i64 y] 29)).cell? ⟨w.heap.size, 1, none⟩ = some (.int .i64 y) := blk_cell hnw 1
  have HNW := Lib.hid hnw
  clear hnw
  cases hix : (decide (-1000000 ≤ x) && decide (x ≤ 1000000)) with
  | false =>
    have HI := Lib.hid hix
    clear hix
    go_enter Try.func4, Try.ntmps4
    go_wp2_with fail
    refine (rwithin x (-1000000) 1000000 _).mono ?_
    rw [HI.out]
    rintro e w1 ⟨rfl, rfl⟩
    go_wp2_with fail
    refine (known _).mono ?_
    rintro e w2 ⟨rfl, hb2⟩
    go_wp2
    go_ret
    exact ⟨rfl, HB1.out.trans (hb2.mono (by simp))⟩
  | true =>
    cases hiy : (decide (-1000000 ≤ y) && decide (y ≤ 1000000)) with
    | false =>
      have HI := Lib.hid hix
      have HJ := Lib.hid hiy
      clear hix hiy
      go_enter Try.func4, Try.ntmps4
      go_wp2_with fail
      refine (rwithin x (-1000000) 1000000 _).mono ?_
      rw [HI.out]
      rintro e w1 ⟨rfl, rfl⟩
      go_wp2_with fail
      refine (rwithin y (-1000000) 1000000 _).mono ?_
      rw [HJ.out]
      rintro e w1 ⟨rfl, rfl⟩
      go_wp2_with fail
      refine (known _).mono ?_
      rintro e w2 ⟨rfl, hb2⟩
      go_wp2
      go_ret
      exact ⟨rfl, HB1.out.trans (hb2.mono (by simp))⟩
    | true =>
      have hv : Wi 1000000 ⟨x, y⟩ := by
        simp only [Bool.and_eq_true, decide_eq_true_eq] at hix hiy
        exact ⟨hix.1, hix.2, hiy.1, hiy.2⟩
      have HI := Lib.hid hix
      have HJ := Lib.hid hiy
      have HV := Lib.hid hv
      obtain ⟨hq1, hq2⟩ := hq
      have HT := Lib.hid (pTurn ⟨x, y⟩ hv q hq1 hq2 (w.alloc (.cells #[.int .i64 x, .int .i64 y] 29)))
      clear hix hiy hv
      obtain ⟨N, hN⟩ : ∃ N, N = (q % 4).toNat := ⟨_, rfl⟩
      rw [← hN] at HT
      have HN := Lib.hid hN
      clear hN
      obtain ⟨r, hr⟩ : ∃ r, r = rotN N ⟨x, y⟩ := ⟨_, rfl⟩
      rw [← hr] at HT
      have HR := Lib.hid hr
      clear hr
      go_enter Try.func4, Try.ntmps4
      go_wp2_with fail
      refine (rwithin x (-1000000) 1000000 _).mono ?_
      rw [HI.out]
      rintro e w1 ⟨rfl, rfl⟩
      go_wp2_with fail
      refine (rwithin y (-1000000) 1000000 _).mono ?_
      rw [HJ.out]
      rintro e w1 ⟨rfl, rfl⟩
      go_wp2_with fail
      refine HT.out.mono ?_
      rintro e w1 ⟨rfl, hb1⟩
      have y1 := blk_below HNW.out hb1 (by simp)
      have s1 := hb1.size
      rw [World.size_alloc] at s1
      have HBB := Lib.hid (HB1.out.trans (hb1.mono (by simp)))
      have c1 : w1.cell? ⟨w.heap.size, 0, none⟩ = some (.int .i64 x) := blk_cell y1 0
      have c2 : w1.cell? ⟨w.heap.size, 1, none⟩ = some (.int .i64 y) := blk_cell y1 1
      have HY1 := Lib.hid y1
      clear hb1 y1 HT n1 n2
      have lt1 : w.heap.size < w1.heap.size := by omega
      have z1 := blk_alloc (blk_alloc HY1.out (.cells #[.int .i64 r.x, .int .i64 r.y] 29)) (.cells #[.int .i64 x, .int .i64 y] 29)
      have z2 := blk_alloc (blk_new w1 29 #[.int .i64 r.x, .int .i64 r.y]) (.cells #[.int .i64 x, .int .i64 y] 29)
      have z3 := blk_new (w1.alloc (.cells #[.int .i64 r.x, .int .i64 r.y] 29)) 29 #[.int .i64 x, .int .i64 y]
      rw [World.size_alloc] at z3
      have HZ := Lib.hid (And.intro z1 (And.intro z2 (And.intro z3 ((HBB.out.alloc HBB.out.size (.cells #[.int .i64 r.x, .int .i64 r.y] 29)).alloc (by simp; omega) (.cells #[.int .i64 x, .int .i64 y] 29)))))
      clear z1 z2 z3
      go_wp2
      go_loopw [7] (fun i wr => ∃ k : Nat, i = .int .i64 k ∧ k ≤ 4 ∧ wr.heap[w.heap.size]? = some (.cells #[.int .i64 x, .int .i64 y] 29 (0, 0)) ∧ wr.heap[w1.heap.size]? = some (.cells #[.int .i64 r.x, .int .i64 r.y] 29 (0, 0)) ∧
        wr.heap[w1.heap.size + 1]? = some (.cells #[.int .i64 (rotN (k * N) ⟨x, y⟩).x, .int .i64 (rotN (k * N) ⟨x, y⟩).y] 29 (0, 0)) ∧ Below w.heap.size w wr) (fun i _ => 4 - (intOf i).toNat)
      case atStart =>
        refine ⟨0, rfl, by omega, HZ.out.1, HZ.out.2.1, ?_, HZ.out.2.2.2⟩
        rw [Nat.zero_mul]; exact HZ.out.2.2.1
      case round =>
        clear c1 c2
        obtain ⟨k, rfl, hk, h1, h2, h3, hb⟩ := hrel
        by_cases hlt : k < 4
        · have hku : Wi 1000000 (rotN (k * N) ⟨x, y⟩) := HV.out.rotN _
          have HRK := Lib.hid (show rotN N (rotN (k * N) ⟨x, y⟩) = rotN ((k + 1) * N) ⟨x, y⟩ by rw [← rotN_add, Nat.add_mul, Nat.one_mul, Nat.add_comm])
          obtain ⟨u, hu⟩ : ∃ u, u = rotN (k * N) ⟨x, y⟩ := ⟨_, rfl⟩
          rw [← hu] at hku HRK h3
          clear hu
          have HTK := Lib.hid (pTurn u hku q hq1 hq2 wr)
          rw [← HN.out] at HTK
          obtain ⟨u', hu'⟩ : ∃ u', u' = rotN N u := ⟨_, rfl⟩
          rw [← hu'] at HTK HRK
          clear hu'
          have c3 : wr.cell? ⟨w1.heap.size + 1, 0, none⟩ = some (.int .i64 u.x) := blk_cell h3 0
          have c4 : wr.cell? ⟨w1.heap.size + 1, 1, none⟩ = some (.int .i64 u.y) := blk_cell h3 1
          have L3 := blk_lt h3
          have HH := Lib.hid (And.intro h1 (And.intro h2 (And.intro h3 hb)))
          clear h1 h2 h3 hb
          go_wp2_with fail
          refine HTK.out.mono ?_
          rintro e w2 ⟨rfl, hb2⟩
          obtain ⟨h1, h2, h3, hb⟩ := HH.out
          have g1 := blk_below h1 hb2 (by omega)
          have g2 := blk_below h2 hb2 (by omega)
          have g3 := blk_below h3 hb2 (by omega)
          have d3 : w2.cell? ⟨w1.heap.size + 1, 0, none⟩ = some (.int .i64 u.x) := blk_cell g3 0
          have d4 : w2.cell? ⟨w1.heap.size + 1, 1, none⟩ = some (.int .i64 u.y) := blk_cell g3 1
          have f3 := blk_frozen g3 0
          have f4 := blk_frozen g3 1
          have v1 := blk_far (blk_far g1 (p := ⟨w1.heap.size + 1, 0, none⟩) (by simp only []; omega) (.int .i64 u'.x)) (p := ⟨w1.heap.size + 1, 1, none⟩) (by simp only []; omega) (.int .i64 u'.y)
          have v2 := blk_far (blk_far g2 (p := ⟨w1.heap.size + 1, 0, none⟩) (by simp) (.int .i64 u'.x)) (p := ⟨w1.heap.size + 1, 1, none⟩) (by simp) (.int .i64 u'.y)
          have v3 := blk_set (blk_set g3 0 (.int .i64 u'.x)) 1 (.int .i64 u'.y)
          have v4 := ((hb.trans (hb2.mono hb.size)).setCell (p := ⟨w1.heap.size + 1, 0, none⟩) (by simp only []; omega) (.int .i64 u'.x)).setCell (p := ⟨w1.heap.size + 1, 1, none⟩) (by simp only []; omega) (.int .i64 u'.y)
          have HV4 := Lib.hid (And.intro v1 (And.intro v2 (And.intro v3 v4)))
          clear h1 h2 h3 hb g1 g2 g3 v1 v2 v3 v4 hb2 c3 c4
          go_wp2
          go_roundw
          case rel => exact ⟨k + 1, by go_num, by omega, HV4.out.1, HV4.out.2.1, by rw [← HRK.out]; exact HV4.out.2.2.1, HV4.out.2.2.2⟩
          case measure => simp [intOf]; omega
        · obtain rfl : k = 4 := by omega
          rw [show rotN (4 * N) ⟨x, y⟩ = (⟨x, y⟩ : V) by rw [rotN_mod4, show 4 * N % 4 = 0 by omega]; rfl] at h3
          have c1 : wr.cell? ⟨w.heap.size, 0, none⟩ = some (.int .i64 x) := blk_cell h1 0
          have c2 : wr.cell? ⟨w.heap.size, 1, none⟩ = some (.int .i64 y) := blk_cell h1 1
          have c3 : wr.cell? ⟨w1.heap.size, 0, none⟩ = some (.int .i64 r.x) := blk_cell h2 0
          have c4 : wr.cell? ⟨w1.heap.size, 1, none⟩ = some (.int .i64 r.y) := blk_cell h2 1
          have c5 : wr.cell? ⟨w1.heap.size + 1, 0, none⟩ = some (.int .i64 x) := blk_cell h3 0
          have c6 : wr.cell? ⟨w1.heap.size + 1, 1, none⟩ = some (.int .i64 y) := blk_cell h3 1
          have L1 := blk_lt h1
          have L2 := blk_lt h2
          have L3 := blk_lt h3
          have HB := Lib.hid hb
          have HRT := Lib.hid (fun W => rTurn ⟨x, y⟩ HV.out q W)
          rw [← HN.out, ← HR.out] at HRT
          clear h1 h2 h3 hb
          go_wp2
          have mc := cell_mergeW wr
          have mf := frozen_mergeW wr
          refine wp_region_btail 13 (by kernel_rfl) (by kernel_rfl) ?_
          simp only [List.take_succ_cons, List.take_zero, List.drop_succ_cons, List.drop_zero]
          repeat (go_big_quiet_step (first | (go_at_call 25; refine (HRT.out _).mono ?_; rintro e w3 ⟨rfl, hb3⟩; exact ⟨rfl, in_mergeW hb3⟩) | (go_at_call 18; refine (known _).mono ?_; rintro e w3 ⟨rfl, hb3⟩; exact ⟨rfl, in_mergeW hb3⟩)))
          refine wpQuiet_nil ?_
          rintro w4 ⟨s4, hs4⟩
          have hb3 := below_mergeW wr s4
          rw [← hs4] at hb3
          clear hs4 mc mf
          go_wp2
          go_ret
          exact ⟨rfl, HB.out.trans (hb3.mono HB.out.size)⟩
end Go.Proofs.Ytnoocdannfeidaa
