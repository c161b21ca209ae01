/-
  WALKS: points turned, crosses, sums of points.
-/
import Derived.Test.YtnoocdannfeidaaW1
namespace Go.Proofs.Ytnoocdannfeidaa
open Go.RowKit Pulse

abbrev vV (v : V) : Value := .agg #[.int .i64 v.x, .int .i64 v.y]
theorem ret_vV {a b : V} (h : a = b) : Ending.returned (vV a) = .returned (vV b) := by rw [h]
theorem pleft (v : V) (h : Wi 1000000 v) (w : World) : Calls Try.prog 62 #[vV v] w fun e w' => e = .returned (vV v.rot) ∧ Below w.heap.size w w' := by
  obtain ⟨x, y⟩ := v
  obtain ⟨h1, h2, h3, h4⟩ := h
  dsimp only at h1 h2 h3 h4
  go_enter Try.func62, Try.ntmps62
  go_wp2
  exact bodyPost_ret (v := .agg #[.int .i64 (-y), .int .i64 x]) (by simp [results, Try.results62, go_sem]) rfl ⟨rfl, ((Below.refl _ _).alloc (Nat.le_refl _) _).alloc (by simp) _⟩
theorem pcross (a b : V) (ha : Wi 1000000 a) (hb : Wi 1000000 b) (w : World) : Calls Try.prog 92 #[vV a, vV b] w fun e w' => e = .returned (.int .i64 (cross a b)) ∧ Below w.heap.size w w' := by
  have b1 := mul_bd (a := a.x) (b := b.y) (A := 1000000) (B := 1000000) (by decide) ⟨ha.1, ha.2.1⟩ ⟨hb.2.2.1, hb.2.2.2⟩
  have b2 := mul_bd (a := a.y) (b := b.x) (A := 1000000) (B := 1000000) (by decide) ⟨ha.2.2.1, ha.2.2.2⟩ ⟨hb.1, hb.2.1⟩
  obtain ⟨ax, ay⟩ := a
  obtain ⟨bx, _by⟩ := b
  have hc : cross ⟨ax, ay⟩ ⟨bx, _by⟩ = ax * _by - ay * bx := rfl
  have HC := Lib.hid hc
  clear hc
  dsimp only at b1 b2
  go_enter Try.func92, Try.ntmps92
  go_wp2
  go_ret
  exact ⟨ret_int HC.out.symm, ((Below.refl _ _).alloc (Nat.le_refl _) _).alloc (by simp) _⟩
theorem rcross (a b : V) (ha : Wi 1000000 a) (hb : Wi 1000000 b) (w : World) : Calls Try.prog 94 #[vV a, vV b] w fun e w' => e = .returned (.int .i64 (cross a b)) ∧ Below w.heap.size w w' := by
  have b1 := mul_bd (a := a.x) (b := b.y) (A := 1000000) (B := 1000000) (by decide) ⟨ha.1, ha.2.1⟩ ⟨hb.2.2.1, hb.2.2.2⟩
  have b2 := mul_bd (a := a.y) (b := b.x) (A := 1000000) (B := 1000000) (by decide) ⟨ha.2.2.1, ha.2.2.2⟩ ⟨hb.1, hb.2.1⟩
  obtain ⟨ax, ay⟩ := a
  obtain ⟨bx, _by⟩ := b
  have hc : cross ⟨ax, ay⟩ ⟨bx, _by⟩ = ax * _by - ay * bx := rfl
  have HC := Lib.hid hc
  clear hc
  dsimp only at b1 b2
  go_enter Try.func94, Try.ntmps94
  go_wp2
  go_ret
  exact ⟨ret_int HC.out.symm, ((Below.refl _ _).alloc (Nat.le_refl _) _).alloc (by simp) _⟩
theorem rplus (a b : V) (ha : Wi 1000000 a) (hb : Wi 1000000 b) (w : World) : Calls Try.prog 95 #[vV a, vV b] w fun e w' => e = .returned (vV (a.add b)) ∧ Below w.heap.size w w' := by
  obtain ⟨ax, ay⟩ := a
  obtain ⟨bx, _by⟩ := b
  obtain ⟨h1, h2, h3, h4⟩ := ha
  obtain ⟨k1, k2, k3, k4⟩ := hb
  dsimp only at h1 h2 h3 h4 k1 k2 k3 k4
  go_enter Try.func95, Try.ntmps95
  go_wp2
  exact bodyPost_ret (v := .agg #[.int .i64 (ax + bx), .int .i64 (ay + _by)]) (by simp [results, Try.results95, go_sem]) rfl ⟨rfl, (((Below.refl _ _).alloc (Nat.le_refl _) _).alloc (by simp) _).alloc (by simp; omega) _⟩

theorem tm4 (q : Int) : -3 ≤ q.tmod 4 ∧ q.tmod 4 ≤ 3 ∧ (q.tmod 4 + 4) % 4 = q % 4 := by
  rcases Int.le_total 0 q with h | h
  · rw [Int.tmod_eq_emod_of_nonneg h]; omega
  · have e : q.tmod 4 = -((-q) % 4) := by
      have := Int.neg_tmod (-q) 4
      rw [Int.neg_neg] at this
      rw [this, Int.tmod_eq_emod_of_nonneg (by omega)]
    rw [e]; omega
set_option maxHeartbeats 1000000 in
theorem pTurn (v : V) (h : Wi 1000000 v) (q : Int) (hq : -9223372036854775808 ≤ q) (hq' : q ≤ 9223372036854775807) (w : World) : Calls Try.prog 24 #[vV v, .int .i64 q] w fun e w' => e = .returned (vV (rotN (q % 4).toNat v)) ∧ Below w.heap.size w w' := by
  obtain ⟨t1, t2, t3⟩ := tm4 q
  have HT := Lib.hid t3
  clear t3
  obtain ⟨N, hN⟩ := Int.eq_ofNat_of_zero_le (show 0 ≤ (q.tmod 4 + 4) % 4 by omega)
  have hN4 : N < 4 := by omega
  have HNN := Lib.hid hN
  have HQ := Lib.hid (show (q % 4).toNat = N by have := HT.out; omega)
  have HI := Lib.hid h
  clear hN
  have hb0 := (((Below.refl w.heap.size w).alloc (Nat.le_refl _) (.cells #[.int .i64 v.x, .int .i64 v.y] 29)).alloc (by simp) (.cells #[.int .i64 0, .int .i64 0] 29)).alloc (by simp; omega) (.cells #[.int .i64 v.x, .int .i64 v.y] 63)
  have HB0 := Lib.hid hb0
  have HX := Lib.hid (show (((w.alloc (.cells #[.int .i64 v.x, .int .i64 v.y] 29)).alloc (.cells #[.int .i64 0, .int .i64 0] 29)).alloc (.cells #[.int .i64 v.x, .int .i64 v.y] 63)).heap[w.heap.size + 1]? = some (.cells #[.int .i64 0, .int .i64 0] 29 (0, 0)) by
    have := blk_new (w.alloc (.cells #[.int .i64 v.x, .int .i64 v.y] 29)) 29 #[.int .i64 0, .int .i64 0]
    rw [World.size_alloc] at this
    exact blk_alloc this _)
  have HY := Lib.hid (show (((w.alloc (.cells #[.int .i64 v.x, .int .i64 v.y] 29)).alloc (.cells #[.int .i64 0, .int .i64 0] 29)).alloc (.cells #[.int .i64 v.x, .int .i64 v.y] 63)).heap[w.heap.size + 1 + 1]? = some (.cells #[.int .i64 v.x, .int .i64 v.y] 63 (0, 0)) by
    have := blk_new ((w.alloc (.cells #[.int .i64 v.x, .int .i64 v.y] 29)).alloc (.cells #[.int .i64 0, .int .i64 0] 29)) 63 #[.int .i64 v.x, .int .i64 v.y]
    rw [World.size_alloc, World.size_alloc] at this
    exact this)
  clear hb0
  go_enter Try.func24, Try.ntmps24
  go_wp2
  rw [HNN.out]
  go_loopw [12] (fun i wr => ∃ k : Nat, i = .int .i64 k ∧ k ≤ N ∧ wr.heap[w.heap.size + 1]? = some (.cells #[.int .i64 0, .int .i64 0] 29 (0, 0)) ∧ wr.heap[w.heap.size + 1 + 1]? = some (.cells #[.int .i64 (rotN k v).x, .int .i64 (rotN k v).y] 63 (0, 0)) ∧ Below w.heap.size w wr) (fun i _ => N - (intOf i).toNat)
  case atStart => exact ⟨0, rfl, Nat.zero_le _, HX.out, HY.out, HB0.out⟩
  case round =>
    obtain ⟨k, rfl, hk, hx, hy, hb⟩ := hrel
    have hwi := HI.out.rotN k
    have HR := Lib.hid (show rotN (k + 1) v = (rotN k v).rot from rfl)
    have c0 : wr.cell? ⟨w.heap.size + 1 + 1, 0, none⟩ = some (.int .i64 (rotN k v).x) := blk_cell hy 0
    have c1 : wr.cell? ⟨w.heap.size + 1 + 1, 1, none⟩ = some (.int .i64 (rotN k v).y) := blk_cell hy 1
    have d0 : wr.cell? ⟨w.heap.size + 1, 0, none⟩ = some (.int .i64 0) := blk_cell hx 0
    have d1 : wr.cell? ⟨w.heap.size + 1, 1, none⟩ = some (.int .i64 0) := blk_cell hx 1
    have f0 := blk_frozen hy 0
    have f1 := blk_frozen hy 1
    have e0 := blk_frozen hx 0
    have e1 := blk_frozen hx 1
    have HXX := Lib.hid hx
    have HYY := Lib.hid hy
    clear hx hy
    have sz := blk_lt HYY.out
    by_cases hlt : k < N
    · obtain ⟨u, hu⟩ : ∃ u, u = rotN k v := ⟨_, rfl⟩
      rw [← hu] at hwi HR c0 c1
      rw [← hu] at HYY
      clear hu
      go_wp2_with fail
      refine (pleft u hwi _).mono ?_
      rintro e w2 ⟨rfl, hb2⟩
      have L1 : w.heap.size + 1 < wr.heap.size := blk_lt HXX.out
      have x2 := Lib.hid (blk_below HXX.out hb2 L1)
      have y2 := blk_below HYY.out hb2 sz
      have g0 : w2.cell? ⟨w.heap.size + 1 + 1, 0, none⟩ = some (.int .i64 u.x) := blk_cell y2 0
      have g1 : w2.cell? ⟨w.heap.size + 1 + 1, 1, none⟩ = some (.int .i64 u.y) := blk_cell y2 1
      have k0 := blk_frozen y2 0
      have k1 := blk_frozen y2 1
      have Y2 := Lib.hid y2
      have HB2 := Lib.hid (hb.trans (hb2.mono hb.size))
      clear y2 c0 c1 d0 d1 f0 f1 e0 e1 hb2 hb
      have n1 : ¬ w.heap.size + 1 = w.heap.size + 1 + 1 := by omega
      go_wp2
      go_roundw
      case rel => exact ⟨k + 1, by go_num, by omega, blk_far (blk_far x2.out (p := ⟨w.heap.size + 1 + 1, 0, none⟩) n1 _) (p := ⟨w.heap.size + 1 + 1, 1, none⟩) n1 _, by rw [HR.out]; exact blk_set (blk_set Y2.out 0 _) 1 _, (HB2.out.setCell (p := ⟨w.heap.size + 1 + 1, 0, none⟩) (by dsimp only; omega) _).setCell (p := ⟨w.heap.size + 1 + 1, 1, none⟩) (by dsimp only; omega) _⟩
      case measure => simp [intOf]; omega
    · obtain rfl : k = N := by omega
      have hz := blk_set (blk_set HXX.out 0 (.int .i64 (rotN k v).x)) 1 (.int .i64 (rotN k v).y)
      have r0 : ((wr.setCell ⟨w.heap.size + 1, 0, none⟩ (.int .i64 (rotN k v).x)).setCell ⟨w.heap.size + 1, 1, none⟩ (.int .i64 (rotN k v).y)).cell? ⟨w.heap.size + 1, 0, none⟩ = some (.int .i64 (rotN k v).x) := blk_cell hz 0
      have r1 : ((wr.setCell ⟨w.heap.size + 1, 0, none⟩ (.int .i64 (rotN k v).x)).setCell ⟨w.heap.size + 1, 1, none⟩ (.int .i64 (rotN k v).y)).cell? ⟨w.heap.size + 1, 1, none⟩ = some (.int .i64 (rotN k v).y) := blk_cell hz 1
      clear hz
      go_wp2
      exact bodyPost_ret (v := vV (rotN k v)) (by simp [results, Try.results24, go_sem, r0, r1]) rfl ⟨by rw [HQ.out], (hb.setCell (p := ⟨w.heap.size + 1, 0, none⟩) (by dsimp only; omega) _).setCell (p := ⟨w.heap.size + 1, 1, none⟩) (by dsimp only; omega) _⟩
theorem and3 (q : Int) : Go.bits .and .i64 q 3 = q % 4 := by
  have h2 : (BitVec.ofInt 64 (3 : Int)).toNat = 3 := by decide
  have h1 : ((BitVec.ofInt 64 q).toNat : Int) = q % 18446744073709551616 := by
    rw [BitVec.toNat_ofInt]; omega
  show IntKind.i64.wrap ((BitVec.ofInt 64 q &&& BitVec.ofInt 64 3).toNat : Int) = _
  rw [BitVec.toNat_and, h2]
  have h3 : (BitVec.ofInt 64 q).toNat &&& 3 = (BitVec.ofInt 64 q).toNat % 4 := Nat.and_two_pow_sub_one_eq_mod _ 2
  rw [h3, IntWalk.i64_in _ (by omega)]
  omega
set_option maxHeartbeats 1000000 in
theorem rTurn (v : V) (h : Wi 1000000 v) (q : Int) (w : World) : Calls Try.prog 25 #[vV v, .int .i64 q] w fun e w' => e = .returned (vV (rotN (q % 4).toNat v)) ∧ Below w.heap.size w w' := by
  have ha := and3 q
  obtain ⟨x, y⟩ := v
  obtain ⟨h1, h2, h3, h4⟩ := h
  dsimp only at h1 h2 h3 h4
  rcases (show q % 4 = 0 ∨ q % 4 = 1 ∨ q % 4 = 2 ∨ q % 4 = 3 by omega) with e | e | e | e
  all_goals
    rw [e] at ha ⊢
    have HE := Lib.hid e
    clear e
    go_enter Try.func25, Try.ntmps25
    go_wp2
  · exact bodyPost_ret (v := .agg #[.int .i64 x, .int .i64 y]) (by simp [results, Try.results25, go_sem]) rfl ⟨rfl, ((Below.refl _ _).alloc (Nat.le_refl _) _).alloc (by simp) _⟩
  · exact bodyPost_ret (v := .agg #[.int .i64 (-y), .int .i64 x]) (by simp [results, Try.results25, go_sem]) rfl ⟨rfl, ((Below.refl _ _).alloc (Nat.le_refl _) _).alloc (by simp) _⟩
  · exact bodyPost_ret (v := .agg #[.int .i64 (-x), .int .i64 (-y)]) (by simp [results, Try.results25, go_sem]) rfl ⟨rfl, ((Below.refl _ _).alloc (Nat.le_refl _) _).alloc (by simp) _⟩
  · exact bodyPost_ret (v := .agg #[.int .i64 y, .int .i64 (-x)]) (by simp [results, Try.results25, go_sem]) rfl ⟨by simp [rotN, V.rot], ((Below.refl _ _).alloc (Nat.le_refl _) _).alloc (by simp) _⟩
end Go.Proofs.Ytnoocdannfeidaa
