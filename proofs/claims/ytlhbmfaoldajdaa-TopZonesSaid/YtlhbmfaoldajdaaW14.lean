/-
  WALK: keyOf.
-/
import Derived.Test.YtlhbmfaoldajdaaW13
import Derived.Test.YtlhbmfaoldajdaaP4
import Derived.Laws.CopyOwn
import Derived.Laws.IdiomCopy
namespace Go.Proofs.Ytlhbmfaoldajdaa
open Go.RowKit

/-- A key as a value. -/
def keyV (s : List Int) : Value := .agg (ints (key4 s)).toArray
def fillV (q : Nat) : List Int := List.replicate q (-1) ++ List.replicate (4 - q) 0
theorem fill_set {q : Nat} (h : q < 4) : (ints (fillV q)).toArray.setIfInBounds q (.int .i64 (-1)) = (ints (fillV (q + 1))).toArray := by
  match q, h with
  | 0, _ => rfl
  | 1, _ => rfl
  | 2, _ => rfl
  | 3, _ => rfl
theorem fill_get {q : Nat} (h : q < 4) : (ints (fillV q)).toArray[q]? = some (.int .i64 0) := by
  match q, h with
  | 0, _ => rfl
  | 1, _ => rfl
  | 2, _ => rfl
  | 3, _ => rfl
theorem key4_cells {s : List Int} (h : s.length ≤ 4) : ∃ a b c d, key4 s = [a, b, c, d] := by
  have hl := key4_len h
  match key4 s, hl with
  | [a, b, c, d], _ => exact ⟨a, b, c, d, rfl⟩
set_option maxRecDepth 100000 in
theorem copy_key {w3 : World} {X B c3 k : Nat} {A3 : Option Addr} {s : List Int} (hl : s.length ≤ 4) (hX : w3.heap[X]? = some (.cells (ints (fillV 4)).toArray 61 (0, 0))) (hr : Rd w3 B 1 A3 k (ints s)) :
    ∃ w5, (Builtin.copy_ #[25, 25] 3 #[.slice (some ⟨X, 0, none⟩) 4 4, .slice A3 k c3]).run Try.prog w3 = .ok (.int .i64 s.length) w5 ∧ w5.heap[X]? = some (.cells (ints (key4 s)).toArray 61 (0, 0)) ∧ Below X w3 w5 := by
  obtain rfl := hr.int_len
  rcases Nat.eq_zero_or_pos s.length with h0 | hp
  · have hs : s = [] := List.eq_nil_of_length_eq_zero h0
    subst hs
    refine ⟨w3, ?_, hX, Below.refl _ _⟩
    have := run_copy_none (P := Try.prog) w3 25 25 3 3 (some ⟨X, 0, none⟩) A3 4 4 0 c3 Try.underlying25 (by kernel_rfl) rfl
    simpa [goInt] using this
  · obtain ⟨b, off, rfl, hb, hc⟩ := hr.2 hp
    have h := run_copy_row (P := Try.prog) w3 25 25 3 3 X 0 4 4 ⟨b, off, none⟩ s.length c3 (ints (fillV 4)).toArray 61 (ints s) Try.underlying25 (by kernel_rfl) hX
      (by simp only [List.length_map]; exact (Nat.min_eq_left hl).symm) (fun j v hj => by rw [show ((⟨b, off, none⟩ : Addr).add j) = ⟨b, off + j, none⟩ from by unfold Addr.add; split <;> simp [*]]; exact hc j v hj) (by simp [fillV]; omega) (List.all_eq_true.1 (ints_one s))
    rw [List.length_map] at h
    refine ⟨_, h, ?_, below_setRow (Below.refl X w3) (Nat.le_refl _) _⟩
    have e : (ints (key4 s)).toArray = ((ints (fillV 4)).toArray.toList.take 0 ++ ints s ++ (ints (fillV 4)).toArray.toList.drop (0 + s.length)).toArray := by
      congr 1
      unfold key4
      match s, hl, hp with
      | [a], _, _ => rfl
      | [a, b], _, _ => rfl
      | [a, b, c], _, _ => rfl
      | [a, b, c, d], _, _ => rfl
    rw [e]
    exact setRow_heap w3 X _ _ 61 _ hX

set_option maxRecDepth 100000 in
set_option maxHeartbeats 1000000 in
theorem pkeyOf (A : Option Addr) (k c : Nat) (s : List Int) (w : World) (hl : s.length ≤ 4) (B : Nat) (hB : B ≤ w.heap.size) (hr : Rd w B 1 A k (ints s)) :
    Calls Try.prog 24 #[.slice A k c] w fun e w' => e = .returned (keyV s) ∧ Below w.heap.size w w' := by
  have hr := hr.more hB
  have HB1 := Lib.hid (((Below.refl w.heap.size w).alloc (Nat.le_refl _) (.cells (ints (fillV 0)).toArray 61)).alloc (by simp) (.cells (ints (fillV 0)).toArray 61))
  have HR := Lib.hid (blk_alloc (blk_new w 61 (ints (fillV 0)).toArray) (.cells (ints (fillV 0)).toArray 61))
  have HK := Lib.hid (show ((w.alloc (.cells (ints (fillV 0)).toArray 61)).alloc (.cells (ints (fillV 0)).toArray 61)).heap[w.heap.size + 1]? = some (.cells (ints (fillV 0)).toArray 61 (0, 0)) from by
    have := blk_new (w.alloc (.cells (ints (fillV 0)).toArray 61)) 61 (ints (fillV 0)).toArray
    rwa [World.size_alloc] at this)
  go_enter Try.func24, Try.ntmps24
  go_wp2
  go_loopw [5] (fun i wr => ∃ q : Nat, i = .int .i64 q ∧ q ≤ 4 ∧ Below w.heap.size w wr ∧ wr.heap[w.heap.size]? = some (.cells (ints (fillV 0)).toArray 61 (0, 0)) ∧ wr.heap[w.heap.size + 1]? = some (.cells (ints (fillV q)).toArray 61 (0, 0))) (fun i _ => 4 - (intOf i).toNat)
  case atStart => exact ⟨0, rfl, Nat.zero_le _, HB1.out, HR.out, HK.out⟩
  case round =>
    obtain ⟨q, rfl, hq, hb, hx, hk⟩ := hrel
    have lx := blk_lt hx
    by_cases hlt : q < 4
    · have c0 : wr.cell? ⟨w.heap.size + 1, q, none⟩ = some (.int .i64 0) := (blk_cell hk q).trans (fill_get hlt)
      have f0 := blk_frozen hk q
      have z0 : (0 : Int) ≤ (q : Int) := by omega
      have z1 : (q : Int) < 4 := by omega
      have HN := Lib.hid (show Below w.heap.size w (wr.setCell ⟨w.heap.size + 1, q, none⟩ (.int .i64 (-1))) ∧ (wr.setCell ⟨w.heap.size + 1, q, none⟩ (.int .i64 (-1))).heap[w.heap.size]? = some (.cells (ints (fillV 0)).toArray 61 (0, 0)) ∧ (wr.setCell ⟨w.heap.size + 1, q, none⟩ (.int .i64 (-1))).heap[w.heap.size + 1]? = some (.cells (ints (fillV (q + 1))).toArray 61 (0, 0)) from
        ⟨hb.setCell (p := ⟨w.heap.size + 1, q, none⟩) (Nat.le_succ _) _, blk_far hx (p := ⟨w.heap.size + 1, q, none⟩) (by show w.heap.size ≠ w.heap.size + 1; omega) _, by rw [← fill_set hlt]; exact blk_set hk q _⟩)
      clear hb hx hk
      go_wp2
      go_roundw
      case rel => exact ⟨q + 1, by go_num, by omega, HN.out.1, HN.out.2.1, HN.out.2.2⟩
      case measure => simp [intOf]; omega
    · obtain rfl : q = 4 := by omega
      obtain ⟨w5, hcp, k5, b5⟩ := copy_key (c3 := c) hl hk (hr.below hb)
      obtain ⟨a1, a2, a3, a4, ha⟩ := key4_cells hl
      have HKV := Lib.hid (show keyV s = .agg #[.int .i64 a1, .int .i64 a2, .int .i64 a3, .int .i64 a4] by rw [keyV, ha]; rfl)
      rw [ha] at k5
      have hx5 := blk_below hx b5 (by omega)
      have HF := Lib.hid (hb.trans (b5.mono (Nat.le_succ _)))
      have e0 : w5.cell? ⟨w.heap.size + 1, 0, none⟩ = some (.int .i64 a1) := blk_cell k5 0
      have e1 : w5.cell? ⟨w.heap.size + 1, 1, none⟩ = some (.int .i64 a2) := blk_cell k5 1
      have e2 : w5.cell? ⟨w.heap.size + 1, 2, none⟩ = some (.int .i64 a3) := blk_cell k5 2
      have e3 : w5.cell? ⟨w.heap.size + 1, 3, none⟩ = some (.int .i64 a4) := blk_cell k5 3
      have d0 : w5.cell? ⟨w.heap.size, 0, none⟩ = some (.int .i64 0) := blk_cell hx5 0
      have d1 : w5.cell? ⟨w.heap.size, 1, none⟩ = some (.int .i64 0) := blk_cell hx5 1
      have d2 : w5.cell? ⟨w.heap.size, 2, none⟩ = some (.int .i64 0) := blk_cell hx5 2
      have d3 : w5.cell? ⟨w.heap.size, 3, none⟩ = some (.int .i64 0) := blk_cell hx5 3
      have f0 := blk_frozen hx5 0
      have f1 := blk_frozen hx5 1
      have f2 := blk_frozen hx5 2
      have f3 := blk_frozen hx5 3
      have HW := Lib.hid (blk_set (blk_set (blk_set (blk_set hx5 0 (.int .i64 a1)) 1 (.int .i64 a2)) 2 (.int .i64 a3)) 3 (.int .i64 a4))
      have HB9 := Lib.hid ((((HF.out.setCell (p := ⟨w.heap.size, 0, none⟩) (Nat.le_refl _) (.int .i64 a1)).setCell (p := ⟨w.heap.size, 1, none⟩) (Nat.le_refl _) (.int .i64 a2)).setCell (p := ⟨w.heap.size, 2, none⟩) (Nat.le_refl _) (.int .i64 a3)).setCell (p := ⟨w.heap.size, 3, none⟩) (Nat.le_refl _) (.int .i64 a4))
      clear hb hx hk b5 k5 ha hx5
      go_wp2
      refine bodyPost_ret (results_cell_row rfl _ _ w.heap.size 61 _ (0, 0) _ rfl HW.out Try.underlying61 rfl (by kernel_rfl)) rfl ?_
      exact ⟨by rw [HKV.out]; rfl, HB9.out⟩
end Go.Proofs.Ytlhbmfaoldajdaa
