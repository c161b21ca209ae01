/-
  WALKS: isLeft of the program (printed by gen_isleft2.py).
-/
import Derived.Test.YtkeolmipdoeljaaQTail
import Derived.Test.YtkeolmipdoeljaaP6
import Derived.Test.YtkeolmipdoeljaaW21
namespace Go.Proofs.Ytkeolmipdoeljaa
open Go.RowKit Heat

/-- Block g holds the truths f 0, .., f (n - 1). -/
def BAt (w : World) (g n : Nat) (f : Nat → Bool) : Prop := ∃ cs : Array Value, w.heap[g]? = some (.cells cs 4 (0, 0)) ∧ cs.size = n ∧ ∀ j : Nat, j < n → cs[j]? = some (.bool (f j))
section
variable {w w' : World} {g n : Nat} {f f' : Nat → Bool}
theorem BAt.lt (H : BAt w g n f) : g < w.heap.size := by obtain ⟨_, h1, _⟩ := H; exact blk_lt h1
theorem BAt.cell (H : BAt w g n f) {i : Nat} (h1 : i < n) : w.cell? ⟨g, i, none⟩ = some (.bool (f i)) := by
  obtain ⟨cs, a, b, c⟩ := H
  rw [blk_cell a, c i h1]
theorem BAt.frozen (H : BAt w g n f) (i : Nat) : w.frozen? ⟨g, i, none⟩ = false := by obtain ⟨_, h1, _⟩ := H; exact blk_frozen h1 i
theorem BAt.keep (H : BAt w g n f) (hk : w'.heap[g]? = w.heap[g]?) : BAt w' g n f := by obtain ⟨cs, a, b, c⟩ := H; exact ⟨cs, hk.trans a, b, c⟩
theorem BAt.alloc (H : BAt w g n f) (o : Obj) : BAt (w.alloc o) g n f := H.keep (Below.heap_alloc w o g H.lt)
theorem BAt.far (H : BAt w g n f) {p : Addr} (hp : g ≠ p.block) (u : Value) : BAt (w.setCell p u) g n f := H.keep (Below.heap_setCell w p u g hp)
theorem BAt.drew (H : BAt w g n f) : BAt w.drew g n f := H
theorem BAt.set (H : BAt w g n f) (i : Nat) (x : Bool) : BAt (w.setCell ⟨g, i, none⟩ (.bool x)) g n (fun j => if j = i then x else f j) := by
  obtain ⟨cs, a, b, c⟩ := H
  refine ⟨_, blk_set a _ _, by simpa using b, fun j hj => ?_⟩
  rw [Array.getElem?_setIfInBounds]
  by_cases e : i = j
  · subst e
    rw [if_pos rfl, if_pos (by omega)]
    dsimp only
    rw [if_pos rfl]
  · rw [if_neg e]
    dsimp only
    rw [if_neg (fun x => e x.symm)]
    exact c j hj
theorem BAt.congr (H : BAt w g n f) (e : ∀ j : Nat, j < n → f j = f' j) : BAt w g n f' := by
  obtain ⟨cs, a, b, c⟩ := H
  exact ⟨cs, a, b, fun j hj => by rw [← e j hj]; exact c j hj⟩
theorem BAt.made (w : World) (n : Nat) : BAt (w.alloc (.cells (madeCells #[.bool false] n) 4)) w.heap.size n (fun _ => false) :=
  ⟨_, blk_new w 4 _, by rw [size_madeCells], fun j hj => by
    have := toList_madeCells_one (.bool false) n
    rw [← Array.getElem?_toList, this, List.getElem?_replicate, if_pos (by omega)]⟩
end
/-- The row under way: its first k places are done. -/
def partRow (f : Nat → Bool) (k : Nat) : Nat → Bool := fun j => decide (j < k) && f j
theorem part_step {w : World} {g n k : Nat} {f : Nat → Bool} {x : Bool} (H : BAt w g n (partRow f k)) (hx : f k = x) : BAt (w.setCell ⟨g, k, none⟩ (.bool x)) g n (partRow f (k + 1)) := by
  refine (H.set k x).congr fun j _ => ?_
  unfold partRow
  by_cases e : j = k
  · subst e
    rw [if_pos rfl, decide_eq_true (by omega), hx]; rfl
  · rw [if_neg e]
    by_cases h : j < k
    · rw [decide_eq_true h, decide_eq_true (by omega)]
    · rw [decide_eq_false h, decide_eq_false (by omega)]

theorem eq_acts (yk yi yh xk xi xh : Int) : decide (some (⟨yk, yi, yh⟩ : HAct) = some ⟨xk, xi, xh⟩) = (yk == xk && (yi == xi && yh == xh)) := by
  by_cases a : yk = xk <;> by_cases b : yi = xi <;> by_cases c : yh = xh <;> simp [a, b, c]

set_option maxRecDepth 100000 in
set_option maxHeartbeats 8000000 in
theorem pisLeft (A A' : Option Addr) (k c k' c' : Nat) (l m : List HAct) (w : World) (hl : l.length ≤ 1000) (hm : m.length ≤ 1000) (B : Nat) (hB : B ≤ w.heap.size) (hr : Rd w B 3 A k (actCells l)) (hr' : Rd w B 3 A' k' (actCells m)) :
    Calls Try.prog 79 #[.slice A k c, .slice A' k' c'] w fun e w' => e = .returned (.bool (greedy l m)) ∧ Below w.heap.size w w' := by
  obtain rfl := hr.act_len
  obtain rfl := hr'.act_len
  obtain ⟨N, hN⟩ : ∃ N, N = l.length + 1 := ⟨_, rfl⟩
  have hN1 : (l.length : Int) + 1 = (N : Int) := by omega
  have hNb : N ≤ 1001 := by omega
  have hNl : l.length < N := by omega
  have HN := Lib.hid hN
  have hmk := fun W => run_make_row' (P := Try.prog) 103 4 (.bool false) 1 Try.underlying103 (show (Try.prog.info? 4).map (fun i => (i.zero, i.size, i.bytes)) = some (some (.bool false), 1, 1) by kernel_rfl) rfl .i64 .i64 N (by omega) (by omega) W
  clear hN
  have HMD := Lib.hid (BAt.made w N)
  have f0 : (w.alloc (.cells (madeCells #[.bool false] N) 4)).cell? ⟨w.heap.size, 0, none⟩ = some (.bool false) := HMD.out.cell (by omega)
  have f1 : (w.alloc (.cells (madeCells #[.bool false] N) 4)).frozen? ⟨w.heap.size, 0, none⟩ = false := HMD.out.frozen 0
  have z0 : (0 : Int) < (N : Int) := by omega
  go_enter Try.func79, Try.ntmps79
  go_wp2
  go_loopw [5, 18] (fun v i wr => ∃ (q g : Nat), i = .int .i64 q ∧ v = .slice (some ⟨g, 0, none⟩) N N ∧ q ≤ m.length ∧ w.heap.size ≤ g ∧ BAt wr g N (can l m q) ∧ Below w.heap.size w wr) (fun _ i _ => m.length - (intOf i).toNat)
  case atStart =>
    refine ⟨0, w.heap.size, rfl, rfl, Nat.zero_le _, Nat.le_refl _, ⟨_, blk_new w 4 _, by simp [size_madeCells], fun j hj => ?_⟩, (Below.refl _ _).alloc (Nat.le_refl _) _⟩
    have h1 := toList_madeCells_one (.bool false) N
    have h2 : (madeCells #[Value.bool false] N).size = N := by rw [size_madeCells]
    rw [can]
    cases j with
    | zero => simp [Array.getElem?_setIfInBounds, h2, hj]
    | succ j =>
      simp only [Array.getElem?_setIfInBounds]
      rw [if_neg (by omega), ← Array.getElem?_toList, h1, List.getElem?_replicate, if_pos (by omega)]
      simp
  case round =>
    clear f0 f1
    obtain ⟨q, g, rfl, rfl, hq, hg, hcan, hb⟩ := hrel
    have hsz := hb.size
    by_cases hlt : q < m.length
    · obtain ⟨b', off', rfl, hbb', k0, k1, k2⟩ := (hr'.below' hb hB).act hlt
      have HS := Lib.hid (can_succ l m q hlt)
      have HCAN := Lib.hid hcan
      have hgl := hcan.lt
      clear hcan
      generalize m[q] = x at *
      obtain ⟨xk, xi, xh⟩ := x
      dsimp only at *
      obtain ⟨G, hG⟩ : ∃ G, wr.heap.size = G := ⟨_, rfl⟩
      have hbx0 := blk_new wr 48 #[.int .i64 xk, .int .i64 xi, .int .i64 xh]
      rw [hG] at hbx0 hsz hgl
      have HBX := Lib.hid hbx0
      have hB1 := Lib.hid (hb.alloc (by omega) (.cells #[.int .i64 xk, .int .i64 xi, .int .i64 xh] 48))
      have hmd2 := BAt.made (wr.alloc (.cells #[.int .i64 xk, .int .i64 xi, .int .i64 xh] 48)) N
      rw [World.size_alloc, hG] at hmd2
      have HMD2 := Lib.hid hmd2
      clear hbx0 hmd2
      obtain ⟨F, hF⟩ : ∃ F, F = can l m q := ⟨_, rfl⟩
      rw [← hF] at HS HCAN
      clear hF
      go_wp2
      go_loopw [27] (fun i wi => ∃ k : Nat, i = .int .i64 k ∧ k ≤ N ∧ BAt wi (G + 1) N (partRow (canNext F l ⟨xk, xi, xh⟩) k) ∧ BAt wi g N F ∧ wi.heap[G]? = some (.cells #[.int .i64 xk, .int .i64 xi, .int .i64 xh] 48 (0, 0)) ∧ Below w.heap.size w wi) (fun i _ => N - (intOf i).toNat)
      case atStart =>
        exact ⟨0, rfl, Nat.zero_le _, HMD2.out.congr fun j _ => by simp [partRow], (HCAN.out.alloc _).alloc _, blk_alloc HBX.out _, hB1.out.alloc (by simp; omega) _⟩
      case round =>
        clear hG hb k0 k1 k2
        obtain ⟨k, rfl, hk, hrow, hcn, hbx, hbi⟩ := hrel
        by_cases hkN : k < N
        · have x0 : wr.cell? ⟨G, 0, none⟩ = some (.int .i64 xk) := blk_cell hbx 0
          have x1 : wr.cell? ⟨G, 1, none⟩ = some (.int .i64 xi) := blk_cell hbx 1
          have x2 : wr.cell? ⟨G, 2, none⟩ = some (.int .i64 xh) := blk_cell hbx 2
          have t0 := hcn.cell hkN
          have r0 := hrow.cell hkN
          have r1 := hrow.frozen k
          have HR := Lib.hid hrow
          have HC := Lib.hid hcn
          have HBI := Lib.hid hbx
          have n1 : ¬ g = G + 1 := by omega
          clear hrow hcn hbx
          cases k with
          | zero =>
            cases hb1 : F 0 with
            | true =>
              rw [hb1] at t0
              cases d0 : (xk == 2) with
              | true =>
                have HV := Lib.hid (show canNext F l ⟨xk, xi, xh⟩ 0 = true by rw [canNext, hb1, d0]; rfl)
                clear hb1
                go_wp2
                refine wp_region_qtail 32 (by kernel_rfl) (by kernel_rfl) ?_
                simp only [List.take_succ_cons, List.take_zero, List.drop_succ_cons, List.drop_zero]
                repeat (go_big_quiet_step (fail))
                refine wpQuiet_nil ?_
                go_wp2
                go_roundw
                case rel => exact ⟨0 + 1, by go_num, by omega, part_step HR.out HV.out, HC.out.far (p := ⟨G + 1, 0, none⟩) (by simp; omega) _, blk_far HBI.out (p := ⟨G + 1, 0, none⟩) (by simp) _, (hbi.setCell (p := ⟨G + 1, 0, none⟩) (by simp; omega) _).drew⟩
                case measure => simp [intOf]; omega
              | false =>
                have HV := Lib.hid (show canNext F l ⟨xk, xi, xh⟩ 0 = false by rw [canNext, hb1, d0]; rfl)
                clear hb1
                go_wp2
                refine wp_region_qtail 32 (by kernel_rfl) (by kernel_rfl) ?_
                simp only [List.take_succ_cons, List.take_zero, List.drop_succ_cons, List.drop_zero]
                repeat (go_big_quiet_step (fail))
                refine wpQuiet_nil ?_
                go_wp2
                go_roundw
                case rel => exact ⟨0 + 1, by go_num, by omega, part_step HR.out HV.out, HC.out.far (p := ⟨G + 1, 0, none⟩) (by simp; omega) _, blk_far HBI.out (p := ⟨G + 1, 0, none⟩) (by simp) _, (hbi.setCell (p := ⟨G + 1, 0, none⟩) (by simp; omega) _).drew⟩
                case measure => simp [intOf]; omega
            | false =>
              rw [hb1] at t0
              have HV := Lib.hid (show canNext F l ⟨xk, xi, xh⟩ 0 = false by rw [canNext, hb1]; rfl)
              clear hb1
              go_wp2
              refine wp_region_qtail 32 (by kernel_rfl) (by kernel_rfl) ?_
              simp only [List.take_succ_cons, List.take_zero, List.drop_succ_cons, List.drop_zero]
              repeat (go_big_quiet_step (fail))
              refine wpQuiet_nil ?_
              go_wp2
              go_roundw
              case rel => exact ⟨0 + 1, by go_num, by omega, part_step HR.out HV.out, HC.out.far (p := ⟨G + 1, 0, none⟩) (by simp; omega) _, blk_far HBI.out (p := ⟨G + 1, 0, none⟩) (by simp) _, (hbi.setCell (p := ⟨G + 1, 0, none⟩) (by simp; omega) _).drew⟩
              case measure => simp [intOf]; omega
          | succ p =>
            have hpl : p < l.length := by have := HN.out; omega
            have t1 := HC.out.cell (i := p) (by omega)
            obtain ⟨pb, po, rfl, hpb, p0, p1, p2⟩ := (hr.below' hbi hB).act hpl
            have HY := Lib.hid (List.getElem?_eq_getElem hpl)
            generalize l[p] = y at *
            obtain ⟨yk, yi, yh⟩ := y
            dsimp only at *
            have v0 : (0 : Int) ≤ ((p + 1 : Nat) : Int) := Int.natCast_nonneg _
            have v1 : ((p + 1 : Nat) : Int) < (N : Int) := by omega
            have v2 : (0 : Int) ≤ ((p + 1 : Nat) : Int) - 1 := by omega
            have v3 : ((p + 1 : Nat) : Int) - 1 < (N : Int) := by omega
            have v4 : ((p + 1 : Nat) : Int) - 1 < (l.length : Int) := by omega
            have n2 : ¬ pb = G + 1 := by omega
            cases hb1 : F (p + 1) with
            | true =>
              rw [hb1] at t0
              cases d0 : (xk == 2) with
              | true =>
                have HV := Lib.hid (show canNext F l ⟨xk, xi, xh⟩ (p + 1) = true by rw [canNext, hb1, d0]; rfl)
                clear hb1
                go_wp2
                refine wp_region_qtail 32 (by kernel_rfl) (by kernel_rfl) ?_
                simp only [List.take_succ_cons, List.take_zero, List.drop_succ_cons, List.drop_zero]
                repeat (go_big_quiet_step (fail))
                refine wpQuiet_nil ?_
                go_wp2
                go_roundw
                case rel => exact ⟨(p + 1) + 1, by go_num, by omega, part_step HR.out HV.out, HC.out.far (p := ⟨G + 1, (p + 1), none⟩) (by simp; omega) _, blk_far HBI.out (p := ⟨G + 1, (p + 1), none⟩) (by simp) _, (hbi.setCell (p := ⟨G + 1, (p + 1), none⟩) (by simp; omega) _).drew⟩
                case measure => simp [intOf]; omega
              | false =>
                cases hb0 : F p with
                | true =>
                  rw [hb0] at t1
                  have HV := Lib.hid (show canNext F l ⟨xk, xi, xh⟩ (p + 1) = (yk == xk && (yi == xi && yh == xh)) by rw [canNext, hb1, d0, prevOk, hb0, HY.out, eq_acts]; simp)
                  clear hb1 hb0
                  go_wp2
                  refine wp_region_qtail 32 (by kernel_rfl) (by kernel_rfl) ?_
                  simp only [List.take_succ_cons, List.take_zero, List.drop_succ_cons, List.drop_zero]
                  repeat (go_big_quiet_step (fail))
                  go_big_quiet_want
                  go_big_quiet_op
                  refine ⟨.bool (yk == xk && (yi == xi && yh == xh)), ?_, ?_⟩
                  · by_cases a : yk = xk
                    · by_cases b : yi = xi
                      · by_cases c : yh = xh
                        · simp [a, b, c]
                        · simp [a, b, c]
                      · simp [a, b]
                    · simp [a]
                  go_big_quiet_on
                  repeat (go_big_quiet_step (fail))
                  refine wpQuiet_nil ?_
                  go_wp2
                  go_roundw
                  case rel => exact ⟨(p + 1) + 1, by go_num, by omega, part_step HR.out HV.out, HC.out.far (p := ⟨G + 1, (p + 1), none⟩) (by simp; omega) _, blk_far HBI.out (p := ⟨G + 1, (p + 1), none⟩) (by simp) _, (hbi.setCell (p := ⟨G + 1, (p + 1), none⟩) (by simp; omega) _).drew⟩
                  case measure => simp [intOf]; omega
                | false =>
                  rw [hb0] at t1
                  have HV := Lib.hid (show canNext F l ⟨xk, xi, xh⟩ (p + 1) = false by rw [canNext, hb1, d0, prevOk, hb0]; simp)
                  clear hb1 hb0
                  go_wp2
                  refine wp_region_qtail 32 (by kernel_rfl) (by kernel_rfl) ?_
                  simp only [List.take_succ_cons, List.take_zero, List.drop_succ_cons, List.drop_zero]
                  repeat (go_big_quiet_step (fail))
                  refine wpQuiet_nil ?_
                  go_wp2
                  go_roundw
                  case rel => exact ⟨(p + 1) + 1, by go_num, by omega, part_step HR.out HV.out, HC.out.far (p := ⟨G + 1, (p + 1), none⟩) (by simp; omega) _, blk_far HBI.out (p := ⟨G + 1, (p + 1), none⟩) (by simp) _, (hbi.setCell (p := ⟨G + 1, (p + 1), none⟩) (by simp; omega) _).drew⟩
                  case measure => simp [intOf]; omega
            | false =>
              rw [hb1] at t0
              cases hb0 : F p with
              | true =>
                rw [hb0] at t1
                have HV := Lib.hid (show canNext F l ⟨xk, xi, xh⟩ (p + 1) = (yk == xk && (yi == xi && yh == xh)) by rw [canNext, hb1, prevOk, hb0, HY.out, eq_acts]; simp)
                clear hb1 hb0
                go_wp2
                refine wp_region_qtail 32 (by kernel_rfl) (by kernel_rfl) ?_
                simp only [List.take_succ_cons, List.take_zero, List.drop_succ_cons, List.drop_zero]
                repeat (go_big_quiet_step (fail))
                go_big_quiet_want
                go_big_quiet_op
                refine ⟨.bool (yk == xk && (yi == xi && yh == xh)), ?_, ?_⟩
                · by_cases a : yk = xk
                  · by_cases b : yi = xi
                    · by_cases c : yh = xh
                      · simp [a, b, c]
                      · simp [a, b, c]
                    · simp [a, b]
                  · simp [a]
                go_big_quiet_on
                repeat (go_big_quiet_step (fail))
                refine wpQuiet_nil ?_
                go_wp2
                go_roundw
                case rel => exact ⟨(p + 1) + 1, by go_num, by omega, part_step HR.out HV.out, HC.out.far (p := ⟨G + 1, (p + 1), none⟩) (by simp; omega) _, blk_far HBI.out (p := ⟨G + 1, (p + 1), none⟩) (by simp) _, (hbi.setCell (p := ⟨G + 1, (p + 1), none⟩) (by simp; omega) _).drew⟩
                case measure => simp [intOf]; omega
              | false =>
                rw [hb0] at t1
                have HV := Lib.hid (show canNext F l ⟨xk, xi, xh⟩ (p + 1) = false by rw [canNext, hb1, prevOk, hb0]; simp)
                clear hb1 hb0
                go_wp2
                refine wp_region_qtail 32 (by kernel_rfl) (by kernel_rfl) ?_
                simp only [List.take_succ_cons, List.take_zero, List.drop_succ_cons, List.drop_zero]
                repeat (go_big_quiet_step (fail))
                refine wpQuiet_nil ?_
                go_wp2
                go_roundw
                case rel => exact ⟨(p + 1) + 1, by go_num, by omega, part_step HR.out HV.out, HC.out.far (p := ⟨G + 1, (p + 1), none⟩) (by simp; omega) _, blk_far HBI.out (p := ⟨G + 1, (p + 1), none⟩) (by simp) _, (hbi.setCell (p := ⟨G + 1, (p + 1), none⟩) (by simp; omega) _).drew⟩
                case measure => simp [intOf]; omega
        · obtain rfl : k = N := by omega
          have hdk : decide (k < k) = false := by simp
          go_wp2
          go_roundw
          case rel => exact ⟨q + 1, G + 1, by go_num, rfl, by omega, by omega, hrow.congr fun j hj => by rw [partRow, HS.out, decide_eq_true hj]; rfl, hbi⟩
          case measure => simp [intOf]; omega
    · obtain rfl : q = m.length := by omega
      have hln := hNl
      have c0 := hcan.cell hNl
      rw [can_greedy] at c0
      have y0 : (0 : Int) ≤ (l.length : Int) := Int.natCast_nonneg _
      have y1 : (l.length : Int) < (N : Int) := by omega
      go_wp2
      go_ret
      exact ⟨rfl, hb⟩
end Go.Proofs.Ytkeolmipdoeljaa

