/-
  WALKS: which windows are windows, the program's own test.
-/
import Derived.Test.YtkeolmipdoeljaaW6
namespace Go.Proofs.Ytkeolmipdoeljaa
open Go.RowKit Heat

set_option maxRecDepth 100000 in
set_option maxHeartbeats 4000000 in
theorem pisWindow (A : Option Addr) (k c f t : Nat) (limit ion : Int) (l : List HAct) (w : World) (hl : l.length ≤ 1000) (hk : k ≤ c) (hc : c ≤ maxLen) (hm : Mild l) (hf : f < l.length) (ht : t < l.length) (B : Nat) (hB : B ≤ w.heap.size) (hr : Rd w B 3 A k (actCells l)) :
    Calls Try.prog 59 #[.slice A k c, .int .i64 limit, .agg #[.int .i64 ion, .int .i64 f, .int .i64 t]] w fun e w' => e = .returned (.bool (isWinN l limit ion f t)) ∧ Below w.heap.size w w' := by
  obtain rfl := hr.act_len
  obtain ⟨b, off, rfl, hbb, hf0, hf1, hf2⟩ := hr.act hf
  obtain ⟨b', off', e, _, ht0, ht1, ht2⟩ := hr.act ht
  simp only [Option.some.injEq, Addr.mk.injEq, and_true] at e
  obtain ⟨rfl, rfl⟩ := e
  have hbl : b < w.heap.size := by omega
  have z0 : (0 : Int) ≤ (f : Int) := Int.natCast_nonneg _
  have z1 : (f : Int) < (l.length : Int) := by omega
  have z2 : (0 : Int) ≤ (t : Int) := Int.natCast_nonneg _
  have z3 : (t : Int) < (l.length : Int) := by omega
  by_cases c1 : f < t
  · have d1 : decide (t ≤ f) = false := by simp; omega
    by_cases c2 : l[f].ion = ion
    · have e2 : (l[f].ion == ion) = true := by simpa using c2
      have n2 : (l[f].ion != ion) = false := by simpa using c2
      by_cases c3 : l[t].ion = ion
      · have e3 : (l[t].ion == ion) = true := by simpa using c3
        have n3 : (l[t].ion != ion) = false := by simpa using c3
        by_cases c4 : l[f].kind = 2
        · have e4 : (l[f].kind == 2) = true := by simpa using c4
          have n4 : (l[f].kind != 2) = false := by simpa using c4
          have HF := Lib.hid (show isWinN l limit ion f t = false by rw [isWinN, List.getElem?_eq_getElem hf, List.getElem?_eq_getElem ht, Option.map_some, Option.map_some, Option.getD_some, Option.getD_some]; simp [e4, n4])
          clear c2 c3 c4
          go_enter Try.func59, Try.ntmps59
          go_wp2
          go_quiet (fail)
          go_wp2
          go_ret
          exact ⟨ret_bool HF.out.symm, below_drewN ((Below.refl _ _).alloc (Nat.le_refl _) _) nq⟩
        · have e4 : (l[f].kind == 2) = false := by simpa using c4
          have n4 : (l[f].kind != 2) = true := by simpa using c4
          by_cases c5 : l[t].kind = 1
          · have e5 : (l[t].kind == 1) = true := by simpa using c5
            have n5 : (l[t].kind != 1) = false := by simpa using c5
            have HF := Lib.hid (show isWinN l limit ion f t = (noCool ion (seg l f t) && decide (limit < sumOwn ion (seg l f t))) by rw [isWinN, List.getElem?_eq_getElem hf, List.getElem?_eq_getElem ht, Option.map_some, Option.map_some, Option.getD_some, Option.getD_some, decide_eq_true c1, e2, e3, n4, e5]; simp)
            clear c2 c3 c4 c5
            have w1 : (f : Int) ≤ (t : Int) := by omega
            have w2 : (t : Int) ≤ (c : Int) := by omega
            have w3 : ¬ c = f := by omega
            go_enter Try.func59, Try.ntmps59
            go_wp2
            go_quiet (fail)
            go_wp2
            go_loopw [7, 62] (fun s i wr => ∃ q : Nat, f + q ≤ t ∧ i = .int .i64 q ∧ s = .int .i64 (sumOwn ion (seg l f (f + q))) ∧ Hid (noCool ion (seg l f (f + q)) = true) ∧ wr.heap[w.heap.size]? = some (.cells #[.int .i64 ion, .int .i64 f, .int .i64 t] 67 (0, 0)) ∧ Below w.heap.size w wr) (fun _ i _ => t - f - (intOf i).toNat)
            case atStart => exact ⟨0, by omega, rfl, by simp [seg, sumOwn], by show noCool ion (seg l f (f + 0)) = true; simp [seg, noCool], blk_new w 67 _, below_drewN ((Below.refl _ _).alloc (Nat.le_refl _) _) nq⟩
            case round =>
              obtain ⟨q, hqt, rfl, rfl, HN, hbx, hb⟩ := hrel
              have x0 : wr.cell? ⟨w.heap.size, 0, none⟩ = some (.int .i64 ion) := blk_cell hbx 0
              have x1 : wr.cell? ⟨w.heap.size, 1, none⟩ = some (.int .i64 f) := blk_cell hbx 1
              have x2 : wr.cell? ⟨w.heap.size, 2, none⟩ = some (.int .i64 t) := blk_cell hbx 2
              have xl : w.heap.size < wr.heap.size := blk_lt hbx
              have HBX := Lib.hid hbx
              clear hbx hf0 hf1 hf2 ht0 ht1 ht2 e2 e3 e4 e5 n2 n3 n4 n5
              have bd := sumOwn_bd ion (seg l f (f + q)) (mild_seg hm f (f + q))
              have hlen : (seg l f (f + q)).length ≤ 1000 := by unfold seg; rw [List.length_take, List.length_drop]; omega
              by_cases hlt : f + q < t
              · have hql : f + q < l.length := by omega
                obtain ⟨b', off', e, _, g0, g1, g2⟩ := (hr.below' hb hB).act hql
                simp only [Option.some.injEq, Addr.mk.injEq, and_true] at e
                obtain ⟨rfl, rfl⟩ := e
                have a0 : off + (f + q) * 3 = off + f * 3 + q * 3 := by omega
                rw [a0] at g0 g1 g2
                have HA0 := Lib.hid a0
                clear a0
                have hx := hm _ (List.getElem_mem hql)
                have HS := Lib.hid (seg_snoc l f (f + q) (by omega) hql)
                have HT := Lib.hid (sumOwn_snoc ion (seg l f (f + q)) l[f + q])
                have HC := Lib.hid (noCool_snoc ion (seg l f (f + q)) l[f + q])
                have y0 : (0 : Int) ≤ (q : Int) := Int.natCast_nonneg _
                have y1 : q < t - f := by omega
                generalize sumOwn ion (seg l f (f + q)) = s at *
                by_cases k1 : l[f + q].ion = ion
                · have u1 : (l[f + q].ion == ion) = true := by simpa using k1
                  have u1' : (l[f + q].ion != ion) = false := by simpa using k1
                  by_cases k2 : l[f + q].kind = 2
                  · have u2 : (l[f + q].kind == 2) = true := by simpa using k2
                    have u2' : (l[f + q].kind != 2) = false := by simpa using k2
                    have HG := Lib.hid (show isWinN l limit ion f t = false by
                      have hno : noCool ion (seg l f t) = false := by
                        rw [noCool, List.all_eq_false]
                        refine ⟨l[f + q], ?_, by simp [u1', u2']⟩
                        rw [seg, List.mem_take_iff_getElem]
                        refine ⟨q, by rw [List.length_drop]; omega, ?_⟩
                        rw [List.getElem_drop]
                      rw [HF.out, hno]; rfl)
                    clear k1 k2
                    go_wp2
                    go_ret
                    exact ⟨ret_bool HG.out.symm, hb.alloc hb.size _⟩
                  · have u2 : (l[f + q].kind == 2) = false := by simpa using k2
                    have u2' : (l[f + q].kind != 2) = true := by simpa using k2
                    have HN2 := Lib.hid (show noCool ion (seg l f (f + q + 1)) = true by rw [HS.out, HC.out, HN.out, u1', u2']; rfl)
                    have HT2 := Lib.hid (show sumOwn ion (seg l f (f + q + 1)) = s + l[f + q].heat by rw [HS.out, HT.out, if_pos u1])
                    clear k1 k2
                    go_wp2
                    go_roundw
                    case rel => exact ⟨q + 1, by omega, by go_num, by rw [← Nat.add_assoc, HT2.out], by rw [← Nat.add_assoc]; exact HN2.out, blk_alloc HBX.out _, hb.alloc hb.size _⟩
                    case measure => simp [intOf]; omega
                · have u1 : (l[f + q].ion == ion) = false := by simpa using k1
                  have u1' : (l[f + q].ion != ion) = true := by simpa using k1
                  have HN2 := Lib.hid (show noCool ion (seg l f (f + q + 1)) = true by rw [HS.out, HC.out, HN.out, u1']; rfl)
                  have HT2 := Lib.hid (show sumOwn ion (seg l f (f + q + 1)) = s by rw [HS.out, HT.out, if_neg (by rw [u1]; decide)])
                  clear k1
                  go_wp2
                  go_roundw
                  case rel => exact ⟨q + 1, by omega, by go_num, by rw [← Nat.add_assoc, HT2.out], by rw [← Nat.add_assoc]; exact HN2.out, blk_alloc HBX.out _, hb.alloc hb.size _⟩
                  case measure => simp [intOf]; omega
              · have hqe : f + q = t := by omega
                have HG := Lib.hid (show isWinN l limit ion f t = decide (limit < sumOwn ion (seg l f (f + q))) by rw [hqe, HF.out, ← hqe, HN.out]; rfl)
                have y1 : t - f ≤ q := by omega
                clear hqe
                generalize sumOwn ion (seg l f (f + q)) = s at *
                go_wp2
                go_ret
                exact ⟨ret_bool HG.out.symm, hb⟩
          · have e5 : (l[t].kind == 1) = false := by simpa using c5
            have n5 : (l[t].kind != 1) = true := by simpa using c5
            have HF := Lib.hid (show isWinN l limit ion f t = false by rw [isWinN, List.getElem?_eq_getElem hf, List.getElem?_eq_getElem ht, Option.map_some, Option.map_some, Option.getD_some, Option.getD_some]; simp [e5, n5])
            clear c2 c3 c4 c5
            go_enter Try.func59, Try.ntmps59
            go_wp2
            go_quiet (fail)
            go_wp2
            go_ret
            exact ⟨ret_bool HF.out.symm, below_drewN ((Below.refl _ _).alloc (Nat.le_refl _) _) nq⟩
      · have e3 : (l[t].ion == ion) = false := by simpa using c3
        have n3 : (l[t].ion != ion) = true := by simpa using c3
        have HF := Lib.hid (show isWinN l limit ion f t = false by rw [isWinN, List.getElem?_eq_getElem hf, List.getElem?_eq_getElem ht, Option.map_some, Option.map_some, Option.getD_some, Option.getD_some]; simp [e3, n3])
        clear c2 c3
        go_enter Try.func59, Try.ntmps59
        go_wp2
        go_quiet (fail)
        go_wp2
        go_ret
        exact ⟨ret_bool HF.out.symm, below_drewN ((Below.refl _ _).alloc (Nat.le_refl _) _) nq⟩
    · have e2 : (l[f].ion == ion) = false := by simpa using c2
      have n2 : (l[f].ion != ion) = true := by simpa using c2
      have HF := Lib.hid (show isWinN l limit ion f t = false by rw [isWinN, List.getElem?_eq_getElem hf, List.getElem?_eq_getElem ht, Option.map_some, Option.map_some, Option.getD_some, Option.getD_some]; simp [e2, n2])
      clear c2
      go_enter Try.func59, Try.ntmps59
      go_wp2
      go_quiet (fail)
      go_wp2
      go_ret
      exact ⟨ret_bool HF.out.symm, below_drewN ((Below.refl _ _).alloc (Nat.le_refl _) _) nq⟩
  · have d1 : decide (t ≤ f) = true := by simp; omega
    have HF := Lib.hid (show isWinN l limit ion f t = false by rw [isWinN, decide_eq_false c1]; rfl)
    have c1' : (t : Int) ≤ (f : Int) := by omega
    go_enter Try.func59, Try.ntmps59
    go_wp2
    go_quiet (fail)
    go_wp2
    go_ret
    exact ⟨ret_bool HF.out.symm, below_drewN ((Below.refl _ _).alloc (Nat.le_refl _) _) nq⟩
end Go.Proofs.Ytkeolmipdoeljaa
