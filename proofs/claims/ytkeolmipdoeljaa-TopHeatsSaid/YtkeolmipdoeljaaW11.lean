/-
  WALKS: the chapter's examples hold.
-/
import Derived.Test.YtkeolmipdoeljaaW10
namespace Go.Proofs.Ytkeolmipdoeljaa
open Go.RowKit Heat

def exPlan : List HAct := [⟨0, 0, 3⟩, ⟨1, 0, 2⟩, ⟨1, 0, 2⟩]
def exPlan2 : List HAct := [⟨0, 0, 5⟩, ⟨1, 0, 2⟩]
theorem ex1 : fewestN 1 exPlan 4 = 1 := by decide +kernel
theorem ex2 : limited 1 exPlan 4 = 0 := by decide +kernel
theorem ex3 : winsN 1 exPlan 4 [⟨0, 0, 2⟩] = 1 := by decide +kernel
theorem ex4 : winsErr 1 exPlan 4 [⟨0, 0, 2⟩] = 0 := by decide +kernel
theorem ex5 : curveL 1 exPlan2 = [1, 1, 1, 1, 1, 0] := by decide +kernel
theorem ex6 : validate 1 exPlan2 = 0 := by decide +kernel
theorem rd_lit {w : World} {g : Nat} {cs : Array Value} {e : TypeId} {sz n : Nat} (hb : w.heap[g]? = some (.cells cs e (0, 0))) (h : cs.size = n * sz) : Rd w (g + 1) sz (some ⟨g, 0, none⟩) n cs.toList :=
  ⟨by simpa using h, fun _ => ⟨g, 0, rfl, by omega, fun j u hu => by rw [Nat.zero_add, blk_cell hb]; simpa using hu⟩⟩
abbrev exCells : Array Value := #[.int .i64 0, .int .i64 0, .int .i64 3, .int .i64 1, .int .i64 0, .int .i64 2, .int .i64 1, .int .i64 0, .int .i64 2]
abbrev exCells2 : Array Value := #[.int .i64 0, .int .i64 0, .int .i64 5, .int .i64 1, .int .i64 0, .int .i64 2]

theorem pexample (w : World) : Calls Try.prog 53 #[] w fun e w' => e = .returned (.slice (some ⟨w.heap.size, 0, none⟩) 3 3) ∧ w.alloc (.cells exCells 48) = w' := by
  go_enter Try.func53, Try.ntmps53
  go_wp2
  go_ret
  exact ⟨rfl, rfl⟩

set_option maxRecDepth 100000 in
set_option maxHeartbeats 1000000 in
theorem known (w : World) : Calls Try.prog 19 #[] w fun e w' => e = .returned (.bool true) ∧ Below w.heap.size w w' := by
  go_enter Try.func19, Try.ntmps19
  go_wp2_with fail
  refine (pexample w).mono ?_
  rintro e w1 ⟨rfl, rfl⟩
  have hr1 : Rd (w.alloc (.cells exCells 48)) (w.heap.size + 1) 3 (some ⟨w.heap.size, 0, none⟩) 3 (actCells exPlan) := rd_lit (blk_new w 48 exCells) rfl
  go_wp2_with fail
  refine (pFewest 1 (some ⟨w.heap.size, 0, none⟩) 3 3 4 exPlan _ (by decide) (w.heap.size + 1) (by simp) hr1).mono ?_
  rw [ex1, ex2]
  rintro e w2 ⟨rfl, hb2⟩
  have B2 := ((Below.refl w.heap.size w).alloc (Nat.le_refl _) (.cells exCells 48)).trans (hb2.mono (by simp))
  clear hr1 hb2
  go_wp2_with fail
  refine (pexample w2).mono ?_
  rintro e w3 ⟨rfl, rfl⟩
  have b3 := blk_alloc (blk_new w2 48 exCells) (.cells #[.int .i64 0, .int .i64 0, .int .i64 2] 67)
  have b4 := blk_new (w2.alloc (.cells exCells 48)) 67 #[.int .i64 0, .int .i64 0, .int .i64 2]
  rw [World.size_alloc] at b4
  have hr3 := (rd_lit (sz := 3) (n := 3) b3 rfl)
  have hr4 := (rd_lit (sz := 3) (n := 1) b4 rfl)
  go_wp2_with fail
  refine (pCheckWindows 1 (some ⟨w2.heap.size, 0, none⟩) (some ⟨w2.heap.size + 1, 0, none⟩) 3 3 1 1 4 exPlan [⟨0, 0, 2⟩] _ (by decide) (by decide) (by unfold maxLen; omega) (by decide) (by decide) (by unfold maxLen; omega) (w2.heap.size + 2) (by simp) (hr3.more (by omega)) hr4).mono ?_
  rw [ex3, ex4]
  rintro e w4 ⟨rfl, hb4⟩
  have B4 := ((B2.alloc B2.size (.cells exCells 48)).alloc (by have := B2.size; simp; omega) (.cells #[.int .i64 0, .int .i64 0, .int .i64 2] 67)).trans (hb4.mono (by have := B2.size; simp; omega))
  clear hr3 hr4 hb4 b3 b4 B2
  have hr5 : Rd (w4.alloc (.cells exCells2 48)) (w4.heap.size + 1) 3 (some ⟨w4.heap.size, 0, none⟩) 2 (actCells exPlan2) := rd_lit (blk_new w4 48 exCells2) rfl
  go_wp2_with fail
  refine (pCurve 1 (some ⟨w4.heap.size, 0, none⟩) 2 2 exPlan2 _ (by decide) (w4.heap.size + 1) (by simp) hr5).mono ?_
  rw [ex5, ex6]
  rintro e w5 ⟨v5, rfl, hown5, hb5⟩
  obtain ⟨A5, c5, rfl, _, _⟩ := own_cap hown5
  have B5 := (B4.alloc B4.size (.cells exCells2 48)).trans (hb5.mono (by have := B4.size; simp; omega))
  have hr6 := (Rd.of_own hown5).alloc (Nat.le_refl _) (.cells #[.int .i64 1, .int .i64 1, .int .i64 1, .int .i64 1, .int .i64 1, .int .i64 0] 3)
  have hr7 := rd_lit (sz := 1) (n := 6) (blk_new w5 3 #[.int .i64 1, .int .i64 1, .int .i64 1, .int .i64 1, .int .i64 1, .int .i64 0]) rfl
  clear hr5 hb5 B4
  go_wp2_with fail
  refine (rSameInts A5 (some ⟨w5.heap.size, 0, none⟩) 6 6 c5 6 [1, 1, 1, 1, 1, 0] [1, 1, 1, 1, 1, 0] _ (by decide) (by decide) (w5.heap.size + 1) (by simp) (hr6.more (by omega)) hr7).mono ?_
  rintro e w6 ⟨rfl, hb6⟩
  go_wp2
  go_ret
  exact ⟨rfl, (B5.alloc B5.size _).trans (hb6.mono (by have := B5.size; simp; omega))⟩

theorem long (A : Option Addr) (k c : Nat) (w : World) (hk : k ≤ maxLen) : Calls Try.prog 18 #[.slice A k c] w fun e w' => e = .returned (.bool (decide (100 < k))) ∧ w = w' := by
  unfold maxLen at hk
  by_cases h : 100 < k
  · go_enter Try.func18, Try.ntmps18
    go_wp2
    go_ret
    exact ⟨ret_bool (by simp; omega), rfl⟩
  · go_enter Try.func18, Try.ntmps18
    go_wp2
    go_ret
    exact ⟨ret_bool (by simp; omega), rfl⟩

theorem actBounds {n : Int} {l : List HAct} (h : areActs n l = true) : Warm l ∧ ∀ k : Nat, n ≤ k → ∀ a ∈ l, 0 ≤ a.ion ∧ a.ion < k := by
  refine ⟨(mild_of h).warm, fun k hk a ha => ?_⟩
  have := areActs_iff.1 h a ha
  simp only [isAct, decide_eq_true_eq] at this
  omega
theorem fewest_mono {n : Int} {l : List HAct} {limit : Int} (h : limited n l limit = 0) (hl : limit < 100) : limited n l (limit + 1) = 0 ∧ fewestN n l (limit + 1) ≤ fewestN n l limit := by
  obtain ⟨⟨h1, h2, h3, h4⟩, h5, h6⟩ := limited_ok h
  have hv : validate n l = 0 := by unfold limited at h; split at h; assumption; omega
  have e : limited n l (limit + 1) = 0 := by rw [limited, if_pos hv, if_pos ⟨by omega, by omega⟩]
  refine ⟨e, ?_⟩
  rw [fewestN, fewestN, if_pos e, if_pos h]
  have := cnt_mono (L := limit) (L' := limit + 1) (by omega) 4 l (actBounds h4).1 ((actBounds h4).2 4 (by omega))
  omega

set_option maxRecDepth 100000 in
set_option maxHeartbeats 1000000 in
theorem walkFewest (n : Int) (A : Option Addr) (k c : Nat) (limit : Int) (l : List HAct) (w : World) (hn : -9223372036854775808 ≤ limit) (hn' : limit ≤ 9223372036854775807) (hk : k ≤ c) (hc : c ≤ maxLen) (hr : Rd w w.heap.size 3 A k (actCells l)) :
    Calls Try.prog 3 #[.int .i64 n, .slice A k c, .int .i64 limit] w fun e w' => e = .returned (.bool true) ∧ Below w.heap.size w w' := by
  obtain rfl := hr.act_len
  by_cases hL : 100 < l.length
  · have hd : decide (100 < l.length) = true := by simpa using hL
    go_enter Try.func3, Try.ntmps3
    go_wp2_with (first | (go_at_call 18; refine (long _ _ _ _ (by omega)).mono ?_; rintro e w1 ⟨rfl, rfl⟩) | (go_at_call 19; refine (known _).mono ?_; rintro e w1 ⟨rfl, hb⟩))
    go_ret
    exact ⟨rfl, hb⟩
  · have hd : decide (100 < l.length) = false := by simpa using hL
    have HP := Lib.hid (pFewest n A l.length c limit l w (by omega) w.heap.size (Nat.le_refl _) hr)
    by_cases h : limited n l limit = 0
    · have HL := Lib.hid h
      by_cases h2 : 100 ≤ limit
      · clear h
        go_enter Try.func3, Try.ntmps3
        go_wp2_with (go_at_call 18; refine (long _ _ _ _ (by omega)).mono ?_; rintro e w1 ⟨rfl, rfl⟩)
        refine HP.out.mono ?_
        rw [HL.out]
        rintro e w1 ⟨rfl, hb1⟩
        go_wp2_with fail
        refine (rFewest n A l.length c limit l w1 (by omega) hk hc w.heap.size hb1.size (hr.below hb1)).mono ?_
        rw [HL.out]
        rintro e w2 ⟨rfl, hb2⟩
        go_wp2_with (go_at_call 19; refine (known _).mono ?_; rintro e w3 ⟨rfl, hb3⟩)
        go_ret
        have s1 := hb1.size
        have s2 := hb2.size
        exact ⟨rfl, hb1.trans ((hb2.mono s1).trans (hb3.mono (by omega)))⟩
      · obtain ⟨hm1, hm2⟩ := fewest_mono h (by omega)
        have HM := Lib.hid hm1
        clear h hm1
        go_enter Try.func3, Try.ntmps3
        go_wp2_with (go_at_call 18; refine (long _ _ _ _ (by omega)).mono ?_; rintro e w1 ⟨rfl, rfl⟩)
        refine HP.out.mono ?_
        rw [HL.out]
        rintro e w1 ⟨rfl, hb1⟩
        go_wp2_with fail
        refine (rFewest n A l.length c limit l w1 (by omega) hk hc w.heap.size hb1.size (hr.below hb1)).mono ?_
        rw [HL.out]
        rintro e w2 ⟨rfl, hb2⟩
        have s1 := hb1.size
        have s2 := hb2.size
        go_wp2_with fail
        refine (pFewest n A l.length c (limit + 1) l w2 (by omega) w.heap.size (by omega) ((hr.below hb1).below' hb2 s1)).mono ?_
        rw [HM.out]
        rintro e w3 ⟨rfl, hb3⟩
        go_wp2_with (go_at_call 19; refine (known _).mono ?_; rintro e w4 ⟨rfl, hb4⟩)
        go_ret
        have s3 := hb3.size
        exact ⟨rfl, hb1.trans ((hb2.mono s1).trans ((hb3.mono (by omega)).trans (hb4.mono (by omega))))⟩
    · have HL := Lib.hid h
      have hd1 : (limited n l limit == 0) = false := by simpa using h
      have hd2 : (limited n l limit != 0) = true := by simpa using h
      clear h
      go_enter Try.func3, Try.ntmps3
      go_wp2_with (go_at_call 18; refine (long _ _ _ _ (by omega)).mono ?_; rintro e w1 ⟨rfl, rfl⟩)
      refine HP.out.mono ?_
      rintro e w1 ⟨rfl, hb1⟩
      go_wp2_with fail
      refine (rFewest n A l.length c limit l w1 (by omega) hk hc w.heap.size hb1.size (hr.below hb1)).mono ?_
      rintro e w2 ⟨rfl, hb2⟩
      go_wp2_with (go_at_call 19; refine (known _).mono ?_; rintro e w3 ⟨rfl, hb3⟩)
      go_ret
      have s1 := hb1.size
      have s2 := hb2.size
      exact ⟨rfl, hb1.trans ((hb2.mono s1).trans (hb3.mono (by omega)))⟩
end Go.Proofs.Ytkeolmipdoeljaa
