/-
  WALKS: gains, known, many, Long. (Printed by gen_w28.py.)
-/
import Derived.Test.YtejjogpgolgdgaaW27
namespace Go.Proofs.Ytejjogpgolgdgaa
open Go.RowKit Pulse

theorem kn1 : waysN [[2, 1]] [3] = 4 := by decide +kernel
theorem kn2 : wishE [[2, 1]] [3] = 0 := by decide +kernel
theorem kn3 : calmN [[2, 1]] [3] = 1 := by decide +kernel
theorem kn4 : voltsIs [[2, 1]] [3] = true := by decide +kernel
theorem kn5 : quietL [[2, 1]] = [-1, 2] := by decide +kernel
theorem kn6 : quietIs [[2, 1]] = true := by decide +kernel
theorem kn7 : vldG [[2, 1]] = 0 := by decide +kernel
theorem kn8 : smoothN [[2, 1]] [[3], [5]] = 1 := by decide +kernel
theorem kn9 : smoothIs [[2, 1]] [[3], [5]] = true := by decide +kernel
theorem kn10 : rowE [[2, 1]] [[3], [5]] = 0 := by decide +kernel
theorem smG : Sm [[2, 1]] := by unfold Sm; simp
theorem smR : Sm [[3], [5]] := by unfold Sm; simp
theorem tab_one {w : World} {B : Nat} {X : Nat → Prop} {v : Value} {p : List Int} (h : RowAt w B X v p) : Tab w B X [v] [p] := Tab.nil.snoc h
theorem rowAt_lit {w : World} {g B n : Nat} {cs : Array Value} {p : List Int} (hb : w.heap[g]? = some (.cells cs 3 (0, 0))) (h : cs.toList = ints p) (hn : n = p.length) (hm : p.length ≤ 1000) (hB : g < B) : RowAt w B (fun _ => False) (.slice (some ⟨g, 0, none⟩) n n) p := by
  subst hn
  have hs : cs.size = p.length * 1 := by rw [← Array.length_toList, h]; simp
  refine ⟨some ⟨g, 0, none⟩, p.length, rfl, Nat.le_refl _, by unfold maxLen; omega, ?_, fun _ _ _ _ _ h => h⟩
  have := rd_lit (sz := 1) (n := p.length) hb hs
  rw [h] at this
  exact this.more (by omega)
theorem pgains (w : World) : Calls Try.prog 54 #[] w fun e w' => ∃ A c, e = .returned (.slice A 1 c) ∧ TRd w' w'.heap.size A 1 [[2, 1]] ∧ Below w.heap.size w w' := by
  go_enter Try.func54, Try.ntmps54
  go_wp2
  go_ret
  refine ⟨_, _, rfl, ?_, ((Below.refl _ _).alloc (Nat.le_refl _) _).alloc (by simp) _⟩
  have h1 := blk_alloc (blk_new w 3 #[.int .i64 2, .int .i64 1]) (.cells #[.slice (some ⟨w.heap.size, 0, none⟩) 2 2] 23)
  have h2 := blk_new (w.alloc (.cells #[.int .i64 2, .int .i64 1] 3)) 23 #[.slice (some ⟨w.heap.size, 0, none⟩) 2 2]
  refine ⟨[.slice (some ⟨w.heap.size, 0, none⟩) 2 2], ?_, tab_one (rowAt_lit h1 rfl rfl (by simp) (by simp <;> omega))⟩
  have := rd_lit (sz := 1) (n := 1) h2 rfl
  simpa using this.more (by simp)
theorem known_end (w : World) : True := trivial

set_option maxRecDepth 100000 in
set_option maxHeartbeats 4000000 in
theorem known (w : World) : Calls Try.prog 18 #[] w fun e w' => e = .returned (.bool true) ∧ Below w.heap.size w w' := by
  go_enter Try.func18, Try.ntmps18
  go_wp2_with fail
  refine (pgains _).mono ?_
  rintro e w1 ⟨A1, c1, rfl, r1, hb1⟩
  have s1 := hb1.size
  have HB1 := Lib.hid hb1
  clear hb1
  go_wp2_with fail
  have s2 : (w1.alloc (.cells #[.int .i64 3] 3)).heap.size = w1.heap.size + 1 := by simp
  have r1 := (r1.alloc (Nat.le_refl _) (.cells #[.int .i64 3] 3)).more (B' := (w1.alloc (.cells #[.int .i64 3] 3)).heap.size) (by omega)
  have HL := Lib.hid (blk_new w1 3 #[.int .i64 3])
  have HB2 := Lib.hid (HB1.out.alloc (HB1.out.size) (.cells #[.int .i64 3] 3))
  have rl : Rd (w1.alloc (.cells #[.int .i64 3] 3)) (w1.alloc (.cells #[.int .i64 3] 3)).heap.size 1 (some ⟨w1.heap.size, 0, none⟩) 1 (ints [3]) := (rd_lit HL.out rfl).more (by simp)
  skip
  refine (pWays _ _ _ _ _ _ [[2, 1]] [3] (w1.alloc (.cells #[.int .i64 3] 3)) smG (by simp) (w1.alloc (.cells #[.int .i64 3] 3)).heap.size (Nat.le_refl _) r1 rl).mono ?_
  rw [kn1, kn2]
  rintro e w3 ⟨rfl, hb3⟩
  have s3 := hb3.size
  have HB3 := Lib.hid (HB2.out.trans (hb3.mono (by have := HB2.out.size; omega)))
  have r1 := (r1.below hb3).more s3
  have rl := (rl.below hb3).more s3
  have HL := Lib.hid (blk_below HL.out hb3 (blk_lt HL.out))
  clear hb3
  clear rl HL r1
  go_wp2_with fail
  refine (pgains _).mono ?_
  rintro e w4 ⟨A4, c4, rfl, r4, hb4⟩
  have s4 := hb4.size
  have HB4 := Lib.hid (HB3.out.trans (hb4.mono (by have := HB3.out.size; omega)))
  clear hb4
  go_wp2_with fail
  have s5 : (w4.alloc (.cells #[.int .i64 3] 3)).heap.size = w4.heap.size + 1 := by simp
  have r4 := (r4.alloc (Nat.le_refl _) (.cells #[.int .i64 3] 3)).more (B' := (w4.alloc (.cells #[.int .i64 3] 3)).heap.size) (by omega)
  have HL := Lib.hid (blk_new w4 3 #[.int .i64 3])
  have HB5 := Lib.hid (HB4.out.alloc (HB4.out.size) (.cells #[.int .i64 3] 3))
  have rl : Rd (w4.alloc (.cells #[.int .i64 3] 3)) (w4.alloc (.cells #[.int .i64 3] 3)).heap.size 1 (some ⟨w4.heap.size, 0, none⟩) 1 (ints [3]) := (rd_lit HL.out rfl).more (by simp)
  skip
  refine (pCalmest _ _ _ _ _ _ [[2, 1]] [3] (w4.alloc (.cells #[.int .i64 3] 3)) smG (by simp) (w4.alloc (.cells #[.int .i64 3] 3)).heap.size (Nat.le_refl _) r4 rl).mono ?_
  rw [kn2, kn3, kn4]
  rintro e w6 ⟨rfl, hb6⟩
  have s6 := hb6.size
  have HB6 := Lib.hid (HB5.out.trans (hb6.mono (by have := HB5.out.size; omega)))
  have r4 := (r4.below hb6).more s6
  have rl := (rl.below hb6).more s6
  have HL := Lib.hid (blk_below HL.out hb6 (blk_lt HL.out))
  clear hb6
  clear rl HL r4
  go_wp2_with fail
  refine (pgains _).mono ?_
  rintro e w7 ⟨A7, c7, rfl, r7, hb7⟩
  have s7 := hb7.size
  have HB7 := Lib.hid (HB6.out.trans (hb7.mono (by have := HB6.out.size; omega)))
  clear hb7
  go_wp2_with fail
  refine (pQuiet _ _ _ [[2, 1]] w7 smG w7.heap.size (Nat.le_refl _) r7).mono ?_
  rw [kn5, kn6, kn7]
  rintro e w8 ⟨A8, c8, rfl, r8, hb8⟩
  have s8 := hb8.size
  have HB8 := Lib.hid (HB7.out.trans (hb8.mono (by have := HB7.out.size; omega)))
  have r7 := (r7.below hb8).more s8
  clear hb8
  clear r7
  go_wp2_with fail
  refine (pgains _).mono ?_
  rintro e w9 ⟨A9, c9, rfl, r9, hb9⟩
  have s9 := hb9.size
  have HB9 := Lib.hid (HB8.out.trans (hb9.mono (by have := HB8.out.size; omega)))
  have r8 := (r8.below hb9).more s9
  clear hb9
  go_wp2_with fail
  have s10 : (w9.alloc (.cells #[.int .i64 3] 3)).heap.size = w9.heap.size + 1 := by simp
  have r8 := (r8.alloc (Nat.le_refl _) (.cells #[.int .i64 3] 3)).more (B' := (w9.alloc (.cells #[.int .i64 3] 3)).heap.size) (by omega)
  have r9 := (r9.alloc (Nat.le_refl _) (.cells #[.int .i64 3] 3)).more (B' := (w9.alloc (.cells #[.int .i64 3] 3)).heap.size) (by omega)
  have HL := Lib.hid (blk_new w9 3 #[.int .i64 3])
  have HB10 := Lib.hid (HB9.out.alloc (HB9.out.size) (.cells #[.int .i64 3] 3))
  have s11 : ((w9.alloc (.cells #[.int .i64 3] 3)).alloc (.cells #[.int .i64 5] 3)).heap.size = (w9.alloc (.cells #[.int .i64 3] 3)).heap.size + 1 := by simp
  have r8 := (r8.alloc (Nat.le_refl _) (.cells #[.int .i64 5] 3)).more (B' := ((w9.alloc (.cells #[.int .i64 3] 3)).alloc (.cells #[.int .i64 5] 3)).heap.size) (by omega)
  have r9 := (r9.alloc (Nat.le_refl _) (.cells #[.int .i64 5] 3)).more (B' := ((w9.alloc (.cells #[.int .i64 3] 3)).alloc (.cells #[.int .i64 5] 3)).heap.size) (by omega)
  have HL := Lib.hid (blk_alloc HL.out (.cells #[.int .i64 5] 3))
  have HM := Lib.hid (blk_new (w9.alloc (.cells #[.int .i64 3] 3)) 3 #[.int .i64 5])
  have HB11 := Lib.hid (HB10.out.alloc (HB10.out.size) (.cells #[.int .i64 5] 3))
  have s12 : (((w9.alloc (.cells #[.int .i64 3] 3)).alloc (.cells #[.int .i64 5] 3)).alloc (.cells #[.slice (some ⟨w9.heap.size, 0, none⟩) 1 1, .slice (some ⟨w9.heap.size + 1, 0, none⟩) 1 1] 23)).heap.size = ((w9.alloc (.cells #[.int .i64 3] 3)).alloc (.cells #[.int .i64 5] 3)).heap.size + 1 := by simp
  have r8 := (r8.alloc (Nat.le_refl _) (.cells #[.slice (some ⟨w9.heap.size, 0, none⟩) 1 1, .slice (some ⟨w9.heap.size + 1, 0, none⟩) 1 1] 23)).more (B' := (((w9.alloc (.cells #[.int .i64 3] 3)).alloc (.cells #[.int .i64 5] 3)).alloc (.cells #[.slice (some ⟨w9.heap.size, 0, none⟩) 1 1, .slice (some ⟨w9.heap.size + 1, 0, none⟩) 1 1] 23)).heap.size) (by omega)
  have r9 := (r9.alloc (Nat.le_refl _) (.cells #[.slice (some ⟨w9.heap.size, 0, none⟩) 1 1, .slice (some ⟨w9.heap.size + 1, 0, none⟩) 1 1] 23)).more (B' := (((w9.alloc (.cells #[.int .i64 3] 3)).alloc (.cells #[.int .i64 5] 3)).alloc (.cells #[.slice (some ⟨w9.heap.size, 0, none⟩) 1 1, .slice (some ⟨w9.heap.size + 1, 0, none⟩) 1 1] 23)).heap.size) (by omega)
  have HL := Lib.hid (blk_alloc HL.out (.cells #[.slice (some ⟨w9.heap.size, 0, none⟩) 1 1, .slice (some ⟨w9.heap.size + 1, 0, none⟩) 1 1] 23))
  have HM := Lib.hid (blk_alloc HM.out (.cells #[.slice (some ⟨w9.heap.size, 0, none⟩) 1 1, .slice (some ⟨w9.heap.size + 1, 0, none⟩) 1 1] 23))
  have HT := Lib.hid (blk_new ((w9.alloc (.cells #[.int .i64 3] 3)).alloc (.cells #[.int .i64 5] 3)) 23 #[.slice (some ⟨w9.heap.size, 0, none⟩) 1 1, .slice (some ⟨w9.heap.size + 1, 0, none⟩) 1 1])
  have HB12 := Lib.hid (HB11.out.alloc (HB11.out.size) (.cells #[.slice (some ⟨w9.heap.size, 0, none⟩) 1 1, .slice (some ⟨w9.heap.size + 1, 0, none⟩) 1 1] 23))
  have hm1 : (w9.alloc (.cells #[.int .i64 3] 3)).heap.size = w9.heap.size + 1 := by simp
  have rt : TRd (((w9.alloc (.cells #[.int .i64 3] 3)).alloc (.cells #[.int .i64 5] 3)).alloc (.cells #[.slice (some ⟨w9.heap.size, 0, none⟩) 1 1, .slice (some ⟨w9.heap.size + 1, 0, none⟩) 1 1] 23)) (((w9.alloc (.cells #[.int .i64 3] 3)).alloc (.cells #[.int .i64 5] 3)).alloc (.cells #[.slice (some ⟨w9.heap.size, 0, none⟩) 1 1, .slice (some ⟨w9.heap.size + 1, 0, none⟩) 1 1] 23)).heap.size (some ⟨w9.heap.size + 1 + 1, 0, none⟩) 2 [[3], [5]] := by
    have e2 := HM.out
    rw [hm1] at e2
    have e3 := HT.out
    simp only [World.size_alloc] at e3
    refine ⟨[.slice (some ⟨w9.heap.size, 0, none⟩) 1 1, .slice (some ⟨w9.heap.size + 1, 0, none⟩) 1 1], ?_, (tab_one (rowAt_lit HL.out rfl rfl (by simp) (by simp <;> omega))).snoc (rowAt_lit e2 rfl rfl (by simp) (by simp <;> omega))⟩
    have := rd_lit (sz := 1) (n := 2) e3 rfl
    simpa using this.more (by simp)
  skip
  refine (pSmooth _ _ _ _ _ _ [[2, 1]] [[3], [5]] (((w9.alloc (.cells #[.int .i64 3] 3)).alloc (.cells #[.int .i64 5] 3)).alloc (.cells #[.slice (some ⟨w9.heap.size, 0, none⟩) 1 1, .slice (some ⟨w9.heap.size + 1, 0, none⟩) 1 1] 23)) smG smR (((w9.alloc (.cells #[.int .i64 3] 3)).alloc (.cells #[.int .i64 5] 3)).alloc (.cells #[.slice (some ⟨w9.heap.size, 0, none⟩) 1 1, .slice (some ⟨w9.heap.size + 1, 0, none⟩) 1 1] 23)).heap.size (Nat.le_refl _) r9 rt).mono ?_
  rw [kn8, kn9, kn10]
  rintro e w13 ⟨rfl, hb13⟩
  have s13 := hb13.size
  have HB13 := Lib.hid (HB12.out.trans (hb13.mono (by have := HB12.out.size; omega)))
  have r8 := (r8.below hb13).more s13
  have r9 := (r9.below hb13).more s13
  have rt := (rt.below hb13).more s13
  have HL := Lib.hid (blk_below HL.out hb13 (blk_lt HL.out))
  have HM := Lib.hid (blk_below HM.out hb13 (blk_lt HM.out))
  have HT := Lib.hid (blk_below HT.out hb13 (blk_lt HT.out))
  clear hb13
  clear rt HL HM HT r9
  go_wp2_with fail
  have s14 : (w13.alloc (.cells #[.int .i64 (-1), .int .i64 2] 3)).heap.size = w13.heap.size + 1 := by simp
  have r8 := (r8.alloc (Nat.le_refl _) (.cells #[.int .i64 (-1), .int .i64 2] 3)).more (B' := (w13.alloc (.cells #[.int .i64 (-1), .int .i64 2] 3)).heap.size) (by omega)
  have HL := Lib.hid (blk_new w13 3 #[.int .i64 (-1), .int .i64 2])
  have HB14 := Lib.hid (HB13.out.alloc (HB13.out.size) (.cells #[.int .i64 (-1), .int .i64 2] 3))
  have rl : Rd (w13.alloc (.cells #[.int .i64 (-1), .int .i64 2] 3)) (w13.alloc (.cells #[.int .i64 (-1), .int .i64 2] 3)).heap.size 1 (some ⟨w13.heap.size, 0, none⟩) 2 (ints [-1, 2]) := (rd_lit HL.out rfl).more (by simp)
  skip
  refine (rSameInts_is true _ _ _ _ _ _ [-1, 2] [-1, 2] (by decide) (w13.alloc (.cells #[.int .i64 (-1), .int .i64 2] 3)) (by simp) (by simp) (w13.alloc (.cells #[.int .i64 (-1), .int .i64 2] 3)).heap.size (Nat.le_refl _) r8 rl).mono ?_
  rintro e w15 ⟨rfl, hb15⟩
  have s15 := hb15.size
  have HB15 := Lib.hid (HB14.out.trans (hb15.mono (by have := HB14.out.size; omega)))
  have r8 := (r8.below hb15).more s15
  have rl := (rl.below hb15).more s15
  have HL := Lib.hid (blk_below HL.out hb15 (blk_lt HL.out))
  clear hb15
  go_wp2
  go_ret
  exact ⟨rfl, HB15.out⟩

theorem many (A : Option Addr) (k c : Nat) (w : World) (hk : k ≤ maxLen) : Calls Try.prog 17 #[.slice A k c] w fun e w' => e = .returned (.bool (decide (40 < k))) ∧ w = w' := by
  by_cases h : 40 < k
  · have hd : decide (40 < k) = true := by simpa using h
    go_enter Try.func17, Try.ntmps17
    go_wp2
    go_ret
    exact ⟨ret_bool (by simp; omega), rfl⟩
  · have hd : decide (40 < k) = false := by simpa using h
    go_enter Try.func17, Try.ntmps17
    go_wp2
    go_ret
    exact ⟨ret_bool (by simp; omega), rfl⟩
/-- A table is long. -/
def longT (g : List (List Int)) : Bool := (g.any fun l => decide (40 < l.length)) || decide (40 < g.length)
theorem longT_sm {g : List (List Int)} (h : longT g = false) : Sm g := by
  rw [longT, Bool.or_eq_false_iff, List.any_eq_false, decide_eq_false_iff_not] at h
  exact ⟨by omega, fun l hl => by have := h.1 l hl; simp at this; omega⟩
set_option maxRecDepth 100000 in
set_option maxHeartbeats 1000000 in
theorem long_is (r : Bool) (A : Option Addr) (k c : Nat) (g : List (List Int)) (hlong : longT g = r) (w : World) (hk : k ≤ maxLen) (B : Nat) (hr : TRd w B A k g) (hrl : ∀ l ∈ g, l.length ≤ maxLen) : Calls Try.prog 16 #[.slice A k c] w fun e w' => e = .returned (.bool r) ∧ w = w' := by
  obtain rfl := hr.len
  have HR := Lib.hid hlong
  have HLE := Lib.hid (show longT g = ((g.any fun l => decide (40 < l.length)) || decide (40 < g.length)) from rfl)
  have HRL := Lib.hid hrl
  have hk2 := hk
  unfold maxLen at hk2
  clear hlong hrl
  go_enter Try.func16, Try.ntmps16
  go_wp2
  go_loop [3] (fun i => ∃ q : Nat, i = .int .i64 q ∧ q ≤ g.length ∧ Hid (((g.take q).any fun l => decide (40 < l.length)) = false)) (fun i => g.length - (intOf i).toNat)
  case atStart => exact ⟨0, rfl, Nat.zero_le _, rfl⟩
  case round =>
    obtain ⟨q, rfl, hq, hno⟩ := hrel
    by_cases hlt : q < g.length
    · obtain ⟨b, off, A1, c1, rfl, hbb, g0, _, _, _⟩ := hr.row hlt
      have hl1 := HRL.out _ (List.getElem_mem hlt)
      have ht := any_take (fun l : List Int => decide (40 < l.length)) g q hlt
      rw [hno.out, Bool.false_or] at ht
      have HTT := Lib.hid ht
      have HIN := Lib.hid (show decide (40 < g[q].length) = true → r = true from fun h => by
        rw [← HR.out, HLE.out, Bool.or_eq_true]
        exact .inl (List.any_eq_true.2 ⟨_, List.getElem_mem hlt, h⟩))
      obtain ⟨l, hl⟩ : ∃ l, l = g[q] := ⟨_, rfl⟩
      rw [← hl] at g0 hl1 HTT HIN
      clear hl ht
      obtain ⟨d, hd⟩ : ∃ d, d = decide (40 < l.length) := ⟨_, rfl⟩
      have HD := Lib.hid hd.symm
      rw [← hd] at HTT HIN
      clear hd
      have z0 : (0 : Int) ≤ (q : Int) := by omega
      have z1 : (q : Int) < (g.length : Int) := by omega
      go_wp2_with fail
      refine (many A1 l.length c1 _ hl1).mono ?_
      rw [HD.out]
      rintro e w' ⟨rfl, rfl⟩
      cases d with
      | true =>
        go_wp2
        go_ret
        exact ⟨ret_bool (HIN.out (by first | rfl | trivial)).symm, rfl⟩
      | false =>
        go_wp2
        go_round
        case rel => exact ⟨q + 1, by go_num, by omega, HTT⟩
        case measure => simp [intOf]; omega
    · obtain rfl : q = g.length := by omega
      have HE := Lib.hid (show r = decide (40 < g.length) by
        have h := hno.out
        rw [List.take_length] at h
        rw [← HR.out, HLE.out, h, Bool.false_or])
      by_cases h : 40 < g.length
      · have hd : decide (40 < g.length) = true := by simpa using h
        rw [hd] at HE
        go_wp2
        go_ret
        exact ⟨ret_bool (by rw [HE.out]; simp; omega), rfl⟩
      · have hd : decide (40 < g.length) = false := by simpa using h
        rw [hd] at HE
        go_wp2
        go_ret
        exact ⟨ret_bool (by rw [HE.out]; simp; omega), rfl⟩
end Go.Proofs.Ytejjogpgolgdgaa
