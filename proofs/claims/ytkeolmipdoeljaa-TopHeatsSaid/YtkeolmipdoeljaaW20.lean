/-
  WALKS: Join of the program and of the reference (printed by gen_joins.py).
-/
import Derived.Test.YtkeolmipdoeljaaW19
namespace Go.Proofs.Ytkeolmipdoeljaa
open Go.RowKit Heat

set_option maxRecDepth 100000 in
set_option maxHeartbeats 1000000 in
theorem pJoin (n : Int) (A A' : Option Addr) (k c k' c' : Nat) (l m : List HAct) (w : World) (hl : l.length ≤ 100) (hm : m.length ≤ 100) (B : Nat) (hB : B ≤ w.heap.size) (hr : Rd w B 3 A k (actCells l)) (hr' : Rd w B 3 A' k' (actCells m)) :
    Calls Try.prog 36 #[.int .i64 n, .slice A k c, .slice A' k' c'] w fun e w' => ∃ v, e = .returned (.tuple #[v, .int .i64 (joinErr n l m)]) ∧ w'.ownsRow w.heap.size 48 3 v (joinL n l m).length (actCells (joinL n l m)) ∧ Below w.heap.size w w' := by
  obtain rfl := hr.act_len
  obtain rfl := hr'.act_len
  have H := Lib.hid (pValidate n A l.length c l w (by omega) B hB hr)
  by_cases h : validate n l = 0
  · have HL := Lib.hid h
    by_cases h' : validate n m = 0
    · have HL' := Lib.hid h'
      by_cases h3 : 20 < l.length + m.length
      · have hd3 : decide ((20 : Int) < (l.length : Int) + (m.length : Int)) = true := by simp; omega
        have HE := Lib.hid (show joinErr n l m = 3 by rw [joinErr, if_neg (by simpa using h), if_neg (by simpa using h'), if_pos h3])
        have HU := Lib.hid (show joinL n l m = [] by rw [joinL, HE.out]; rfl)
        clear h h'
        go_enter Try.func36, Try.ntmps36
        go_wp2_with fail
        refine H.out.mono ?_
        rw [HL.out]
        rintro e w1 ⟨rfl, hb1⟩
        have s1 := hb1.size
        go_wp2_with fail
        refine (pValidate n A' m.length c' m w1 (by omega) B (by omega) (hr'.below' hb1 hB)).mono ?_
        rw [HL'.out]
        rintro e w2 ⟨rfl, hb2⟩
        go_wp2
        go_ret2
        exact ⟨_, ret_vi HE.out.symm, by rw [HU.out]; exact World.ownsRow_nil _ _ _ _, hb1.trans (hb2.mono s1)⟩
      · have hd3 : decide ((20 : Int) < (l.length : Int) + (m.length : Int)) = false := by simp; omega
        have HE := Lib.hid (show joinErr n l m = 0 by rw [joinErr, if_neg (by simpa using h), if_neg (by simpa using h'), if_neg h3])
        have HU := Lib.hid (show joinL n l m = l ++ m by rw [joinL, if_pos HE.out])
        clear h h'
        go_enter Try.func36, Try.ntmps36
        go_wp2_with fail
        refine H.out.mono ?_
        rw [HL.out]
        rintro e w1 ⟨rfl, hb1⟩
        have s1 := hb1.size
        go_wp2_with fail
        refine (pValidate n A' m.length c' m w1 (by omega) B (by omega) (hr'.below' hb1 hB)).mono ?_
        rw [HL'.out]
        rintro e w2 ⟨rfl, hb2⟩
        have B2 := hb1.trans (hb2.mono s1)
        have s2 := B2.size
        clear hb1 hb2
        go_wp2_with fail
        refine (pConcat w2.heap.size A A' l.length c m.length c' l m _ hl hm B (by simp; omega) ((hr.below' B2 hB).alloc (by omega) _) ((hr'.below' B2 hB).alloc (by omega) _) (blk_new w2 22 #[.slice A l.length c, .slice A' m.length c'])).mono ?_
        rintro e w3 ⟨v, rfl, hown, hb3⟩
        go_wp2
        go_ret2
        exact ⟨_, ret_vi HE.out.symm, by rw [HU.out]; exact own_base hown (by simp; omega), (B2.alloc s2 _).trans (hb3.mono (by simp; omega))⟩
    · have hd : (validate n m == 0) = false := by simpa using h'
      have hd' : (validate n m != 0) = true := by simpa using h'
      have HE := Lib.hid (show joinErr n l m = validate n m by rw [joinErr, if_neg (by simpa using h), if_pos h'])
      have HU := Lib.hid (show joinL n l m = [] by rw [joinL, HE.out, if_neg h'])
      clear h h'
      go_enter Try.func36, Try.ntmps36
      go_wp2_with fail
      refine H.out.mono ?_
      rw [HL.out]
      rintro e w1 ⟨rfl, hb1⟩
      have s1 := hb1.size
      go_wp2_with fail
      refine (pValidate n A' m.length c' m w1 (by omega) B (by omega) (hr'.below' hb1 hB)).mono ?_
      rintro e w2 ⟨rfl, hb2⟩
      go_wp2
      go_ret2
      exact ⟨_, ret_vi HE.out.symm, by rw [HU.out]; exact World.ownsRow_nil _ _ _ _, hb1.trans (hb2.mono s1)⟩
  · have hd : (validate n l == 0) = false := by simpa using h
    have hd' : (validate n l != 0) = true := by simpa using h
    have HE := Lib.hid (show joinErr n l m = validate n l by rw [joinErr, if_pos h])
    have HU := Lib.hid (show joinL n l m = [] by rw [joinL, HE.out, if_neg h])
    clear h
    go_enter Try.func36, Try.ntmps36
    go_wp2_with fail
    refine H.out.mono ?_
    rintro e w1 ⟨rfl, hb⟩
    go_wp2
    go_ret2
    exact ⟨_, ret_vi HE.out.symm, by rw [HU.out]; exact World.ownsRow_nil _ _ _ _, hb⟩

set_option maxRecDepth 100000 in
set_option maxHeartbeats 1000000 in
theorem rJoin (n : Int) (A A' : Option Addr) (k c k' c' : Nat) (l m : List HAct) (w : World) (hl : l.length ≤ 100) (hm : m.length ≤ 100) (B : Nat) (hB : B ≤ w.heap.size) (hr : Rd w B 3 A k (actCells l)) (hr' : Rd w B 3 A' k' (actCells m)) :
    Calls Try.prog 37 #[.int .i64 n, .slice A k c, .slice A' k' c'] w fun e w' => ∃ v, e = .returned (.tuple #[v, .int .i64 (joinErr n l m)]) ∧ w'.ownsRow w.heap.size 48 3 v (joinL n l m).length (actCells (joinL n l m)) ∧ Below w.heap.size w w' := by
  obtain rfl := hr.act_len
  obtain rfl := hr'.act_len
  have H := Lib.hid (rValidate n A l.length c l w (by omega) B hB hr)
  by_cases h : validate n l = 0
  · have HL := Lib.hid h
    by_cases h' : validate n m = 0
    · have HL' := Lib.hid h'
      by_cases h3 : 20 < l.length + m.length
      · have hd3 : decide ((20 : Int) < (l.length : Int) + (m.length : Int)) = true := by simp; omega
        have HE := Lib.hid (show joinErr n l m = 3 by rw [joinErr, if_neg (by simpa using h), if_neg (by simpa using h'), if_pos h3])
        have HU := Lib.hid (show joinL n l m = [] by rw [joinL, HE.out]; rfl)
        clear h h'
        go_enter Try.func37, Try.ntmps37
        go_wp2_with fail
        refine H.out.mono ?_
        rw [HL.out]
        rintro e w1 ⟨rfl, hb1⟩
        have s1 := hb1.size
        go_wp2_with fail
        refine (rValidate n A' m.length c' m w1 (by omega) B (by omega) (hr'.below' hb1 hB)).mono ?_
        rw [HL'.out]
        rintro e w2 ⟨rfl, hb2⟩
        go_wp2
        go_ret2
        exact ⟨_, ret_vi HE.out.symm, by rw [HU.out]; exact World.ownsRow_nil _ _ _ _, hb1.trans (hb2.mono s1)⟩
      · have hd3 : decide ((20 : Int) < (l.length : Int) + (m.length : Int)) = false := by simp; omega
        have HE := Lib.hid (show joinErr n l m = 0 by rw [joinErr, if_neg (by simpa using h), if_neg (by simpa using h'), if_neg h3])
        have HU := Lib.hid (show joinL n l m = l ++ m by rw [joinL, if_pos HE.out])
        clear h h'
        go_enter Try.func37, Try.ntmps37
        go_wp2_with fail
        refine H.out.mono ?_
        rw [HL.out]
        rintro e w1 ⟨rfl, hb1⟩
        have s1 := hb1.size
        go_wp2_with fail
        refine (rValidate n A' m.length c' m w1 (by omega) B (by omega) (hr'.below' hb1 hB)).mono ?_
        rw [HL'.out]
        rintro e w2 ⟨rfl, hb2⟩
        have B2 := hb1.trans (hb2.mono s1)
        have s2 := B2.size
        clear hb1 hb2
        have HO := Lib.hid (show (w2.alloc (.cells #[] 48)).ownsRow w.heap.size 48 3 (.slice (some ⟨w2.heap.size, 0, none⟩) 0 0) 0 [] from own_empty (blk_new w2 48 #[]) s2)
        have HB := Lib.hid (B2.alloc s2 (.cells #[] 48))
        have HR := (hr.below' B2 hB).alloc (by omega) (.cells #[] 48)
        have HR' := (hr'.below' B2 hB).alloc (by omega) (.cells #[] 48)
        have hB2 : B ≤ (w2.alloc (.cells #[] 48)).heap.size := by simp; omega
        have hs3 : w.heap.size ≤ (w2.alloc (.cells #[] 48)).heap.size := by simp; omega
        go_wp2_with (at_builtin; first | (refine appN rfl (.tmp 27) (.tmp 28) 22 rfl 48 _ 3 24 E22 w.heap.size _ _ _ rfl HO.out B A l.length c (actCells l) rfl HR (actCells_one _) (by omega) hs3 ?_; intro v3 w3 hown3 hg3; have hb3 := below_own HB.out hs3 HO.out (Nat.le_refl _) hg3; have s3 := hb3.size; have HR3 := HR'.grown hg3 hB2 (fun g h => by have := (HO.out.lt g h).1; omega)) | (refine appN rfl (.tmp 29) (.tmp 30) 22 rfl 48 _ 3 24 E22 w.heap.size _ _ _ rfl hown3 B A' m.length c' (actCells m) rfl HR3 (actCells_one _) (by omega) s3 ?_; intro v4 w4 hown4 hg4; have hb4 := below_own hb3 s3 hown3 (Nat.le_refl _) hg4))
        go_ret2
        exact ⟨_, ret_vi HE.out.symm, by rw [HU.out, List.length_append]; simpa [actCells] using hown4, hb4⟩
    · have hd : (validate n m == 0) = false := by simpa using h'
      have hd' : (validate n m != 0) = true := by simpa using h'
      have HE := Lib.hid (show joinErr n l m = validate n m by rw [joinErr, if_neg (by simpa using h), if_pos h'])
      have HU := Lib.hid (show joinL n l m = [] by rw [joinL, HE.out, if_neg h'])
      clear h h'
      go_enter Try.func37, Try.ntmps37
      go_wp2_with fail
      refine H.out.mono ?_
      rw [HL.out]
      rintro e w1 ⟨rfl, hb1⟩
      have s1 := hb1.size
      go_wp2_with fail
      refine (rValidate n A' m.length c' m w1 (by omega) B (by omega) (hr'.below' hb1 hB)).mono ?_
      rintro e w2 ⟨rfl, hb2⟩
      go_wp2
      go_ret2
      exact ⟨_, ret_vi HE.out.symm, by rw [HU.out]; exact World.ownsRow_nil _ _ _ _, hb1.trans (hb2.mono s1)⟩
  · have hd : (validate n l == 0) = false := by simpa using h
    have hd' : (validate n l != 0) = true := by simpa using h
    have HE := Lib.hid (show joinErr n l m = validate n l by rw [joinErr, if_pos h])
    have HU := Lib.hid (show joinL n l m = [] by rw [joinL, HE.out, if_neg h])
    clear h
    go_enter Try.func37, Try.ntmps37
    go_wp2_with fail
    refine H.out.mono ?_
    rintro e w1 ⟨rfl, hb⟩
    go_wp2
    go_ret2
    exact ⟨_, ret_vi HE.out.symm, by rw [HU.out]; exact World.ownsRow_nil _ _ _ _, hb⟩

theorem joinL_len (n : Int) (l m : List HAct) : (joinL n l m).length ≤ l.length + m.length := by
  unfold joinL
  split <;> simp
theorem join_law {n : Int} {l m : List HAct} (h : joinErr n l m = 0) : limited n l 5 = 0 ∧ limited n (joinL n l m) 5 = 0 ∧ cnt 5 cold l ≤ cnt 5 cold (joinL n l m) := by
  have hj : joinL n l m = l ++ m := by rw [joinL, if_pos h]
  have h1 : validate n l = 0 := by
    apply Classical.byContradiction
    intro e
    rw [joinErr, if_pos e] at h
    exact e h
  have h2 : validate n m = 0 := by
    apply Classical.byContradiction
    intro e
    rw [joinErr, if_neg (by simpa using h1), if_pos e] at h
    exact e h
  have h3 : ¬ 20 < l.length + m.length := by
    intro e
    rw [joinErr, if_neg (by simpa using h1), if_neg (by simpa using h2), if_pos e] at h
    omega
  obtain ⟨a1, a2, a3, a4⟩ := validate_ok h1
  obtain ⟨_, _, _, b4⟩ := validate_ok h2
  have hv : validate n (l ++ m) = 0 := by
    rw [validate, if_pos ⟨a1, a2⟩, if_neg (by rw [List.length_append]; exact h3), if_pos]
    rw [areActs_iff] at *
    intro a ha
    rcases List.mem_append.1 ha with e | e
    · exact a4 a e
    · exact b4 a e
  refine ⟨by rw [limited, if_pos h1]; rfl, by rw [hj, limited, if_pos hv]; rfl, ?_⟩
  rw [hj]
  exact cnt_le_append 5 l m cold
end Go.Proofs.Ytkeolmipdoeljaa

