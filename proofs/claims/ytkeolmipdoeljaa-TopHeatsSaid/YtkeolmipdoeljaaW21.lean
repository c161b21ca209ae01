/-
  WALKS: states: the heats of all ions before and after each act.
-/
import Derived.Test.YtkeolmipdoeljaaW20
namespace Go.Proofs.Ytkeolmipdoeljaa
open Go.RowKit Heat

/-- The numbers h 0, .., h (n - 1). -/
def hts (n : Nat) (h : Int → Int) : List Int := (List.range n).map fun j => h (j : Nat)
theorem hts_len (n : Nat) (h : Int → Int) : (hts n h).length = n := by simp [hts]
theorem hts_get (n : Nat) (h : Int → Int) (j : Nat) (hj : j < n) : (ints (hts n h))[j]? = some (.int .i64 (h j)) := by simp [hts, hj]
theorem hts_put (n : Nat) (h : Int → Int) (a : HAct) (h0 : 0 ≤ a.ion) : (ints (hts n h)).set a.ion.toNat (.int .i64 (Heat.step a (h a.ion))) = ints (hts n (put h a)) := by
  apply List.ext_getElem?
  intro j
  rw [List.getElem?_set]
  by_cases hj : j < n
  · rw [hts_get n _ j hj, hts_get n _ j hj]
    by_cases e : a.ion.toNat = j
    · rw [if_pos e, if_pos (by simp [hts_len]; omega)]
      have e2 : (j : Int) = a.ion := by omega
      rw [e2]
      congr 2
      unfold put
      rw [if_pos rfl]
    · rw [if_neg e]
      congr 2
      unfold put
      rw [if_neg (by omega)]
  · have l1 : (ints (hts n h))[j]? = none := List.getElem?_eq_none (by simp [hts_len]; omega)
    have l2 : (ints (hts n (put h a)))[j]? = none := List.getElem?_eq_none (by simp [hts_len]; omega)
    rw [l1, l2]
    split
    · rename_i e; rw [if_neg (by simp [hts_len]; omega)]
    · rfl

theorem q34 (w : World) (a : Option Addr) (n c n' c' : Nat) : (binOp .eql 34 (.slice a n c) (.slice none n' c')).run Try.prog w = .ok (.bool a.isNone) w := Lib.run_eql_slice_nil w _ _ a n c n' c' Try.underlying34
theorem ints_one' (l : List Int) : ((ints l).all fun u => u.oneCell') = true := by simp [List.all_eq_true, Value.oneCell']

set_option maxRecDepth 100000 in
/-- slices.Clone of ints, not nil. -/
theorem pCloneInts (a : Addr) (k c : Nat) (l : List Int) (w : World) (hl : l.length ≤ 1000) (B : Nat) (hB : B ≤ w.heap.size) (hr : Rd w B 1 (some a) k (ints l)) :
    Calls Try.prog 74 #[.slice (some a) k c] w fun e w' => ∃ v, e = .returned v ∧ w'.ownsRow w.heap.size 3 1 v k (ints l) ∧ Below w.heap.size w w' := by
  obtain rfl := hr.int_len
  have qT := q34
  have HO := Lib.hid (show (w.alloc (.cells #[] 3)).ownsRow w.heap.size 3 1 (.slice (some ⟨w.heap.size, 0, none⟩) 0 0) 0 [] from own_empty (blk_new w 3 #[]) (Nat.le_refl _))
  have HB := Lib.hid ((Below.refl w.heap.size w).alloc (Nat.le_refl _) (.cells #[] 3))
  have HR := hr.alloc hB (.cells #[] 3)
  go_enter Try.func74, Try.ntmps74
  go_wp2_with (at_builtin; go_must (refine appN rfl (.tmp 5) (.tmp 6) 34 rfl 3 _ 1 8 E34 w.heap.size _ _ _ rfl HO.out B (some a) l.length c (ints l) rfl HR (ints_one' _) (by omega) (by simp) ?_); intro v4 w4 hown4 hg4)
  go_ret
  exact ⟨_, rfl, by simpa using hown4, below_own HB.out (by simp) HO.out (Nat.le_refl _) hg4⟩

theorem changeWarm (x h : Int) (w : World) (h0 : 0 ≤ x ∧ x ≤ 100) (h1 : 0 ≤ h ∧ h ≤ 1000000) : Calls Try.prog 107 #[.int .i64 x, .int .i64 h] w fun e w' => e = .returned (.int .i64 (h + x)) ∧ Below w.heap.size w w' := by
  go_enter Try.func107, Try.ntmps107
  go_wp2
  go_ret
  exact ⟨rfl, Below.refl _ _⟩
theorem changeCool (h : Int) (w : World) : Calls Try.prog 108 #[.agg #[], .int .i64 h] w fun e w' => e = .returned (.int .i64 0) ∧ Below w.heap.size w w' := by
  go_enter Try.func108, Try.ntmps108
  go_wp2
  go_ret
  exact ⟨rfl, (Below.refl _ _).alloc (Nat.le_refl _) _⟩

theorem nilWarm (x : Int) (w : World) : (nilAhead 229 95 (.int .i64 x) "quadrupole/heat.change").run Try.prog w = .ok (some false) w := by kernel_rfl
theorem methWarm (x : Int) (w : World) : (method 229 95 (.int .i64 x) "quadrupole/heat.change").run Try.prog w = .ok (107, .int .i64 x) w := by kernel_rfl
theorem nilCool (w : World) : (nilAhead 229 97 (.agg #[]) "quadrupole/heat.change").run Try.prog w = .ok (some false) w := by kernel_rfl
theorem methCool (w : World) : (method 229 97 (.agg #[]) "quadrupole/heat.change").run Try.prog w = .ok (108, .agg #[]) w := by kernel_rfl

theorem E82 : EOk Try.prog 82 85 (.agg #[.int .i64 0, .int .i64 0, .int .i64 0, .slice none 0 0, .slice none 0 0]) 5 72 :=
  ⟨Try.underlying82, by
    obtain ⟨i, h1, h2, h3, h4⟩ := info_parts (show (Try.prog.info? 85).map (fun i => (i.zero, i.size, i.bytes)) = some (some (.agg #[.int .i64 0, .int .i64 0, .int .i64 0, .slice none 0 0, .slice none 0 0]), 5, 72) by kernel_rfl)
    exact ⟨i, h1, h2, h3, h4⟩, rfl, by decide, by decide⟩

/-- A state: an act, the heats before and after it, as slices. -/
structure St where
  act : HAct
  bef : Value
  aft : Value
def stCell (s : St) : List Value := [.int .i64 s.act.kind, .int .i64 s.act.ion, .int .i64 s.act.heat, s.bef, s.aft]
def stCells (ss : List St) : List Value := ss.flatMap stCell
theorem stCells_snoc (ss : List St) (s : St) : stCells (ss ++ [s]) = stCells ss ++ stCell s := by simp [stCells]
/-- A slice of the heats h of all n ions, in a block of the call's own. -/
abbrev HRow (w : World) (base n : Nat) (v : Value) (h : Int → Int) : Prop := w.ownsRow base 3 1 v n (ints (hts n h))
def SOk (w : World) (base n : Nat) (l : List HAct) (ss : List St) : Prop :=
  ss.length ≤ l.length ∧ ∀ i (hi : i < ss.length) (hl : i < l.length), ss[i].act = l[i] ∧ HRow w base n ss[i].bef (heats cold (l.take i)) ∧ HRow w base n ss[i].aft (heats cold (l.take (i + 1)))

theorem SOk.keep {w w' : World} {base n : Nat} {l : List HAct} {ss : List St} (h : SOk w base n l ss) (hk : ∀ (g : Nat) (cur : Array Value), w.heap[g]? = some (Obj.cells cur 3 (0, 0)) → w'.heap[g]? = w.heap[g]?) : SOk w' base n l ss := by
  have hr : ∀ v h, HRow w base n v h → HRow w' base n v h := by
    intro v h hh
    refine own_keep hh fun g hg => ?_
    rcases hh.2 with ⟨rfl, _⟩ | ⟨g', cap, cur, rfl, _, hgg, _⟩
    · simp [Value.ownBlock] at hg
    · simp [Value.ownBlock] at hg
      subst hg
      exact hk _ _ hgg
  exact ⟨h.1, fun i hi hl => ⟨(h.2 i hi hl).1, hr _ _ (h.2 i hi hl).2.1, hr _ _ (h.2 i hi hl).2.2⟩⟩
theorem hrow_form {w : World} {base n : Nat} {v : Value} {h : Int → Int} (hh : HRow w base n v h) (hn : 0 < n) : ∃ g c cur, v = .slice (some ⟨g, 0, none⟩) n c ∧ base ≤ g ∧ w.heap[g]? = some (.cells cur 3 (0, 0)) := by
  rcases hh.2 with ⟨_, e⟩ | ⟨g', cap, cur, rfl, hb, hgg, _⟩
  · omega
  · exact ⟨g', cap, cur, rfl, hb, hgg⟩
theorem made_row (w : World) (n : Nat) (hn : n ≤ 1000) : HRow (w.alloc (.cells (madeCells #[.int .i64 0] n) 3)) w.heap.size n (.slice (some ⟨w.heap.size, 0, none⟩) n n) cold := by
  refine ⟨by simp [hts_len], .inr ⟨w.heap.size, n, _, rfl, Nat.le_refl _, blk_new w 3 _, Nat.le_refl _, by unfold maxLen; omega, by rw [size_madeCells]; simp, ?_⟩⟩
  have e : n * 1 = n := by omega
  rw [toList_madeCells_one, e, List.take_of_length_le (by simp)]
  rw [show ints (hts n cold) = (List.range n).map fun _ => Value.int .i64 0 by simp [hts, cold]]
  apply List.ext_getElem <;> simp

theorem kind_ne {w : World} {base n : Nat} {v : Value} {xs : List Value} (h : w.ownsRow base 85 5 v n xs) {g : Nat} {cur : Array Value} (hg : w.heap[g]? = some (Obj.cells cur 3 (0, 0))) : some g ≠ v.ownBlock := by
  intro e
  rcases h.2 with ⟨rfl, _⟩ | ⟨g', cap, cur', rfl, _, hgg, _⟩
  · simp [Value.ownBlock] at e
  · simp [Value.ownBlock] at e
    subst e
    rw [hg] at hgg
    simp at hgg
theorem hrow_keep {w w' : World} {base n : Nat} {v : Value} {h : Int → Int} (hh : HRow w base n v h) (hk : ∀ (g : Nat) (cur : Array Value), w.heap[g]? = some (Obj.cells cur 3 (0, 0)) → w'.heap[g]? = w.heap[g]?) : HRow w' base n v h := by
  refine own_keep hh fun g hg => ?_
  rcases hh.2 with ⟨rfl, _⟩ | ⟨g', cap, cur, rfl, _, hgg, _⟩
  · simp [Value.ownBlock] at hg
  · simp [Value.ownBlock] at hg
    subst hg
    exact hk _ _ hgg
theorem SOk.snoc {w : World} {base n q : Nat} {l : List HAct} {ss : List St} (h : SOk w base n l ss) (hq : ss.length = q) (hlt : q < l.length) {s : St} (hs : s.act = l[q]) (h1 : HRow w base n s.bef (heats cold (l.take q))) (h2 : HRow w base n s.aft (heats cold (l.take (q + 1)))) : SOk w base n l (ss ++ [s]) := by
  refine ⟨by simp; omega, fun i hi hl => ?_⟩
  by_cases e : i < ss.length
  · rw [List.getElem_append_left e]
    exact h.2 i e hl
  · obtain rfl : i = ss.length := by simp at hi; omega
    subst hq
    rw [List.getElem_append_right (Nat.le_refl _)]
    simp only [Nat.sub_self, List.getElem_cons_zero]
    exact ⟨hs, h1, h2⟩

set_option maxRecDepth 100000 in
set_option maxHeartbeats 4000000 in
theorem pStates (n : Nat) (A : Option Addr) (k c : Nat) (l : List HAct) (w : World) (hn : 1 ≤ n) (hn' : n ≤ 100) (hl : l.length ≤ 1000) (hv : areActs n l = true) (B : Nat) (hB : B ≤ w.heap.size) (hr : Rd w B 3 A k (actCells l)) :
    Calls Try.prog 73 #[.int .i64 n, .slice A k c] w fun e w' => ∃ v ss, e = .returned v ∧ ss.length = l.length ∧ w'.ownsRow w.heap.size 85 5 v l.length (stCells ss) ∧ SOk w' w.heap.size n l ss ∧ Below w.heap.size w w' := by
  obtain rfl := hr.act_len
  have HM := Lib.hid (mild_of hv)
  have HA := Lib.hid (areActs_iff.1 hv)
  clear hv
  have HMR := Lib.hid (made_row w n (by omega))
  have HB0 := Lib.hid ((Below.refl w.heap.size w).alloc (Nat.le_refl _) (.cells (madeCells #[.int .i64 0] n) 3))
  obtain ⟨i3, hi3, hz0, hz1, hz2⟩ := E34.info
  have n1 := nilWarm
  have n2 := methWarm
  have n3 := nilCool
  have n4 := methCool
  have hmk := fun W => run_make_row' (P := Try.prog) 34 3 (.int .i64 0) 8 Try.underlying34 (show (Try.prog.info? 3).map (fun i => (i.zero, i.size, i.bytes)) = some (some (.int .i64 0), 1, 8) by kernel_rfl) rfl .i64 .i64 n (by omega) (by omega) W
  go_enter Try.func73, Try.ntmps73
  go_wp2
  go_loopw [5, 6, 14] (fun hvv v i wr => ∃ (q : Nat) (ss : List St), i = .int .i64 q ∧ q ≤ l.length ∧ ss.length = q ∧ wr.ownsRow w.heap.size 85 5 v q (stCells ss) ∧ SOk wr w.heap.size n l ss ∧ HRow wr w.heap.size n hvv (heats cold (l.take q)) ∧ Below w.heap.size w wr) (fun _ _ i _ => l.length - (intOf i).toNat)
  case atStart => exact ⟨0, [], rfl, Nat.zero_le _, rfl, World.ownsRow_nil _ _ _ _, ⟨Nat.zero_le _, fun i hi => absurd hi (by simp)⟩, HMR.out, HB0.out⟩
  case round =>
    obtain ⟨q, ss, rfl, hq, hss, hown, hok, hrow, hb⟩ := hrel
    have hsz := hb.size
    by_cases hlt : q < l.length
    · obtain ⟨b', off', rfl, hbb', k0, k1, k2⟩ := (hr.below' hb hB).act hlt
      have hx := HM.out _ (List.getElem_mem hlt)
      have hy := HA.out _ (List.getElem_mem hlt)
      simp only [isAct, decide_eq_true_eq] at hy
      obtain ⟨_, _, hi0, hi1, _, _, _⟩ := hy
      have hbd := heats_cold_bd (l.take q) (HM.out.take q) l[q].ion
      have hlq : (l.take q).length ≤ 1000 := by rw [List.length_take]; omega
      obtain ⟨g, ch, cur, rfl, hg0, hgg⟩ := hrow_form hrow (by omega)
      have hin : l[q].ion.toNat < n := by omega
      have hc : wr.cell? ⟨g, l[q].ion.toNat, none⟩ = some (.int .i64 (heats cold (l.take q) l[q].ion)) := by
        have h1 := hrow.cellAt l[q].ion.toNat (by omega)
        rw [hts_get _ _ _ hin, Int.toNat_of_nonneg hi0] at h1
        exact h1
      have hgl := blk_lt hgg
      have HX := Lib.hid (rfl : l[q] = l[q])
      have HS := Lib.hid (heats_take cold l q hlt)
      have HGG := Lib.hid hgg
      have HROW := Lib.hid hrow
      have HOWN := Lib.hid hown
      have HOK := Lib.hid hok
      have HB1 := Lib.hid (hb.alloc hsz (.cells #[.int .i64 l[q].kind, .int .i64 l[q].ion, .int .i64 l[q].heat] 48))
      have hbx := blk_new wr 48 #[.int .i64 l[q].kind, .int .i64 l[q].ion, .int .i64 l[q].heat]
      have HBX := Lib.hid hbx
      have hrd := Rd.of_own (hrow.alloc (.cells #[.int .i64 l[q].kind, .int .i64 l[q].ion, .int .i64 l[q].heat] 48))
      clear hgg hrow hown hok hbx
      obtain ⟨hh, hhe⟩ : ∃ x, x = heats cold (l.take q) l[q].ion := ⟨_, rfl⟩
      rw [← hhe] at hc hbd
      have HHE := Lib.hid hhe
      clear hhe
      have HSS := Lib.hid hss
      have HBR := Lib.hid ((Below.refl wr.heap.size wr).alloc (Nat.le_refl _) (.cells #[.int .i64 l[q].kind, .int .i64 l[q].ion, .int .i64 l[q].heat] 48))
      clear hss
      by_cases hkd : l[q].kind = 2
      · have HKD := Lib.hid hkd
        have HST := Lib.hid (show Heat.step l[q] hh = 0 from by rw [Heat.step, if_pos hkd])
        clear hkd
        go_wp2_with fail
        refine (pCloneInts _ n ch _ _ (by rw [hts_len]; omega) _ (Nat.le_refl _) hrd).mono ?_
        rintro e w2 ⟨v9, rfl, hown9, hb2⟩
        obtain ⟨g9, c9, cur9, rfl, hg9, hgg9⟩ := hrow_form hown9 (by omega)
        have s2 := hb2.size
        simp only [World.size_alloc] at hb2 s2 hg9 hown9
        have x2 := blk_below HBX.out hb2 (by omega)
        have x0 : w2.cell? ⟨wr.heap.size, 0, none⟩ = some (.int .i64 l[q].kind) := blk_cell x2 0
        have x1 : w2.cell? ⟨wr.heap.size, 1, none⟩ = some (.int .i64 l[q].ion) := blk_cell x2 1
        have x3 : w2.cell? ⟨wr.heap.size, 2, none⟩ = some (.int .i64 l[q].heat) := blk_cell x2 2
        have y0 : w2.cell? ⟨g, l[q].ion.toNat, none⟩ = some (.int .i64 hh) := (hb2.cell (p := ⟨g, l[q].ion.toNat, none⟩) (show g < wr.heap.size + 1 by omega)).trans ((World.cell?_alloc_lt wr (.cells #[.int .i64 l[q].kind, .int .i64 l[q].ion, .int .i64 l[q].heat] 48) ⟨g, l[q].ion.toNat, none⟩ hgl).trans hc)
        have y9 : w2.cell? ⟨g9, l[q].ion.toNat, none⟩ = some (.int .i64 hh) := by
          have h1 := hown9.cellAt l[q].ion.toNat (by omega)
          rw [hts_get _ _ _ hin, Int.toNat_of_nonneg hi0] at h1
          rw [h1, HHE.out]
        have f9 : w2.frozen? ⟨g9, l[q].ion.toNat, none⟩ = false := own_frozen hown9 _
        have L0 : wr.heap.size < w2.heap.size := by omega
        have L1 : g < w2.heap.size := by omega
        have L9 : g9 < w2.heap.size := blk_lt hgg9
        have N0 : ¬ wr.heap.size = g9 := by omega
        have N1 : ¬ g = g9 := by omega
        have HG9 := Lib.hid hgg9
        have HO9 := Lib.hid hown9
        have HX2 := Lib.hid x2
        clear x2 hgg9 hown9 hc hrd
        have hi2 : l[q].ion < (n : Int) := by omega
        go_wp2
        go_region_held3 (fun w' => w'.cell? ⟨wr.heap.size, 0, none⟩ = some (.int .i64 l[q].kind) ∧ w'.cell? ⟨wr.heap.size, 1, none⟩ = some (.int .i64 l[q].ion) ∧ w'.cell? ⟨wr.heap.size, 2, none⟩ = some (.int .i64 l[q].heat) ∧ w'.cell? ⟨g, l[q].ion.toNat, none⟩ = some (.int .i64 hh))
          (first | go_keep | (exact ⟨(hb3.cell (p := ⟨wr.heap.size, 0, none⟩) L0).trans x0, (hb3.cell (p := ⟨wr.heap.size, 1, none⟩) L0).trans x1, (hb3.cell (p := ⟨wr.heap.size, 2, none⟩) L0).trans x3, (hb3.cell (p := ⟨g, l[q].ion.toNat, none⟩) L1).trans y0⟩) | (exact ⟨(World.cell?_setCell_other _ _ _ _ (fun e => by simp at e <;> omega)).trans ((hb3.cell (p := ⟨wr.heap.size, 0, none⟩) L0).trans x0), (World.cell?_setCell_other _ _ _ _ (fun e => by simp at e <;> omega)).trans ((hb3.cell (p := ⟨wr.heap.size, 1, none⟩) L0).trans x1), (World.cell?_setCell_other _ _ _ _ (fun e => by simp at e <;> omega)).trans ((hb3.cell (p := ⟨wr.heap.size, 2, none⟩) L0).trans x3), (World.cell?_setCell_other _ _ _ _ (fun e => by simp at e <;> omega)).trans ((hb3.cell (p := ⟨g, l[q].ion.toNat, none⟩) L1).trans y0)⟩))
          (first | (go_at_call 81; refine (pread_cool l[q] _ HKD.out).mono ?_; rintro e w3 ⟨rfl, hb3⟩) | ((go_at_call 108; refine (changeCool _ _).mono ?_); rintro e w4 ⟨rfl, hb4⟩; have hb3 := hb3.trans (hb4.mono hb3.size); have y10 := (hb3.cell (p := ⟨g9, l[q].ion.toNat, none⟩) L9).trans y9; have f10 := (hb3.frozen (p := ⟨g9, l[q].ion.toNat, none⟩) L9).trans f9))
        have hb3 : Below w2.heap.size w2 w4 := ((Below.refl w2.heap.size w2).drew).trans hb3
        have s4 := hb3.size
        have HW := Lib.hid ((((HBR.out.trans (hb2.mono (by omega))).trans (hb3.mono (by omega))).setCell (p := ⟨g9, l[q].ion.toNat, none⟩) (show wr.heap.size ≤ g9 by omega) (.int .i64 (0))))
        have HO4 := Lib.hid (own_set (j := l[q].ion.toNat) (own_below HO9.out hb3) (.int .i64 (0)))
        have hownW := own_below HOWN.out HW.out
        have hokW := HOK.out.keep fun g cur hg => HW.out.block g (blk_lt hg)
        have hrowW := own_below HROW.out HW.out
        have z0 : (w4.setCell ⟨g9, l[q].ion.toNat, none⟩ (.int .i64 (0))).cell? ⟨wr.heap.size, 0, none⟩ = some (.int .i64 l[q].kind) := (World.cell?_setCell_other _ _ _ _ (fun e => by simp at e <;> omega)).trans ((hb3.cell (p := ⟨wr.heap.size, 0, none⟩) L0).trans x0)
        have z1 : (w4.setCell ⟨g9, l[q].ion.toNat, none⟩ (.int .i64 (0))).cell? ⟨wr.heap.size, 1, none⟩ = some (.int .i64 l[q].ion) := (World.cell?_setCell_other _ _ _ _ (fun e => by simp at e <;> omega)).trans ((hb3.cell (p := ⟨wr.heap.size, 1, none⟩) L0).trans x1)
        have z2 : (w4.setCell ⟨g9, l[q].ion.toNat, none⟩ (.int .i64 (0))).cell? ⟨wr.heap.size, 2, none⟩ = some (.int .i64 l[q].heat) := (World.cell?_setCell_other _ _ _ _ (fun e => by simp at e <;> omega)).trans ((hb3.cell (p := ⟨wr.heap.size, 2, none⟩) L0).trans x3)
        have HBW := Lib.hid (hb.trans (HW.out.mono hsz))
        have hszW := HBW.out.size
        have HOKW := Lib.hid hokW
        have HROWW := Lib.hid hrowW
        clear hokW hrowW
        generalize w4.setCell ⟨g9, l[q].ion.toNat, none⟩ (.int .i64 (0)) = W at *
        have HOW := Lib.hid hownW
        go_wp2_with (at_builtin; go_must (refine app1 rfl (.tmp 35) (.tmp 40) 82 rfl 85 _ 5 72 E82 w.heap.size _ _ _ _ rfl hownW _ rfl ?_ ?_ ?_ ?_ ?_ ?_); rfl; rfl; rfl; omega; omega; intro v5 w6 hown6 hg6)
        have hkeep : ∀ (g : Nat) (cur : Array Value), W.heap[g]? = some (Obj.cells cur 3 (0, 0)) → w6.heap[g]? = W.heap[g]? := fun g cur hg => hg6.block g (blk_lt hg) (kind_ne HOW.out hg)
        have hrow3 := fun (v : Value) (h : Int → Int) (hh : HRow W w.heap.size n v h) => hrow_keep hh hkeep
        have r1 := hrow3 _ _ HROWW.out
        have HA9 : HRow W w.heap.size n (.slice (some ⟨g9, 0, none⟩) n c9) (heats cold (l.take (q + 1))) := by
          have h1 := own_base HO4.out (show w.heap.size ≤ wr.heap.size + 1 by omega)
          rw [← HST.out, HHE.out, hts_put n _ _ hi0, ← HS.out] at h1
          exact h1
        have r2 := hrow3 _ _ HA9
        have hok6 := SOk.snoc (s := ⟨l[q], .slice (some ⟨g, 0, none⟩) n ch, .slice (some ⟨g9, 0, none⟩) n c9⟩) (HOKW.out.keep hkeep) HSS.out hlt rfl r1 r2
        go_roundw
        case rel => exact ⟨q + 1, ss ++ [⟨l[q], .slice (some ⟨g, 0, none⟩) n ch, .slice (some ⟨g9, 0, none⟩) n c9⟩], by go_num, by omega, by rw [List.length_append, HSS.out]; rfl, by rw [stCells_snoc]; exact hown6, hok6, r2, below_own HBW.out hszW HOW.out (Nat.le_refl _) hg6⟩
        case measure => simp [intOf]; omega
      · have HKD := Lib.hid hkd
        have HST := Lib.hid (show Heat.step l[q] hh = hh + l[q].heat from by rw [Heat.step, if_neg hkd])
        clear hkd
        go_wp2_with fail
        refine (pCloneInts _ n ch _ _ (by rw [hts_len]; omega) _ (Nat.le_refl _) hrd).mono ?_
        rintro e w2 ⟨v9, rfl, hown9, hb2⟩
        obtain ⟨g9, c9, cur9, rfl, hg9, hgg9⟩ := hrow_form hown9 (by omega)
        have s2 := hb2.size
        simp only [World.size_alloc] at hb2 s2 hg9 hown9
        have x2 := blk_below HBX.out hb2 (by omega)
        have x0 : w2.cell? ⟨wr.heap.size, 0, none⟩ = some (.int .i64 l[q].kind) := blk_cell x2 0
        have x1 : w2.cell? ⟨wr.heap.size, 1, none⟩ = some (.int .i64 l[q].ion) := blk_cell x2 1
        have x3 : w2.cell? ⟨wr.heap.size, 2, none⟩ = some (.int .i64 l[q].heat) := blk_cell x2 2
        have y0 : w2.cell? ⟨g, l[q].ion.toNat, none⟩ = some (.int .i64 hh) := (hb2.cell (p := ⟨g, l[q].ion.toNat, none⟩) (show g < wr.heap.size + 1 by omega)).trans ((World.cell?_alloc_lt wr (.cells #[.int .i64 l[q].kind, .int .i64 l[q].ion, .int .i64 l[q].heat] 48) ⟨g, l[q].ion.toNat, none⟩ hgl).trans hc)
        have y9 : w2.cell? ⟨g9, l[q].ion.toNat, none⟩ = some (.int .i64 hh) := by
          have h1 := hown9.cellAt l[q].ion.toNat (by omega)
          rw [hts_get _ _ _ hin, Int.toNat_of_nonneg hi0] at h1
          rw [h1, HHE.out]
        have f9 : w2.frozen? ⟨g9, l[q].ion.toNat, none⟩ = false := own_frozen hown9 _
        have L0 : wr.heap.size < w2.heap.size := by omega
        have L1 : g < w2.heap.size := by omega
        have L9 : g9 < w2.heap.size := blk_lt hgg9
        have N0 : ¬ wr.heap.size = g9 := by omega
        have N1 : ¬ g = g9 := by omega
        have HG9 := Lib.hid hgg9
        have HO9 := Lib.hid hown9
        have HX2 := Lib.hid x2
        clear x2 hgg9 hown9 hc hrd
        have hi2 : l[q].ion < (n : Int) := by omega
        go_wp2
        go_region_held3 (fun w' => w'.cell? ⟨wr.heap.size, 0, none⟩ = some (.int .i64 l[q].kind) ∧ w'.cell? ⟨wr.heap.size, 1, none⟩ = some (.int .i64 l[q].ion) ∧ w'.cell? ⟨wr.heap.size, 2, none⟩ = some (.int .i64 l[q].heat) ∧ w'.cell? ⟨g, l[q].ion.toNat, none⟩ = some (.int .i64 hh))
          (first | go_keep | (exact ⟨(hb3.cell (p := ⟨wr.heap.size, 0, none⟩) L0).trans x0, (hb3.cell (p := ⟨wr.heap.size, 1, none⟩) L0).trans x1, (hb3.cell (p := ⟨wr.heap.size, 2, none⟩) L0).trans x3, (hb3.cell (p := ⟨g, l[q].ion.toNat, none⟩) L1).trans y0⟩) | (exact ⟨(World.cell?_setCell_other _ _ _ _ (fun e => by simp at e <;> omega)).trans ((hb3.cell (p := ⟨wr.heap.size, 0, none⟩) L0).trans x0), (World.cell?_setCell_other _ _ _ _ (fun e => by simp at e <;> omega)).trans ((hb3.cell (p := ⟨wr.heap.size, 1, none⟩) L0).trans x1), (World.cell?_setCell_other _ _ _ _ (fun e => by simp at e <;> omega)).trans ((hb3.cell (p := ⟨wr.heap.size, 2, none⟩) L0).trans x3), (World.cell?_setCell_other _ _ _ _ (fun e => by simp at e <;> omega)).trans ((hb3.cell (p := ⟨g, l[q].ion.toNat, none⟩) L1).trans y0)⟩))
          (first | (go_at_call 81; refine (pread_warm l[q] _ HKD.out).mono ?_; rintro e w3 ⟨rfl, hb3⟩) | ((go_at_call 107; refine (changeWarm _ _ _ hx (by omega)).mono ?_); rintro e w4 ⟨rfl, hb4⟩; have hb3 := hb3.trans (hb4.mono hb3.size); have y10 := (hb3.cell (p := ⟨g9, l[q].ion.toNat, none⟩) L9).trans y9; have f10 := (hb3.frozen (p := ⟨g9, l[q].ion.toNat, none⟩) L9).trans f9))
        have hb3 : Below w2.heap.size w2 w4 := ((Below.refl w2.heap.size w2).drew).trans hb3
        have s4 := hb3.size
        have HW := Lib.hid ((((HBR.out.trans (hb2.mono (by omega))).trans (hb3.mono (by omega))).setCell (p := ⟨g9, l[q].ion.toNat, none⟩) (show wr.heap.size ≤ g9 by omega) (.int .i64 (hh + l[q].heat))))
        have HO4 := Lib.hid (own_set (j := l[q].ion.toNat) (own_below HO9.out hb3) (.int .i64 (hh + l[q].heat)))
        have hownW := own_below HOWN.out HW.out
        have hokW := HOK.out.keep fun g cur hg => HW.out.block g (blk_lt hg)
        have hrowW := own_below HROW.out HW.out
        have z0 : (w4.setCell ⟨g9, l[q].ion.toNat, none⟩ (.int .i64 (hh + l[q].heat))).cell? ⟨wr.heap.size, 0, none⟩ = some (.int .i64 l[q].kind) := (World.cell?_setCell_other _ _ _ _ (fun e => by simp at e <;> omega)).trans ((hb3.cell (p := ⟨wr.heap.size, 0, none⟩) L0).trans x0)
        have z1 : (w4.setCell ⟨g9, l[q].ion.toNat, none⟩ (.int .i64 (hh + l[q].heat))).cell? ⟨wr.heap.size, 1, none⟩ = some (.int .i64 l[q].ion) := (World.cell?_setCell_other _ _ _ _ (fun e => by simp at e <;> omega)).trans ((hb3.cell (p := ⟨wr.heap.size, 1, none⟩) L0).trans x1)
        have z2 : (w4.setCell ⟨g9, l[q].ion.toNat, none⟩ (.int .i64 (hh + l[q].heat))).cell? ⟨wr.heap.size, 2, none⟩ = some (.int .i64 l[q].heat) := (World.cell?_setCell_other _ _ _ _ (fun e => by simp at e <;> omega)).trans ((hb3.cell (p := ⟨wr.heap.size, 2, none⟩) L0).trans x3)
        have HBW := Lib.hid (hb.trans (HW.out.mono hsz))
        have hszW := HBW.out.size
        have HOKW := Lib.hid hokW
        have HROWW := Lib.hid hrowW
        clear hokW hrowW
        generalize w4.setCell ⟨g9, l[q].ion.toNat, none⟩ (.int .i64 (hh + l[q].heat)) = W at *
        have HOW := Lib.hid hownW
        go_wp2_with (at_builtin; go_must (refine app1 rfl (.tmp 35) (.tmp 40) 82 rfl 85 _ 5 72 E82 w.heap.size _ _ _ _ rfl hownW _ rfl ?_ ?_ ?_ ?_ ?_ ?_); rfl; rfl; rfl; omega; omega; intro v5 w6 hown6 hg6)
        have hkeep : ∀ (g : Nat) (cur : Array Value), W.heap[g]? = some (Obj.cells cur 3 (0, 0)) → w6.heap[g]? = W.heap[g]? := fun g cur hg => hg6.block g (blk_lt hg) (kind_ne HOW.out hg)
        have hrow3 := fun (v : Value) (h : Int → Int) (hh : HRow W w.heap.size n v h) => hrow_keep hh hkeep
        have r1 := hrow3 _ _ HROWW.out
        have HA9 : HRow W w.heap.size n (.slice (some ⟨g9, 0, none⟩) n c9) (heats cold (l.take (q + 1))) := by
          have h1 := own_base HO4.out (show w.heap.size ≤ wr.heap.size + 1 by omega)
          rw [← HST.out, HHE.out, hts_put n _ _ hi0, ← HS.out] at h1
          exact h1
        have r2 := hrow3 _ _ HA9
        have hok6 := SOk.snoc (s := ⟨l[q], .slice (some ⟨g, 0, none⟩) n ch, .slice (some ⟨g9, 0, none⟩) n c9⟩) (HOKW.out.keep hkeep) HSS.out hlt rfl r1 r2
        go_roundw
        case rel => exact ⟨q + 1, ss ++ [⟨l[q], .slice (some ⟨g, 0, none⟩) n ch, .slice (some ⟨g9, 0, none⟩) n c9⟩], by go_num, by omega, by rw [List.length_append, HSS.out]; rfl, by rw [stCells_snoc]; exact hown6, hok6, r2, below_own HBW.out hszW HOW.out (Nat.le_refl _) hg6⟩
        case measure => simp [intOf]; omega
    · obtain rfl : q = l.length := by omega
      go_wp2
      go_ret
      exact ⟨_, ss, rfl, hss, hown, hok, hb⟩
end Go.Proofs.Ytkeolmipdoeljaa
