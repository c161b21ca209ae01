/-
  WALKS: Windows of the program.
-/
import Derived.Test.YtkeolmipdoeljaaW31
import Derived.Test.YtkeolmipdoeljaaQTail2
import Derived.BigRegion
namespace Go.Proofs.Ytkeolmipdoeljaa
open Go.RowKit Heat

theorem gh_bd (L : Int) (l : List HAct) (hm : Mild l) : ∀ (h : Int → Int) (B : Int), (∀ j, 0 ≤ h j ∧ h j ≤ B) → 0 ≤ B → ∀ j, 0 ≤ gh L h l j ∧ gh L h l j ≤ B + 100 * l.length := by
  induction l with
  | nil => intro h B hh _ j; have := hh j; simp only [gh, List.length_nil]; omega
  | cons a l ih =>
    intro h B hh hB j
    have ha := hm a (by simp)
    rw [gh_cons]
    have := ih (fun b hb => hm b (by simp [hb])) (ghStep L h a) (B + 100) (fun j => by
      by_cases e : a.ion = j
      · subst e
        have := hh a.ion
        rw [ghStep_own, Heat.step]
        split
        · omega
        · split <;> omega
      · rw [ghStep_other L h a j e]; have := hh j; omega) (by omega) j
    rw [List.length_cons]
    omega
theorem E29 : EOk Try.prog 29 67 (.agg #[.int .i64 0, .int .i64 0, .int .i64 0]) 3 24 :=
  ⟨Try.underlying29, by
    obtain ⟨i, h1, h2, h3, h4⟩ := info_parts (show (Try.prog.info? 67).map (fun i => (i.zero, i.size, i.bytes)) = some (some (.agg #[.int .i64 0, .int .i64 0, .int .i64 0]), 3, 24) by kernel_rfl)
    exact ⟨i, h1, h2, h3, h4⟩, rfl, by decide, by decide⟩
theorem winCells_snoc (l : List HWin) (a : HWin) : winCells (l ++ [a]) = winCells l ++ [.int .i64 a.ion, .int .i64 a.frm, .int .i64 a.to] := by simp [winCells, winCell]
theorem winTo_len (L : Int) (l : List HAct) : ∀ q, q ≤ l.length → (winTo L l q).length ≤ q := by
  intro q
  induction q with
  | zero => intro _; exact Nat.le_refl _
  | succ q ih =>
    intro h
    rw [winTo_succ (by omega)]
    have := ih (by omega)
    split
    · simp; omega
    · omega
theorem kind_ne67 {w : World} {base n : Nat} {v : Value} {xs : List Value} (h : w.ownsRow base 67 3 v n xs) {g : Nat} {cur : Array Value} (hg : w.heap[g]? = some (Obj.cells cur 3 (0, 0))) : some g ≠ v.ownBlock := by
  intro e
  rcases h.2 with ⟨rfl, _⟩ | ⟨g', cap, cur', rfl, _, hgg, _⟩
  · simp [Value.ownBlock] at e
  · simp [Value.ownBlock] at e
    subst e
    rw [hg] at hgg
    cases hgg
theorem HeatsAt.ne67 {w : World} {g n : Nat} {h : Int → Int} (H : HeatsAt w g n h) {base m : Nat} {v : Value} {xs : List Value} (hr : w.ownsRow base 67 3 v m xs) : some g ≠ v.ownBlock := by
  obtain ⟨cs, a, _, _⟩ := H
  exact kind_ne67 hr a
/-- The row that Repeat made, as all ions' numbers. -/
theorem HeatsAt.of_rep {w : World} {g n : Nat} {x : Int} (h : w.heap[g]? = some (.cells (rep x n n).toArray 3 (0, 0))) : HeatsAt w g n (fun _ => x) :=
  ⟨_, h, by simp [rep], fun j hj => by simp [rep, hj]⟩
theorem beg_fit {S G GG : Int → Int} {xi bv : Int} (h1 : ∀ j, S j = if j = xi then bv else G j) (h2 : ∀ j, j ≠ xi → GG j = G j) (j : Int) : (if j = xi then bv else GG j) = S j := by
  rw [h1 j]
  by_cases e : j = xi
  · rw [if_pos e, if_pos e]
  · rw [if_neg e, if_neg e, h2 j e]
theorem beg_same {S G GG : Int → Int} {xi bv : Int} (h1 : ∀ j, S j = if j = xi then bv else G j) (h2 : ∀ j, j ≠ xi → GG j = G j) (h3 : GG xi = bv) (j : Int) : GG j = S j := by
  rw [h1 j]
  by_cases e : j = xi
  · rw [if_pos e, e, h3]
  · rw [if_neg e, h2 j e]
theorem gh_fit {L : Int} {F FN : Int → Int} {x : HAct} (h1 : FN x.ion = Heat.step x (if x.kind = 1 ∧ L < F x.ion then 0 else F x.ion)) (h2 : ∀ j, j ≠ x.ion → FN j = F j) (j : Int) : FN j = ghStep L F x j := by
  by_cases e : x.ion = j
  · subst e; rw [ghStep_own, h1]
  · rw [ghStep_other L F x j e, h2 j (fun h => e h.symm)]
set_option maxRecDepth 100000 in
set_option maxHeartbeats 8000000 in
theorem pWindows (n : Int) (A : Option Addr) (k c : Nat) (L : Int) (l : List HAct) (w : World) (hl : l.length ≤ 1000) (B : Nat) (hB : B ≤ w.heap.size) (hr : Rd w B 3 A k (actCells l)) :
    Calls Try.prog 52 #[.int .i64 n, .slice A k c, .int .i64 L] w fun e w' => ∃ v, e = .returned (.tuple #[v, .int .i64 (limited n l L)]) ∧ (limited n l L = 0 → w'.ownsRow w.heap.size 67 3 v (windowsOf L l).length (winCells (windowsOf L l))) ∧ (limited n l L ≠ 0 → v = .slice none 0 0) ∧ Below w.heap.size w w' := by
  obtain rfl := hr.act_len
  have H := Lib.hid (plimited n A l.length c l L w hl B hB hr)
  by_cases h : limited n l L = 0
  · obtain ⟨⟨h1, h2, h3, h4⟩, h5, h6⟩ := limited_ok h
    obtain ⟨m, rfl⟩ := Int.eq_ofNat_of_zero_le (show 0 ≤ n by omega)
    have HL := Lib.hid h
    have HA := Lib.hid (areActs_iff.1 h4)
    have HM := Lib.hid (mild_of h4)
    have hmk := fun W => run_make_row' (P := Try.prog) 34 3 (.int .i64 0) 8 Try.underlying34 (show (Try.prog.info? 3).map (fun i => (i.zero, i.size, i.bytes)) = some (some (.int .i64 0), 1, 8) by kernel_rfl) rfl .i64 .i64 m (by omega) (by omega) W
    have n1 := nilWarm
    have n2 := methWarm
    have n3 := nilCool
    have n4 := methCool
    clear h h4
    go_enter Try.func52, Try.ntmps52
    go_wp2_with fail
    refine H.out.mono ?_
    rw [HL.out]
    rintro e w0 ⟨rfl, hb0⟩
    have s0 := hb0.size
    have HMD := Lib.hid (HeatsAt.made w0 m)
    have HB1 := Lib.hid ((hb0.alloc s0 (.cells (madeCells #[.int .i64 0] m) 3)).alloc (by simp; omega) (.cells #[.int .i64 (-1)] 3))
    have HN1 := Lib.hid (show ((w0.alloc (.cells (madeCells #[.int .i64 0] m) 3)).alloc (.cells #[.int .i64 (-1)] 3)).heap[w0.heap.size + 1]? = some (.cells #[.int .i64 (-1)] 3 (0, 0)) by have := blk_new (w0.alloc (.cells (madeCells #[.int .i64 0] m) 3)) 3 #[.int .i64 (-1)]; rw [World.size_alloc] at this; exact this)
    go_wp2_with fail
    refine (pRepeat (-1) m (w0.heap.size + 1) _ (by omega) HN1.out).mono ?_
    rintro e w1 ⟨rfl, hbg, hb1⟩
    have hb2 := HB1.out.trans (hb1.mono (by simp; omega))
    have s2 := hb2.size
    rw [World.size_alloc, World.size_alloc] at hbg
    have HT0 := Lib.hid ((HMD.out.alloc (.cells #[.int .i64 (-1)] 3)).below hb1 (by simp; omega))
    have HBG := Lib.hid (HeatsAt.of_rep hbg)
    clear hbg hb1 hb0
    rw [World.size_alloc, World.size_alloc]
    obtain ⟨Gh, hGh⟩ : ∃ G, G = w0.heap.size := ⟨_, rfl⟩
    obtain ⟨Gb, hGb⟩ : ∃ G, G = w0.heap.size + 1 + 1 := ⟨_, rfl⟩
    rw [← hGh] at HT0
    rw [← hGb] at HBG
    have hne : ¬ Gh = Gb := by omega
    have hne' : ¬ Gb = Gh := by omega
    have hgh0 : w.heap.size ≤ Gh := by omega
    have hgb0 : w.heap.size ≤ Gb := by omega
    rw [← hGb]
    rw [← hGh]
    clear hGh hGb
    go_wp2
    go_loopw [11, 28] (fun v j wr => ∃ q : Nat, q ≤ l.length ∧ j = .int .i64 q ∧ wr.ownsRow w.heap.size 67 3 v (winTo L l q).length (winCells (winTo L l q)) ∧ HeatsAt wr Gh m (gh L cold (l.take q)) ∧ HeatsAt wr Gb m (begTo L l q) ∧ Below w.heap.size w wr) (fun _ j _ => l.length - (intOf j).toNat)
    case atStart => exact ⟨0, Nat.zero_le _, rfl, World.ownsRow_nil _ _ _ _, HT0.out, HBG.out, hb2⟩
    case round =>
      clear hb2
      obtain ⟨q, hq, rfl, hown, hh, hbg, hb⟩ := hrel
      have hsz := hb.size
      by_cases hlt : q < l.length
      · obtain ⟨b', off', rfl, hbb', k0, k1, k2⟩ := (hr.below' hb hB).act hlt
        have hx := HM.out _ (List.getElem_mem hlt)
        have hy := HA.out _ (List.getElem_mem hlt)
        simp only [isAct, decide_eq_true_eq] at hy
        have hbd := gh_bd L (l.take q) (HM.out.take q) cold 0 (fun _ => ⟨Int.le_refl _, Int.le_refl _⟩) (Int.le_refl _) l[q].ion
        have hlq : (l.take q).length ≤ 1000 := by rw [List.length_take]; omega
        have hwl := winTo_len L l q (by omega)
        have HSG := Lib.hid (gh_take L l q hlt cold)
        have HSB := Lib.hid (begTo_succ (L := L) hlt)
        have HSW := Lib.hid (winTo_succ (L := L) hlt)
        generalize l[q] = x at *
        obtain ⟨xk, xi, xh⟩ := x
        dsimp only at *
        obtain ⟨_, _, hi0, hi1, _, _, _⟩ := hy
        obtain ⟨F, hF⟩ : ∃ F, F = gh L cold (l.take q) := ⟨_, rfl⟩
        obtain ⟨G, hG⟩ : ∃ G, G = begTo L l q := ⟨_, rfl⟩
        obtain ⟨V, hV⟩ : ∃ V, V = winTo L l q := ⟨_, rfl⟩
        rw [← hF] at hh hbd HSG HSB HSW
        rw [← hG] at hbg HSB HSW
        rw [← hV] at hown hwl HSW
        clear hF hG hV
        have hi2 : xi < (m : Int) := by omega
        have hF0 := hh.cell hi0 hi2
        have hG0 := hbg.cell hi0 hi2
        have hghl := hh.lt
        have hgbl := hbg.lt
        have HOWN := Lib.hid hown
        have HF := Lib.hid hh
        have HG := Lib.hid hbg
        obtain ⟨Av, cv, rfl, _⟩ := own_cap hown
        have HVB := Lib.hid (fun g hg => HOWN.out.lt g hg)
        have hB1 := Lib.hid (hb.alloc hsz (.cells #[.int .i64 xk, .int .i64 xi, .int .i64 xh] 48))
        have HBX := Lib.hid (blk_new wr 48 #[.int .i64 xk, .int .i64 xi, .int .i64 xh])
        clear hown hh hbg
        generalize hFi : F xi = f at *
        generalize hGi : G xi = g at *
        have HFI := Lib.hid hFi
        have HGI := Lib.hid hGi
        clear hFi hGi
        by_cases hk1 : xk = 1
        · by_cases hhot : L < f
          · subst hk1
            have HKD := Lib.hid (show (⟨1, xi, xh⟩ : HAct).kind ≠ 2 from by show (1 : Int) ≠ 2; decide)
            have hhb := (Below.refl wr.heap.size wr).alloc (Nat.le_refl _) (.cells #[.int .i64 1, .int .i64 xi, .int .i64 xh] 48)
            have x0 := blk_cell HBX.out 0
            have x1 := blk_cell HBX.out 1
            have x2 := blk_cell HBX.out 2
            have HOA := Lib.hid (HOWN.out.alloc (.cells #[.int .i64 1, .int .i64 xi, .int .i64 xh] 48))
            have HFA := Lib.hid (HF.out.alloc (.cells #[.int .i64 1, .int .i64 xi, .int .i64 xh] 48))
            have HGA := Lib.hid (HG.out.alloc (.cells #[.int .i64 1, .int .i64 xi, .int .i64 xh] 48))
            have hG1 := HGA.out.cell hi0 hi2
            rw [HGI.out] at hG1
            have HOA2 := Lib.hid (show (((wr.alloc (.cells #[.int .i64 1, .int .i64 xi, .int .i64 xh] 48)).alloc (.cells #[.int .i64 xi, .int .i64 g, .int .i64 q] 67)).drew).ownsRow w.heap.size 67 3 (.slice Av V.length cv) V.length (winCells V) from HOA.out.alloc _)
            have HRD := Lib.hid (show Rd (((wr.alloc (.cells #[.int .i64 1, .int .i64 xi, .int .i64 xh] 48)).alloc (.cells #[.int .i64 xi, .int .i64 g, .int .i64 q] 67)).drew) (wr.heap.size + 1 + 1) 3 (some ⟨wr.heap.size + 1, 0, none⟩) 1 [.int .i64 xi, .int .i64 g, .int .i64 q] from by
              have := Rd.one (wr.alloc (.cells #[.int .i64 1, .int .i64 xi, .int .i64 xh] 48)) #[.int .i64 xi, .int .i64 g, .int .i64 q] 67 3 rfl
              rw [World.size_alloc] at this
              exact this)
            go_wp2
            refine wp_region_ftail (fun w' => w' = (wr.alloc (.cells #[.int .i64 1, .int .i64 xi, .int .i64 xh] 48)).drew) 9 _ (.slice Av V.length cv) (by kernel_rfl) (by kernel_rfl) rfl rfl rfl (fun _ _ _ _ h => h) rfl ?_
            simp only [List.take_succ_cons, List.take_zero, List.drop_succ_cons, List.drop_zero, Act.put, List.setIfInBounds_toArray, List.set_cons_zero, List.set_cons_succ]
            repeat (go_big_quiet_step (fail))
            refine wpQuiet_nil ?_
            rintro w' rfl
            go_wp2_with (at_builtin; go_must (refine appN rfl (.tmp 45) (.tmp 55) 29 rfl 67 _ 3 24 E29 w.heap.size _ _ _ rfl HOA2.out (wr.heap.size + 1 + 1) (some ⟨wr.heap.size + 1, 0, none⟩) 1 1 [.int .i64 xi, .int .i64 g, .int .i64 q] rfl HRD.out rfl ?_ ?_ ?_); omega; simp; omega; intro v5 w6 hown6 hg6)
            obtain ⟨A5, c5, rfl, _⟩ := own_cap hown6
            have hX6 : w6.heap[wr.heap.size]? = some (.cells #[.int .i64 1, .int .i64 xi, .int .i64 xh] 48 (0, 0)) := blk_grown (show (((wr.alloc (.cells #[.int .i64 1, .int .i64 xi, .int .i64 xh] 48)).alloc (.cells #[.int .i64 xi, .int .i64 g, .int .i64 q] 67)).drew).heap[wr.heap.size]? = _ from blk_alloc HBX.out _) hg6 (fun e => by have := HVB.out _ e.symm; omega)
            have HF6 := Lib.hid ((show HeatsAt (((wr.alloc (.cells #[.int .i64 1, .int .i64 xi, .int .i64 xh] 48)).alloc (.cells #[.int .i64 xi, .int .i64 g, .int .i64 q] 67)).drew) Gh m F from HFA.out.alloc _).grown hg6 (HF.out.ne67 HOWN.out))
            have HG6 := Lib.hid ((show HeatsAt (((wr.alloc (.cells #[.int .i64 1, .int .i64 xi, .int .i64 xh] 48)).alloc (.cells #[.int .i64 xi, .int .i64 g, .int .i64 q] 67)).drew) Gb m G from HGA.out.alloc _).grown hg6 (HG.out.ne67 HOWN.out))
            have HO6 := Lib.hid hown6
            have HB6 := Lib.hid (below_own (((hB1.out.alloc (by simp; omega) (.cells #[.int .i64 xi, .int .i64 g, .int .i64 q] 67)).drew)) (by simp; omega) HOA2.out (Nat.le_refl _) hg6)
            have s6 := HB6.out.size
            have z0 := blk_cell hX6 0
            have z1 := blk_cell hX6 1
            have z2 := blk_cell hX6 2
            have HX6 := Lib.hid hX6
            have p0 := HF6.out.cell hi0 hi2
            have p1 := HF6.out.frozen xi.toNat
            have p2 := HG6.out.cell hi0 hi2
            have p3 := HG6.out.frozen xi.toNat
            have m0 : ¬ wr.heap.size = Gh := by omega
            have m1 : ¬ wr.heap.size = Gb := by omega
            have m2 : ¬ Gh = wr.heap.size := by omega
            have m3 : ¬ Gb = wr.heap.size := by omega
            clear hX6 hown6 hg6 hhb x0 x1 x2 hG1
            go_region
            have HX := Lib.hid (show (((w6.setCell ⟨Gh, xi.toNat, none⟩ (.int .i64 0)).setCell ⟨Gb, xi.toNat, none⟩ (.int .i64 (-1))).drew).heap[wr.heap.size]? = some (.cells #[.int .i64 1, .int .i64 xi, .int .i64 xh] 48 (0, 0)) from blk_far (blk_far HX6.out (p := ⟨Gh, xi.toNat, none⟩) m0 _) (p := ⟨Gb, xi.toNat, none⟩) m1 _)
            have HFW := Lib.hid (show HeatsAt (((w6.setCell ⟨Gh, xi.toNat, none⟩ (.int .i64 0)).setCell ⟨Gb, xi.toNat, none⟩ (.int .i64 (-1))).drew) Gh m (fun j => if j = xi then 0 else F j) from (HF6.out.set hi0 hi2 0).far (p := ⟨Gb, xi.toNat, none⟩) hne (.int .i64 (-1)))
            have HGW := Lib.hid (show HeatsAt (((w6.setCell ⟨Gh, xi.toNat, none⟩ (.int .i64 0)).setCell ⟨Gb, xi.toNat, none⟩ (.int .i64 (-1))).drew) Gb m (fun j => if j = xi then -1 else G j) from (HG6.out.far (p := ⟨Gh, xi.toNat, none⟩) hne' (.int .i64 0)).set hi0 hi2 (-1))
            have HOW := Lib.hid (show (((w6.setCell ⟨Gh, xi.toNat, none⟩ (.int .i64 0)).setCell ⟨Gb, xi.toNat, none⟩ (.int .i64 (-1))).drew).ownsRow w.heap.size 67 3 (.slice A5 (V.length + 1) c5) (V.length + 1) (winCells V ++ [.int .i64 xi, .int .i64 g, .int .i64 q]) from own_keep (w := w6) HO6.out fun g' hg' => (Below.heap_setCell (w6.setCell ⟨Gh, xi.toNat, none⟩ (.int .i64 0)) ⟨Gb, xi.toNat, none⟩ (.int .i64 (-1)) g' (fun e => HG6.out.ne67 HO6.out (by dsimp only at e; rw [← e]; exact hg'.symm))).trans (Below.heap_setCell w6 ⟨Gh, xi.toNat, none⟩ (.int .i64 0) g' (fun e => HF6.out.ne67 HO6.out (by dsimp only at e; rw [← e]; exact hg'.symm))))
            have HBW := Lib.hid (((HB6.out.setCell (p := ⟨Gh, xi.toNat, none⟩) hgh0 (.int .i64 0)).setCell (p := ⟨Gb, xi.toNat, none⟩) hgb0 (.int .i64 (-1))).drew)
            generalize ((w6.setCell ⟨Gh, xi.toNat, none⟩ (.int .i64 0)).setCell ⟨Gb, xi.toNat, none⟩ (.int .i64 (-1))).drew = W at *
            obtain ⟨FF, hFF⟩ : ∃ FF : Int → Int, FF = fun j => if j = xi then 0 else F j := ⟨_, rfl⟩
            obtain ⟨GG, hGG⟩ : ∃ GG : Int → Int, GG = fun j => if j = xi then -1 else G j := ⟨_, rfl⟩
            rw [← hFF] at HFW
            rw [← hGG] at HGW
            have HFV := Lib.hid (show FF xi = 0 by rw [hFF]; exact if_pos rfl)
            have HGV := Lib.hid (show GG xi = -1 by rw [hGG]; exact if_pos rfl)
            have HFF := Lib.hid (show ∀ j, j ≠ xi → FF j = F j from fun j hj => by rw [hFF]; exact if_neg hj)
            have HGG := Lib.hid (show ∀ j, j ≠ xi → GG j = G j from fun j hj => by rw [hGG]; exact if_neg hj)
            obtain ⟨Ga, hGa⟩ : ∃ x, x = wr.heap.size := ⟨_, rfl⟩
            rw [← hGa] at HX HBX hsz
            rw [← hGa]
            have mGa : ¬ Ga = Gh := by omega
            have mGb : ¬ Ga = Gb := by omega
            clear hGa m0 m1 m2 m3 HX6 HBX HVB
            clear hFF hGG z0 z1 z2 p0 p1 p2 p3
            have HNEW := Lib.hid (show ∀ y : HAct, y = ⟨1, xi, xh⟩ → xh = Heat.step y (if y.kind = 1 ∧ L < F y.ion then 0 else F y.ion) from fun y hy => by
              subst hy
              dsimp only
              rw [if_pos ⟨rfl, by rw [HFI.out]; exact hhot⟩, Heat.step, if_neg (by show ¬ (1 : Int) = 2; decide)]
              exact (Int.zero_add xh).symm)
            have hh1 : hotAt L F ⟨1, xi, xh⟩ = true := hotAt_iff.2 ⟨rfl, by rw [HFI.out]; exact hhot⟩
            have HW := Lib.hid (show winTo L l (q + 1) = V ++ [⟨xi, g, q⟩] by rw [HSW.out, if_pos hh1])
            have HBV := Lib.hid (fun j => show begStep L F G q ⟨1, xi, xh⟩ j = if j = xi then (q : Int) else G j by rw [begStep, hh1]; rfl)
            clear hh1
            have x0 : W.cell? ⟨Ga, 0, none⟩ = some (.int .i64 1) := blk_cell HX.out 0
            have x1 : W.cell? ⟨Ga, 1, none⟩ = some (.int .i64 xi) := blk_cell HX.out 1
            have x3 : W.cell? ⟨Ga, 2, none⟩ = some (.int .i64 xh) := blk_cell HX.out 2
            have y0 := HFW.out.cell hi0 hi2
            rw [HFV.out] at y0
            have f0 : W.frozen? ⟨Gh, xi.toNat, none⟩ = false := HFW.out.frozen _
            have L0 : Ga < W.heap.size := blk_lt HX.out
            have L1 : Gh < W.heap.size := HFW.out.lt
            have L2 : Gb < W.heap.size := HGW.out.lt
            go_wp2
            have mc := cell_mergeW W
            have mf := frozen_mergeW W
            refine wp_region_btail 14 (by kernel_rfl) (by kernel_rfl) ?_
            simp only [List.take_succ_cons, List.take_zero, List.drop_succ_cons, List.drop_zero]
            repeat (go_big_quiet_step (first | (go_at_call 81; refine (pread_warm ⟨1, xi, xh⟩ _ HKD.out).mono ?_; rintro e w3 ⟨rfl, hb3⟩; exact ⟨rfl, in_mergeW hb3⟩) | (go_at_call 107; refine (changeWarm _ _ _ hx (by omega)).mono ?_; rintro e w3 ⟨rfl, hb3⟩; exact ⟨rfl, in_mergeW hb3⟩)))
            refine wpQuiet_nil ?_
            rintro w4 ⟨s4, hs4⟩
            have hb3 := below_mergeW W s4
            rw [← hs4] at hb3
            clear hs4 mc mf
            have y10 := (hb3.cell (p := ⟨Gh, xi.toNat, none⟩) L1).trans y0
            have f10 := (hb3.frozen (p := ⟨Gh, xi.toNat, none⟩) L1).trans f0
            have hb4 := hb3
            have s4 := hb4.size
            have HX8 := Lib.hid (blk_far (blk_below HX.out hb4 L0) (p := ⟨Gh, xi.toNat, none⟩) mGa (.int .i64 (xh)))
            have HF8 := Lib.hid ((HFW.out.below hb4 L1).set hi0 hi2 (xh))
            have HG8 := Lib.hid ((HGW.out.below hb4 L2).far (p := ⟨Gh, xi.toNat, none⟩) hne' (.int .i64 (xh)))
            have HO8 := Lib.hid (own_keep (own_below HOW.out hb4) fun g' hg' => Below.heap_setCell w4 ⟨Gh, xi.toNat, none⟩ (.int .i64 (xh)) g' (fun e => (HFW.out.below hb4 L1).ne67 (own_below HOW.out hb4) (by dsimp only at e; rw [← e]; exact hg'.symm)))
            have HB8 := Lib.hid ((HBW.out.trans (hb4.mono HBW.out.size)).setCell (p := ⟨Gh, xi.toNat, none⟩) hgh0 (.int .i64 (xh)))
            have u0 := (hb4.cell (p := ⟨Ga, 0, none⟩) L0).trans x0
            have u1 := (hb4.cell (p := ⟨Ga, 1, none⟩) L0).trans x1
            have v0 := (HGW.out.below hb4 L2).cell hi0 hi2
            rw [HGV.out] at v0
            have v1 := (HGW.out.below hb4 L2).frozen xi.toNat
            clear x0 x1 x3 y0 f0 hb3
            go_wp2
            go_roundw
            case rel =>
              refine ⟨q + 1, by omega, by go_num, ?_, (HF8.out.far (p := ⟨Gb, xi.toNat, none⟩) hne (.int .i64 q)).congr fun j _ => ?_, (HG8.out.set hi0 hi2 (q : Int)).congr fun j _ => ?_, HB8.out.setCell (p := ⟨Gb, xi.toNat, none⟩) hgb0 (.int .i64 q)⟩
              · rw [HW.out]
                rw [winCells_snoc, List.length_append]
                exact (own_keep HO8.out fun g' hg' => Below.heap_setCell (w4.setCell ⟨Gh, xi.toNat, none⟩ (.int .i64 (xh))) ⟨Gb, xi.toNat, none⟩ (.int .i64 q) g' (fun e => HG8.out.ne67 HO8.out (by dsimp only at e; rw [← e]; exact hg'.symm)))
              · rw [HSG.out]
                refine gh_fit (x := ⟨1, xi, xh⟩) (FN := fun j => if j = xi then (xh) else FF j) ?_ (fun j hj => (if_neg hj).trans (HFF.out j hj)) j
                exact (if_pos rfl).trans (HNEW.out _ rfl)
              · rw [HSB.out]
                exact beg_fit HBV.out HGG.out _
            case measure => simp [intOf]; omega
          · have hnot : ¬ ((⟨xk, xi, xh⟩ : HAct).kind = 1 ∧ L < F xi) := fun h => hhot (by rw [← HFI.out]; exact h.2)
            subst hk1
            have hh1 : hotAt L F ⟨1, xi, xh⟩ = false := by rw [Bool.eq_false_iff]; intro h; exact hnot (hotAt_iff.1 h)
            have HW := Lib.hid (show winTo L l (q + 1) = V by rw [HSW.out, hh1]; rfl)
            have HBG := Lib.hid (fun j => show begStep L F G q ⟨1, xi, xh⟩ j = if j = xi then (if (1 : Int) = 2 then -1 else if g < 0 then (q : Int) else g) else G j by
              rw [begStep, hh1]
              by_cases e : j = xi
              · rw [if_pos e, if_pos e]; dsimp only; rw [HGI.out]; rfl
              · rw [if_neg e, if_neg e])
            have HST := Lib.hid (show ∀ y : HAct, y = ⟨1, xi, xh⟩ → Heat.step y (if y.kind = 1 ∧ L < F y.ion then 0 else F y.ion) = if (1 : Int) = 2 then 0 else f + xh from fun y hy => by
              subst hy
              rw [if_neg hnot, Heat.step]
              dsimp only
              rw [HFI.out])
            have HX := Lib.hid HBX.out
            have HFW := Lib.hid (HF.out.alloc (.cells #[.int .i64 1, .int .i64 xi, .int .i64 xh] 48))
            have HGW := Lib.hid (HG.out.alloc (.cells #[.int .i64 1, .int .i64 xi, .int .i64 xh] 48))
            have HOW := Lib.hid (HOWN.out.alloc (.cells #[.int .i64 1, .int .i64 xi, .int .i64 xh] 48))
            have HBW := Lib.hid hB1.out
            have HFV := Lib.hid HFI.out
            have HGV := Lib.hid HGI.out
            have z0 := blk_cell HBX.out 0
            have z1 := blk_cell HBX.out 1
            have z2 := blk_cell HBX.out 2
            clear hh1 hnot
            have mGa : ¬ wr.heap.size = Gh := by omega
            have mGb : ¬ wr.heap.size = Gb := by omega
            have HKD := Lib.hid (show (⟨1, xi, xh⟩ : HAct).kind ≠ 2 from by show (1 : Int) ≠ 2; decide)
            have HNEW := Lib.hid (show ∀ y : HAct, y = ⟨1, xi, xh⟩ → f + xh = Heat.step y (if y.kind = 1 ∧ L < F y.ion then 0 else F y.ion) from fun y hy => by rw [HST.out y hy, if_neg (show ¬ (1 : Int) = 2 by decide)])
            by_cases hg : g < 0
            · have HBV := Lib.hid (fun j => show begStep L F G q ⟨1, xi, xh⟩ j = if j = xi then (q : Int) else G j by rw [HBG.out, if_neg (show ¬ (1 : Int) = 2 by decide), if_pos hg])
              have x0 : (wr.alloc (.cells #[.int .i64 1, .int .i64 xi, .int .i64 xh] 48)).cell? ⟨wr.heap.size, 0, none⟩ = some (.int .i64 1) := blk_cell HX.out 0
              have x1 : (wr.alloc (.cells #[.int .i64 1, .int .i64 xi, .int .i64 xh] 48)).cell? ⟨wr.heap.size, 1, none⟩ = some (.int .i64 xi) := blk_cell HX.out 1
              have x3 : (wr.alloc (.cells #[.int .i64 1, .int .i64 xi, .int .i64 xh] 48)).cell? ⟨wr.heap.size, 2, none⟩ = some (.int .i64 xh) := blk_cell HX.out 2
              have y0 := HFW.out.cell hi0 hi2
              rw [HFV.out] at y0
              have f0 : (wr.alloc (.cells #[.int .i64 1, .int .i64 xi, .int .i64 xh] 48)).frozen? ⟨Gh, xi.toNat, none⟩ = false := HFW.out.frozen _
              have L0 : wr.heap.size < (wr.alloc (.cells #[.int .i64 1, .int .i64 xi, .int .i64 xh] 48)).heap.size := blk_lt HX.out
              have L1 : Gh < (wr.alloc (.cells #[.int .i64 1, .int .i64 xi, .int .i64 xh] 48)).heap.size := HFW.out.lt
              have L2 : Gb < (wr.alloc (.cells #[.int .i64 1, .int .i64 xi, .int .i64 xh] 48)).heap.size := HGW.out.lt
              go_wp2
              have mc := cell_mergeW (wr.alloc (.cells #[.int .i64 1, .int .i64 xi, .int .i64 xh] 48))
              have mf := frozen_mergeW (wr.alloc (.cells #[.int .i64 1, .int .i64 xi, .int .i64 xh] 48))
              refine wp_region_btail 14 (by kernel_rfl) (by kernel_rfl) ?_
              simp only [List.take_succ_cons, List.take_zero, List.drop_succ_cons, List.drop_zero]
              repeat (go_big_quiet_step (first | (go_at_call 81; refine (pread_warm ⟨1, xi, xh⟩ _ HKD.out).mono ?_; rintro e w3 ⟨rfl, hb3⟩; exact ⟨rfl, in_mergeW hb3⟩) | (go_at_call 107; refine (changeWarm _ _ _ hx (by omega)).mono ?_; rintro e w3 ⟨rfl, hb3⟩; exact ⟨rfl, in_mergeW hb3⟩)))
              refine wpQuiet_nil ?_
              rintro w4 ⟨s4, hs4⟩
              have hb3 := below_mergeW (wr.alloc (.cells #[.int .i64 1, .int .i64 xi, .int .i64 xh] 48)) s4
              rw [← hs4] at hb3
              clear hs4 mc mf
              have y10 := (hb3.cell (p := ⟨Gh, xi.toNat, none⟩) L1).trans y0
              have f10 := (hb3.frozen (p := ⟨Gh, xi.toNat, none⟩) L1).trans f0
              have hb4 := hb3
              have s4 := hb4.size
              have HX8 := Lib.hid (blk_far (blk_below HX.out hb4 L0) (p := ⟨Gh, xi.toNat, none⟩) mGa (.int .i64 (f + xh)))
              have HF8 := Lib.hid ((HFW.out.below hb4 L1).set hi0 hi2 (f + xh))
              have HG8 := Lib.hid ((HGW.out.below hb4 L2).far (p := ⟨Gh, xi.toNat, none⟩) hne' (.int .i64 (f + xh)))
              have HO8 := Lib.hid (own_keep (own_below HOW.out hb4) fun g' hg' => Below.heap_setCell w4 ⟨Gh, xi.toNat, none⟩ (.int .i64 (f + xh)) g' (fun e => (HFW.out.below hb4 L1).ne67 (own_below HOW.out hb4) (by dsimp only at e; rw [← e]; exact hg'.symm)))
              have HB8 := Lib.hid ((HBW.out.trans (hb4.mono HBW.out.size)).setCell (p := ⟨Gh, xi.toNat, none⟩) hgh0 (.int .i64 (f + xh)))
              have u0 := (hb4.cell (p := ⟨wr.heap.size, 0, none⟩) L0).trans x0
              have u1 := (hb4.cell (p := ⟨wr.heap.size, 1, none⟩) L0).trans x1
              have v0 := (HGW.out.below hb4 L2).cell hi0 hi2
              rw [HGV.out] at v0
              have v1 := (HGW.out.below hb4 L2).frozen xi.toNat
              clear x0 x1 x3 y0 f0 hb3
              go_wp2
              go_roundw
              case rel =>
                refine ⟨q + 1, by omega, by go_num, ?_, (HF8.out.far (p := ⟨Gb, xi.toNat, none⟩) hne (.int .i64 q)).congr fun j _ => ?_, (HG8.out.set hi0 hi2 (q : Int)).congr fun j _ => ?_, HB8.out.setCell (p := ⟨Gb, xi.toNat, none⟩) hgb0 (.int .i64 q)⟩
                · rw [HW.out]
                  exact (own_keep HO8.out fun g' hg' => Below.heap_setCell (w4.setCell ⟨Gh, xi.toNat, none⟩ (.int .i64 (f + xh))) ⟨Gb, xi.toNat, none⟩ (.int .i64 q) g' (fun e => HG8.out.ne67 HO8.out (by dsimp only at e; rw [← e]; exact hg'.symm)))
                · rw [HSG.out]
                  refine gh_fit (x := ⟨1, xi, xh⟩) (FN := fun j => if j = xi then (f + xh) else F j) ?_ (fun j hj => (if_neg hj).trans rfl) j
                  exact (if_pos rfl).trans (HNEW.out _ rfl)
                · rw [HSB.out]
                  exact beg_fit HBV.out (fun _ _ => rfl) _
              case measure => simp [intOf]; omega
            · have HBV := Lib.hid (fun j => show begStep L F G q ⟨1, xi, xh⟩ j = if j = xi then g else G j by rw [HBG.out, if_neg (show ¬ (1 : Int) = 2 by decide), if_neg hg])
              have x0 : (wr.alloc (.cells #[.int .i64 1, .int .i64 xi, .int .i64 xh] 48)).cell? ⟨wr.heap.size, 0, none⟩ = some (.int .i64 1) := blk_cell HX.out 0
              have x1 : (wr.alloc (.cells #[.int .i64 1, .int .i64 xi, .int .i64 xh] 48)).cell? ⟨wr.heap.size, 1, none⟩ = some (.int .i64 xi) := blk_cell HX.out 1
              have x3 : (wr.alloc (.cells #[.int .i64 1, .int .i64 xi, .int .i64 xh] 48)).cell? ⟨wr.heap.size, 2, none⟩ = some (.int .i64 xh) := blk_cell HX.out 2
              have y0 := HFW.out.cell hi0 hi2
              rw [HFV.out] at y0
              have f0 : (wr.alloc (.cells #[.int .i64 1, .int .i64 xi, .int .i64 xh] 48)).frozen? ⟨Gh, xi.toNat, none⟩ = false := HFW.out.frozen _
              have L0 : wr.heap.size < (wr.alloc (.cells #[.int .i64 1, .int .i64 xi, .int .i64 xh] 48)).heap.size := blk_lt HX.out
              have L1 : Gh < (wr.alloc (.cells #[.int .i64 1, .int .i64 xi, .int .i64 xh] 48)).heap.size := HFW.out.lt
              have L2 : Gb < (wr.alloc (.cells #[.int .i64 1, .int .i64 xi, .int .i64 xh] 48)).heap.size := HGW.out.lt
              go_wp2
              have mc := cell_mergeW (wr.alloc (.cells #[.int .i64 1, .int .i64 xi, .int .i64 xh] 48))
              have mf := frozen_mergeW (wr.alloc (.cells #[.int .i64 1, .int .i64 xi, .int .i64 xh] 48))
              refine wp_region_btail 14 (by kernel_rfl) (by kernel_rfl) ?_
              simp only [List.take_succ_cons, List.take_zero, List.drop_succ_cons, List.drop_zero]
              repeat (go_big_quiet_step (first | (go_at_call 81; refine (pread_warm ⟨1, xi, xh⟩ _ HKD.out).mono ?_; rintro e w3 ⟨rfl, hb3⟩; exact ⟨rfl, in_mergeW hb3⟩) | (go_at_call 107; refine (changeWarm _ _ _ hx (by omega)).mono ?_; rintro e w3 ⟨rfl, hb3⟩; exact ⟨rfl, in_mergeW hb3⟩)))
              refine wpQuiet_nil ?_
              rintro w4 ⟨s4, hs4⟩
              have hb3 := below_mergeW (wr.alloc (.cells #[.int .i64 1, .int .i64 xi, .int .i64 xh] 48)) s4
              rw [← hs4] at hb3
              clear hs4 mc mf
              have y10 := (hb3.cell (p := ⟨Gh, xi.toNat, none⟩) L1).trans y0
              have f10 := (hb3.frozen (p := ⟨Gh, xi.toNat, none⟩) L1).trans f0
              have hb4 := hb3
              have s4 := hb4.size
              have HX8 := Lib.hid (blk_far (blk_below HX.out hb4 L0) (p := ⟨Gh, xi.toNat, none⟩) mGa (.int .i64 (f + xh)))
              have HF8 := Lib.hid ((HFW.out.below hb4 L1).set hi0 hi2 (f + xh))
              have HG8 := Lib.hid ((HGW.out.below hb4 L2).far (p := ⟨Gh, xi.toNat, none⟩) hne' (.int .i64 (f + xh)))
              have HO8 := Lib.hid (own_keep (own_below HOW.out hb4) fun g' hg' => Below.heap_setCell w4 ⟨Gh, xi.toNat, none⟩ (.int .i64 (f + xh)) g' (fun e => (HFW.out.below hb4 L1).ne67 (own_below HOW.out hb4) (by dsimp only at e; rw [← e]; exact hg'.symm)))
              have HB8 := Lib.hid ((HBW.out.trans (hb4.mono HBW.out.size)).setCell (p := ⟨Gh, xi.toNat, none⟩) hgh0 (.int .i64 (f + xh)))
              have u0 := (hb4.cell (p := ⟨wr.heap.size, 0, none⟩) L0).trans x0
              have u1 := (hb4.cell (p := ⟨wr.heap.size, 1, none⟩) L0).trans x1
              have v0 := (HGW.out.below hb4 L2).cell hi0 hi2
              rw [HGV.out] at v0
              have v1 := (HGW.out.below hb4 L2).frozen xi.toNat
              clear x0 x1 x3 y0 f0 hb3
              go_wp2
              go_roundw
              case rel =>
                refine ⟨q + 1, by omega, by go_num, ?_, (HF8.out).congr fun j _ => ?_, (HG8.out).congr fun j _ => ?_, HB8.out⟩
                · rw [HW.out]
                  exact HO8.out
                · rw [HSG.out]
                  refine gh_fit (x := ⟨1, xi, xh⟩) (FN := fun j => if j = xi then (f + xh) else F j) ?_ (fun j hj => (if_neg hj).trans rfl) j
                  exact (if_pos rfl).trans (HNEW.out _ rfl)
                · rw [HSB.out]
                  exact beg_same HBV.out (fun _ _ => rfl) HGV.out _
              case measure => simp [intOf]; omega
        · have hk1d : (xk == 1) = false := by simpa using hk1
          have hnot : ¬ ((⟨xk, xi, xh⟩ : HAct).kind = 1 ∧ L < F xi) := fun h => hk1 h.1
          by_cases hk2 : xk = 2
          · have HD2 := Lib.hid (show (xk == 2) = true by simpa using hk2)
            have HKD := Lib.hid (show (⟨xk, xi, xh⟩ : HAct).kind = 2 from hk2)
            have hh1 : hotAt L F ⟨xk, xi, xh⟩ = false := by rw [Bool.eq_false_iff]; intro h; exact hnot (hotAt_iff.1 h)
            have HW := Lib.hid (show winTo L l (q + 1) = V by rw [HSW.out, hh1]; rfl)
            have HBG := Lib.hid (fun j => show begStep L F G q ⟨xk, xi, xh⟩ j = if j = xi then (if xk = 2 then -1 else if g < 0 then (q : Int) else g) else G j by
              rw [begStep, hh1]
              by_cases e : j = xi
              · rw [if_pos e, if_pos e]; dsimp only; rw [HGI.out]; rfl
              · rw [if_neg e, if_neg e])
            have HST := Lib.hid (show ∀ y : HAct, y = ⟨xk, xi, xh⟩ → Heat.step y (if y.kind = 1 ∧ L < F y.ion then 0 else F y.ion) = if xk = 2 then 0 else f + xh from fun y hy => by
              subst hy
              rw [if_neg hnot, Heat.step]
              dsimp only
              rw [HFI.out])
            have HX := Lib.hid HBX.out
            have HFW := Lib.hid (HF.out.alloc (.cells #[.int .i64 xk, .int .i64 xi, .int .i64 xh] 48))
            have HGW := Lib.hid (HG.out.alloc (.cells #[.int .i64 xk, .int .i64 xi, .int .i64 xh] 48))
            have HOW := Lib.hid (HOWN.out.alloc (.cells #[.int .i64 xk, .int .i64 xi, .int .i64 xh] 48))
            have HBW := Lib.hid hB1.out
            have HFV := Lib.hid HFI.out
            have HGV := Lib.hid HGI.out
            have z0 := blk_cell HBX.out 0
            have z1 := blk_cell HBX.out 1
            have z2 := blk_cell HBX.out 2
            clear hh1 hnot
            have mGa : ¬ wr.heap.size = Gh := by omega
            have mGb : ¬ wr.heap.size = Gb := by omega
            have HNEW := Lib.hid (show ∀ y : HAct, y = ⟨xk, xi, xh⟩ → (0 : Int) = Heat.step y (if y.kind = 1 ∧ L < F y.ion then 0 else F y.ion) from fun y hy => by rw [HST.out y hy, if_pos hk2])
            have HBV := Lib.hid (fun j => show begStep L F G q ⟨xk, xi, xh⟩ j = if j = xi then (-1 : Int) else G j by rw [HBG.out, if_pos hk2])
            clear hk2
            have x0 : (wr.alloc (.cells #[.int .i64 xk, .int .i64 xi, .int .i64 xh] 48)).cell? ⟨wr.heap.size, 0, none⟩ = some (.int .i64 xk) := blk_cell HX.out 0
            have x1 : (wr.alloc (.cells #[.int .i64 xk, .int .i64 xi, .int .i64 xh] 48)).cell? ⟨wr.heap.size, 1, none⟩ = some (.int .i64 xi) := blk_cell HX.out 1
            have x3 : (wr.alloc (.cells #[.int .i64 xk, .int .i64 xi, .int .i64 xh] 48)).cell? ⟨wr.heap.size, 2, none⟩ = some (.int .i64 xh) := blk_cell HX.out 2
            have y0 := HFW.out.cell hi0 hi2
            rw [HFV.out] at y0
            have f0 : (wr.alloc (.cells #[.int .i64 xk, .int .i64 xi, .int .i64 xh] 48)).frozen? ⟨Gh, xi.toNat, none⟩ = false := HFW.out.frozen _
            have L0 : wr.heap.size < (wr.alloc (.cells #[.int .i64 xk, .int .i64 xi, .int .i64 xh] 48)).heap.size := blk_lt HX.out
            have L1 : Gh < (wr.alloc (.cells #[.int .i64 xk, .int .i64 xi, .int .i64 xh] 48)).heap.size := HFW.out.lt
            have L2 : Gb < (wr.alloc (.cells #[.int .i64 xk, .int .i64 xi, .int .i64 xh] 48)).heap.size := HGW.out.lt
            go_wp2
            have mc := cell_mergeW (wr.alloc (.cells #[.int .i64 xk, .int .i64 xi, .int .i64 xh] 48))
            have mf := frozen_mergeW (wr.alloc (.cells #[.int .i64 xk, .int .i64 xi, .int .i64 xh] 48))
            refine wp_region_btail 14 (by kernel_rfl) (by kernel_rfl) ?_
            simp only [List.take_succ_cons, List.take_zero, List.drop_succ_cons, List.drop_zero]
            repeat (go_big_quiet_step (first | (go_at_call 81; refine (pread_cool ⟨xk, xi, xh⟩ _ HKD.out).mono ?_; rintro e w3 ⟨rfl, hb3⟩; exact ⟨rfl, in_mergeW hb3⟩) | (go_at_call 108; refine (changeCool _ _).mono ?_; rintro e w3 ⟨rfl, hb3⟩; exact ⟨rfl, in_mergeW hb3⟩)))
            refine wpQuiet_nil ?_
            rintro w4 ⟨s4, hs4⟩
            have hb3 := below_mergeW (wr.alloc (.cells #[.int .i64 xk, .int .i64 xi, .int .i64 xh] 48)) s4
            rw [← hs4] at hb3
            clear hs4 mc mf
            have y10 := (hb3.cell (p := ⟨Gh, xi.toNat, none⟩) L1).trans y0
            have f10 := (hb3.frozen (p := ⟨Gh, xi.toNat, none⟩) L1).trans f0
            have hb4 := hb3
            have s4 := hb4.size
            have HX8 := Lib.hid (blk_far (blk_below HX.out hb4 L0) (p := ⟨Gh, xi.toNat, none⟩) mGa (.int .i64 (0)))
            have HF8 := Lib.hid ((HFW.out.below hb4 L1).set hi0 hi2 (0))
            have HG8 := Lib.hid ((HGW.out.below hb4 L2).far (p := ⟨Gh, xi.toNat, none⟩) hne' (.int .i64 (0)))
            have HO8 := Lib.hid (own_keep (own_below HOW.out hb4) fun g' hg' => Below.heap_setCell w4 ⟨Gh, xi.toNat, none⟩ (.int .i64 (0)) g' (fun e => (HFW.out.below hb4 L1).ne67 (own_below HOW.out hb4) (by dsimp only at e; rw [← e]; exact hg'.symm)))
            have HB8 := Lib.hid ((HBW.out.trans (hb4.mono HBW.out.size)).setCell (p := ⟨Gh, xi.toNat, none⟩) hgh0 (.int .i64 (0)))
            have u0 := (hb4.cell (p := ⟨wr.heap.size, 0, none⟩) L0).trans x0
            have u1 := (hb4.cell (p := ⟨wr.heap.size, 1, none⟩) L0).trans x1
            have v0 := (HGW.out.below hb4 L2).cell hi0 hi2
            rw [HGV.out] at v0
            have v1 := (HGW.out.below hb4 L2).frozen xi.toNat
            clear x0 x1 x3 y0 f0 hb3
            have dk : (xk == 2) = true := HD2.out
            go_wp2
            go_roundw
            case rel =>
              refine ⟨q + 1, by omega, by go_num, ?_, (HF8.out.far (p := ⟨Gb, xi.toNat, none⟩) hne (.int .i64 (-1))).congr fun j _ => ?_, (HG8.out.set hi0 hi2 (-1)).congr fun j _ => ?_, HB8.out.setCell (p := ⟨Gb, xi.toNat, none⟩) hgb0 (.int .i64 (-1))⟩
              · rw [HW.out]
                exact (own_keep HO8.out fun g' hg' => Below.heap_setCell (w4.setCell ⟨Gh, xi.toNat, none⟩ (.int .i64 (0))) ⟨Gb, xi.toNat, none⟩ (.int .i64 (-1)) g' (fun e => HG8.out.ne67 HO8.out (by dsimp only at e; rw [← e]; exact hg'.symm)))
              · rw [HSG.out]
                refine gh_fit (x := ⟨xk, xi, xh⟩) (FN := fun j => if j = xi then (0) else F j) ?_ (fun j hj => (if_neg hj).trans rfl) j
                exact (if_pos rfl).trans (HNEW.out _ rfl)
              · rw [HSB.out]
                exact beg_fit HBV.out (fun _ _ => rfl) _
            case measure => simp [intOf]; omega
          · have HD2 := Lib.hid (show (xk == 2) = false by simpa using hk2)
            have HKD := Lib.hid (show (⟨xk, xi, xh⟩ : HAct).kind ≠ 2 from hk2)
            have hh1 : hotAt L F ⟨xk, xi, xh⟩ = false := by rw [Bool.eq_false_iff]; intro h; exact hnot (hotAt_iff.1 h)
            have HW := Lib.hid (show winTo L l (q + 1) = V by rw [HSW.out, hh1]; rfl)
            have HBG := Lib.hid (fun j => show begStep L F G q ⟨xk, xi, xh⟩ j = if j = xi then (if xk = 2 then -1 else if g < 0 then (q : Int) else g) else G j by
              rw [begStep, hh1]
              by_cases e : j = xi
              · rw [if_pos e, if_pos e]; dsimp only; rw [HGI.out]; rfl
              · rw [if_neg e, if_neg e])
            have HST := Lib.hid (show ∀ y : HAct, y = ⟨xk, xi, xh⟩ → Heat.step y (if y.kind = 1 ∧ L < F y.ion then 0 else F y.ion) = if xk = 2 then 0 else f + xh from fun y hy => by
              subst hy
              rw [if_neg hnot, Heat.step]
              dsimp only
              rw [HFI.out])
            have HX := Lib.hid HBX.out
            have HFW := Lib.hid (HF.out.alloc (.cells #[.int .i64 xk, .int .i64 xi, .int .i64 xh] 48))
            have HGW := Lib.hid (HG.out.alloc (.cells #[.int .i64 xk, .int .i64 xi, .int .i64 xh] 48))
            have HOW := Lib.hid (HOWN.out.alloc (.cells #[.int .i64 xk, .int .i64 xi, .int .i64 xh] 48))
            have HBW := Lib.hid hB1.out
            have HFV := Lib.hid HFI.out
            have HGV := Lib.hid HGI.out
            have z0 := blk_cell HBX.out 0
            have z1 := blk_cell HBX.out 1
            have z2 := blk_cell HBX.out 2
            clear hh1 hnot
            have mGa : ¬ wr.heap.size = Gh := by omega
            have mGb : ¬ wr.heap.size = Gb := by omega
            have HNEW := Lib.hid (show ∀ y : HAct, y = ⟨xk, xi, xh⟩ → f + xh = Heat.step y (if y.kind = 1 ∧ L < F y.ion then 0 else F y.ion) from fun y hy => by rw [HST.out y hy, if_neg hk2])
            by_cases hg : g < 0
            · have HBV := Lib.hid (fun j => show begStep L F G q ⟨xk, xi, xh⟩ j = if j = xi then (q : Int) else G j by rw [HBG.out, if_neg hk2, if_pos hg])
              clear hk2
              have x0 : (wr.alloc (.cells #[.int .i64 xk, .int .i64 xi, .int .i64 xh] 48)).cell? ⟨wr.heap.size, 0, none⟩ = some (.int .i64 xk) := blk_cell HX.out 0
              have x1 : (wr.alloc (.cells #[.int .i64 xk, .int .i64 xi, .int .i64 xh] 48)).cell? ⟨wr.heap.size, 1, none⟩ = some (.int .i64 xi) := blk_cell HX.out 1
              have x3 : (wr.alloc (.cells #[.int .i64 xk, .int .i64 xi, .int .i64 xh] 48)).cell? ⟨wr.heap.size, 2, none⟩ = some (.int .i64 xh) := blk_cell HX.out 2
              have y0 := HFW.out.cell hi0 hi2
              rw [HFV.out] at y0
              have f0 : (wr.alloc (.cells #[.int .i64 xk, .int .i64 xi, .int .i64 xh] 48)).frozen? ⟨Gh, xi.toNat, none⟩ = false := HFW.out.frozen _
              have L0 : wr.heap.size < (wr.alloc (.cells #[.int .i64 xk, .int .i64 xi, .int .i64 xh] 48)).heap.size := blk_lt HX.out
              have L1 : Gh < (wr.alloc (.cells #[.int .i64 xk, .int .i64 xi, .int .i64 xh] 48)).heap.size := HFW.out.lt
              have L2 : Gb < (wr.alloc (.cells #[.int .i64 xk, .int .i64 xi, .int .i64 xh] 48)).heap.size := HGW.out.lt
              go_wp2
              have mc := cell_mergeW (wr.alloc (.cells #[.int .i64 xk, .int .i64 xi, .int .i64 xh] 48))
              have mf := frozen_mergeW (wr.alloc (.cells #[.int .i64 xk, .int .i64 xi, .int .i64 xh] 48))
              refine wp_region_btail 14 (by kernel_rfl) (by kernel_rfl) ?_
              simp only [List.take_succ_cons, List.take_zero, List.drop_succ_cons, List.drop_zero]
              repeat (go_big_quiet_step (first | (go_at_call 81; refine (pread_warm ⟨xk, xi, xh⟩ _ HKD.out).mono ?_; rintro e w3 ⟨rfl, hb3⟩; exact ⟨rfl, in_mergeW hb3⟩) | (go_at_call 107; refine (changeWarm _ _ _ hx (by omega)).mono ?_; rintro e w3 ⟨rfl, hb3⟩; exact ⟨rfl, in_mergeW hb3⟩)))
              refine wpQuiet_nil ?_
              rintro w4 ⟨s4, hs4⟩
              have hb3 := below_mergeW (wr.alloc (.cells #[.int .i64 xk, .int .i64 xi, .int .i64 xh] 48)) s4
              rw [← hs4] at hb3
              clear hs4 mc mf
              have y10 := (hb3.cell (p := ⟨Gh, xi.toNat, none⟩) L1).trans y0
              have f10 := (hb3.frozen (p := ⟨Gh, xi.toNat, none⟩) L1).trans f0
              have hb4 := hb3
              have s4 := hb4.size
              have HX8 := Lib.hid (blk_far (blk_below HX.out hb4 L0) (p := ⟨Gh, xi.toNat, none⟩) mGa (.int .i64 (f + xh)))
              have HF8 := Lib.hid ((HFW.out.below hb4 L1).set hi0 hi2 (f + xh))
              have HG8 := Lib.hid ((HGW.out.below hb4 L2).far (p := ⟨Gh, xi.toNat, none⟩) hne' (.int .i64 (f + xh)))
              have HO8 := Lib.hid (own_keep (own_below HOW.out hb4) fun g' hg' => Below.heap_setCell w4 ⟨Gh, xi.toNat, none⟩ (.int .i64 (f + xh)) g' (fun e => (HFW.out.below hb4 L1).ne67 (own_below HOW.out hb4) (by dsimp only at e; rw [← e]; exact hg'.symm)))
              have HB8 := Lib.hid ((HBW.out.trans (hb4.mono HBW.out.size)).setCell (p := ⟨Gh, xi.toNat, none⟩) hgh0 (.int .i64 (f + xh)))
              have u0 := (hb4.cell (p := ⟨wr.heap.size, 0, none⟩) L0).trans x0
              have u1 := (hb4.cell (p := ⟨wr.heap.size, 1, none⟩) L0).trans x1
              have v0 := (HGW.out.below hb4 L2).cell hi0 hi2
              rw [HGV.out] at v0
              have v1 := (HGW.out.below hb4 L2).frozen xi.toNat
              clear x0 x1 x3 y0 f0 hb3
              have dk : (xk == 2) = false := HD2.out
              go_wp2
              go_roundw
              case rel =>
                refine ⟨q + 1, by omega, by go_num, ?_, (HF8.out.far (p := ⟨Gb, xi.toNat, none⟩) hne (.int .i64 q)).congr fun j _ => ?_, (HG8.out.set hi0 hi2 (q : Int)).congr fun j _ => ?_, HB8.out.setCell (p := ⟨Gb, xi.toNat, none⟩) hgb0 (.int .i64 q)⟩
                · rw [HW.out]
                  exact (own_keep HO8.out fun g' hg' => Below.heap_setCell (w4.setCell ⟨Gh, xi.toNat, none⟩ (.int .i64 (f + xh))) ⟨Gb, xi.toNat, none⟩ (.int .i64 q) g' (fun e => HG8.out.ne67 HO8.out (by dsimp only at e; rw [← e]; exact hg'.symm)))
                · rw [HSG.out]
                  refine gh_fit (x := ⟨xk, xi, xh⟩) (FN := fun j => if j = xi then (f + xh) else F j) ?_ (fun j hj => (if_neg hj).trans rfl) j
                  exact (if_pos rfl).trans (HNEW.out _ rfl)
                · rw [HSB.out]
                  exact beg_fit HBV.out (fun _ _ => rfl) _
              case measure => simp [intOf]; omega
            · have HBV := Lib.hid (fun j => show begStep L F G q ⟨xk, xi, xh⟩ j = if j = xi then g else G j by rw [HBG.out, if_neg hk2, if_neg hg])
              clear hk2
              have x0 : (wr.alloc (.cells #[.int .i64 xk, .int .i64 xi, .int .i64 xh] 48)).cell? ⟨wr.heap.size, 0, none⟩ = some (.int .i64 xk) := blk_cell HX.out 0
              have x1 : (wr.alloc (.cells #[.int .i64 xk, .int .i64 xi, .int .i64 xh] 48)).cell? ⟨wr.heap.size, 1, none⟩ = some (.int .i64 xi) := blk_cell HX.out 1
              have x3 : (wr.alloc (.cells #[.int .i64 xk, .int .i64 xi, .int .i64 xh] 48)).cell? ⟨wr.heap.size, 2, none⟩ = some (.int .i64 xh) := blk_cell HX.out 2
              have y0 := HFW.out.cell hi0 hi2
              rw [HFV.out] at y0
              have f0 : (wr.alloc (.cells #[.int .i64 xk, .int .i64 xi, .int .i64 xh] 48)).frozen? ⟨Gh, xi.toNat, none⟩ = false := HFW.out.frozen _
              have L0 : wr.heap.size < (wr.alloc (.cells #[.int .i64 xk, .int .i64 xi, .int .i64 xh] 48)).heap.size := blk_lt HX.out
              have L1 : Gh < (wr.alloc (.cells #[.int .i64 xk, .int .i64 xi, .int .i64 xh] 48)).heap.size := HFW.out.lt
              have L2 : Gb < (wr.alloc (.cells #[.int .i64 xk, .int .i64 xi, .int .i64 xh] 48)).heap.size := HGW.out.lt
              go_wp2
              have mc := cell_mergeW (wr.alloc (.cells #[.int .i64 xk, .int .i64 xi, .int .i64 xh] 48))
              have mf := frozen_mergeW (wr.alloc (.cells #[.int .i64 xk, .int .i64 xi, .int .i64 xh] 48))
              refine wp_region_btail 14 (by kernel_rfl) (by kernel_rfl) ?_
              simp only [List.take_succ_cons, List.take_zero, List.drop_succ_cons, List.drop_zero]
              repeat (go_big_quiet_step (first | (go_at_call 81; refine (pread_warm ⟨xk, xi, xh⟩ _ HKD.out).mono ?_; rintro e w3 ⟨rfl, hb3⟩; exact ⟨rfl, in_mergeW hb3⟩) | (go_at_call 107; refine (changeWarm _ _ _ hx (by omega)).mono ?_; rintro e w3 ⟨rfl, hb3⟩; exact ⟨rfl, in_mergeW hb3⟩)))
              refine wpQuiet_nil ?_
              rintro w4 ⟨s4, hs4⟩
              have hb3 := below_mergeW (wr.alloc (.cells #[.int .i64 xk, .int .i64 xi, .int .i64 xh] 48)) s4
              rw [← hs4] at hb3
              clear hs4 mc mf
              have y10 := (hb3.cell (p := ⟨Gh, xi.toNat, none⟩) L1).trans y0
              have f10 := (hb3.frozen (p := ⟨Gh, xi.toNat, none⟩) L1).trans f0
              have hb4 := hb3
              have s4 := hb4.size
              have HX8 := Lib.hid (blk_far (blk_below HX.out hb4 L0) (p := ⟨Gh, xi.toNat, none⟩) mGa (.int .i64 (f + xh)))
              have HF8 := Lib.hid ((HFW.out.below hb4 L1).set hi0 hi2 (f + xh))
              have HG8 := Lib.hid ((HGW.out.below hb4 L2).far (p := ⟨Gh, xi.toNat, none⟩) hne' (.int .i64 (f + xh)))
              have HO8 := Lib.hid (own_keep (own_below HOW.out hb4) fun g' hg' => Below.heap_setCell w4 ⟨Gh, xi.toNat, none⟩ (.int .i64 (f + xh)) g' (fun e => (HFW.out.below hb4 L1).ne67 (own_below HOW.out hb4) (by dsimp only at e; rw [← e]; exact hg'.symm)))
              have HB8 := Lib.hid ((HBW.out.trans (hb4.mono HBW.out.size)).setCell (p := ⟨Gh, xi.toNat, none⟩) hgh0 (.int .i64 (f + xh)))
              have u0 := (hb4.cell (p := ⟨wr.heap.size, 0, none⟩) L0).trans x0
              have u1 := (hb4.cell (p := ⟨wr.heap.size, 1, none⟩) L0).trans x1
              have v0 := (HGW.out.below hb4 L2).cell hi0 hi2
              rw [HGV.out] at v0
              have v1 := (HGW.out.below hb4 L2).frozen xi.toNat
              clear x0 x1 x3 y0 f0 hb3
              have dk : (xk == 2) = false := HD2.out
              go_wp2
              go_roundw
              case rel =>
                refine ⟨q + 1, by omega, by go_num, ?_, (HF8.out).congr fun j _ => ?_, (HG8.out).congr fun j _ => ?_, HB8.out⟩
                · rw [HW.out]
                  exact HO8.out
                · rw [HSG.out]
                  refine gh_fit (x := ⟨xk, xi, xh⟩) (FN := fun j => if j = xi then (f + xh) else F j) ?_ (fun j hj => (if_neg hj).trans rfl) j
                  exact (if_pos rfl).trans (HNEW.out _ rfl)
                · rw [HSB.out]
                  exact beg_same HBV.out (fun _ _ => rfl) HGV.out _
              case measure => simp [intOf]; omega
      · obtain rfl : q = l.length := by omega
        obtain ⟨Av, cv, rfl, _⟩ := own_cap hown
        have HO := Lib.hid hown
        clear hown
        go_wp2
        go_ret2
        exact ⟨_, ret_vi HL.out.symm, fun _ => HO.out, fun x => absurd HL.out x, hb⟩
  · have hd : (limited n l L == 0) = false := by simpa using h
    have hd' : (limited n l L != 0) = true := by simpa using h
    have HX := Lib.hid h
    clear h
    go_enter Try.func52, Try.ntmps52
    go_wp2_with fail
    refine H.out.mono ?_
    rintro e w1 ⟨rfl, hb⟩
    go_wp2
    go_ret2
    exact ⟨_, rfl, fun x => absurd x HX.out, fun _ => rfl, hb⟩
end Go.Proofs.Ytkeolmipdoeljaa
