/-
  WALKS: the reference's fewest coolings.
-/
import Derived.Test.YtkeolmipdoeljaaW3
import Derived.Test.YtkeolmipdoeljaaMem3
import Derived.Deep.RegionWith
namespace Go.Proofs.Ytkeolmipdoeljaa
open Go.RowKit Heat

theorem hotFrom_snoc (L : Int) (l : List HAct) (a : HAct) : ∀ h i, hotFrom L h i (l ++ [a]) = hotFrom L h i l ++ (if a.kind = 1 ∧ L < heats h l a.ion then [((i + l.length : Nat) : Int)] else []) := by
  induction l with
  | nil =>
    intro h i
    by_cases c : a.kind = 1 ∧ L < h a.ion
    · simp [hotFrom, heats_nil, c]
    · simp only [List.nil_append, hotFrom]; rw [if_neg c, if_neg (show ¬(a.kind = 1 ∧ L < heats h [] a.ion) from c)]
  | cons b l ih =>
    intro h i
    have e : i + 1 + l.length = i + (b :: l).length := by simp; omega
    simp only [List.cons_append, hotFrom]
    split
    · rw [ih, e]; rfl
    · rw [ih, e]; rfl
theorem hotTo_eq (L : Int) (l : List HAct) (q : Nat) (hq : q ≤ l.length) : hotTo L l q = hot L (l.take q) := by
  induction q with
  | zero => rfl
  | succ q ih =>
    have hlt : q < l.length := by omega
    rw [hotTo, ih (by omega), take_snoc l q hlt, hot, hot, hotFrom_snoc, List.getElem?_eq_getElem hlt, before_eq l q hlt]
    congr 1
    have e : 0 + (l.take q).length = q := by rw [List.length_take]; omega
    rw [e]
    by_cases c : l[q].kind = 1 ∧ L < heats cold (l.take q) l[q].ion
    · simp [c]
    · rw [if_neg c]; simp [c]
theorem hotTo_all (L : Int) (l : List HAct) : hotTo L l l.length = hot L l := by rw [hotTo_eq L l _ (Nat.le_refl _), List.take_length]

set_option maxRecDepth 100000 in
set_option maxHeartbeats 2000000 in
theorem rfewest (A : Option Addr) (k c : Nat) (limit : Int) (l : List HAct) (w : World) (hl : l.length ≤ 400) (hk : k ≤ c) (hc : c ≤ maxLen) (h0 : 0 ≤ limit) (hm : Mild l) (B : Nat) (hB : B ≤ w.heap.size) (hr : Rd w B 3 A k (actCells l)) :
    Calls Try.prog 57 #[.slice A k c, .int .i64 limit] w fun e w' => e = .returned (.int .i64 (cnt limit cold l)) ∧ Below w.heap.size w w' := by
  obtain rfl := hr.act_len
  go_enter Try.func57, Try.ntmps57
  go_wp2
  go_loopw [0, 5] (fun s v wr => ∃ (q : Nat) (A' : Option Addr) (c' : Nat) (p : List HAct), v = .int .i64 q ∧ s = .slice A' p.length c' ∧ p.length ≤ c' ∧ c' ≤ maxLen ∧ p.length = l.length + q ∧ cnt limit cold p + q = cnt limit cold l ∧ Mild p ∧ Rd wr wr.heap.size 3 A' p.length (actCells p) ∧ Below w.heap.size w wr) (fun _ v _ => cnt limit cold l - (intOf v).toNat)
  case atStart => exact ⟨0, A, c, l, rfl, rfl, hk, hc, rfl, rfl, hm, hr.more hB, Below.refl _ _⟩
  case round =>
    obtain ⟨q, A', c', p, rfl, rfl, hk', hc', hpl, hcnt, hmp, hrp, hb⟩ := hrel
    have hcl := cnt_le limit l cold
    have hH := rhot A' p.length c' limit p wr (by omega) hmp wr.heap.size (Nat.le_refl _) hrp
    rw [hotTo_all] at hH
    unfold maxLen at hc'
    have HH := Lib.hid hH
    have HP := Lib.hid hpl
    have HN := Lib.hid hcnt
    have hpl2 : p.length ≤ 800 := by omega
    have hq2 : q ≤ 400 := by omega
    clear hH hm hr hpl hcnt
    cases hx : hot limit p with
    | nil =>
      have HC := Lib.hid (show (cnt limit cold l : Int) = q by have := cnt_of_not_hot p cold 0 hx; have := HN.out; omega)
      have HX := Lib.hid hx
      clear hx
      go_wp2_with fail
      refine HH.out.mono ?_
      rw [HX.out]
      rintro e w1 ⟨v, rfl, hown, hb1⟩
      obtain ⟨A1, c1, rfl, hA1⟩ := own_val hown
      go_wp2
      go_ret
      exact ⟨ret_int HC.out.symm, hb.trans (hb1.mono hb.size)⟩
    | cons x xs =>
      obtain ⟨i, hxi, a, ha, hca⟩ := cnt_first h0 p cold 0 x xs hx
      rw [Nat.zero_add] at hxi
      subst hxi
      have hip : i < p.length := (List.getElem?_eq_some_iff.1 ha).1
      rw [List.getElem?_eq_getElem hip] at ha
      have HX := Lib.hid hx
      have HA := Lib.hid (Option.some.inj ha)
      have HC := Lib.hid hca
      clear hx ha hca
      go_wp2_with fail
      refine HH.out.mono ?_
      rw [HX.out]
      rintro e w1 ⟨v, rfl, hown, hb1⟩
      obtain ⟨g1, cap1, rfl, hg1, hg2⟩ := hown.form (by simp)
      have hv : w1.cell? ⟨g1, 0, none⟩ = some (.int .i64 i) := hown.cellAt 0 (by simp)
      obtain ⟨b, off, rfl, hbb, h0, h1, h2⟩ := (hrp.below hb1).act hip
      rw [List.length_cons]
      go_wp2
      have hi0 : (0 : Int) ≤ (i : Int) := Int.natCast_nonneg _
      have hi1 : (i : Int) < (p.length : Int) := by omega
      have hi2 : (i : Int) ≤ (c' : Int) := by omega
      have HQ := Lib.hid (show (p.take i ++ cool a.ion :: p.drop i).length = 0 + i + 1 + (p.length - i) by rw [List.length_append, List.length_cons, List.length_take, List.length_drop]; omega)
      have HS := Lib.hid (show [] ++ actCells (p.take i) ++ #[Value.int .i64 2, .int .i64 p[i].ion, .int .i64 0].toList ++ actCells (p.drop i) = actCells (p.take i ++ cool a.ion :: p.drop i) by rw [HA.out]; simp [actCells, actCell, cool])
      have HM := Lib.hid (show Mild (p.take i ++ cool a.ion :: p.drop i) from fun x hx => by
        rcases List.mem_append.1 hx with h | h
        · exact hmp x (List.mem_of_mem_take h)
        · rcases List.mem_cons.1 h with h | h
          · subst h; simp [cool]
          · exact hmp x (List.mem_of_mem_drop h))
      have hbl : b < w1.heap.size := by have := hb1.size; omega
      have s1 := hb1.size
      have HO := Lib.hid (show ((w1.alloc (.cells #[] 48)).drew).ownsRow w1.heap.size 48 3 (.slice (some ⟨w1.heap.size, 0, none⟩) 0 0) 0 [] from own_empty (blk_new w1 48 #[]) (Nat.le_refl _))
      have HR := Lib.hid (show Rd ((w1.alloc (.cells #[] 48)).drew) wr.heap.size 3 (some ⟨b, off, none⟩) i (actCells (p.take i)) from (((hrp.below hb1).actFront (by omega)).alloc hb1.size _))
      have HO2 := Lib.hid (HO.out.alloc (.cells #[.int .i64 2, .int .i64 p[i].ion, .int .i64 0] 48))
      have HR2 := Lib.hid (HR.out.alloc (show wr.heap.size ≤ (w1.alloc (.cells #[] 48)).drew.heap.size by simp; omega) (.cells #[.int .i64 2, .int .i64 p[i].ion, .int .i64 0] 48))
      have HB := Lib.hid (((Below.refl w1.heap.size w1).alloc (Nat.le_refl _) (.cells #[] 48)).drew)
      have HB2 := Lib.hid (HB.out.alloc (show w1.heap.size ≤ (w1.alloc (.cells #[] 48)).drew.heap.size by simp) (.cells #[.int .i64 2, .int .i64 p[i].ion, .int .i64 0] 48))
      have HE := Lib.hid (blk_new ((w1.alloc (.cells #[] 48)).drew) 48 #[.int .i64 2, .int .i64 p[i].ion, .int .i64 0])
      rw [show (w1.alloc (.cells #[] 48)).drew.heap.size = w1.heap.size + 1 by simp] at HE
      have HB3 := Lib.hid ((((Below.refl w1.heap.size w1).alloc (Nat.le_refl _) (.cells #[.int .i64 2, .int .i64 p[i].ion, .int .i64 0] 48)).alloc (by simp) (.cells #[] 48)).drew)
      have HO3 := Lib.hid (show (((w1.alloc (.cells #[.int .i64 2, .int .i64 p[i].ion, .int .i64 0] 48)).alloc (.cells #[] 48)).drew).ownsRow w1.heap.size 48 3 (.slice (some ⟨w1.heap.size + 1, 0, none⟩) 0 0) 0 [] from own_empty (by have := blk_new (w1.alloc (.cells #[.int .i64 2, .int .i64 p[i].ion, .int .i64 0] 48)) 48 #[]; rw [World.size_alloc] at this; exact this) (Nat.le_succ _))
      have HR3 := Lib.hid (show Rd (((w1.alloc (.cells #[.int .i64 2, .int .i64 p[i].ion, .int .i64 0] 48)).alloc (.cells #[] 48)).drew) wr.heap.size 3 (some ⟨b, off, none⟩) i (actCells (p.take i)) from ((((hrp.below hb1).actFront (by omega)).alloc hb1.size _).alloc (by simp; omega) _))
      have HE3 := Lib.hid (show (((w1.alloc (.cells #[.int .i64 2, .int .i64 p[i].ion, .int .i64 0] 48)).alloc (.cells #[] 48)).drew).heap[w1.heap.size]? = _ from blk_alloc (blk_new w1 48 #[.int .i64 2, .int .i64 p[i].ion, .int .i64 0]) (.cells #[] 48))
      have hion := hmp _ (List.getElem_mem hip)
      go_region_held3 (fun w' => w'.cell? ⟨b, off + i * 3 + 1, none⟩ = some (.int .i64 p[i].ion)) (first | go_keep | (exact (hb2.cell (p := ⟨b, off + i * 3 + 1, none⟩) hbl).trans h1) | (exact (hb3.cell (p := ⟨b, off + i * 3 + 1, none⟩) hbl).trans h1))
        (first
          | (refine stepAppN (by rfl) (.tmp 19) (.tmp 22) 22 (by rfl) 48 _ 3 24 E22 w1.heap.size (.slice (some ⟨w1.heap.size, 0, none⟩) 0 0) 0 [] (by rfl) HO.out wr.heap.size (some ⟨b, off, none⟩) i c' (actCells (p.take i)) (by rfl) HR.out (actCells_one _) (by omega) (by simp) ?_; intro v2 w2 hown2 hg2; have hb2 := below_own HB.out (by simp) HO.out (Nat.le_refl _) hg2; have s2 := hb2.size)
          | (refine stepAppN (by rfl) (.tmp 19) (.tmp 22) 22 (by rfl) 48 _ 3 24 E22 w1.heap.size (.slice (some ⟨w1.heap.size, 0, none⟩) 0 0) 0 [] (by rfl) HO2.out wr.heap.size (some ⟨b, off, none⟩) i c' (actCells (p.take i)) (by rfl) HR2.out (actCells_one _) (by omega) (by simp; omega) ?_; intro v2 w2 hown2 hg2; have hb2 := below_own HB2.out (by simp; omega) HO2.out (Nat.le_refl _) hg2; have s2 := hb2.size; have hE2 := Rd.blk 3 (blk_grown HE.out hg2 (by simp [Value.ownBlock])) rfl)
          | (refine stepAppN (by rfl) (.tmp 19) (.tmp 22) 22 (by rfl) 48 _ 3 24 E22 w1.heap.size (.slice (some ⟨w1.heap.size + 1, 0, none⟩) 0 0) 0 [] (by rfl) HO3.out wr.heap.size (some ⟨b, off, none⟩) i c' (actCells (p.take i)) (by rfl) HR3.out (actCells_one _) (by omega) (by simp; omega) ?_; intro v2 w2 hown2 hg2; have hb2 := below_own HB3.out (by simp; omega) HO3.out (Nat.le_refl _) hg2; have s2 := hb2.size; have hE2 := Rd.blk 3 (blk_grown HE3.out hg2 (by simp [Value.ownBlock])) rfl)
          | (refine stepAppN (by rfl) (.tmp 23) (.tmp 30) 22 (by rfl) 48 _ 3 24 E22 w1.heap.size v2 (0 + i) _ (by rfl) (hown2.alloc _) (w2.heap.size + 1) (some ⟨w2.heap.size, 0, none⟩) 1 1 _ (by rfl) (Rd.one w2 #[.int .i64 2, .int .i64 p[i].ion, .int .i64 0] 48 3 rfl) rfl (by omega) (by simp; omega) ?_; intro v3 w3 hown3 hg3; have hb3 := below_own (hb2.alloc s2 _) (by simp; omega) (hown2.alloc _) (Nat.le_refl _) hg3)
          | (go_loud (refine stepAppN (by rfl) (.tmp 23) (.tmp 30) 22 (by rfl) 48 _ 3 24 E22 w1.heap.size v2 (0 + i) _ (by rfl) hown2 _ _ 1 1 _ (by rfl) hE2 rfl (by omega) s2 ?_); intro v3 w3 hown3 hg3; have hb3 := below_own hb2 s2 hown2 (Nat.le_refl _) hg3))
      all_goals
        obtain ⟨A3, c3, rfl, _, _⟩ := own_cap hown3
        have hR3 := ((hrp.below hb1).below' hb3 s1).actBack (k := i) (by omega)
        have s3 := hb3.size
        have hci : ¬ c' = i := by omega
        have HOWN := Lib.hid hown3
        clear hown3 hown2 hg3 hg2 hown
        go_wp2_with (at_builtin; go_must (refine appN rfl (.tmp 32) (.tmp 35) 22 rfl 48 _ 3 24 E22 w1.heap.size _ _ _ rfl HOWN.out wr.heap.size (some ⟨b, off + i * 3, none⟩) (p.length - i) (c' - i) (actCells (p.drop i)) rfl hR3 (actCells_one _) (by omega) s3 ?_); intro v4 w4 hown4 hg4)
        obtain ⟨A4, c4, rfl, hn4, hx4⟩ := own_cap hown4
        have hR4 := Rd.of_own hown4
        go_roundw
        case rel => exact ⟨q + 1, A4, c4, p.take i ++ cool a.ion :: p.drop i, by go_num, by rw [HQ.out], by rw [HQ.out]; exact hn4, hx4, by rw [HQ.out]; have := HP.out; omega, by have := HC.out; have := HN.out; omega, HM.out, by rw [HQ.out, ← HS.out]; exact hR4, hb.trans ((hb1.mono hb.size).trans ((below_own hb3 s3 HOWN.out (Nat.le_refl _) hg4).mono (by have := hb.size; omega)))⟩
        case measure => simp [intOf]; have := HC.out; have := HN.out; omega
end Go.Proofs.Ytkeolmipdoeljaa
