/-
  WALKS: slices.DeleteFunc at acts.
-/
import Derived.Test.YtkeolmipdoeljaaMem4
import Derived.Laws.IdiomCopy
import Derived.Test.YtkeolmipdoeljaaW15
namespace Go.Proofs.Ytkeolmipdoeljaa
open Go.RowKit Heat

def keep (p : HAct → Bool) (l : List HAct) : List HAct := l.filter fun a => !p a

theorem clear_acts {w : World} {g off n c : Nat} (hn : 0 < n) (hc : ∀ j, j < n * 3 → (w.cell? ⟨g, off + j, none⟩).isSome = true) (hf : ∀ j, j < n * 3 → w.frozen? ⟨g, off + j, none⟩ = false) :
    ∃ vs : List Value, (Builtin.clear_ #[22] 0 #[.slice (some ⟨g, off, none⟩) n c]).run Try.prog w = .ok (.tuple #[]) (w.setCells g off vs) := by
  obtain ⟨i, hi, hz, _⟩ := E22.info
  refine ⟨(Builtin.zeroCells #[.int .i64 0, .int .i64 0, .int .i64 0] n).toList, ?_⟩
  have hlen : (Builtin.zeroCells #[.int .i64 0, .int .i64 0, .int .i64 0] n).toList.length = n * 3 := by simp [Builtin.zeroCells]
  have hst := run_storeCells_cells (P := Try.prog) g off (Builtin.zeroCells #[.int .i64 0, .int .i64 0, .int .i64 0] n).toList 0 w (by rw [hlen]; simpa using hc) (by rw [hlen]; simpa using hf) (by
    intro v hv
    simp only [Builtin.zeroCells, Array.toList_map, List.mem_map] at hv
    obtain ⟨k, _, rfl⟩ := hv
    have h3 : k % 3 = 0 ∨ k % 3 = 1 ∨ k % 3 = 2 := by omega
    show (#[Value.int .i64 0, .int .i64 0, .int .i64 0][k % 3]!).oneCell' = true
    rcases h3 with e | e | e <;> rw [e] <;> rfl)
  simp only [Nat.add_zero] at hst
  obtain ⟨m, rfl⟩ : ∃ m, n = m + 1 := ⟨n - 1, by omega⟩
  have hv : ∀ w, (zeroValue 48).run Try.prog w = .ok (.agg #[.int .i64 0, .int .i64 0, .int .i64 0]) w := fun w => by simp [zeroValue, typeInfo, hi, hz]
  simp [Builtin.clear_, run_underlying Try.underlying22, hv, hst, Value.cells]

theorem blk_setCells {g : Nat} {t : TypeId} : ∀ (vs : List Value) (o : Nat) (w : World) (cur : Array Value), w.heap[g]? = some (.cells cur t (0, 0)) → ∃ cur', (w.setCells g o vs).heap[g]? = some (.cells cur' t (0, 0)) ∧ cur'.size = cur.size ∧ cur'.toList.take o = cur.toList.take o
  | [], _, _, cur, h => ⟨cur, h, rfl, rfl⟩
  | v :: r, o, w, cur, h => by
    obtain ⟨cur', h1, h2, h3⟩ := blk_setCells r (o + 1) (w.setCell ⟨g, o, none⟩ v) _ (blk_set h o v)
    refine ⟨cur', h1, by simpa using h2, ?_⟩
    have := congrArg (List.take o) h3
    rw [List.take_take, List.take_take, Nat.min_eq_left (by omega), Array.toList_setIfInBounds, List.take_set_of_le (Nat.le_refl _)] at this
    exact this
theorem below_sets {B g : Nat} {a : World} (hg : B ≤ g) : ∀ (vs : List Value) (o : Nat) (w : World), Below B a w → Below B a (w.setCells g o vs)
  | [], _, _, h => h
  | v :: r, o, w, h => below_sets hg r (o + 1) _ (h.setCell (p := ⟨g, o, none⟩) hg v)
theorem own_front {w : World} {base g n c i : Nat} {m : List HAct} (h : w.ownsRow base 48 3 (.slice (some ⟨g, 0, none⟩) n c) n (actCells m)) (hi : i ≤ m.length) (vs : List Value) :
    (w.setCells g (i * 3) vs).ownsRow base 48 3 (.slice (some ⟨g, 0, none⟩) i c) i (actCells (m.take i)) := by
  obtain ⟨h1, h2⟩ := h
  rw [actCells_length] at h1
  refine ⟨by rw [actCells_length, List.length_take]; omega, ?_⟩
  rcases h2 with ⟨h2, _⟩ | ⟨g', cap, cur, hv, hg, hh, h3, h4, h5, h6⟩
  · cases h2
  · injection hv with a b d
    injection a with a
    injection a with a
    subst a
    subst d
    obtain ⟨cur', k1, k2, k3⟩ := blk_setCells vs (i * 3) w cur hh
    refine .inr ⟨g, c, cur', rfl, hg, k1, by omega, h4, by omega, ?_⟩
    rw [k3, ← actCells_take, ← h6, List.take_take, Nat.min_eq_left (by omega)]
theorem own_put {w : World} {base g n c i : Nat} {m : List HAct} (h : w.ownsRow base 48 3 (.slice (some ⟨g, 0, none⟩) n c) n (actCells m)) (hi : i < m.length) (a : HAct) :
    (((w.setCell ⟨g, i * 3, none⟩ (.int .i64 a.kind)).setCell ⟨g, i * 3 + 1, none⟩ (.int .i64 a.ion)).setCell ⟨g, i * 3 + 2, none⟩ (.int .i64 a.heat)).ownsRow base 48 3 (.slice (some ⟨g, 0, none⟩) n c) n (actCells (m.set i a)) := by
  rw [← actCells_set m i hi a]
  exact own_set (own_set (own_set h _) _) _
theorem keep_drop (p : HAct → Bool) (l : List HAct) (q : Nat) (hq : q < l.length) (h : p l[q] = true) : keep p (l.take (q + 1)) = keep p (l.take q) := by
  unfold keep
  rw [take_snoc l q hq, List.filter_append]
  simp [h]
theorem keep_take (p : HAct → Bool) (l : List HAct) (q : Nat) (hq : q < l.length) (h : p l[q] = false) : keep p (l.take (q + 1)) = keep p (l.take q) ++ [l[q]] := by
  unfold keep
  rw [take_snoc l q hq, List.filter_append]
  simp [h]
theorem keep_none (p : HAct → Bool) (l : List HAct) (h : l.any p = false) : keep p l = l := by
  unfold keep
  rw [List.filter_eq_self]
  intro a ha
  have := List.any_eq_false.1 h a ha
  simpa using this
theorem drop_next {m l : List HAct} {q : Nat} (h : m.drop q = l.drop q) : m.drop (q + 1) = l.drop (q + 1) := by
  have := congrArg (List.drop 1) h
  rwa [List.drop_drop, List.drop_drop] at this

theorem place_hit (p : HAct → Bool) (l : List HAct) (h : l.any p = true) : ∃ i, ∃ hi : i < l.length, (l.take i).any p = false ∧ p l[i] = true ∧ placeOf p l = (i : Int) := by
  have hfi : l.findIdx p < l.length := List.findIdx_lt_length.2 (by simpa using h)
  refine ⟨l.findIdx p, hfi, ?_, List.findIdx_getElem, by rw [placeOf, if_pos h]⟩
  rw [List.any_eq_false]
  intro x hx
  obtain ⟨j, hj, rfl⟩ := List.mem_take_iff_getElem.1 hx
  have := List.not_of_lt_findIdx (p := p) (xs := l) (i := j) (by omega)
  simpa using this
theorem keep_front (p : HAct → Bool) (l : List HAct) (i : Nat) (hi : i < l.length) (h : (l.take i).any p = false) (hp : p l[i] = true) : l.take i = keep p (l.take (i + 1)) := by
  unfold keep
  rw [take_snoc l i hi, List.filter_append]
  have e1 : (l.take i).filter (fun a => !p a) = l.take i := by
    rw [List.filter_eq_self]
    intro a ha
    have := List.any_eq_false.1 h a ha
    simpa using this
  rw [e1]
  simp [hp]

set_option maxRecDepth 100000 in
set_option maxHeartbeats 2000000 in
theorem pDeleteFunc (f : FuncId) (hcf : ∀ (args : Array Value) (W : World), (callFunc f args).run Try.prog W = .ok (.enter f args) W) (cs : Array Value) (p : HAct → Bool) (A : Option Addr) (c : Nat) (l : List HAct) (w : World) (hl : l.length ≤ 1000) (base : Nat) (hB : base ≤ w.heap.size) (hown : w.ownsRow base 48 3 (.slice A l.length c) l.length (actCells l))
    (hf : ∀ a ∈ l, ∀ W, Below base w W → Calls Try.prog f (#[actV a] ++ cs) W fun e W' => e = .returned (.bool (p a)) ∧ Below W.heap.size W W') :
    Calls Try.prog 69 #[.slice A l.length c, .func (.func f) #[] cs] w fun e w' => ∃ v, e = .returned v ∧ w'.ownsRow base 48 3 v (keep p l).length (actCells (keep p l)) ∧ Below base w w' := by
  have HI := Lib.hid (actIndexFunc f hcf cs p A l.length c l w hl w.heap.size (Nat.le_refl _) (Rd.of_own hown) (fun a ha W hW => hf a ha W (hW.mono hB)))
  have HF := Lib.hid hf
  clear hf
  by_cases hany : l.any p = true
  · have hx := Lib.hid hany
    obtain ⟨i0, hfi, hfb, hfp, hpl⟩ := place_hit p l hany
    have HFB := Lib.hid hfb
    have HFP := Lib.hid hfp
    have HPL := Lib.hid hpl
    clear hpl hany hfb hfp
    obtain ⟨g, cap, hv, hg1, hg2⟩ := hown.form (by omega)
    simp only [Value.slice.injEq, true_and] at hv
    obtain ⟨rfl, rfl⟩ := hv
    go_enter Try.func69, Try.ntmps69
    go_wp2_with fail
    refine HI.out.mono ?_
    rw [HPL.out]
    rintro e w1 ⟨rfl, hb1⟩
    have hown1 := own_below hown hb1
    have hb1' := hb1.mono hB
    have s1 := hb1.size
    clear hown hb1
    go_wp2
    go_loopw [5, 6] (fun a b wr => ∃ (i q : Nat) (m : List HAct), a = .int .i64 i ∧ b = .int .i64 q ∧ i < q ∧ q ≤ l.length ∧ m.length = l.length ∧ wr.ownsRow base 48 3 (.slice (some ⟨g, 0, none⟩) l.length c) l.length (actCells m) ∧ Hid (m.take i = keep p (l.take q)) ∧ Hid (m.drop q = l.drop q) ∧ Below base w wr) (fun _ b _ => l.length - (intOf b).toNat)
    case atStart =>
      exact ⟨i0, i0 + 1, l, rfl, by go_num, by omega, by omega, rfl, hown1, keep_front p l i0 hfi HFB.out HFP.out, rfl, hb1'⟩
    case round =>
      clear hown1 hb1'
      obtain ⟨i, q, m, rfl, rfl, hiq, hq, hml, hown, HT, HD, hb⟩ := hrel
      have hsz := hb.size
      by_cases hlt : q < l.length
      · have hqm : q < m.length := by omega
        have him : i < m.length := by omega
        have hge : m[q] = l[q] := by
          have := HD.out
          rw [List.drop_eq_getElem_cons hqm, List.drop_eq_getElem_cons hlt] at this
          exact (List.cons.inj this).1
        have r0 := acts_get m q 0 hqm (by omega)
        have r1 := acts_get m q 1 hqm (by omega)
        have r2 := acts_get m q 2 hqm (by omega)
        rw [hge] at r0 r1 r2
        have k0 : wr.cell? ⟨g, q * 3, none⟩ = some (.int .i64 l[q].kind) := (hown.cellAt (q * 3) (by omega)).trans r0
        have k1 : wr.cell? ⟨g, q * 3 + 1, none⟩ = some (.int .i64 l[q].ion) := (hown.cellAt (q * 3 + 1) (by omega)).trans r1
        have k2 : wr.cell? ⟨g, q * 3 + 2, none⟩ = some (.int .i64 l[q].heat) := (hown.cellAt (q * 3 + 2) (by omega)).trans r2
        have hin : l[q] ∈ l := List.getElem_mem hlt
        have hglt : g < wr.heap.size := (hown.lt g rfl).2
        clear r0 r1 r2
        have HB1 := Lib.hid (hb.alloc (by omega) (.cells #[.int .i64 l[q].kind, .int .i64 l[q].ion, .int .i64 l[q].heat] 48))
        have hbx := blk_new wr 48 #[.int .i64 l[q].kind, .int .i64 l[q].ion, .int .i64 l[q].heat]
        have HC := Lib.hid (HF.out l[q] hin _ HB1.out)
        have hown1 := hown.alloc (.cells #[.int .i64 l[q].kind, .int .i64 l[q].ion, .int .i64 l[q].heat] 48)
        by_cases hp : p l[q] = true
        · have HP := Lib.hid hp
          have HT2 := Lib.hid (show m.take i = keep p (l.take (q + 1)) by rw [HT.out, keep_drop p l q hlt hp])
          have HD2 := Lib.hid (drop_next HD.out)
          have HO := Lib.hid hown1
          clear hp hge hown hown1
          go_wp2_with fail
          refine HC.out.mono ?_
          rw [HP.out]
          rintro e w2 ⟨rfl, hb2⟩
          go_wp2
          refine ⟨?_, ?measure⟩
          (repeat apply Exists.intro)
          refine ⟨?rel, rfl⟩
          case rel => exact ⟨i, q + 1, m, rfl, by go_num, by omega, by omega, hml, own_below HO.out hb2, HT2.out, HD2.out, HB1.out.trans (hb2.mono (by simp; omega))⟩
          case measure => simp [intOf]; omega
        · rw [Bool.not_eq_true] at hp
          have HP := Lib.hid hp
          clear hp
          go_wp2_with fail
          refine HC.out.mono ?_
          rw [HP.out]
          rintro e w2 ⟨rfl, hb2⟩
          have hown2 := own_below hown1 hb2
          have hbx2 := blk_below hbx hb2 (by simp)
          have j0 : w2.cell? ⟨wr.heap.size, 0, none⟩ = some (.int .i64 l[q].kind) := blk_cell hbx2 0
          have j1 : w2.cell? ⟨wr.heap.size, 1, none⟩ = some (.int .i64 l[q].ion) := blk_cell hbx2 1
          have j2 : w2.cell? ⟨wr.heap.size, 2, none⟩ = some (.int .i64 l[q].heat) := blk_cell hbx2 2
          have r0 := acts_get m i 0 him (by omega)
          have r1 := acts_get m i 1 him (by omega)
          have r2 := acts_get m i 2 him (by omega)
          have u0 : w2.cell? ⟨g, i * 3, none⟩ = some (.int .i64 m[i].kind) := (hown2.cellAt (i * 3) (by omega)).trans r0
          have u1 : w2.cell? ⟨g, i * 3 + 1, none⟩ = some (.int .i64 m[i].ion) := (hown2.cellAt (i * 3 + 1) (by omega)).trans r1
          have u2 : w2.cell? ⟨g, i * 3 + 2, none⟩ = some (.int .i64 m[i].heat) := (hown2.cellAt (i * 3 + 2) (by omega)).trans r2
          have f0 : w2.frozen? ⟨g, i * 3, none⟩ = false := own_frozen hown2 _
          have f1 : w2.frozen? ⟨g, i * 3 + 1, none⟩ = false := own_frozen hown2 _
          have f2 : w2.frozen? ⟨g, i * 3 + 2, none⟩ = false := own_frozen hown2 _
          have HX2 := Lib.hid hbx2
          have HO2 := Lib.hid hown2
          have HO3 := Lib.hid (own_put hown2 him l[q])
          have HB2 := Lib.hid (HB1.out.trans (hb2.mono (by simp; omega)))
          have HT2 := Lib.hid (show (m.set i l[q]).take (i + 1) = keep p (l.take (q + 1)) by
            rw [take_snoc _ i (by simpa using him), List.take_set_of_le (Nat.le_refl _), HT.out, keep_take p l q hlt HP.out]
            simp)
          have HD2 := Lib.hid (show (m.set i l[q]).drop (q + 1) = l.drop (q + 1) by
            rw [List.drop_set_of_lt (by omega)]
            exact drop_next HD.out)
          clear hbx2 hbx hown hown1 hown2 r0 r1 r2 k0 k1 k2 hge
          go_wp2
          refine ⟨?_, ?measure⟩
          (repeat apply Exists.intro)
          refine ⟨?rel, rfl⟩
          case rel => exact ⟨i + 1, q + 1, m.set i l[q], by go_num, by go_num, by omega, by omega, by simpa using hml, HO3.out, HT2.out, HD2.out, ((HB2.out.setCell (p := ⟨g, i * 3, none⟩) hg1 _).setCell (p := ⟨g, i * 3 + 1, none⟩) hg1 _).setCell (p := ⟨g, i * 3 + 2, none⟩) hg1 _⟩
          case measure => simp [intOf]; omega
      · obtain rfl : q = l.length := by omega
        obtain ⟨A', c', hA, hnc, hcm⟩ := own_cap hown
        simp only [Value.slice.injEq, true_and] at hA
        obtain ⟨rfl, rfl⟩ := hA
        have hci : ¬ c = i := by omega
        have hcell : ∀ j, j < (l.length - i) * 3 → (wr.cell? ⟨g, i * 3 + j, none⟩).isSome = true := by
          intro j hj
          rw [hown.cellAt (i * 3 + j) (by omega), List.getElem?_eq_getElem (by rw [actCells_length]; omega)]
          rfl
        obtain ⟨vs, hclr⟩ := clear_acts (w := wr) (g := g) (off := i * 3) (n := l.length - i) (c := c - i) (by omega) hcell (fun j _ => own_frozen hown _)
        have HO := Lib.hid (own_front hown (i := i) (by omega) vs)
        have HK := Lib.hid (show m.take i = keep p l by have := HT.out; rwa [List.take_length] at this)
        have HKL := Lib.hid (show (keep p l).length = i by rw [← HK.out, List.length_take]; omega)
        have hz0 : (0 : Int) ≤ (i : Int) := Int.natCast_nonneg _
        clear hown hcell
        go_wp2
        go_ret
        refine ⟨_, rfl, ?_, below_sets hg1 vs (i * 3) wr hb⟩
        rw [HKL.out, ← HK.out]
        exact HO.out
  · rw [Bool.not_eq_true] at hany
    have HPL := Lib.hid (show placeOf p l = -1 by rw [placeOf, hany]; rfl)
    have HK := Lib.hid (keep_none p l hany)
    clear hany
    go_enter Try.func69, Try.ntmps69
    go_wp2_with fail
    refine HI.out.mono ?_
    rw [HPL.out]
    rintro e w1 ⟨rfl, hb1⟩
    go_wp2
    go_ret
    exact ⟨_, rfl, by rw [HK.out]; exact own_below hown hb1, hb1.mono hB⟩
end Go.Proofs.Ytkeolmipdoeljaa
