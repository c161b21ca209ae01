/-
  WALKS: Trace and Peak of the program.
-/
import Derived.Test.YtkeolmipdoeljaaP8
import Derived.Test.YtkeolmipdoeljaaW25
namespace Go.Proofs.Ytkeolmipdoeljaa
open Go.RowKit Heat

theorem E51 : EOk Try.prog 51 34 (.slice none 0 0) 1 24 :=
  ⟨Try.underlying51, by
    obtain ⟨i, h1, h2, h3, h4⟩ := info_parts (show (Try.prog.info? 34).map (fun i => (i.zero, i.size, i.bytes)) = some (some (.slice none 0 0), 1, 24) by kernel_rfl)
    exact ⟨i, h1, h2, h3, h4⟩, rfl, by decide, by decide⟩

/-- Slices of all heats behind each of some acts. -/
def RowsOk (w : World) (base n : Nat) (l : List HAct) (vs : List Value) : Prop :=
  vs.length ≤ l.length ∧ ∀ i (hi : i < vs.length), HRow w base n vs[i] (heats cold (l.take (i + 1)))
theorem hrow_keep' {w w' : World} {base n : Nat} {v : Value} {h : Int → Int} (hh : HRow w base n v h) (hk : ∀ (g : Nat) (cur : Array Value), w.heap[g]? = some (Obj.cells cur 3 (0, 0)) → w'.heap[g]? = w.heap[g]?) : HRow w' base n v h := by
  refine own_keep hh fun g hg => ?_
  rcases hh.2 with ⟨rfl, _⟩ | ⟨g', cap, cur, rfl, _, hgg, _⟩
  · simp [Value.ownBlock] at hg
  · simp [Value.ownBlock] at hg
    subst hg
    exact hk _ _ hgg
theorem RowsOk.keep {w w' : World} {base n : Nat} {l : List HAct} {vs : List Value} (h : RowsOk w base n l vs) (hk : ∀ (g : Nat) (cur : Array Value), w.heap[g]? = some (Obj.cells cur 3 (0, 0)) → w'.heap[g]? = w.heap[g]?) : RowsOk w' base n l vs :=
  ⟨h.1, fun i hi => hrow_keep' (h.2 i hi) hk⟩
theorem RowsOk.snoc {w : World} {base n : Nat} {l : List HAct} {vs : List Value} {v : Value} {q : Nat} (h : RowsOk w base n l vs) (hq : vs.length = q) (hlt : q < l.length) (hv : HRow w base n v (heats cold (l.take (q + 1)))) : RowsOk w base n l (vs ++ [v]) := by
  refine ⟨by simp; omega, fun i hi => ?_⟩
  by_cases e : i < vs.length
  · rw [List.getElem_append_left e]; exact h.2 i e
  · have : i = q := by simp at hi; omega
    subst this
    rw [List.getElem_append_right (by omega)]
    simpa using hv
theorem RowsOk.base {w : World} {base base' n : Nat} {l : List HAct} {vs : List Value} (h : RowsOk w base n l vs) (hb : base' ≤ base) : RowsOk w base' n l vs := ⟨h.1, fun i hi => own_base (h.2 i hi) hb⟩
theorem kind_ne34 {w : World} {base n : Nat} {v : Value} {xs : List Value} (h : w.ownsRow base 34 1 v n xs) {g : Nat} {cur : Array Value} (hg : w.heap[g]? = some (Obj.cells cur 3 (0, 0))) : some g ≠ v.ownBlock := by
  intro e
  rcases h.2 with ⟨rfl, _⟩ | ⟨g', cap, cur', rfl, _, hgg, _⟩
  · simp [Value.ownBlock] at e
  · simp [Value.ownBlock] at e
    subst e
    rw [hg] at hgg
    cases hgg
/-- What Trace answers. -/
def TraceOk (w : World) (base : Nat) (n : Int) (l : List HAct) (v : Value) (vs : List Value) : Prop :=
  w.ownsRow base 34 1 v vs.length vs ∧ (validate n l = 0 → vs.length = l.length ∧ RowsOk w base n.toNat l vs) ∧ (validate n l ≠ 0 → vs = [])
theorem TraceOk.keep {w w' : World} {B : Nat} {base : Nat} {n : Int} {l : List HAct} {v : Value} {vs : List Value} (h : TraceOk w base n l v vs) (hb : Below w.heap.size w w') : TraceOk w' base n l v vs :=
  ⟨own_below h.1 hb, fun hv => ⟨(h.2.1 hv).1, (h.2.1 hv).2.keep fun g cur hg => hb.block g (blk_lt hg)⟩, h.2.2⟩

set_option maxRecDepth 100000 in
set_option maxHeartbeats 2000000 in
theorem pTrace (n : Int) (A : Option Addr) (k c : Nat) (l : List HAct) (w : World) (hl : l.length ≤ 1000) (B : Nat) (hB : B ≤ w.heap.size) (hr : Rd w B 3 A k (actCells l)) :
    Calls Try.prog 38 #[.int .i64 n, .slice A k c] w fun e w' => ∃ v vs, e = .returned (.tuple #[v, .int .i64 (validate n l)]) ∧ TraceOk w' w.heap.size n l v vs ∧ Below w.heap.size w w' := by
  have H := Lib.hid (pValidate n A k c l w hl B hB hr)
  by_cases h : validate n l = 0
  · obtain ⟨h1, h2, h3, h4⟩ := validate_ok h
    obtain ⟨m, rfl⟩ := Int.eq_ofNat_of_zero_le (show 0 ≤ n by omega)
    have HL := Lib.hid h
    have HV := Lib.hid h4
    clear h h4
    go_enter Try.func38, Try.ntmps38
    go_wp2_with fail
    refine H.out.mono ?_
    rw [HL.out]
    rintro e w0 ⟨rfl, hb0⟩
    have s0 := hb0.size
    go_wp2_with fail
    refine (pStates m A k c l w0 (by omega) (by omega) hl HV.out B (by omega) (hr.below' hb0 hB)).mono ?_
    rintro e w1 ⟨vS, ss, rfl, hss, hownS, hok, hb01⟩
    obtain ⟨AS, cS, rfl, _, _⟩ := own_cap hownS
    have hb1 := hb0.trans (hb01.mono s0)
    have s1 := hb1.size
    have hrS := Rd.of_own hownS
    have HSS := Lib.hid hss
    have HOK := Lib.hid hok
    clear hok hownS hss hb01 hb0
    go_wp2
    go_loopw [7, 20] (fun v j wr => ∃ (q : Nat) (vs : List Value), q ≤ l.length ∧ j = .int .i64 q ∧ vs.length = q ∧ wr.ownsRow w1.heap.size 34 1 v q vs ∧ RowsOk wr w1.heap.size m l vs ∧ Below w1.heap.size w1 wr) (fun _ j _ => l.length - (intOf j).toNat)
    case atStart => exact ⟨0, [], Nat.zero_le _, rfl, rfl, World.ownsRow_nil _ _ _ _, ⟨Nat.zero_le _, fun i hi => absurd hi (by simp)⟩, Below.refl _ _⟩
    case round =>
      obtain ⟨q, vs, hq, rfl, hvs, hown, hrow, hb⟩ := hrel
      have hsz := hb.size
      by_cases hlt : q < l.length
      · have hqs : q < ss.length := by have := HSS.out; omega
        obtain ⟨b, off, rfl, _, k0, k1, k2, k3, k4⟩ := (hrS.below hb).st hqs
        obtain ⟨e1, e2, e3⟩ := HOK.out.2 q hqs hlt
        obtain ⟨g, cg, _, hbef, _, _⟩ := hrow_form (own_below e2 hb) (by omega)
        have e3' := own_below e3 hb
        obtain ⟨g2, c2, cur2, haft, _, hgg2⟩ := hrow_form e3' (by omega)
        rw [hbef] at k3
        rw [haft] at k4 e3'
        have hrd := Rd.of_own (e3'.alloc (.cells #[.int .i64 ss[q].act.kind, .int .i64 ss[q].act.ion, .int .i64 ss[q].act.heat, .slice (some ⟨g, 0, none⟩) m cg, .slice (some ⟨g2, 0, none⟩) m c2] 85))
        have HB0 := Lib.hid ((Below.refl wr.heap.size wr).alloc (Nat.le_refl _) (.cells #[.int .i64 ss[q].act.kind, .int .i64 ss[q].act.ion, .int .i64 ss[q].act.heat, .slice (some ⟨g, 0, none⟩) m cg, .slice (some ⟨g2, 0, none⟩) m c2] 85))
        have HVS := Lib.hid hvs
        have HOWN := Lib.hid hown
        have HROW := Lib.hid hrow
        clear hvs hown hrow e1 e2 e3 hbef haft e3' hgg2
        go_wp2_with fail
        refine (pCloneInts _ m c2 _ _ (by rw [hts_len]; omega) _ (Nat.le_refl _) hrd).mono ?_
        rintro e w2 ⟨v9, rfl, hown9, hb2⟩
        obtain ⟨A9, c9, rfl, _, _⟩ := own_cap hown9
        have HB2 := Lib.hid (HB0.out.trans (hb2.mono (by simp)))
        have s2 := HB2.out.size
        have HO9 := Lib.hid (own_base hown9 (show wr.heap.size ≤ _ by simp))
        have HOW := Lib.hid (own_below HOWN.out HB2.out)
        have HRO := Lib.hid (HROW.out.keep fun g cur hg => HB2.out.block g (blk_lt hg))
        clear hown9 hb2 hrd
        go_wp2_with (at_builtin; go_must (refine app1 rfl (.tmp 24) (.tmp 28) 51 rfl 34 _ 1 24 E51 w1.heap.size #[.slice A9 m c9] _ _ _ rfl HOW.out _ rfl ?_ ?_ ?_ ?_ ?_ ?_); rfl; rfl; rfl; omega; omega; intro v5 w6 hown6 hg6)
        have hkeep : ∀ (g : Nat) (cur : Array Value), w2.heap[g]? = some (Obj.cells cur 3 (0, 0)) → w6.heap[g]? = w2.heap[g]? := fun g cur hg => hg6.block g (blk_lt hg) (kind_ne34 HOW.out hg)
        have r9 := hrow_keep' (own_base HO9.out (show w1.heap.size ≤ wr.heap.size by omega)) hkeep
        have hrow6 := (HRO.out.keep hkeep).snoc HVS.out hlt r9
        have hb6 := below_own (hb.trans (HB2.out.mono hsz)) (by omega) HOW.out (Nat.le_refl _) hg6
        go_roundw
        case rel => exact ⟨q + 1, vs ++ [.slice A9 m c9], by omega, by go_num, by rw [List.length_append, HVS.out]; rfl, hown6, hrow6, hb6⟩
        case measure => simp [intOf]; omega
      · obtain rfl : q = l.length := by omega
        obtain ⟨A9, c9, rfl, _, _⟩ := own_cap hown
        have HT := Lib.hid (show TraceOk wr w.heap.size m l (.slice A9 l.length c9) vs from ⟨by rw [hvs]; exact own_base hown s1, fun _ => ⟨hvs, hrow.base s1⟩, fun x => absurd HL.out x⟩)
        clear hown hrow hvs
        go_wp2
        go_ret2
        exact ⟨_, vs, ret_vi HL.out.symm, HT.out, hb1.trans (hb.mono s1)⟩
  · have hd : (validate n l == 0) = false := by simpa using h
    have hd' : (validate n l != 0) = true := by simpa using h
    have HT := fun w' => show TraceOk w' w.heap.size n l (.slice none 0 0) [] from ⟨World.ownsRow_nil _ _ _ _, fun x => absurd x h, fun _ => rfl⟩
    have HT2 := Lib.hid HT
    clear h HT
    go_enter Try.func38, Try.ntmps38
    go_wp2_with fail
    refine H.out.mono ?_
    rintro e w1 ⟨rfl, hb⟩
    go_wp2
    go_ret2
    exact ⟨_, [], rfl, HT2.out _, hb⟩

set_option maxRecDepth 100000 in
set_option maxHeartbeats 2000000 in
theorem pPeak (n : Int) (A : Option Addr) (k c : Nat) (l : List HAct) (w : World) (hl : l.length ≤ 1000) (B : Nat) (hB : B ≤ w.heap.size) (hr : Rd w B 3 A k (actCells l)) :
    Calls Try.prog 40 #[.int .i64 n, .slice A k c] w fun e w' => e = .returned (.tuple #[.int .i64 (peakN n l), .int .i64 (validate n l)]) ∧ Below w.heap.size w w' := by
  have H := Lib.hid (pValidate n A k c l w hl B hB hr)
  by_cases h : validate n l = 0
  · obtain ⟨h1, h2, h3, h4⟩ := validate_ok h
    obtain ⟨m, rfl⟩ := Int.eq_ofNat_of_zero_le (show 0 ≤ n by omega)
    have HL := Lib.hid h
    have HV := Lib.hid h4
    have HA := Lib.hid (areActs_iff.1 h4)
    have HM := Lib.hid (mild_of h4)
    have HN := Lib.hid (show peakN m l = peakTo l l.length by rw [peakN, if_pos h])
    clear h h4
    go_enter Try.func40, Try.ntmps40
    go_wp2_with fail
    refine H.out.mono ?_
    rw [HL.out]
    rintro e w0 ⟨rfl, hb0⟩
    have s0 := hb0.size
    go_wp2_with fail
    refine (pStates m A k c l w0 (by omega) (by omega) hl HV.out B (by omega) (hr.below' hb0 hB)).mono ?_
    rintro e w1 ⟨vS, ss, rfl, hss, hownS, hok, hb01⟩
    obtain ⟨AS, cS, rfl, _, _⟩ := own_cap hownS
    have hb1 := hb0.trans (hb01.mono s0)
    have s1 := hb1.size
    have hrS := Rd.of_own hownS
    have HSS := Lib.hid hss
    have HOK := Lib.hid hok
    clear hok hownS hss hb01 hb0
    go_wp2
    go_loopw [7, 20] (fun v j wr => ∃ q : Nat, q ≤ l.length ∧ j = .int .i64 q ∧ v = .int .i64 (peakTo l q) ∧ Below w1.heap.size w1 wr) (fun _ j _ => l.length - (intOf j).toNat)
    case atStart => exact ⟨0, Nat.zero_le _, rfl, rfl, Below.refl _ _⟩
    case round =>
      obtain ⟨q, hq, rfl, rfl, hb⟩ := hrel
      have hsz := hb.size
      by_cases hlt : q < l.length
      · have hqs : q < ss.length := by have := HSS.out; omega
        obtain ⟨b, off, rfl, _, k0, k1, k2, k3, k4⟩ := (hrS.below hb).st hqs
        obtain ⟨e1, e2, e3⟩ := HOK.out.2 q hqs hlt
        have hy := HA.out _ (List.getElem_mem hlt)
        simp only [isAct, decide_eq_true_eq] at hy
        obtain ⟨_, _, hi0, hi1, _, _, _⟩ := hy
        obtain ⟨g, cg, haft, hgl, hc⟩ := hrow_cell (own_below e3 hb) hi0 (show l[q].ion < (m : Int) by omega)
        rw [e1] at k0 k1 k2
        rw [haft] at k4
        obtain ⟨g2, c2, _, hbef, _, _⟩ := hrow_form (own_below e2 hb) (by omega)
        rw [hbef] at k3
        obtain ⟨x, hx⟩ : ∃ x, x = heats cold (l.take (q + 1)) l[q].ion := ⟨_, rfl⟩
        rw [← hx] at hc
        have HS := Lib.hid (show peakTo l (q + 1) = mx (peakTo l q) x by rw [peakTo_succ hlt, hx])
        clear e1 e2 e3 hbef haft hx
        have hbd := (peak_bd HM.out q (by omega)).1
        generalize peakTo l q = pk at *
        have hca := (World.cell?_alloc_lt wr (.cells #[.int .i64 l[q].kind, .int .i64 l[q].ion, .int .i64 l[q].heat, .slice (some ⟨g2, 0, none⟩) m c2, .slice (some ⟨g, 0, none⟩) m cg] 85) ⟨g, l[q].ion.toNat, none⟩ hgl).trans hc
        have HBA := Lib.hid (hb.alloc hsz (.cells #[.int .i64 l[q].kind, .int .i64 l[q].ion, .int .i64 l[q].heat, .slice (some ⟨g2, 0, none⟩) m c2, .slice (some ⟨g, 0, none⟩) m cg] 85))
        clear hc
        have hi2 : l[q].ion < (m : Int) := by omega
        by_cases c2 : pk < x
        · have HT := Lib.hid (show x = peakTo l (q + 1) by rw [HS.out, mx, if_pos c2])
          go_wp2
          go_roundw
          case rel => exact ⟨q + 1, by omega, by go_num, by rw [← HT.out], HBA.out⟩
          case measure => simp [intOf]; omega
        · have HT := Lib.hid (show pk = peakTo l (q + 1) by rw [HS.out, mx, if_neg c2])
          go_wp2
          go_roundw
          case rel => exact ⟨q + 1, by omega, by go_num, by rw [← HT.out], HBA.out⟩
          case measure => simp [intOf]; omega
      · obtain rfl : q = l.length := by omega
        go_wp2
        go_ret2
        exact ⟨ret_ii HN.out.symm HL.out.symm, hb1.trans (hb.mono s1)⟩
  · have hd : (validate n l == 0) = false := by simpa using h
    have hd' : (validate n l != 0) = true := by simpa using h
    have HN := Lib.hid (show peakN n l = 0 by rw [peakN, if_neg h])
    clear h
    go_enter Try.func40, Try.ntmps40
    go_wp2_with fail
    refine H.out.mono ?_
    rintro e w1 ⟨rfl, hb⟩
    go_wp2
    go_ret2
    exact ⟨ret_ii HN.out.symm rfl, hb⟩
end Go.Proofs.Ytkeolmipdoeljaa
