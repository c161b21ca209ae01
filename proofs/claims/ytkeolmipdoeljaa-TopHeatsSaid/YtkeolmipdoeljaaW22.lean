/-
  WALKS: hot, Hot, Fits, of the program and of the reference (printed by gen_hot.py).
-/
import Derived.Test.YtkeolmipdoeljaaW21
namespace Go.Proofs.Ytkeolmipdoeljaa
open Go.RowKit Heat

theorem stCells_length (ss : List St) : (stCells ss).length = ss.length * 5 := by
  induction ss with
  | nil => rfl
  | cons a l ih => simp only [stCells, List.flatMap_cons, List.length_append] at *; rw [ih]; simp [stCell]; omega
theorem st_get (ss : List St) (i j : Nat) (hi : i < ss.length) (hj : j < 5) : (stCells ss)[i * 5 + j]? = (stCell ss[i])[j]? := by
  induction ss generalizing i with
  | nil => simp at hi
  | cons a l ih =>
    cases i with
    | zero =>
      simp only [stCells, List.flatMap_cons, Nat.zero_mul, Nat.zero_add]
      rw [List.getElem?_append_left (by simpa [stCell] using hj)]
      rfl
    | succ i =>
      have e : (i + 1) * 5 + j = (i * 5 + j) + 5 := by omega
      simp only [stCells, List.flatMap_cons]
      rw [List.getElem?_append_right (by simp [stCell]; omega), e]
      have := ih i (by simpa using hi)
      simpa [stCells, stCell] using this
/-- The five cells of state i. -/
theorem Rd.st {w : World} {B n : Nat} {A : Option Addr} {ss : List St} (h : Rd w B 5 A n (stCells ss)) {i : Nat} (hi : i < ss.length) :
    ∃ b off, A = some ⟨b, off, none⟩ ∧ b < B ∧ w.cell? ⟨b, off + i * 5, none⟩ = some (.int .i64 ss[i].act.kind) ∧ w.cell? ⟨b, off + i * 5 + 1, none⟩ = some (.int .i64 ss[i].act.ion) ∧ w.cell? ⟨b, off + i * 5 + 2, none⟩ = some (.int .i64 ss[i].act.heat) ∧ w.cell? ⟨b, off + i * 5 + 3, none⟩ = some ss[i].bef ∧ w.cell? ⟨b, off + i * 5 + 4, none⟩ = some ss[i].aft := by
  have hl : n = ss.length := by have := h.1; rw [stCells_length] at this; omega
  obtain ⟨b, off, e, hb, hc⟩ := h.2 (by omega)
  refine ⟨b, off, e, hb, hc (i * 5) _ ?_, hc (i * 5 + 1) _ ?_, hc (i * 5 + 2) _ ?_, hc (i * 5 + 3) _ ?_, hc (i * 5 + 4) _ ?_⟩
  · have := st_get ss i 0 hi (by omega); simpa [stCell] using this
  · have := st_get ss i 1 hi (by omega); simpa [stCell] using this
  · have := st_get ss i 2 hi (by omega); simpa [stCell] using this
  · have := st_get ss i 3 hi (by omega); simpa [stCell] using this
  · have := st_get ss i 4 hi (by omega); simpa [stCell] using this
abbrev stV (k i h : Int) (b a : Value) : Value := .agg #[.int .i64 k, .int .i64 i, .int .i64 h, b, a]

theorem hrow_cell {w : World} {base n : Nat} {v : Value} {h : Int → Int} (hh : HRow w base n v h) {i : Int} (h0 : 0 ≤ i) (h1 : i < n) : ∃ g c, v = .slice (some ⟨g, 0, none⟩) n c ∧ g < w.heap.size ∧ w.cell? ⟨g, i.toNat, none⟩ = some (.int .i64 (h i)) := by
  obtain ⟨g, c, cur, rfl, hb, hgg⟩ := hrow_form hh (by omega)
  refine ⟨g, c, rfl, blk_lt hgg, ?_⟩
  have h2 := hh.cellAt i.toNat (by omega)
  rw [hts_get _ _ _ (by omega), Int.toNat_of_nonneg h0] at h2
  exact h2

theorem pIsHot (k i h x limit : Int) (g n c : Nat) (sa : Value) (w : World) (h0 : 0 ≤ i) (h1 : i < n) (hg : g < w.heap.size) (hc : w.cell? ⟨g, i.toNat, none⟩ = some (.int .i64 x)) :
    Calls Try.prog 78 #[stV k i h (.slice (some ⟨g, 0, none⟩) n c) sa, .int .i64 limit] w fun e w' => e = .returned (.bool (k == 1 && decide (limit < x))) ∧ Below w.heap.size w w' := by
  have hb := (Below.refl w.heap.size w).alloc (Nat.le_refl _) (.cells #[.int .i64 k, .int .i64 i, .int .i64 h, .slice (some ⟨g, 0, none⟩) n c, sa] 85)
  have hc2 := (World.cell?_alloc_lt w (.cells #[.int .i64 k, .int .i64 i, .int .i64 h, .slice (some ⟨g, 0, none⟩) n c, sa] 85) ⟨g, i.toNat, none⟩ hg).trans hc
  by_cases hk : k = 1
  · have d : (k == 1) = true := by simpa using hk
    subst hk
    go_enter Try.func78, Try.ntmps78
    go_wp2
    go_ret
    exact ⟨rfl, hb⟩
  · have d : (k == 1) = false := by simpa using hk
    clear hk
    go_enter Try.func78, Try.ntmps78
    go_wp2
    go_ret
    exact ⟨ret_bool (by rw [d]; rfl), hb⟩

set_option maxRecDepth 100000 in
set_option maxHeartbeats 2000000 in
theorem phot (n : Nat) (A : Option Addr) (k c : Nat) (limit : Int) (l : List HAct) (w : World) (hn : 1 ≤ n) (hn' : n ≤ 100) (hl : l.length ≤ 1000) (hv : areActs n l = true) (B : Nat) (hB : B ≤ w.heap.size) (hr : Rd w B 3 A k (actCells l)) :
    Calls Try.prog 77 #[.int .i64 n, .slice A k c, .int .i64 limit] w fun e w' => ∃ v, e = .returned v ∧ w'.ownsRow w.heap.size 3 1 v (hot limit l).length (ints (hot limit l)) ∧ Below w.heap.size w w' := by
  have H := Lib.hid (pStates n A k c l w hn hn' hl hv B hB hr)
  have HA := Lib.hid (areActs_iff.1 hv)
  clear hv
  go_enter Try.func77, Try.ntmps77
  go_wp2_with fail
  refine H.out.mono ?_
  rintro e w1 ⟨vS, ss, rfl, hss, hownS, hok, hb1⟩
  obtain ⟨AS, cS, rfl, _, _⟩ := own_cap hownS
  have s1 := hb1.size
  have hrS := Rd.of_own hownS
  have HSS := Lib.hid hss
  have HOK := Lib.hid hok
  clear hok hownS hss
  go_wp2
  go_loopw [7, 14] (fun v j wr => ∃ q : Nat, q ≤ l.length ∧ j = .int .i64 q ∧ wr.ownsRow w1.heap.size 3 1 v (hotTo limit l q).length (ints (hotTo limit l q)) ∧ (hotTo limit l q).length ≤ q ∧ Below w1.heap.size w1 wr) (fun _ j _ => l.length - (intOf j).toNat)
  case atStart => exact ⟨0, Nat.zero_le _, rfl, World.ownsRow_nil _ _ _ _, Nat.le_refl _, Below.refl _ _⟩
  case round =>
    obtain ⟨q, hq, rfl, hown, hle, hb⟩ := hrel
    have hsz := hb.size
    by_cases hlt : q < l.length
    · have hqs : q < ss.length := by have := HSS.out; omega
      obtain ⟨b, off, rfl, _, k0, k1, k2, k3, k4⟩ := (hrS.below hb).st hqs
      obtain ⟨e1, e2, e3⟩ := HOK.out.2 q hqs hlt
      have hy := HA.out _ (List.getElem_mem hlt)
      simp only [isAct, decide_eq_true_eq] at hy
      obtain ⟨_, _, hi0, hi1, _, _, _⟩ := hy
      obtain ⟨g, cg, hbef, hgl, hc⟩ := hrow_cell (own_below e2 hb) hi0 (show l[q].ion < (n : Int) by omega)
      rw [e1] at k0 k1 k2
      rw [hbef] at k3
      obtain ⟨g2, c2, _, haft, _, _⟩ := hrow_form (own_below e3 hb) (by omega)
      rw [haft] at k4
      have HT : Hid ((l[q].kind == 1 && decide (limit < heats cold (l.take q) l[q].ion)) = true → hotTo limit l (q + 1) = hotTo limit l q ++ [(q : Int)]) := fun hx => by
        rw [Bool.and_eq_true, beq_iff_eq, decide_eq_true_eq] at hx
        rw [hotTo, List.getElem?_eq_getElem hlt, before_eq l q hlt]; simp [hx.1, hx.2]
      have HF : Hid ((l[q].kind == 1 && decide (limit < heats cold (l.take q) l[q].ion)) = false → hotTo limit l (q + 1) = hotTo limit l q) := fun hx => by
        rw [hotTo, List.getElem?_eq_getElem hlt, before_eq l q hlt]
        have : ¬ (l[q].kind = 1 ∧ limit < heats cold (l.take q) l[q].ion) := by
          rintro ⟨a, b⟩
          simp [a, b] at hx
        simp [this]
      clear e1 e2 e3 hbef haft
      have hca := (World.cell?_alloc_lt wr (.cells #[.int .i64 l[q].kind, .int .i64 l[q].ion, .int .i64 l[q].heat, .slice (some ⟨g, 0, none⟩) n cg, .slice (some ⟨g2, 0, none⟩) n c2] 85) ⟨g, l[q].ion.toNat, none⟩ hgl).trans hc
      have HBA := Lib.hid (hb.alloc hsz (.cells #[.int .i64 l[q].kind, .int .i64 l[q].ion, .int .i64 l[q].heat, .slice (some ⟨g, 0, none⟩) n cg, .slice (some ⟨g2, 0, none⟩) n c2] 85))
      have HOA := Lib.hid (hown.alloc (.cells #[.int .i64 l[q].kind, .int .i64 l[q].ion, .int .i64 l[q].heat, .slice (some ⟨g, 0, none⟩) n cg, .slice (some ⟨g2, 0, none⟩) n c2] 85))
      have HP := Lib.hid (pIsHot l[q].kind l[q].ion l[q].heat _ limit g n cg (.slice (some ⟨g2, 0, none⟩) n c2) _ hi0 (by omega) (show g < (wr.alloc (.cells #[.int .i64 l[q].kind, .int .i64 l[q].ion, .int .i64 l[q].heat, .slice (some ⟨g, 0, none⟩) n cg, .slice (some ⟨g2, 0, none⟩) n c2] 85)).heap.size by simp; omega) hca)
      clear hown hc hca
      cases hx : (l[q].kind == 1 && decide (limit < heats cold (l.take q) l[q].ion)) with
      | true =>
        have HT2 := Lib.hid (HT.out hx)
        have HX := Lib.hid hx
        clear hx
        go_wp2_with fail
        refine HP.out.mono ?_
        rw [HX.out]
        rintro e w2 ⟨rfl, hb2⟩
        have hown2 := own_below HOA.out hb2
        have HB2 := Lib.hid (HBA.out.trans (hb2.mono (by simp; omega)))
        have s2 := HB2.out.size
        go_wp2_with (at_builtin; go_must (refine app1 rfl (.tmp 22) (.tmp 24) 34 rfl 3 _ 1 8 E34 w1.heap.size _ _ _ _ rfl hown2 _ rfl ?_ ?_ ?_ ?_ ?_ ?_); rfl; rfl; rfl; omega; omega; intro v5 w5 hown5 hgrow5)
        go_roundw
        case rel => exact ⟨q + 1, by omega, by go_num, by rw [HT2.out]; simpa using hown5, by rw [HT2.out]; simp; omega, below_own HB2.out s2 hown2 (Nat.le_refl _) hgrow5⟩
        case measure => simp [intOf]; omega
      | false =>
        have HF2 := Lib.hid (HF.out hx)
        have HX := Lib.hid hx
        clear hx
        go_wp2_with fail
        refine HP.out.mono ?_
        rw [HX.out]
        rintro e w2 ⟨rfl, hb2⟩
        have hown2 := own_below HOA.out hb2
        have HB2 := Lib.hid (HBA.out.trans (hb2.mono (by simp; omega)))
        go_wp2
        go_roundw
        case rel => exact ⟨q + 1, by omega, by go_num, by rw [HF2.out]; exact hown2, by rw [HF2.out]; omega, HB2.out⟩
        case measure => simp [intOf]; omega
    · obtain rfl : q = l.length := by omega
      rw [hotTo_all] at hown
      go_wp2
      go_ret
      exact ⟨_, rfl, own_base hown s1, hb1.trans (hb.mono s1)⟩
end Go.Proofs.Ytkeolmipdoeljaa

