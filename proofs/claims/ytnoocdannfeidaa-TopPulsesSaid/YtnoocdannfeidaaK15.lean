/-
  MERGED: W31, W32.
-/
import Derived.Laws.IdiomCopy
import Derived.Test.YtnoocdannfeidaaK14
/-
  WALK: slices.DeleteFunc at ints.
-/
namespace Go.Proofs.Ytnoocdannfeidaa
open Go.RowKit Pulse

def keepL (p : Int → Bool) (l : List Int) : List Int := l.filter fun a => !p a

theorem clear_ints {w : World} {g off n c : Nat} (hn : 0 < n) (hc : ∀ j, j < n → (w.cell? ⟨g, off + j, none⟩).isSome = true) (hf : ∀ j, j < n → w.frozen? ⟨g, off + j, none⟩ = false) :
    ∃ vs : List Value, (Builtin.clear_ #[22] 0 #[.slice (some ⟨g, off, none⟩) n c]).run Try.prog w = .ok (.tuple #[]) (w.setCells g off vs) := by
  obtain ⟨i, hi, hz, _⟩ := E22.info
  refine ⟨(Builtin.zeroCells #[.int .i64 0] n).toList, ?_⟩
  have hlen : (Builtin.zeroCells #[.int .i64 0] n).toList.length = n := by simp [Builtin.zeroCells]
  have hst := run_storeCells_cells (P := Try.prog) g off (Builtin.zeroCells #[.int .i64 0] n).toList 0 w (by rw [hlen]; simpa using hc) (by rw [hlen]; simpa using hf) (by
    intro v hv
    simp only [Builtin.zeroCells, Array.toList_map, List.mem_map] at hv
    obtain ⟨k, _, rfl⟩ := hv
    have h3 : k % 1 = 0 := by omega
    show (#[Value.int .i64 0][k % 1]!).oneCell' = true
    rw [h3]; rfl)
  simp only [Nat.add_zero] at hst
  obtain ⟨m, rfl⟩ : ∃ m, n = m + 1 := ⟨n - 1, by omega⟩
  have hv : ∀ w, (zeroValue 3).run Try.prog w = .ok (.int .i64 0) w := fun w => by simp [zeroValue, typeInfo, hi, hz]
  simp [Builtin.clear_, run_underlying Try.underlying22, hv, hst, Value.cells]

theorem blk_setCells {g : Nat} {t : TypeId} : ∀ (vs : List Value) (o : Nat) (w : World) (cur : Array Value), w.heap[g]? = some (.cells cur t (0, 0)) → ∃ cur', (w.setCells g o vs).heap[g]? = some (.cells cur' t (0, 0)) ∧ cur'.size = cur.size ∧ cur'.toList.take o = cur.toList.take o
  | [], _, _, cur, h => ⟨cur, h, rfl, rfl⟩
  | v :: r, o, w, cur, h => by
    obtain ⟨cur', h1, h2, h3⟩ := blk_setCells r (o + 1) (w.setCell ⟨g, o, none⟩ v) _ (blk_set h o v)
    refine ⟨cur', h1, by simpa using h2, ?_⟩
    have := congrArg (List.take o) h3
    rw [List.take_take, List.take_take, Nat.min_eq_left (by omega), Array.toList_setIfInBounds, List.take_set_of_le (Nat.le_refl _)] at this
    exact this
theorem below_sets {B g : Nat} {a : World} (hg : B ≤ g) : ∀ (vs : List Value) (o : Nat) (w : World), Below B a w → Below B a (w.setCells g o vs)
  | [], _, _, h => h
  | v :: r, o, w, h => below_sets hg r (o + 1) _ (h.setCell (p := ⟨g, o, none⟩) hg v)
theorem own_front {w : World} {base g n c i : Nat} {m : List Int} (h : w.ownsRow base 3 1 (.slice (some ⟨g, 0, none⟩) n c) n (ints m)) (hi : i ≤ m.length) (vs : List Value) :
    (w.setCells g i vs).ownsRow base 3 1 (.slice (some ⟨g, 0, none⟩) i c) i (ints (m.take i)) := by
  obtain ⟨h1, h2⟩ := h
  simp at h1
  refine ⟨by simp; omega, ?_⟩
  rcases h2 with ⟨h2, _⟩ | ⟨g', cap, cur, hv, hg, hh, h3, h4, h5, h6⟩
  · cases h2
  · injection hv with a b d
    injection a with a
    injection a with a
    subst a
    subst d
    obtain ⟨cur', k1, k2, k3⟩ := blk_setCells vs i w cur hh
    refine .inr ⟨g, c, cur', rfl, hg, k1, by omega, h4, by omega, ?_⟩
    rw [Nat.mul_one, k3, show ints (m.take i) = (ints m).take i by simp [ints, List.map_take], ← h6, List.take_take, Nat.mul_one, Nat.min_eq_left (by omega)]
theorem keep_drop (p : Int → Bool) (l : List Int) (q : Nat) (hq : q < l.length) (h : p l[q] = true) : keepL p (l.take (q + 1)) = keepL p (l.take q) := by
  unfold keepL
  rw [take_snoc l q hq, List.filter_append]
  simp [h]
theorem keep_take (p : Int → Bool) (l : List Int) (q : Nat) (hq : q < l.length) (h : p l[q] = false) : keepL p (l.take (q + 1)) = keepL p (l.take q) ++ [l[q]] := by
  unfold keepL
  rw [take_snoc l q hq, List.filter_append]
  simp [h]
theorem keep_none (p : Int → Bool) (l : List Int) (h : l.any p = false) : keepL p l = l := by
  unfold keepL
  rw [List.filter_eq_self]
  intro a ha
  have := List.any_eq_false.1 h a ha
  simpa using this
theorem drop_next {m l : List Int} {q : Nat} (h : m.drop q = l.drop q) : m.drop (q + 1) = l.drop (q + 1) := by
  have := congrArg (List.drop 1) h
  rwa [List.drop_drop, List.drop_drop] at this

theorem place_hit (p : Int → Bool) (l : List Int) (h : l.any p = true) : ∃ i, ∃ hi : i < l.length, (l.take i).any p = false ∧ p l[i] = true ∧ placeOf p l = (i : Int) := by
  have hfi : l.findIdx p < l.length := List.findIdx_lt_length.2 (by simpa using h)
  refine ⟨l.findIdx p, hfi, ?_, List.findIdx_getElem, by rw [placeOf, if_pos h]⟩
  rw [List.any_eq_false]
  intro x hx
  obtain ⟨j, hj, rfl⟩ := List.mem_take_iff_getElem.1 hx
  have := List.not_of_lt_findIdx (p := p) (xs := l) (i := j) (by omega)
  simpa using this
theorem keep_front (p : Int → Bool) (l : List Int) (i : Nat) (hi : i < l.length) (h : (l.take i).any p = false) (hp : p l[i] = true) : l.take i = keepL p (l.take (i + 1)) := by
  unfold keepL
  rw [take_snoc l i hi, List.filter_append]
  have e1 : (l.take i).filter (fun a => !p a) = l.take i := by
    rw [List.filter_eq_self]
    intro a ha
    have := List.any_eq_false.1 h a ha
    simpa using this
  rw [e1]
  simp [hp]

set_option maxRecDepth 100000 in
set_option maxHeartbeats 2000000 in
theorem pDeleteFunc (f : FuncId) (hcf : ∀ (args : Array Value) (W : World), (callFunc f args).run Try.prog W = .ok (.enter f args) W) (cs : Array Value) (p : Int → Bool) (A : Option Addr) (c : Nat) (l : List Int) (w : World) (hl : l.length ≤ 1000) (base : Nat) (hB : base ≤ w.heap.size) (hown : w.ownsRow base 3 1 (.slice A l.length c) l.length (ints l))
    (hf : ∀ a ∈ l, ∀ W, Below base w W → Calls Try.prog f (#[.int .i64 a] ++ cs) W fun e W' => e = .returned (.bool (p a)) ∧ Below W.heap.size W W') :
    Calls Try.prog 83 #[.slice A l.length c, .func (.func f) #[] cs] w fun e w' => ∃ v, e = .returned v ∧ w'.ownsRow base 3 1 v (keepL p l).length (ints (keepL p l)) ∧ Below base w w' := by
  have HI := Lib.hid (intIndexFunc f hcf cs p A l.length c l w hl w.heap.size (Nat.le_refl _) (Rd.of_own hown) (fun a ha W hW => hf a ha W (hW.mono hB)))
  have HF := Lib.hid hf
  clear hf
  by_cases hany : l.any p = true
  · have hx := Lib.hid hany
    obtain ⟨i0, hfi, hfb, hfp, hpl⟩ := place_hit p l hany
    have HFB := Lib.hid hfb
    have HFP := Lib.hid hfp
    have HPL := Lib.hid hpl
    clear hpl hany hfb hfp
    obtain ⟨g, cap, hv, hg1, hg2⟩ := hown.form (by omega)
    simp only [Value.slice.injEq, true_and] at hv
    obtain ⟨rfl, rfl⟩ := hv
    go_enter Try.func83, Try.ntmps83
    go_wp2_with fail
    refine HI.out.mono ?_
    rw [HPL.out]
    rintro e w1 ⟨rfl, hb1⟩
    have hown1 := own_below hown hb1
    have hb1' := hb1.mono hB
    have s1 := hb1.size
    clear hown hb1
    go_wp2
    go_loopw [5, 6] (fun a b wr => ∃ (i q : Nat) (m : List Int), a = .int .i64 i ∧ b = .int .i64 q ∧ i < q ∧ q ≤ l.length ∧ m.length = l.length ∧ wr.ownsRow base 3 1 (.slice (some ⟨g, 0, none⟩) l.length c) l.length (ints m) ∧ Hid (m.take i = keepL p (l.take q)) ∧ Hid (m.drop q = l.drop q) ∧ Below base w wr) (fun _ b _ => l.length - (intOf b).toNat)
    case atStart =>
      exact ⟨i0, i0 + 1, l, rfl, by go_num, by omega, by omega, rfl, hown1, keep_front p l i0 hfi HFB.out HFP.out, rfl, hb1'⟩
    case round =>
      clear hown1 hb1'
      obtain ⟨i, q, m, rfl, rfl, hiq, hq, hml, hown, HT, HD, hb⟩ := hrel
      have hsz := hb.size
      by_cases hlt : q < l.length
      · have hqm : q < m.length := by omega
        have him : i < m.length := by omega
        have hge : m[q] = l[q] := by
          have := HD.out
          rw [List.drop_eq_getElem_cons hqm, List.drop_eq_getElem_cons hlt] at this
          exact (List.cons.inj this).1
        have k0 := own_int hown hqm
        rw [hge] at k0
        have hin : l[q] ∈ l := List.getElem_mem hlt
        have hglt : g < wr.heap.size := (hown.lt g rfl).2
        have HC := Lib.hid (HF.out l[q] hin _ hb)
        have HB1 := Lib.hid hb
        by_cases hp : p l[q] = true
        · have HP := Lib.hid hp
          have HT2 := Lib.hid (show m.take i = keepL p (l.take (q + 1)) by rw [HT.out, keep_drop p l q hlt hp])
          have HD2 := Lib.hid (drop_next HD.out)
          have HO := Lib.hid hown
          clear hp hge hown hb
          go_wp2_with fail
          refine HC.out.mono ?_
          rw [HP.out]
          rintro e w2 ⟨rfl, hb2⟩
          go_wp2
          refine ⟨?_, ?measure⟩
          (repeat apply Exists.intro)
          refine ⟨?rel, rfl⟩
          case rel => exact ⟨i, q + 1, m, rfl, by go_num, by omega, by omega, hml, own_below HO.out hb2, HT2.out, HD2.out, HB1.out.trans (hb2.mono (by omega))⟩
          case measure => simp [intOf]; omega
        · rw [Bool.not_eq_true] at hp
          have HP := Lib.hid hp
          clear hp
          go_wp2_with fail
          refine HC.out.mono ?_
          rw [HP.out]
          rintro e w2 ⟨rfl, hb2⟩
          have hown2 := own_below hown hb2
          have u0 := own_int hown2 him
          have f0 : w2.frozen? ⟨g, i, none⟩ = false := own_frozen hown2 _
          have HO2 := Lib.hid hown2
          have HO3 := Lib.hid (own_seti (i := i) hown2 l[q])
          have HB2 := Lib.hid (HB1.out.trans (hb2.mono (by omega)))
          have HT2 := Lib.hid (show (m.set i l[q]).take (i + 1) = keepL p (l.take (q + 1)) by
            rw [take_snoc _ i (by simpa using him), List.take_set_of_le (Nat.le_refl _), HT.out, keep_take p l q hlt HP.out]
            simp)
          have HD2 := Lib.hid (show (m.set i l[q]).drop (q + 1) = l.drop (q + 1) by
            rw [List.drop_set_of_lt (by omega)]
            exact drop_next HD.out)
          clear hown hown2 k0 hge hb hb2
          go_wp2
          refine ⟨?_, ?measure⟩
          (repeat apply Exists.intro)
          refine ⟨?rel, rfl⟩
          case rel => exact ⟨i + 1, q + 1, m.set i l[q], by go_num, by go_num, by omega, by omega, by simpa using hml, HO3.out, HT2.out, HD2.out, HB2.out.setCell (p := ⟨g, i, none⟩) hg1 _⟩
          case measure => simp [intOf]; omega
      · obtain rfl : q = l.length := by omega
        obtain ⟨A', c', hA, hnc, hcm⟩ := own_cap hown
        simp only [Value.slice.injEq, true_and] at hA
        obtain ⟨rfl, rfl⟩ := hA
        have hci : ¬ c = i := by omega
        have hcell : ∀ j, j < l.length - i → (wr.cell? ⟨g, i + j, none⟩).isSome = true := by
          intro j hj
          rw [own_int hown (i := i + j) (by omega)]
          rfl
        obtain ⟨vs, hclr⟩ := clear_ints (w := wr) (g := g) (off := i) (n := l.length - i) (c := c - i) (by omega) hcell (fun j _ => own_frozen hown _)
        have HO := Lib.hid (own_front hown (i := i) (by omega) vs)
        have HK := Lib.hid (show m.take i = keepL p l by have := HT.out; rwa [List.take_length] at this)
        have HKL := Lib.hid (show (keepL p l).length = i by rw [← HK.out, List.length_take]; omega)
        have hz0 : (0 : Int) ≤ (i : Int) := Int.natCast_nonneg _
        clear hown hcell
        go_wp2
        go_ret
        refine ⟨_, rfl, ?_, below_sets hg1 vs i wr hb⟩
        rw [HKL.out, ← HK.out]
        exact HO.out
  · rw [Bool.not_eq_true] at hany
    have HPL := Lib.hid (show placeOf p l = -1 by rw [placeOf, hany]; rfl)
    have HK := Lib.hid (keep_none p l hany)
    clear hany
    go_enter Try.func83, Try.ntmps83
    go_wp2_with fail
    refine HI.out.mono ?_
    rw [HPL.out]
    rintro e w1 ⟨rfl, hb1⟩
    go_wp2
    go_ret
    exact ⟨_, rfl, by rw [HK.out]; exact own_below hown hb1, hb1.mono hB⟩
end Go.Proofs.Ytnoocdannfeidaa

/-
  WALK: Calm of both. (Printed by gen_calm.py.)
-/
namespace Go.Proofs.Ytnoocdannfeidaa
open Go.RowKit Pulse

/-- The points of the path do not add up to nothing. -/
def busy (p : List Int) (m : Int) : Bool := !(decide ((sumL m.toNat p).x = 0) && decide ((sumL m.toNat p).y = 0))
set_option maxHeartbeats 400000 in
theorem calmFn (p : List Int) (A : Option Addr) (c g : Nat) (m : Int) (hl : p.length ≤ 12) (hF : Forces 99 p) (hm : 0 ≤ m) (hm' : m ≤ 3) (w : World) (B : Nat) (hB : B ≤ w.heap.size) (hr : Rd w B 1 A p.length (ints p)) (hg : w.heap[g]? = some (.cells #[.slice A p.length c] 22 (0, 0))) :
    Calls Try.prog 84 #[.int .i64 m, .pointer (some ⟨g, 0, none⟩)] w fun e w' => e = .returned (.bool (busy p m)) ∧ Below w.heap.size w w' := by
  have c1 : w.cell? ⟨g, 0, none⟩ = some (.slice A p.length c) := blk_cell hg 0
  have H := Lib.hid (pTotal p m hl hF hm hm' A c w B hB hr)
  clear hg
  have HA : busy p m = !(decide ((sumL m.toNat p).x = 0) && decide ((sumL m.toNat p).y = 0)) := rfl
  obtain ⟨u, hu⟩ : ∃ u, u = sumL m.toNat p := ⟨_, rfl⟩
  rw [← hu] at HA
  have HH := Lib.hid HA
  have HU := Lib.hid hu
  clear HA hu
  go_enter Try.func84, Try.ntmps84
  go_wp2_with fail
  refine H.out.mono ?_
  rw [← HU.out]
  rintro e w1 ⟨rfl, hb1⟩
  go_wp2
  all_goals
    go_ret
    exact ⟨ret_bool (by rw [HH.out]; simp [*]), hb1⟩

/-- The modes below q in which a pulse is calm. -/
def calmTo (p : List Int) : Nat → List Int
  | 0 => []
  | q + 1 => calmTo p q ++ (if away p q then [] else if busy p q then [] else [(q : Int)])
def calmN (p : List Int) : List Int := if vald p = 0 then calmTo p 4 else []
theorem calmTo_len (p : List Int) (q : Nat) : (calmTo p q).length ≤ q := by
  induction q with
  | zero => exact Nat.le_refl _
  | succ q ih => rw [calmTo, List.length_append]; split <;> (try split) <;> simp <;> omega
theorem keep_calm (p : List Int) (q : Nat) : keepL (busy p) (clTo p q) = calmTo p q := by
  induction q with
  | zero => rfl
  | succ q ih =>
    rw [clTo, calmTo, ← ih, keepL, keepL, List.filter_append]
    congr 1
    split
    · rfl
    · split
      · rename_i h; simp [h]
      · rename_i h; simp [h]
theorem clTo_mem {p : List Int} {q : Nat} {m : Int} (h : m ∈ clTo p q) : 0 ≤ m ∧ m < q := by
  induction q with
  | zero => cases h
  | succ q ih =>
    rw [clTo, List.mem_append] at h
    rcases h with h | h
    · have := ih h; omega
    · split at h
      · cases h
      · rw [List.mem_singleton.1 h]; omega

set_option maxHeartbeats 1000000 in
theorem pCalm (A : Option Addr) (k c : Nat) (p : List Int) (w : World) (hl : p.length ≤ 1000) (B : Nat) (hB : B ≤ w.heap.size) (hr : Rd w B 1 A k (ints p)) :
    Calls Try.prog 47 #[.slice A k c] w fun e w' => ∃ v, e = .returned (.tuple #[v, .int .i64 (vald p)]) ∧ w'.ownsRow w.heap.size 3 1 v (calmN p).length (ints (calmN p)) ∧ Below w.heap.size w w' := by
  obtain rfl := hr.int_len
  have HN := Lib.hid (blk_new w 22 #[.slice A p.length c])
  have HB := Lib.hid ((Below.refl w.heap.size w).alloc (Nat.le_refl _) (.cells #[.slice A p.length c] 22))
  have HR := Lib.hid (hr.alloc hB (.cells #[.slice A p.length c] 22))
  have H := Lib.hid (pClosed A p.length c p (w.alloc (.cells #[.slice A p.length c] 22)) hl B (by simp; omega) HR.out)
  have HC := Lib.hid (show calmN p = if vald p = 0 then calmTo p 4 else [] from rfl)
  have HD := Lib.hid (show closedN p = if vald p = 0 then clTo p 4 else [] from rfl)
  by_cases h : vald p = 0
  · obtain ⟨h4, h5⟩ := vald_ok h
    have HV := Lib.hid h
    rw [if_pos h] at HC HD
    have HF := Lib.hid h5
    have HK := Lib.hid (keep_calm p 4)
    have hlc := clTo_len p 4
    clear h h5
    go_enter Try.func47, Try.ntmps47
    go_wp2_with fail
    refine H.out.mono ?_
    rw [HV.out, HD.out]
    rintro e w1 ⟨v1, rfl, hown1, hb1⟩
    rw [World.size_alloc] at hb1 hown1
    obtain ⟨A1, c1, rfl, _, _⟩ := own_cap hown1
    have s1 := hb1.size
    rw [World.size_alloc] at s1
    have HO := Lib.hid hown1
    have HBN := Lib.hid (blk_below HN.out hb1 (by omega))
    have HR1 := Lib.hid (HR.out.below' hb1 (by omega))
    have HB1 := Lib.hid (HB.out.trans (hb1.mono (by omega)))
    clear hown1 hb1
    go_wp2_with fail
    refine (pDeleteFunc 84 Try.call84 #[.pointer (some ⟨w.heap.size, 0, none⟩)] (busy p) A1 c1 (clTo p 4) w1 (by omega) (w.heap.size + 1) s1 HO.out
      (fun m hm W hb => calmFn p A c w.heap.size m h4 HF.out (clTo_mem hm).1 (by have := (clTo_mem hm).2; omega) W B (by have := hb.size; omega) (HR1.out.below' hb (by omega)) (blk_below HBN.out hb (by omega)))).mono ?_
    rw [HK.out]
    rintro e w2 ⟨v2, rfl, hown2, hb2⟩
    go_wp2
    go_ret2
    exact ⟨_, ret_two rfl (by rw [HV.out]; rfl), by rw [HC.out]; exact own_base hown2 (by omega), HB1.out.trans (hb2.mono (by omega))⟩
  · have hd : (vald p != 0) = true := by simpa using h
    rw [if_neg h] at HC
    clear h
    go_enter Try.func47, Try.ntmps47
    go_wp2_with fail
    refine H.out.mono ?_
    rintro e w1 ⟨v1, rfl, hown1, hb1⟩
    rw [World.size_alloc] at hb1
    go_wp2
    go_ret2
    exact ⟨_, ret_two rfl rfl, by rw [HC.out]; exact World.ownsRow_nil .., HB.out.trans (hb1.mono (by omega))⟩

set_option maxHeartbeats 2000000 in
theorem rCalm (A : Option Addr) (k c : Nat) (p : List Int) (w : World) (hl : p.length ≤ 1000) (B : Nat) (hB : B ≤ w.heap.size) (hr : Rd w B 1 A k (ints p)) :
    Calls Try.prog 48 #[.slice A k c] w fun e w' => ∃ v, e = .returned (.tuple #[v, .int .i64 (vald p)]) ∧ w'.ownsRow w.heap.size 3 1 v (calmN p).length (ints (calmN p)) ∧ Below w.heap.size w w' := by
  obtain rfl := hr.int_len
  have H := Lib.hid (rValidate A p.length c p w hl B hB hr)
  have HC := Lib.hid (show calmN p = if vald p = 0 then calmTo p 4 else [] from rfl)
  by_cases h : vald p = 0
  · obtain ⟨h4, h5⟩ := vald_ok h
    have HV := Lib.hid h
    rw [h] at H
    rw [if_pos h] at HC
    have HF := Lib.hid h5
    clear h h5
    go_enter Try.func48, Try.ntmps48
    go_wp2_with fail
    refine H.out.mono ?_
    rintro e w1 ⟨rfl, hb1⟩
    go_wp2
    go_loopw [5, 6] (fun v i wr => ∃ q : Nat, i = .int .i64 q ∧ q ≤ 4 ∧ wr.ownsRow w.heap.size 3 1 v (calmTo p q).length (ints (calmTo p q)) ∧ Below w.heap.size w wr) (fun _ i _ => 4 - (intOf i).toNat)
    case atStart => exact ⟨0, rfl, Nat.zero_le _, World.ownsRow_nil .., hb1⟩
    case round =>
      clear hb1
      obtain ⟨q, rfl, hq, hown, hb⟩ := hrel
      have hsz := hb.size
      by_cases hlt : q < 4
      · have HSQ := Lib.hid (show calmTo p (q + 1) = calmTo p q ++ (if away p q then [] else if busy p q then [] else [(q : Int)]) from rfl)
        have hlen := calmTo_len p q
        have HE := Lib.hid (rend p (q : Int) h4 HF.out (by omega) (by omega) A c wr B (by omega) (hr.below' hb hB))
        have HS2 := Lib.hid (fun (w2 : World) (hx : Below w.heap.size w w2) => rsum p (q : Int) h4 HF.out (by omega) (by omega) A c w2 B (by have := hx.size; omega) (hr.below' hx hB))
        have HAW := Lib.hid (show away p (q : Int) = !(decide ((endL ((q : Int)).toNat p).x = 0) && decide ((endL ((q : Int)).toNat p).y = 0)) from rfl)
        have HBW := Lib.hid (show busy p (q : Int) = !(decide ((sumL ((q : Int)).toNat p).x = 0) && decide ((sumL ((q : Int)).toNat p).y = 0)) from rfl)
        obtain ⟨u, hu⟩ : ∃ u, u = endL ((q : Int)).toNat p := ⟨_, rfl⟩
        rw [← hu] at HE HAW
        clear hu
        obtain ⟨t, ht⟩ : ∃ t, t = sumL ((q : Int)).toNat p := ⟨_, rfl⟩
        rw [← ht] at HS2 HBW
        clear ht
        have HOW := Lib.hid (And.intro hown hb)
        clear hown hb
        by_cases hx : u.x = 0
        · by_cases hy : u.y = 0
          · by_cases hx' : t.x = 0
            · by_cases hy' : t.y = 0
              · have HSR := Lib.hid (show calmTo p (q + 1) = calmTo p q ++ [(q : Int)] by rw [HSQ.out, HAW.out, HBW.out, hx, hy, hx', hy']; rfl)
                go_wp2_with fail
                refine HE.out.mono ?_
                rintro e w2 ⟨rfl, hb2⟩
                have hown2 := own_below HOW.out.1 hb2
                have B2 := HOW.out.2.trans (hb2.mono hsz)
                have s2 := B2.size
                clear hb2
                go_wp2_with fail
                refine (HS2.out w2 B2).mono ?_
                rintro e w3 ⟨rfl, hb3⟩
                have hown3 := own_below hown2 hb3
                have B3 := B2.trans (hb3.mono s2)
                have s3 := B3.size
                clear hb3 hown2 B2
                have V := Lib.hid (fun (w' : World) => below_own (w' := w') B3 s3 hown3 (Nat.le_refl _))
                clear B3
                go_wp2_with (at_builtin; go_must (refine app1 rfl (.tmp 28) (.tmp 30) 22 rfl 3 _ 1 8 E22 w.heap.size _ _ _ _ rfl hown3 _ rfl ?_ ?_ ?_ ?_ ?_ ?_); rfl; rfl; rfl; omega; omega; intro v4 w4 hown4 hg4)
                go_roundw
                case rel => exact ⟨q + 1, by go_num, by omega, by rw [HSR.out]; simpa using hown4, V.out _ hg4⟩
                case measure => simp [intOf]; omega
              · have HSR := Lib.hid (show calmTo p (q + 1) = calmTo p q by rw [HSQ.out, HBW.out, decide_eq_false hy', Bool.and_false]; simp)
                go_wp2_with fail
                refine HE.out.mono ?_
                rintro e w2 ⟨rfl, hb2⟩
                have hown2 := own_below HOW.out.1 hb2
                have B2 := HOW.out.2.trans (hb2.mono hsz)
                have s2 := B2.size
                clear hb2
                go_wp2_with fail
                refine (HS2.out w2 B2).mono ?_
                rintro e w3 ⟨rfl, hb3⟩
                have hown3 := own_below hown2 hb3
                have B3 := B2.trans (hb3.mono s2)
                have s3 := B3.size
                clear hb3 hown2 B2
                go_wp2
                go_roundw
                case rel => exact ⟨q + 1, by go_num, by omega, by rw [HSR.out]; exact hown3, B3⟩
                case measure => simp [intOf]; omega
            · have HSR := Lib.hid (show calmTo p (q + 1) = calmTo p q by rw [HSQ.out, HBW.out, decide_eq_false hx', Bool.false_and]; simp)
              go_wp2_with fail
              refine HE.out.mono ?_
              rintro e w2 ⟨rfl, hb2⟩
              have hown2 := own_below HOW.out.1 hb2
              have B2 := HOW.out.2.trans (hb2.mono hsz)
              have s2 := B2.size
              clear hb2
              go_wp2_with fail
              refine (HS2.out w2 B2).mono ?_
              rintro e w3 ⟨rfl, hb3⟩
              have hown3 := own_below hown2 hb3
              have B3 := B2.trans (hb3.mono s2)
              have s3 := B3.size
              clear hb3 hown2 B2
              go_wp2
              go_roundw
              case rel => exact ⟨q + 1, by go_num, by omega, by rw [HSR.out]; exact hown3, B3⟩
              case measure => simp [intOf]; omega
          · have HSR := Lib.hid (show calmTo p (q + 1) = calmTo p q by rw [HSQ.out, HAW.out, decide_eq_false hy, Bool.and_false]; simp)
            go_wp2_with fail
            refine HE.out.mono ?_
            rintro e w2 ⟨rfl, hb2⟩
            have V := Lib.hid (And.intro (own_below HOW.out.1 hb2) (HOW.out.2.trans (hb2.mono hsz)))
            clear hb2
            go_wp2
            go_roundw
            case rel => exact ⟨q + 1, by go_num, by omega, by rw [HSR.out]; exact V.out.1, V.out.2⟩
            case measure => simp [intOf]; omega
        · have HSR := Lib.hid (show calmTo p (q + 1) = calmTo p q by rw [HSQ.out, HAW.out, decide_eq_false hx, Bool.false_and]; simp)
          go_wp2_with fail
          refine HE.out.mono ?_
          rintro e w2 ⟨rfl, hb2⟩
          have V := Lib.hid (And.intro (own_below HOW.out.1 hb2) (HOW.out.2.trans (hb2.mono hsz)))
          clear hb2
          go_wp2
          go_roundw
          case rel => exact ⟨q + 1, by go_num, by omega, by rw [HSR.out]; exact V.out.1, V.out.2⟩
          case measure => simp [intOf]; omega
      · obtain rfl : q = 4 := by omega
        go_wp2
        go_ret2
        exact ⟨_, ret_two rfl (by rw [HV.out]; rfl), by rw [HC.out]; exact hown, hb⟩
  · have hd : (vald p != 0) = true := by simpa using h
    rw [if_neg h] at HC
    clear h
    go_enter Try.func48, Try.ntmps48
    go_wp2_with fail
    refine H.out.mono ?_
    rintro e w1 ⟨rfl, hb1⟩
    go_wp2
    go_ret2
    exact ⟨_, ret_two rfl rfl, by rw [HC.out]; exact World.ownsRow_nil .., hb1⟩
end Go.Proofs.Ytnoocdannfeidaa
