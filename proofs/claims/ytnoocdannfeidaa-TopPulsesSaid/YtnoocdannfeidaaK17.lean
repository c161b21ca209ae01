/-
  MERGED: W33, W34.
-/
import Derived.Test.YtnoocdannfeidaaK15
import Derived.Lib.AppendZeros
/-
  WALK: Add of both.
-/
namespace Go.Proofs.Ytnoocdannfeidaa
open Go.RowKit Pulse

def addS (p q : List Int) : List Int := List.zipWith (· + ·) p q
def addE (p q : List Int) : Int := if bothE p q = 0 then (if p.length = q.length then (if vald (addS p q) = 0 then 0 else 1) else 5) else bothE p q
def addL (p q : List Int) : List Int := if bothE p q = 0 ∧ p.length = q.length ∧ vald (addS p q) = 0 then addS p q else []
/-- The first j places added. -/
def adT (p q : List Int) (j : Nat) : List Int := List.zipWith (· + ·) (p.take j) (q.take j) ++ p.drop j
theorem adT_zero (p q : List Int) : adT p q 0 = p := by simp [adT]
theorem adT_all {p q : List Int} (h : p.length = q.length) : adT p q q.length = addS p q := by
  rw [adT, ← h, List.take_length, List.drop_length, List.append_nil, h, List.take_length]; rfl
theorem adT_len {p q : List Int} (h : p.length = q.length) (j : Nat) (hj : j ≤ p.length) : (adT p q j).length = p.length := by
  simp [adT]; omega
theorem zt_len {p q : List Int} {j : Nat} (h : j < p.length) (h' : j < q.length) : (List.zipWith (· + ·) (p.take j) (q.take j)).length = j := by simp; omega
theorem adT_get {p q : List Int} {j : Nat} (h : j < p.length) (h' : j < q.length) : (adT p q j)[j]? = some p[j] := by
  rw [adT, List.getElem?_append_right (by rw [zt_len h h']; exact Nat.le_refl _), zt_len h h']
  simp [h]
theorem adT_succ {p q : List Int} {j : Nat} (h : j < p.length) (h' : j < q.length) : (adT p q j).set j (p[j] + q[j]) = adT p q (j + 1) := by
  rw [adT, adT, List.set_append_right _ _ (by rw [zt_len h h']; exact Nat.le_refl _), zt_len h h', Nat.sub_self, take_snoc' p j h, take_snoc' q j h', List.zipWith_append (by simp; omega), List.drop_eq_getElem_cons h, List.set_cons_zero, List.append_assoc]
  rfl
theorem bothE_ok {p q : List Int} (h : bothE p q = 0) : vald p = 0 ∧ vald q = 0 := by
  unfold bothE at h
  split at h
  · exact ⟨by assumption, h⟩
  · exact absurd h (by assumption)

set_option maxRecDepth 100000 in
set_option maxHeartbeats 2000000 in
theorem pAdd (A A' : Option Addr) (k c k' c' : Nat) (p r : List Int) (w : World) (hl : p.length ≤ 1000) (hl' : r.length ≤ 1000) (B : Nat) (hB : B ≤ w.heap.size) (hr : Rd w B 1 A k (ints p)) (hr' : Rd w B 1 A' k' (ints r)) :
    Calls Try.prog 49 #[.slice A k c, .slice A' k' c'] w fun e w' => ∃ v, e = .returned (.tuple #[v, .int .i64 (addE p r)]) ∧ w'.ownsRow w.heap.size 3 1 v (addL p r).length (ints (addL p r)) ∧ Below w.heap.size w w' := by
  obtain rfl := hr.int_len
  obtain rfl := hr'.int_len
  have H := Lib.hid (pboth A A' p.length c r.length c' p r w hl hl' B hB hr hr')
  have HE := Lib.hid (show addE p r = if bothE p r = 0 then (if p.length = r.length then (if vald (addS p r) = 0 then 0 else 1) else 5) else bothE p r from rfl)
  have HL := Lib.hid (show addL p r = if bothE p r = 0 ∧ p.length = r.length ∧ vald (addS p r) = 0 then addS p r else [] from rfl)
  by_cases h : bothE p r = 0
  · obtain ⟨v1, v2⟩ := bothE_ok h
    have HF := Lib.hid (vald_ok v1).2
    have HF' := Lib.hid (vald_ok v2).2
    have HV := Lib.hid h
    rw [h] at H
    rw [if_pos h] at HE
    clear v1 v2 h
    by_cases hlen : p.length = r.length
    · have HLN := Lib.hid hlen
      have d0 : ((p.length : Int) != (r.length : Int)) = false := by simp [hlen]
      have d1 : ((p.length : Int) == (r.length : Int)) = true := by simp [hlen]
      have d2 : p.length ≤ r.length := by omega
      have d3 : r.length ≤ p.length := by omega
      rw [if_pos hlen] at HE
      clear hlen
      go_enter Try.func49, Try.ntmps49
      go_wp2_with fail
      refine H.out.mono ?_
      rintro e w1 ⟨rfl, hb1⟩
      have s1 := hb1.size
      go_wp2_with fail
      refine (pClone A p.length c p w1 hl B (by omega) (hr.below' hb1 hB)).mono ?_
      rintro e w2 ⟨v2, rfl, hown2, hb2⟩
      obtain ⟨A2, c2, rfl, _, _⟩ := own_cap hown2
      have B2 := hb1.trans (hb2.mono s1)
      have s2 := B2.size
      have hown2 := own_base hown2 s1
      clear hb1 hb2
      go_wp2
      go_loopw [8, 9, 25] (fun _ _ i wr => ∃ q : Nat, i = .int .i64 q ∧ q ≤ r.length ∧ wr.ownsRow w.heap.size 3 1 (.slice A2 p.length c2) p.length (ints (adT p r q)) ∧ Below w.heap.size w wr) (fun _ _ i _ => r.length - (intOf i).toNat)
      case atStart => exact ⟨0, rfl, Nat.zero_le _, by rw [adT_zero]; exact hown2, B2⟩
      case round =>
        clear hown2 B2
        obtain ⟨q, rfl, hq, hown, hb⟩ := hrel
        have hsz := hb.size
        by_cases hlt : q < r.length
        · have hqp : q < p.length := by omega
          obtain ⟨b, off, rfl, hbb, h0⟩ := (hr'.below' hb hB).int hlt
          obtain ⟨g, cap, hv, hg1, hg2⟩ := hown.form (by omega)
          simp only [Value.slice.injEq, true_and] at hv
          obtain ⟨rfl, rfl⟩ := hv
          have hfb := HF.out p[q] (List.getElem_mem hqp)
          have hfb' := HF'.out r[q] (List.getElem_mem hlt)
          have hal : (adT p r q).length = p.length := adT_len HLN.out q (by omega)
          have hge : (adT p r q)[q]'(by omega) = p[q] := by
            have := adT_get hqp hlt
            rw [List.getElem?_eq_getElem (by omega)] at this
            injection this
          have c1 := own_int hown (i := q) (by omega)
          rw [hge] at c1
          have f1 := own_frozen hown q
          have HS := Lib.hid (adT_succ hqp hlt)
          have HO := Lib.hid (own_seti (i := q) hown (p[q] + r[q]))
          rw [HS.out] at HO
          have HB := Lib.hid (hb.setCell (p := ⟨g, q, none⟩) hg1 (.int .i64 (p[q] + r[q])))
          clear hown hge hal hb HS
          generalize p[q] = x at *
          generalize r[q] = y at *
          go_wp2
          go_roundw
          case rel => exact ⟨q + 1, by go_num, by omega, HO.out, HB.out⟩
          case measure => simp [intOf]; omega
        · obtain rfl : q = r.length := by omega
          rw [adT_all HLN.out] at hown
          have hln : (addS p r).length = p.length := by simp [addS]; omega
          have HT := Lib.hid (pTold A2 p.length c2 (addS p r) wr (by omega) wr.heap.size (Nat.le_refl _) (Rd.of_own hown))
          have HOW := Lib.hid (And.intro hown hb)
          have HLN2 := Lib.hid hln
          clear hown hb hln
          by_cases hs : vald (addS p r) = 0
          · rw [if_pos hs] at HT HE
            rw [if_pos ⟨HV.out, HLN.out, hs⟩] at HL
            clear hs
            go_wp2_with fail
            refine HT.out.mono ?_
            rintro e w4 ⟨rfl, hb4⟩
            go_wp2
            go_ret2
            exact ⟨_, ret_two rfl (by rw [HE.out]; rfl), by rw [HL.out, HLN2.out]; exact own_below HOW.out.1 hb4, HOW.out.2.trans (hb4.mono hsz)⟩
          · rw [if_neg hs] at HT HE
            rw [if_neg (fun x => hs x.2.2)] at HL
            clear hs
            go_wp2_with fail
            refine HT.out.mono ?_
            rintro e w4 ⟨rfl, hb4⟩
            go_wp2
            go_ret2
            exact ⟨_, ret_two rfl (by rw [HE.out]; rfl), by rw [HL.out]; exact World.ownsRow_nil .., HOW.out.2.trans (hb4.mono hsz)⟩
    · have d0 : ((p.length : Int) != (r.length : Int)) = true := by simp; omega
      rw [if_neg hlen] at HE
      rw [if_neg (fun x => hlen x.2.1)] at HL
      clear hlen
      go_enter Try.func49, Try.ntmps49
      go_wp2_with fail
      refine H.out.mono ?_
      rintro e w1 ⟨rfl, hb1⟩
      go_wp2
      go_ret2
      exact ⟨_, ret_two rfl (by rw [HE.out]; rfl), by rw [HL.out]; exact World.ownsRow_nil .., hb1⟩
  · have hd : (bothE p r != 0) = true := by simpa using h
    rw [if_neg h] at HE
    rw [if_neg (fun x => h x.1)] at HL
    clear h
    go_enter Try.func49, Try.ntmps49
    go_wp2_with fail
    refine H.out.mono ?_
    rintro e w1 ⟨rfl, hb1⟩
    go_wp2
    go_ret2
    exact ⟨_, ret_two rfl (by rw [HE.out]; rfl), by rw [HL.out]; exact World.ownsRow_nil .., hb1⟩

theorem addS_len {p r : List Int} (h : p.length = r.length) : (addS p r).length = p.length := by simp [addS]; omega
theorem addS_take {p r : List Int} {j : Nat} (h : j < p.length) (h' : j < r.length) : addS (p.take (j + 1)) (r.take (j + 1)) = addS (p.take j) (r.take j) ++ [p[j] + r[j]] := by
  rw [addS, take_snoc' p j h, take_snoc' r j h', List.zipWith_append (by simp; omega)]; rfl
theorem vald_told {p : List Int} (h : p.length ≤ 12) (h' : vald p ≠ 0) : vald p = 1 := by
  unfold vald at *
  rw [if_neg (by omega)] at *
  split
  · rename_i h1; rw [if_pos h1] at h'; exact absurd rfl h'
  · rfl

set_option maxRecDepth 100000 in
set_option maxHeartbeats 2000000 in
theorem rAdd (A A' : Option Addr) (k c k' c' : Nat) (p r : List Int) (w : World) (hl : p.length ≤ 1000) (hl' : r.length ≤ 1000) (B : Nat) (hB : B ≤ w.heap.size) (hr : Rd w B 1 A k (ints p)) (hr' : Rd w B 1 A' k' (ints r)) :
    Calls Try.prog 50 #[.slice A k c, .slice A' k' c'] w fun e w' => ∃ v, e = .returned (.tuple #[v, .int .i64 (addE p r)]) ∧ w'.ownsRow w.heap.size 3 1 v (addL p r).length (ints (addL p r)) ∧ Below w.heap.size w w' := by
  obtain rfl := hr.int_len
  obtain rfl := hr'.int_len
  have H := Lib.hid (rboth A A' p.length c r.length c' p r w hl hl' B hB hr hr')
  have HE := Lib.hid (show addE p r = if bothE p r = 0 then (if p.length = r.length then (if vald (addS p r) = 0 then 0 else 1) else 5) else bothE p r from rfl)
  have HL := Lib.hid (show addL p r = if bothE p r = 0 ∧ p.length = r.length ∧ vald (addS p r) = 0 then addS p r else [] from rfl)
  by_cases h : bothE p r = 0
  · obtain ⟨v1, v2⟩ := bothE_ok h
    have h12 := (vald_ok v1).1
    have HF := Lib.hid (vald_ok v1).2
    have HF' := Lib.hid (vald_ok v2).2
    have HV := Lib.hid h
    rw [h] at H
    rw [if_pos h] at HE
    clear v1 v2 h
    by_cases hlen : p.length = r.length
    · have HLN := Lib.hid hlen
      have d0 : ((p.length : Int) != (r.length : Int)) = false := by simp [hlen]
      have d1 : ((p.length : Int) == (r.length : Int)) = true := by simp [hlen]
      have d2 : p.length ≤ r.length := by omega
      have d3 : r.length ≤ p.length := by omega
      rw [if_pos hlen] at HE
      clear hlen
      go_enter Try.func50, Try.ntmps50
      go_wp2_with fail
      refine H.out.mono ?_
      rintro e w1 ⟨rfl, hb1⟩
      go_wp2
      go_loopw [7, 8] (fun v i wr => ∃ q : Nat, i = .int .i64 q ∧ q ≤ p.length ∧ wr.ownsRow w.heap.size 3 1 v q (ints (addS (p.take q) (r.take q))) ∧ Below w.heap.size w wr) (fun _ i _ => p.length - (intOf i).toNat)
      case atStart => exact ⟨0, rfl, Nat.zero_le _, World.ownsRow_nil .., hb1⟩
      case round =>
        clear hb1
        obtain ⟨q, rfl, hq, hown, hb⟩ := hrel
        have hsz := hb.size
        by_cases hlt : q < p.length
        · have hqr : q < r.length := by omega
          obtain ⟨b, off, rfl, hbb, h0⟩ := (hr.below' hb hB).int hlt
          obtain ⟨b', off', rfl, hbb', h0'⟩ := (hr'.below' hb hB).int hqr
          have hfb := HF.out p[q] (List.getElem_mem hlt)
          have hfb' := HF'.out r[q] (List.getElem_mem hqr)
          have HS := Lib.hid (addS_take hlt hqr)
          generalize p[q] = x at *
          generalize r[q] = y at *
          obtain ⟨Av, cv, rfl, _, _⟩ := own_cap hown
          have z0 : (0 : Int) ≤ (q : Int) := Int.natCast_nonneg _
          have z1 : (q : Int) < (p.length : Int) := by omega
          have z2 : (q : Int) < (r.length : Int) := by omega
          have HOA := Lib.hid (show ((wr.alloc (.cells #[.int .i64 (x + y)] 3)).drew).ownsRow w.heap.size 3 1 (.slice Av q cv) q (ints (addS (p.take q) (r.take q))) from hown.alloc _)
          have HRD := Lib.hid (show Rd ((wr.alloc (.cells #[.int .i64 (x + y)] 3)).drew) (wr.heap.size + 1) 1 (some ⟨wr.heap.size, 0, none⟩) 1 [.int .i64 (x + y)] from Rd.one wr #[.int .i64 (x + y)] 3 1 rfl)
          have HB := Lib.hid ((hb.alloc hsz (.cells #[.int .i64 (x + y)] 3)).drew)
          clear hown hb
          go_wp2
          refine wp_region_ftail (fun w' => w' = wr.drew) 9 _ (.slice Av q cv) (by kernel_rfl) (by kernel_rfl) rfl rfl rfl (fun _ _ _ _ h => h) rfl ?_
          simp only [List.take_succ_cons, List.take_zero, List.drop_succ_cons, List.drop_zero, Act.put, List.setIfInBounds_toArray, List.set_cons_zero, List.set_cons_succ]
          repeat (go_big_quiet_step (fail))
          refine wpQuiet_nil ?_
          rintro w' rfl
          go_wp2_with (at_builtin; go_must (refine appN rfl (.tmp 27) (.tmp 37) 22 rfl 3 _ 1 8 E22 w.heap.size _ _ _ rfl HOA.out (wr.heap.size + 1) (some ⟨wr.heap.size, 0, none⟩) 1 1 [.int .i64 (x + y)] rfl HRD.out rfl ?_ ?_ ?_); omega; simp; omega; intro v5 w6 hown6 hg6)
          have HB6 := Lib.hid (below_own HB.out (by simp; omega) HOA.out (Nat.le_refl _) hg6)
          go_roundw
          case rel => exact ⟨q + 1, by go_num, by omega, by rw [HS.out]; simpa using hown6, HB6.out⟩
          case measure => simp [intOf]; omega
        · obtain rfl : q = p.length := by omega
          rw [List.take_length, show r.take p.length = r by rw [HLN.out, List.take_length]] at hown
          have hln := addS_len HLN.out
          obtain ⟨Av, cv, rfl, _, _⟩ := own_cap hown
          have HT := Lib.hid (rValidate Av p.length cv (addS p r) wr (by omega) wr.heap.size (Nat.le_refl _) (Rd.of_own hown))
          have HOW := Lib.hid (And.intro hown hb)
          have HLN2 := Lib.hid hln
          have HVT := Lib.hid (show vald (addS p r) ≠ 0 → vald (addS p r) = 1 from vald_told (by omega))
          clear hown hb hln
          by_cases hs : vald (addS p r) = 0
          · rw [if_pos hs] at HE
            rw [hs] at HT
            rw [if_pos ⟨HV.out, HLN.out, hs⟩] at HL
            clear hs
            go_wp2_with fail
            refine HT.out.mono ?_
            rintro e w4 ⟨rfl, hb4⟩
            go_wp2
            go_ret2
            exact ⟨_, ret_two rfl (by rw [HE.out]; rfl), by rw [HL.out, HLN2.out]; exact own_below HOW.out.1 hb4, HOW.out.2.trans (hb4.mono hsz)⟩
          · rw [if_neg hs] at HE
            rw [HVT.out hs] at HT
            rw [if_neg (fun x => hs x.2.2)] at HL
            clear hs
            go_wp2_with fail
            refine HT.out.mono ?_
            rintro e w4 ⟨rfl, hb4⟩
            go_wp2
            go_ret2
            exact ⟨_, ret_two rfl (by rw [HE.out]; rfl), by rw [HL.out]; exact World.ownsRow_nil .., HOW.out.2.trans (hb4.mono hsz)⟩
    · have d0 : ((p.length : Int) != (r.length : Int)) = true := by simp; omega
      rw [if_neg hlen] at HE
      rw [if_neg (fun x => hlen x.2.1)] at HL
      clear hlen
      go_enter Try.func50, Try.ntmps50
      go_wp2_with fail
      refine H.out.mono ?_
      rintro e w1 ⟨rfl, hb1⟩
      go_wp2
      go_ret2
      exact ⟨_, ret_two rfl (by rw [HE.out]; rfl), by rw [HL.out]; exact World.ownsRow_nil .., hb1⟩
  · have hd : (bothE p r != 0) = true := by simpa using h
    rw [if_neg h] at HE
    rw [if_neg (fun x => h x.1)] at HL
    clear h
    go_enter Try.func50, Try.ntmps50
    go_wp2_with fail
    refine H.out.mono ?_
    rintro e w1 ⟨rfl, hb1⟩
    go_wp2
    go_ret2
    exact ⟨_, ret_two rfl (by rw [HE.out]; rfl), by rw [HL.out]; exact World.ownsRow_nil .., hb1⟩
end Go.Proofs.Ytnoocdannfeidaa

/-
  WALKS: slices.Grow, slices.Concat at ints.
-/
namespace Go.Proofs.Ytnoocdannfeidaa
open Go.RowKit Pulse

theorem zeroCells_size (z : Array Value) (n : Nat) : (Builtin.zeroCells z n).size = n * z.size := by simp [Builtin.zeroCells]

theorem run_grow (n : Nat) (h : 0 < n) (hn : n ≤ 1000) (ty : TypeId) (w : World) : ∃ v w', (Builtin.append_ #[22, 3] ty #[.slice none 0 0, .int .i64 n]).run Try.prog w = .ok v w' ∧ ∃ gc, v = .slice (some ⟨w.heap.size, 0, none⟩) n gc ∧ w'.ownsRow w.heap.size 3 1 (.slice (some ⟨w.heap.size, 0, none⟩) 0 gc) 0 [] ∧ Below w.heap.size w w' := by
  obtain ⟨i, hi, hz0, hz1, hz2⟩ := E22.info
  have hap := Lib.run_append_nil_zeros w 22 3 ty 3 i _ .i64 .i64 Try.underlying22 Try.underlying3 hi hz0 n h (by omega) (by omega) (by rw [hz2]; omega)
  have hcap : n ≤ grownCap w n 0 3 := grownCap_ge w n 0 3
  have hmax := grownCap_le_maxLen w n 0 3 (by unfold maxLen; omega)
  refine ⟨_, _, hap, grownCap w n 0 3, rfl, ⟨by simp, .inr ⟨w.heap.size, grownCap w n 0 3, _, rfl, Nat.le_refl _, blk_new _ 3 _, Nat.zero_le _, hmax, ?_, by simp⟩⟩, ((Below.refl _ _).drew).alloc (Nat.le_refl _) _⟩
  rw [Array.size_append, zeroCells_size, zeroCells_size]
  show n * 1 + (grownCap w n 0 3 - n) * 1 = grownCap w n 0 3 * 1
  omega
section
variable {w : World} {ops : Array Oper} {rest : List Oper} {o : Oper} {a : Act} {Q : Exit → Act → World → Prop}
theorem grow0 (hgd : o.guard = none) (s x : Operand) (ho : o.op = .call { callee := .builtin .append, args := #[s, x], argTypes := #[22, 3] })
    (n : Nat) (hpos : 0 < n) (hn : n ≤ 1000) (hs : a.eval s = .slice none 0 0) (hx : a.eval x = .int .i64 n)
    (h : ∀ gc w', w'.ownsRow w.heap.size 3 1 (.slice (some ⟨w.heap.size, 0, none⟩) 0 gc) 0 [] → Below w.heap.size w w' → wpList Try.prog ops Q rest (a.put o.dst (.slice (some ⟨w.heap.size, 0, none⟩) n gc)) w') : wpList Try.prog ops Q (o :: rest) a w :=
  wpList_plain hgd fun _ hK => by
    obtain ⟨v', w', hrun, gc, rfl, h2, h3⟩ := run_grow n hpos hn o.type w
    unfold Oper.wp execOp
    simp only [ho, resolve, invoke, builtin, Sem.run_bind, Sem.run_pure, Result.andThen_ok, List.map_toArray, List.map_cons, List.map_nil, hs, hx, hrun]
    exact hK _ _ (h gc w' h2 h3)
end

set_option maxRecDepth 100000 in
theorem pGrow (n : Nat) (w : World) (hn : n ≤ 1000) :
    Calls Try.prog 106 #[.slice none 0 0, .int .i64 n] w fun e w' => ∃ v, e = .returned v ∧ w'.ownsRow w.heap.size 3 1 v 0 [] ∧ Below w.heap.size w w' := by
  rcases Nat.eq_zero_or_pos n with h | h
  · subst h
    go_enter Try.func106, Try.ntmps106
    go_wp2
    go_ret
    exact ⟨_, rfl, World.ownsRow_nil _ _ _ _, Below.refl _ _⟩
  · have hd : decide (0 < n) = true := by simpa using h
    go_enter Try.func106, Try.ntmps106
    go_wp2_with (at_builtin; go_must (refine grow0 rfl (.tmp 20) (.tmp 21) rfl n h hn rfl rfl ?_); intro gc w1 hown hb)
    go_ret
    exact ⟨_, rfl, hown, hb⟩

def totalN (l m : List Int) : Nat → Nat
  | 0 => 0
  | 1 => l.length
  | _ => l.length + m.length
def joinTo (l m : List Int) : Nat → List Int
  | 0 => []
  | 1 => l
  | _ => l ++ m
set_option maxRecDepth 100000 in
set_option maxHeartbeats 1000000 in
theorem pConcat (g : Nat) (A A' : Option Addr) (k c k' c' : Nat) (l m : List Int) (w : World) (hl : l.length ≤ 100) (hm : m.length ≤ 100) (B : Nat) (hB : B ≤ w.heap.size) (hr : Rd w B 1 A k (ints l)) (hr' : Rd w B 1 A' k' (ints m)) (hg : w.heap[g]? = some (.cells #[.slice A k c, .slice A' k' c'] 22 (0, 0))) :
    Calls Try.prog 101 #[.slice (some ⟨g, 0, none⟩) 2 2] w fun e w' => ∃ v, e = .returned v ∧ w'.ownsRow w.heap.size 3 1 v (l ++ m).length (ints (l ++ m)) ∧ Below w.heap.size w w' := by
  obtain rfl := hr.int_len
  obtain rfl := hr'.int_len
  have hlt := blk_lt hg
  have HG := Lib.hid hg
  clear hg
  go_enter Try.func101, Try.ntmps101
  go_wp2
  go_loopw [3, 11] (fun s i wr => ∃ q : Nat, i = .int .i64 q ∧ q ≤ 2 ∧ s = .int .i64 ((totalN l m q : Nat) : Int) ∧ Below w.heap.size w wr) (fun _ i _ => 2 - (intOf i).toNat)
  case atStart => exact ⟨0, rfl, by omega, rfl, Below.refl _ _⟩
  case round =>
    obtain ⟨q, rfl, hq, rfl, hb⟩ := hrel
    have x1 := blk_below HG.out hb hlt
    have c0 : wr.cell? ⟨g, 0, none⟩ = some (.slice A l.length c) := blk_cell x1 0
    have c1 : wr.cell? ⟨g, 1, none⟩ = some (.slice A' m.length c') := blk_cell x1 1
    have X1 := Lib.hid x1
    clear x1
    have T0 := Lib.hid (show totalN l m 0 = 0 from rfl)
    have T1 := Lib.hid (show totalN l m 1 = l.length from rfl)
    have T2 := Lib.hid (show totalN l m 2 = l.length + m.length from rfl)
    have h3 : q = 0 ∨ q = 1 ∨ q = 2 := by omega
    rcases h3 with rfl | rfl | rfl
    · rw [T0.out]
      go_wp2
      go_roundw
      case rel => exact ⟨1, rfl, by omega, by first | (rw [T1.out]; done) | (rw [T1.out]; go_num), hb⟩
      case measure => simp [intOf]
    · rw [T1.out]
      go_wp2
      go_roundw
      case rel => exact ⟨2, rfl, by omega, by first | (rw [T2.out]; done) | (rw [T2.out]; go_num), hb⟩
      case measure => simp [intOf]
    · rw [T2.out]
      have hsz := hb.size
      have hcast : ((l.length + m.length : Nat) : Int) = (l.length : Int) + (m.length : Int) := by omega
      clear hcast
      go_wp2_with fail
      refine (pGrow (l.length + m.length) wr (by omega)).mono ?_
      rintro e w1 ⟨v, rfl, hown, hb1⟩
      have hown1 := own_base hown hsz
      have B1 := hb.trans (hb1.mono hsz)
      clear hown hb hb1 c0 c1
      go_wp2
      go_loopw [6, 27] (fun v i wr => ∃ q : Nat, i = .int .i64 q ∧ q ≤ 2 ∧ wr.ownsRow w.heap.size 3 1 v (joinTo l m q).length (ints (joinTo l m q)) ∧ Below w.heap.size w wr) (fun _ i _ => 2 - (intOf i).toNat)
      case atStart => exact ⟨0, rfl, by omega, hown1, B1⟩
      case round =>
        clear hown1 B1
        obtain ⟨q, rfl, hq, hown, hb⟩ := hrel
        have hsz2 := hb.size
        have x1 := blk_below HG.out hb hlt
        have c0 : wr.cell? ⟨g, 0, none⟩ = some (.slice A l.length c) := blk_cell x1 0
        have c1 : wr.cell? ⟨g, 1, none⟩ = some (.slice A' m.length c') := blk_cell x1 1
        have X1 := Lib.hid x1
        clear x1
        have J1 := Lib.hid (show joinTo l m 1 = l from rfl)
        have J2 := Lib.hid (show joinTo l m 2 = l ++ m from rfl)
        have h3 : q = 0 ∨ q = 1 ∨ q = 2 := by omega
        rcases h3 with rfl | rfl | rfl
        · have hown0 : wr.ownsRow w.heap.size 3 1 u6 0 [] := hown
          go_wp2_with (at_builtin; go_must (refine appN rfl (.tmp 31) (.tmp 32) 22 rfl 3 _ 1 8 E22 w.heap.size _ _ _ rfl hown0 B A l.length c (ints l) rfl (hr.below' hb hB) (ints_one _) (by omega) hsz2 ?_); intro v2 w2 hown2 hg2)
          go_roundw
          case rel => exact ⟨1, rfl, by omega, by rw [J1.out]; simpa using hown2, below_own hb hsz2 hown0 (Nat.le_refl _) hg2⟩
          case measure => simp [intOf]
        · have hown0 : wr.ownsRow w.heap.size 3 1 u6 l.length (ints l) := hown
          go_wp2_with (at_builtin; go_must (refine appN rfl (.tmp 31) (.tmp 32) 22 rfl 3 _ 1 8 E22 w.heap.size _ _ _ rfl hown0 B A' m.length c' (ints m) rfl (hr'.below' hb hB) (ints_one _) (by omega) hsz2 ?_); intro v2 w2 hown2 hg2)
          go_roundw
          case rel => exact ⟨2, rfl, by omega, by rw [J2.out, List.length_append]; simpa using hown2, below_own hb hsz2 hown0 (Nat.le_refl _) hg2⟩
          case measure => simp [intOf]
        · go_wp2
          go_ret
          exact ⟨_, rfl, hown, hb⟩
end Go.Proofs.Ytnoocdannfeidaa
