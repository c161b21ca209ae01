/-
  WALK: the iterator 'all'.
-/
import Derived.Test.YtejjogpgolgdgaaW8
namespace Go.Proofs.Ytejjogpgolgdgaa
open Go.RowKit Go.Shelf Pulse
attribute [local go_sem] Oper.semAt_some

theorem pAll (m : Int) (w : World) : Calls Try.prog 69 #[.int .i64 m] w fun e w' =>
    e = .returned (.func (.func 93) #[] #[.pointer (some ⟨w.heap.size, 0, none⟩)]) ∧ w' = w.alloc (.cells #[.int .i64 m] 3) := by
  go_enter Try.func69, Try.ntmps69
  go_wp2
  go_ret
  exact ⟨rfl, rfl⟩

/-- All voltages of so many electrodes. -/
abbrev allV (n : Nat) : List (List Int) := allP 3 n
/-- The ints of a block. -/
def rowInts (W : World) (g : Nat) : List Int := match W.heap[g]? with
  | some (.cells cs _ _) => cs.toList.map intOf
  | _ => []
theorem rowInts_eq {W : World} {g : Nat} {p : List Int} (h : W.heap[g]? = some (.cells (ints p).toArray 3 (0, 0))) : rowInts W g = p := by
  rw [rowInts, h]
  simp only [List.map_map]
  have : (intOf ∘ Value.int IntKind.i64) = id := by funext x; rfl
  rw [this, List.map_id]
theorem ints_set (l : List Int) (j : Nat) (x : Int) : (ints l).toArray.setIfInBounds j (.int .i64 x) = (ints (l.set j x)).toArray := by
  simp [ints, List.map_set]
theorem drop_pos {F n k g : Nat} {p q : List Int} {W W' : World} (h : (allP F n)[k]? = some p) (h' : (allP F n)[k + 1]? = some q) (hw : W.heap[g]? = some (.cells (ints p).toArray 3 (0, 0))) (hw' : W'.heap[g]? = some (.cells (ints q).toArray 3 (0, 0))) :
    (allP F n).length - pos (rowInts W' g) (allP F n) < (allP F n).length - pos (rowInts W g) (allP F n) := by
  obtain ⟨h1, h2⟩ := List.getElem?_eq_some_iff.1 h
  obtain ⟨h3, h4⟩ := List.getElem?_eq_some_iff.1 h'
  have e1 := pos_get (allP_nodup F n) k h1
  have e2 := pos_get (allP_nodup F n) (k + 1) h3
  rw [h2] at e1
  rw [h4] at e2
  rw [rowInts_eq hw, rowInts_eq hw', e1, e2]
  omega
/-- What is told in round q: a new row with the q-th voltages. -/
def Told (n : Nat) (G q : Nat) (v : Value) (A : World) : Prop := ∃ p, (allV n)[q]? = some p ∧ A.ownsRow (G + 1) 3 1 v n (ints p) ∧ G < A.heap.size

set_option maxRecDepth 100000 in
set_option maxHeartbeats 4000000 in
theorem all_in (n : Nat) (hn : 2 ≤ n) (m : Nat) (hm : m ≤ 3) (n₁ : Nat) (l : Nat) (J : Nat → Nat → World → Prop) (W : World) (hs : n₁ < W.heap.size)
    (hJ : ∀ G q A B, J G q A → Fix (But G) A B → J G q B)
    (hY : ∀ G q A v, J G q A → q < (allV m).length → Told m G q v A → YieldAt Fence.wide (n - 1) Try.prog l #[v] A fun e B => e = .returned (.bool true) ∧ J G (q + 1) B ∧ Fix (KQ n₁ G) A B)
    (h0 : ∀ G, W.heap.size ≤ G → J G 0 W) (hb1 : W.heap[n₁]? = some (.cells #[.int .i64 m] 3 (0, 0))) :
    CallsIn Fence.wide n Try.prog 93 #[.func (.yield l) #[] #[], .pointer (some ⟨n₁, 0, none⟩)] W fun e B => (∃ v, e = .returned v) ∧ ∃ G, J G (allV m).length B := by
  obtain ⟨hL0, hL1⟩ := allP_head 3 m
  have hb0 := (Below.refl W.heap.size W).alloc (Nat.le_refl _) (.cells #[.int .i64 (-3)] 3)
  have hn0 := blk_new W 3 #[.int .i64 (-3)]
  have HRP := Lib.hid (pRepeat (-3) m W.heap.size (W.alloc (.cells #[.int .i64 (-3)] 3)) (by omega) hn0)
  have HB0 := Lib.hid hb0
  have HX := Lib.hid (blk_alloc hb1 (.cells #[.int .i64 (-3)] 3))
  have c0 : W.cell? ⟨n₁, 0, none⟩ = some (.int .i64 m) := blk_cell hb1 0
  have HJ := Lib.hid hJ
  have HY := Lib.hid hY
  have H0 := Lib.hid (h0 (W.heap.size + 1) (by omega))
  clear hb0 hn0 hb1 hJ hY h0
  refine callsIn_of_wp Try.func93 rfl trivial ?_ rfl
  simp only [Try.ntmps93, List.size_toArray, List.length_cons, List.length_nil, Nat.reduceAdd, Nat.reduceSub, Array.replicate_succ, Array.replicate_zero, List.push_toArray, List.append_toArray, List.nil_append, List.cons_append]
  gi_wp2
  refine ⟨trivial, fun _ => by omega, (callsIn_wide.2 HRP.out).mono ?_⟩
  rintro e w1 ⟨rfl, hg1, hb1⟩
  have hrep : (rep (-3) m m).toArray = (ints (List.replicate m (-3))).toArray := by simp [rep, ints]
  rw [hrep] at hg1
  rw [World.size_alloc] at hg1 hb1 ⊢
  have HG1 := Lib.hid hg1
  have hb2 := HB0.out.trans (hb1.mono (by omega))
  have hx1 := blk_below HX.out hb1 (by omega)
  have HX1 := Lib.hid hx1
  have HJ1 := Lib.hid (HJ.out _ _ _ _ H0.out (Fix.of_below hb2 (Nat.le_refl _)))
  have s1 := hb1.size
  clear hrep hg1 hb1 hb2 hx1 c0 H0 HRP HB0 HX
  gi_wp2
  gi_loopw [4] (fun _ wr => ∃ k p, (allV m)[k]? = some p ∧ J (W.heap.size + 1) k wr ∧ wr.heap[W.heap.size + 1]? = some (.cells (ints p).toArray 3 (0, 0)) ∧ wr.heap[n₁]? = some (.cells #[.int .i64 m] 3 (0, 0))) (fun _ wr => (allV m).length - pos (rowInts wr (W.heap.size + 1)) (allV m))
  case atStart => exact ⟨0, _, by rw [List.getElem?_eq_getElem hL0, hL1]; rfl, HJ1.out, HG1.out, HX1.out⟩
  case round =>
    clear HJ1 HG1 HX1
    obtain ⟨k, p, hk, hjk, hrow, hx⟩ := hrel
    obtain ⟨hkl, hpe⟩ := List.getElem?_eq_some_iff.1 hk
    have hpm := mem_allP.1 (List.mem_of_getElem? hk)
    have HPN := Lib.hid hpm.1
    have HPF := Lib.hid hpm.2
    have HNX := Lib.hid (show nxt 3 p = (allV m)[k + 1]? by rw [← hpe]; exact allP_nxt 3 m k hkl)
    have HKL := Lib.hid hkl
    have HK := Lib.hid hk
    have HR0 := Lib.hid hrow
    have HXR := Lib.hid hx
    have hsz := blk_lt hrow
    have hrp : Rd wr wr.heap.size 1 (some ⟨W.heap.size + 1, 0, none⟩) m (ints p) := by
      have := rd_lit (sz := 1) (n := m) hrow (by simp [hpm.1])
      simpa using this.more (by omega)
    have HCL := Lib.hid (pClone (some ⟨W.heap.size + 1, 0, none⟩) m m p wr (by omega) wr.heap.size (Nat.le_refl _) hrp)
    have HJK := Lib.hid hjk
    clear hrow hk hkl hpe hpm hrp hjk hx
    gi_wp2
    refine ⟨trivial, fun _ => by omega, (callsIn_wide.2 HCL.out).mono ?_⟩
    rintro e w2 ⟨v, rfl, hown, hb2⟩
    obtain ⟨Av, cv, rfl, _⟩ := own_val hown
    have hj2 := HJ.out _ _ _ _ HJK.out (Fix.of_below hb2 (Nat.le_refl _))
    have hr2 := blk_below HR0.out hb2 hsz
    have hx2 := blk_below HXR.out hb2 (blk_lt HXR.out)
    obtain ⟨fn, tmps, assign, body, hy, hR⟩ := HY.out _ _ w2 _ hj2 HKL.out ⟨p, HK.out, own_base hown (by omega), blk_lt hr2⟩
    have H2 := Lib.hid (And.intro hr2 hx2)
    clear hown hb2 hj2 hr2 hx2 HCL
    gi_wp2
    refine ⟨fun _ => by omega, hR.mono ?_⟩
    rintro e w3 ⟨rfl, hj3, hq3⟩
    have hr3 := hq3.keep _ _ ⟨rfl, .inr rfl⟩ H2.out.1
    have hx3 := hq3.keep _ _ ⟨rfl, .inl rfl⟩ H2.out.2
    have hs3 := hq3.size
    have c3 : w3.cell? ⟨n₁, 0, none⟩ = some (.int .i64 m) := blk_cell hx3 0
    have HROW := Lib.hid (show w3.heap[W.heap.size + 1]? = some (.cells (ints (rowL 3 p m)).toArray 3 (0, 0)) by
      have e : rowL 3 p m = p := by rw [← HPN.out]; exact rowL_all 3 p
      rw [e]; exact hr3)
    have HJN := Lib.hid hj3
    have HX3 := Lib.hid hx3
    clear hr3 hx3 hj3 hq3 hR hy H2
    gi_wp2
    gi_loopw [4] (fun i wr => ∃ j : Nat, i = .int .i64 ((j : Int) - 1) ∧ j ≤ m ∧ wr.heap[W.heap.size + 1]? = some (.cells (ints (rowL 3 p j)).toArray 3 (0, 0)) ∧ (∀ f ∈ p.drop j, f = 3) ∧ J (W.heap.size + 1) (k + 1) wr ∧ wr.heap[n₁]? = some (.cells #[.int .i64 m] 3 (0, 0))) (fun i _ => (intOf i + 1).toNat)
    case atStart => exact ⟨m, by go_num, Nat.le_refl _, HROW.out, (by intro f hf; rw [List.drop_eq_nil_of_le (by rw [HPN.out]; exact Nat.le_refl _)] at hf; cases hf), HJN.out, HX3.out⟩
    case round =>
      clear HROW HJN HX3 c3
      obtain ⟨j, rfl, hj, hrow, hd, hjn, hx⟩ := hrel
      cases j with
      | zero =>
        have hend : k + 1 = (allV m).length := by
          have h1 := HNX.out
          rw [nxt_none hd] at h1
          have h2 := List.getElem?_eq_none_iff.1 h1.symm
          have h3 := HKL.out
          omega
        rw [hend] at hjn
        have HJE := Lib.hid hjn
        clear hend hrow hd hjn hx
        rw [show ((0 : Nat) : Int) - 1 = -1 by omega]
        gi_wp2
        refine bodyPost_ret (results_none rfl _ _ _) rfl ?_
        exact ⟨⟨_, rfl⟩, _, HJE.out⟩
      | succ j =>
        rw [show ((j + 1 : Nat) : Int) - 1 = (j : Int) by omega]
        have hjp : j < p.length := by rw [HPN.out]; omega
        have hg1 := rowL_get (F := (3 : Int)) hjp
        have hszr := blk_lt hrow
        have c1 : wr.cell? ⟨W.heap.size + 1, j, none⟩ = some (.int .i64 p[j]) := by
          rw [blk_cell hrow j]
          simp [hg1, hjp]
        have f1 := blk_frozen hrow j
        have hfb := (HPF.out) p[j] (List.getElem_mem hjp)
        have HROW2 := Lib.hid hrow
        have HJ2 := Lib.hid hjn
        have HD2 := Lib.hid hd
        have HX2 := Lib.hid hx
        have hjn1 : j < m := by omega
        obtain ⟨f, hf⟩ : ∃ f, f = p[j] := ⟨_, rfl⟩
        have HFE := Lib.hid hf
        rw [← hf] at c1 hfb
        clear hf hg1 hrow hjn hd hx
        have hk0 : (0 : Int) ≤ (j : Int) := by omega
        have hk1 : (j : Int) < (m : Int) := by omega
        by_cases hff : f = (3 : Int)
        · have hd1 : (f == (3 : Int)) = true := by simpa using hff
          have HFF := Lib.hid hff
          clear hff
          gi_wp2
          go_roundw
          case rel =>
            refine ⟨j, by go_num, by omega, ?_, drop_step hjp (by rw [← HFE.out, HFF.out]) HD2.out, HJ.out _ _ _ _ HJ2.out (Fix.setCell (p := ⟨W.heap.size + 1, j, none⟩) _ HROW2.out (fun h => h rfl)), blk_far HX2.out (p := ⟨W.heap.size + 1, j, none⟩) (by simp only []; omega) _⟩
            rw [← rowL_back hjp, ← ints_set]
            exact blk_set HROW2.out j _
          case measure => simp [intOf]
        · have hd1 : (f == (3 : Int)) = false := by simpa using hff
          have HFF := Lib.hid hff
          clear hff
          have d0 : decide ((j : Int) < 0) = false := by simp
          gi_wp2
          go_roundw
          case rel =>
            refine ⟨k + 1, (rowL 3 p (j + 1)).set j (f + 1), ?_, HJ.out _ _ _ _ HJ2.out (Fix.setCell (p := ⟨W.heap.size + 1, j, none⟩) _ HROW2.out (fun h => h rfl)), ?_, blk_far HX2.out (p := ⟨W.heap.size + 1, j, none⟩) (by simp only []; omega) _⟩
            · rw [← HNX.out, HFE.out]
              exact nxt_row hjp (by rw [← HFE.out]; exact HFF.out) HD2.out
            · rw [← ints_set]
              exact blk_set HROW2.out j _
          case measure =>
            have e1 := blk_set HROW2.out j (.int .i64 (f + 1))
            rw [ints_set] at e1
            have e2 : (allV m)[k + 1]? = some ((rowL 3 p (j + 1)).set j (f + 1)) := by
              rw [← HNX.out, HFE.out]
              exact nxt_row hjp (by rw [← HFE.out]; exact HFF.out) HD2.out
            exact drop_pos HK.out e2 HR0.out e1
end Go.Proofs.Ytejjogpgolgdgaa
