/-
  WALK: search.
-/
import Derived.Test.YtnoocdannfeidaaW11
import Derived.Test.YtnoocdannfeidaaPlain3
namespace Go.Proofs.Ytnoocdannfeidaa
open Go.RowKit Pulse

/-- The ints of a block. -/
def rowInts (W : World) (g : Nat) : List Int := match W.heap[g]? with
  | some (.cells cs _ _) => cs.toList.map intOf
  | _ => []
theorem rowInts_eq {W : World} {g : Nat} {p : List Int} (h : W.heap[g]? = some (.cells (ints p).toArray 3 (0, 0))) : rowInts W g = p := by
  rw [rowInts, h]
  simp only [List.map_map]
  have : (intOf ∘ Value.int IntKind.i64) = id := by funext x; rfl
  rw [this, List.map_id]

/-- All but the block g lies as it lay. -/
def But (g : Nat) (h : Nat) (_ : Obj) : Prop := h ≠ g

theorem pisClosedN (n : Nat) (p ms : List Int) (A A' : Option Addr) (c k' c' : Nat) (hn : p.length = n) (hl : n ≤ 12) (hF : Forces 99 p) (hms : ∀ m ∈ ms, 0 ≤ m ∧ m ≤ 3) (hl' : ms.length ≤ 1000) (w : World) (B : Nat) (hB : B ≤ w.heap.size) (hr : Rd w B 1 A n (ints p)) (hr' : Rd w B 1 A' k' (ints ms)) :
    Calls Try.prog 72 #[.slice A n c, .slice A' k' c'] w fun e w' => e = .returned (.bool (shut p ms)) ∧ Below w.heap.size w w' := by
  subst hn
  exact pisClosed p ms A A' c k' c' hl hF hms hl' w B hB hr hr'
theorem ints_set (l : List Int) (j : Nat) (x : Int) : (ints l).toArray.setIfInBounds j (.int .i64 x) = (ints (l.set j x)).toArray := by
  simp [ints, List.map_set]
theorem drop_pos {F n k g : Nat} {p q : List Int} {W W' : World} (h : (allP F n)[k]? = some p) (h' : (allP F n)[k + 1]? = some q) (hw : W.heap[g]? = some (.cells (ints p).toArray 3 (0, 0))) (hw' : W'.heap[g]? = some (.cells (ints q).toArray 3 (0, 0))) :
    (allP F n).length - pos (rowInts W' g) (allP F n) < (allP F n).length - pos (rowInts W g) (allP F n) := by
  obtain ⟨h1, h2⟩ := List.getElem?_eq_some_iff.1 h
  obtain ⟨h3, h4⟩ := List.getElem?_eq_some_iff.1 h'
  have e1 := pos_get (allP_nodup F n) k h1
  have e2 := pos_get (allP_nodup F n) (k + 1) h3
  rw [h2] at e1
  rw [h4] at e2
  rw [rowInts_eq hw, rowInts_eq hw', e1, e2]
  omega

set_option maxRecDepth 100000 in
set_option maxHeartbeats 4000000 in
theorem pSearch (ms : List Int) (A' : Option Addr) (k' c' n F : Nat) (hn : n ≤ 6) (hF : F ≤ 9) (hms : ∀ m ∈ ms, 0 ≤ m ∧ m ≤ 3) (hml : ms.length ≤ 1000) (fid : FuncId)
    (hcf : ∀ (args : Array Value) (W : World), (callFunc fid args).run Try.prog W = .ok (.enter fid args) W) (cs : Array Value) (w : World) (B : Nat) (hB : B ≤ w.heap.size)
    (J Jx : Nat → World → Prop) (hJ0 : ∀ W, Below w.heap.size w W → J 0 W) (hJ : ∀ k W W', J k W → Fix (But (w.heap.size + 1)) W W' → J k W')
    (hJm : ∀ k W, J k W → Rd W B 1 A' k' (ints ms))
    (hskip : ∀ k W p, (allP F n)[k]? = some p → shut p ms = false → J k W → J (k + 1) W)
    (hlook : ∀ k W p, (allP F n)[k]? = some p → shut p ms = true → J k W → W.heap[w.heap.size + 1]? = some (.cells (ints p).toArray 3 (0, 0)) →
      Calls Try.prog fid (#[.slice (some ⟨w.heap.size + 1, 0, none⟩) n n] ++ cs) W fun e W' =>
        ((e = .returned (.bool true) ∧ J (k + 1) W') ∨ (e = .returned (.bool false) ∧ Jx (k + 1) W')) ∧ W'.heap[w.heap.size + 1]? = some (.cells (ints p).toArray 3 (0, 0))) :
    Calls Try.prog 64 #[.slice A' k' c', .int .i64 n, .int .i64 F, .func (.func fid) #[] cs] w fun e W' =>
      (∃ v, e = .returned v) ∧ (J (allP F n).length W' ∨ ∃ k, k < (allP F n).length ∧ Jx (k + 1) W') := by
  obtain ⟨hL0, hL1⟩ := allP_head F n
  have hb0 := (Below.refl w.heap.size w).alloc (Nat.le_refl _) (.cells #[.int .i64 (-(F : Int))] 3)
  have hn0 := blk_new w 3 #[.int .i64 (-(F : Int))]
  have HRP := Lib.hid (pRepeat (-(F : Int)) n w.heap.size (w.alloc (.cells #[.int .i64 (-(F : Int))] 3)) hn hn0)
  have HB0 := Lib.hid hb0
  go_enter Try.func64, Try.ntmps64
  go_wp2_with fail
  refine HRP.out.mono ?_
  rintro e w1 ⟨rfl, hg1, hb1⟩
  have hrep : (rep (-(F : Int)) n n).toArray = (ints (List.replicate n (-(F : Int)))).toArray := by simp [rep, ints]
  rw [hrep] at hg1
  rw [World.size_alloc] at hg1 hb1 ⊢
  have HG1 := Lib.hid hg1
  have hb2 := HB0.out.trans (hb1.mono (by omega))
  have HJ1 := Lib.hid (hJ0 _ hb2)
  clear hrep hg1 hb1 hb2
  go_wp2
  go_loopw [9] (fun _ wr => ∃ k p, (allP F n)[k]? = some p ∧ J k wr ∧ wr.heap[w.heap.size + 1]? = some (.cells (ints p).toArray 3 (0, 0))) (fun _ wr => (allP F n).length - pos (rowInts wr (w.heap.size + 1)) (allP F n))
  case atStart => exact ⟨0, _, by rw [List.getElem?_eq_getElem hL0, hL1], HJ1.out, HG1.out⟩
  case round =>
    obtain ⟨k, p, hk, hjk, hrow⟩ := hrel
    obtain ⟨hkl, hpe⟩ := List.getElem?_eq_some_iff.1 hk
    have hpm := mem_allP.1 (List.mem_of_getElem? hk)
    have HPN := Lib.hid hpm.1
    have HPF := Lib.hid hpm.2
    have HNX := Lib.hid (show nxt F p = (allP F n)[k + 1]? by rw [← hpe]; exact allP_nxt F n k hkl)
    have HKL := Lib.hid hkl
    have HK := Lib.hid hk
    have HR0 := Lib.hid hrow
    have hsz := blk_lt hrow
    have hrp : Rd wr wr.heap.size 1 (some ⟨w.heap.size + 1, 0, none⟩) n (ints p) := by
      have := rd_lit (sz := 1) (n := n) hrow (by simp [hpm.1])
      simpa using this.more (by omega)
    have HCL := Lib.hid (pisClosedN n p ms (some ⟨w.heap.size + 1, 0, none⟩) A' n k' c' hpm.1 (by omega) (fun f hf => by have := hpm.2 f hf; omega) hms hml wr wr.heap.size (Nat.le_refl _) hrp ((hJm k wr hjk).more (by omega)))
    have HJK := Lib.hid hjk
    clear hrow hk hkl hpe hpm hrp hjk
    cases hsh : shut p ms with
    | false =>
      rw [hsh] at HCL
      have HSH := Lib.hid hsh
      clear hsh
      go_wp2_with fail
      refine HCL.out.mono ?_
      rintro e w2 ⟨rfl, hb2⟩
      have HROW := Lib.hid (show w2.heap[w.heap.size + 1]? = some (.cells (ints (rowL F p n)).toArray 3 (0, 0)) by
        rw [← HPN.out, rowL_all]; exact blk_below HR0.out hb2 hsz)
      have HJN := Lib.hid (hskip k w2 p HK.out HSH.out (hJ _ _ _ HJK.out (Fix.of_below hb2 (Nat.le_refl _))))
      clear hb2
      go_wp2
      go_loopw [9] (fun i wr => ∃ j : Nat, i = .int .i64 ((j : Int) - 1) ∧ j ≤ n ∧ wr.heap[w.heap.size + 1]? = some (.cells (ints (rowL F p j)).toArray 3 (0, 0)) ∧ (∀ f ∈ p.drop j, f = F) ∧ J (k + 1) wr) (fun i _ => (intOf i + 1).toNat)
      case atStart => exact ⟨n, by go_num, Nat.le_refl _, HROW.out, (by intro f hf; rw [List.drop_eq_nil_of_le (by rw [HPN.out]; exact Nat.le_refl _)] at hf; cases hf), HJN.out⟩
      case round =>
        clear HROW HJN
        obtain ⟨j, rfl, hj, hrow, hd, hjn⟩ := hrel
        cases j with
        | zero =>
          have hend : k + 1 = (allP F n).length := by
            have h1 := HNX.out
            rw [nxt_none hd] at h1
            have h2 := List.getElem?_eq_none_iff.1 h1.symm
            have h3 := HKL.out
            omega
          rw [hend] at hjn
          have HJE := Lib.hid hjn
          clear hend hrow hd hjn
          rw [show ((0 : Nat) : Int) - 1 = -1 by omega]
          go_wp2
          refine bodyPost_ret (results_none rfl _ _ _) rfl ?_
          exact ⟨⟨_, rfl⟩, .inl HJE.out⟩
        | succ j =>
          rw [show ((j + 1 : Nat) : Int) - 1 = (j : Int) by omega]
          have hjp : j < p.length := by rw [HPN.out]; omega
          have hg1 := rowL_get (F := (F : Int)) hjp
          have hsz := blk_lt hrow
          have c1 : wr.cell? ⟨w.heap.size + 1, j, none⟩ = some (.int .i64 p[j]) := by
            rw [blk_cell hrow j]
            simp [hg1, hjp]
          have f1 := blk_frozen hrow j
          have hfb := (HPF.out) p[j] (List.getElem_mem hjp)
          have HROW2 := Lib.hid hrow
          have HJ2 := Lib.hid hjn
          have HD2 := Lib.hid hd
          have hjn1 : j < n := by omega
          obtain ⟨f, hf⟩ : ∃ f, f = p[j] := ⟨_, rfl⟩
          have HFE := Lib.hid hf
          rw [← hf] at c1 hfb
          clear hf hg1 hrow hjn hd
          have hk0 : (0 : Int) ≤ (j : Int) := by omega
          by_cases hff : f = (F : Int)
          · have hd1 : (f == (F : Int)) = true := by simpa using hff
            have HFF := Lib.hid hff
            clear hff
            go_wp2
            go_roundw
            case rel =>
              refine ⟨j, by go_num, by omega, ?_, drop_step hjp (by rw [← HFE.out, HFF.out]) HD2.out, hJ _ _ _ HJ2.out (Fix.setCell (p := ⟨w.heap.size + 1, j, none⟩) _ HROW2.out (fun h => h rfl))⟩
              rw [← rowL_back hjp, ← ints_set]
              exact blk_set HROW2.out j _
            case measure => simp [intOf]
          · have hd1 : (f == (F : Int)) = false := by simpa using hff
            have HFF := Lib.hid hff
            clear hff
            have d0 : decide ((j : Int) < 0) = false := by simp
            go_wp2
            go_roundw
            case rel =>
              refine ⟨k + 1, (rowL F p (j + 1)).set j (f + 1), ?_, hJ _ _ _ HJ2.out (Fix.setCell (p := ⟨w.heap.size + 1, j, none⟩) _ HROW2.out (fun h => h rfl)), ?_⟩
              · rw [← HNX.out, HFE.out]
                exact nxt_row hjp (by rw [← HFE.out]; exact HFF.out) HD2.out
              · rw [← ints_set]
                exact blk_set HROW2.out j _
            case measure =>
              have e1 := blk_set HROW2.out j (.int .i64 (f + 1))
              rw [ints_set] at e1
              have e2 : (allP F n)[k + 1]? = some ((rowL F p (j + 1)).set j (f + 1)) := by
                rw [← HNX.out, HFE.out]
                exact nxt_row hjp (by rw [← HFE.out]; exact HFF.out) HD2.out
              exact drop_pos HK.out e2 HR0.out e1
    | true =>
      rw [hsh] at HCL
      have HSH := Lib.hid hsh
      clear hsh
      go_wp2_with fail
      refine HCL.out.mono ?_
      rintro e w2 ⟨rfl, hb2⟩
      have r2 := blk_below HR0.out hb2 hsz
      have HLK := Lib.hid (hlook k w2 p HK.out HSH.out (hJ _ _ _ HJK.out (Fix.of_below hb2 (Nat.le_refl _))) r2)
      clear hb2 r2
      go_wp2_with fail
      refine HLK.out.mono ?_
      rintro e w3 ⟨⟨rfl, hj3⟩ | ⟨rfl, hj3⟩, r3⟩
      · have HROW := Lib.hid (show w3.heap[w.heap.size + 1]? = some (.cells (ints (rowL F p n)).toArray 3 (0, 0)) by
          rw [← HPN.out, rowL_all]; exact r3)
        have HJN := Lib.hid hj3
        clear r3 hj3 HLK
        go_wp2
        go_loopw [9] (fun i wr => ∃ j : Nat, i = .int .i64 ((j : Int) - 1) ∧ j ≤ n ∧ wr.heap[w.heap.size + 1]? = some (.cells (ints (rowL F p j)).toArray 3 (0, 0)) ∧ (∀ f ∈ p.drop j, f = F) ∧ J (k + 1) wr) (fun i _ => (intOf i + 1).toNat)
        case atStart => exact ⟨n, by go_num, Nat.le_refl _, HROW.out, (by intro f hf; rw [List.drop_eq_nil_of_le (by rw [HPN.out]; exact Nat.le_refl _)] at hf; cases hf), HJN.out⟩
        case round =>
          clear HROW HJN
          obtain ⟨j, rfl, hj, hrow, hd, hjn⟩ := hrel
          cases j with
          | zero =>
            have hend : k + 1 = (allP F n).length := by
              have h1 := HNX.out
              rw [nxt_none hd] at h1
              have h2 := List.getElem?_eq_none_iff.1 h1.symm
              have h3 := HKL.out
              omega
            rw [hend] at hjn
            have HJE := Lib.hid hjn
            clear hend hrow hd hjn
            rw [show ((0 : Nat) : Int) - 1 = -1 by omega]
            go_wp2
            refine bodyPost_ret (results_none rfl _ _ _) rfl ?_
            exact ⟨⟨_, rfl⟩, .inl HJE.out⟩
          | succ j =>
            rw [show ((j + 1 : Nat) : Int) - 1 = (j : Int) by omega]
            have hjp : j < p.length := by rw [HPN.out]; omega
            have hg1 := rowL_get (F := (F : Int)) hjp
            have hsz := blk_lt hrow
            have c1 : wr.cell? ⟨w.heap.size + 1, j, none⟩ = some (.int .i64 p[j]) := by
              rw [blk_cell hrow j]
              simp [hg1, hjp]
            have f1 := blk_frozen hrow j
            have hfb := (HPF.out) p[j] (List.getElem_mem hjp)
            have HROW2 := Lib.hid hrow
            have HJ2 := Lib.hid hjn
            have HD2 := Lib.hid hd
            have hjn1 : j < n := by omega
            obtain ⟨f, hf⟩ : ∃ f, f = p[j] := ⟨_, rfl⟩
            have HFE := Lib.hid hf
            rw [← hf] at c1 hfb
            clear hf hg1 hrow hjn hd
            have hk0 : (0 : Int) ≤ (j : Int) := by omega
            by_cases hff : f = (F : Int)
            · have hd1 : (f == (F : Int)) = true := by simpa using hff
              have HFF := Lib.hid hff
              clear hff
              go_wp2
              go_roundw
              case rel =>
                refine ⟨j, by go_num, by omega, ?_, drop_step hjp (by rw [← HFE.out, HFF.out]) HD2.out, hJ _ _ _ HJ2.out (Fix.setCell (p := ⟨w.heap.size + 1, j, none⟩) _ HROW2.out (fun h => h rfl))⟩
                rw [← rowL_back hjp, ← ints_set]
                exact blk_set HROW2.out j _
              case measure => simp [intOf]
            · have hd1 : (f == (F : Int)) = false := by simpa using hff
              have HFF := Lib.hid hff
              clear hff
              have d0 : decide ((j : Int) < 0) = false := by simp
              go_wp2
              go_roundw
              case rel =>
                refine ⟨k + 1, (rowL F p (j + 1)).set j (f + 1), ?_, hJ _ _ _ HJ2.out (Fix.setCell (p := ⟨w.heap.size + 1, j, none⟩) _ HROW2.out (fun h => h rfl)), ?_⟩
                · rw [← HNX.out, HFE.out]
                  exact nxt_row hjp (by rw [← HFE.out]; exact HFF.out) HD2.out
                · rw [← ints_set]
                  exact blk_set HROW2.out j _
              case measure =>
                have e1 := blk_set HROW2.out j (.int .i64 (f + 1))
                rw [ints_set] at e1
                have e2 : (allP F n)[k + 1]? = some ((rowL F p (j + 1)).set j (f + 1)) := by
                  rw [← HNX.out, HFE.out]
                  exact nxt_row hjp (by rw [← HFE.out]; exact HFF.out) HD2.out
                exact drop_pos HK.out e2 HR0.out e1
      · have HJE := Lib.hid hj3
        clear r3 hj3 HLK
        go_wp2
        refine bodyPost_ret (results_none rfl _ _ _) rfl ?_
        exact ⟨⟨_, rfl⟩, .inr ⟨k, HKL.out, HJE.out⟩⟩
end Go.Proofs.Ytnoocdannfeidaa
