/-
  MERGED: W12, W13, W14.
-/
import Derived.Test.YtnoocdannfeidaaK8
/-
  WALK: search.
-/
namespace Go.Proofs.Ytnoocdannfeidaa
open Go.RowKit Pulse

/-- The ints of a block. -/
def rowInts (W : World) (g : Nat) : List Int := match W.heap[g]? with
  | some (.cells cs _ _) => cs.toList.map intOf
  | _ => []
theorem rowInts_eq {W : World} {g : Nat} {p : List Int} (h : W.heap[g]? = some (.cells (ints p).toArray 3 (0, 0))) : rowInts W g = p := by
  rw [rowInts, h]
  simp only [List.map_map]
  have : (intOf ∘ Value.int IntKind.i64) = id := by funext x; rfl
  rw [this, List.map_id]

/-- All but the block g lies as it lay. -/
def But (g : Nat) (h : Nat) (_ : Obj) : Prop := h ≠ g

theorem pisClosedN (n : Nat) (p ms : List Int) (A A' : Option Addr) (c k' c' : Nat) (hn : p.length = n) (hl : n ≤ 12) (hF : Forces 99 p) (hms : ∀ m ∈ ms, 0 ≤ m ∧ m ≤ 3) (hl' : ms.length ≤ 1000) (w : World) (B : Nat) (hB : B ≤ w.heap.size) (hr : Rd w B 1 A n (ints p)) (hr' : Rd w B 1 A' k' (ints ms)) :
    Calls Try.prog 72 #[.slice A n c, .slice A' k' c'] w fun e w' => e = .returned (.bool (shut p ms)) ∧ Below w.heap.size w w' := by
  subst hn
  exact pisClosed p ms A A' c k' c' hl hF hms hl' w B hB hr hr'
theorem ints_set (l : List Int) (j : Nat) (x : Int) : (ints l).toArray.setIfInBounds j (.int .i64 x) = (ints (l.set j x)).toArray := by
  simp [ints, List.map_set]
theorem drop_pos {F n k g : Nat} {p q : List Int} {W W' : World} (h : (allP F n)[k]? = some p) (h' : (allP F n)[k + 1]? = some q) (hw : W.heap[g]? = some (.cells (ints p).toArray 3 (0, 0))) (hw' : W'.heap[g]? = some (.cells (ints q).toArray 3 (0, 0))) :
    (allP F n).length - pos (rowInts W' g) (allP F n) < (allP F n).length - pos (rowInts W g) (allP F n) := by
  obtain ⟨h1, h2⟩ := List.getElem?_eq_some_iff.1 h
  obtain ⟨h3, h4⟩ := List.getElem?_eq_some_iff.1 h'
  have e1 := pos_get (allP_nodup F n) k h1
  have e2 := pos_get (allP_nodup F n) (k + 1) h3
  rw [h2] at e1
  rw [h4] at e2
  rw [rowInts_eq hw, rowInts_eq hw', e1, e2]
  omega

set_option maxRecDepth 100000 in
set_option maxHeartbeats 4000000 in
theorem pSearch (ms : List Int) (A' : Option Addr) (k' c' n F : Nat) (hn : n ≤ 6) (hF : F ≤ 9) (hms : ∀ m ∈ ms, 0 ≤ m ∧ m ≤ 3) (hml : ms.length ≤ 1000) (fid : FuncId)
    (hcf : ∀ (args : Array Value) (W : World), (callFunc fid args).run Try.prog W = .ok (.enter fid args) W) (cs : Array Value) (w : World) (B : Nat) (hB : B ≤ w.heap.size)
    (J Jx : Nat → World → Prop) (hJ0 : ∀ W, Below w.heap.size w W → J 0 W) (hJ : ∀ k W W', J k W → Fix (But (w.heap.size + 1)) W W' → J k W')
    (hJm : ∀ k W, J k W → Rd W B 1 A' k' (ints ms))
    (hskip : ∀ k W p, (allP F n)[k]? = some p → shut p ms = false → J k W → J (k + 1) W)
    (hlook : ∀ k W p, (allP F n)[k]? = some p → shut p ms = true → J k W → W.heap[w.heap.size + 1]? = some (.cells (ints p).toArray 3 (0, 0)) →
      Calls Try.prog fid (#[.slice (some ⟨w.heap.size + 1, 0, none⟩) n n] ++ cs) W fun e W' =>
        ((e = .returned (.bool true) ∧ J (k + 1) W') ∨ (e = .returned (.bool false) ∧ Jx (k + 1) W')) ∧ W'.heap[w.heap.size + 1]? = some (.cells (ints p).toArray 3 (0, 0))) :
    Calls Try.prog 64 #[.slice A' k' c', .int .i64 n, .int .i64 F, .func (.func fid) #[] cs] w fun e W' =>
      (∃ v, e = .returned v) ∧ (J (allP F n).length W' ∨ ∃ k, k < (allP F n).length ∧ Jx (k + 1) W') := by
  obtain ⟨hL0, hL1⟩ := allP_head F n
  have hb0 := (Below.refl w.heap.size w).alloc (Nat.le_refl _) (.cells #[.int .i64 (-(F : Int))] 3)
  have hn0 := blk_new w 3 #[.int .i64 (-(F : Int))]
  have HRP := Lib.hid (pRepeat (-(F : Int)) n w.heap.size (w.alloc (.cells #[.int .i64 (-(F : Int))] 3)) hn hn0)
  have HB0 := Lib.hid hb0
  go_enter Try.func64, Try.ntmps64
  go_wp2_with fail
  refine HRP.out.mono ?_
  rintro e w1 ⟨rfl, hg1, hb1⟩
  have hrep : (rep (-(F : Int)) n n).toArray = (ints (List.replicate n (-(F : Int)))).toArray := by simp [rep, ints]
  rw [hrep] at hg1
  rw [World.size_alloc] at hg1 hb1 ⊢
  have HG1 := Lib.hid hg1
  have hb2 := HB0.out.trans (hb1.mono (by omega))
  have HJ1 := Lib.hid (hJ0 _ hb2)
  clear hrep hg1 hb1 hb2
  go_wp2
  go_loopw [9] (fun _ wr => ∃ k p, (allP F n)[k]? = some p ∧ J k wr ∧ wr.heap[w.heap.size + 1]? = some (.cells (ints p).toArray 3 (0, 0))) (fun _ wr => (allP F n).length - pos (rowInts wr (w.heap.size + 1)) (allP F n))
  case atStart => exact ⟨0, _, by rw [List.getElem?_eq_getElem hL0, hL1], HJ1.out, HG1.out⟩
  case round =>
    obtain ⟨k, p, hk, hjk, hrow⟩ := hrel
    obtain ⟨hkl, hpe⟩ := List.getElem?_eq_some_iff.1 hk
    have hpm := mem_allP.1 (List.mem_of_getElem? hk)
    have HPN := Lib.hid hpm.1
    have HPF := Lib.hid hpm.2
    have HNX := Lib.hid (show nxt F p = (allP F n)[k + 1]? by rw [← hpe]; exact allP_nxt F n k hkl)
    have HKL := Lib.hid hkl
    have HK := Lib.hid hk
    have HR0 := Lib.hid hrow
    have hsz := blk_lt hrow
    have hrp : Rd wr wr.heap.size 1 (some ⟨w.heap.size + 1, 0, none⟩) n (ints p) := by
      have := rd_lit (sz := 1) (n := n) hrow (by simp [hpm.1])
      simpa using this.more (by omega)
    have HCL := Lib.hid (pisClosedN n p ms (some ⟨w.heap.size + 1, 0, none⟩) A' n k' c' hpm.1 (by omega) (fun f hf => by have := hpm.2 f hf; omega) hms hml wr wr.heap.size (Nat.le_refl _) hrp ((hJm k wr hjk).more (by omega)))
    have HJK := Lib.hid hjk
    clear hrow hk hkl hpe hpm hrp hjk
    cases hsh : shut p ms with
    | false =>
      rw [hsh] at HCL
      have HSH := Lib.hid hsh
      clear hsh
      go_wp2_with fail
      refine HCL.out.mono ?_
      rintro e w2 ⟨rfl, hb2⟩
      have HROW := Lib.hid (show w2.heap[w.heap.size + 1]? = some (.cells (ints (rowL F p n)).toArray 3 (0, 0)) by
        rw [← HPN.out, rowL_all]; exact blk_below HR0.out hb2 hsz)
      have HJN := Lib.hid (hskip k w2 p HK.out HSH.out (hJ _ _ _ HJK.out (Fix.of_below hb2 (Nat.le_refl _))))
      clear hb2
      go_wp2
      go_loopw [9] (fun i wr => ∃ j : Nat, i = .int .i64 ((j : Int) - 1) ∧ j ≤ n ∧ wr.heap[w.heap.size + 1]? = some (.cells (ints (rowL F p j)).toArray 3 (0, 0)) ∧ (∀ f ∈ p.drop j, f = F) ∧ J (k + 1) wr) (fun i _ => (intOf i + 1).toNat)
      case atStart => exact ⟨n, by go_num, Nat.le_refl _, HROW.out, (by intro f hf; rw [List.drop_eq_nil_of_le (by rw [HPN.out]; exact Nat.le_refl _)] at hf; cases hf), HJN.out⟩
      case round =>
        clear HROW HJN
        obtain ⟨j, rfl, hj, hrow, hd, hjn⟩ := hrel
        cases j with
        | zero =>
          have hend : k + 1 = (allP F n).length := by
            have h1 := HNX.out
            rw [nxt_none hd] at h1
            have h2 := List.getElem?_eq_none_iff.1 h1.symm
            have h3 := HKL.out
            omega
          rw [hend] at hjn
          have HJE := Lib.hid hjn
          clear hend hrow hd hjn
          rw [show ((0 : Nat) : Int) - 1 = -1 by omega]
          go_wp2
          refine bodyPost_ret (results_none rfl _ _ _) rfl ?_
          exact ⟨⟨_, rfl⟩, .inl HJE.out⟩
        | succ j =>
          rw [show ((j + 1 : Nat) : Int) - 1 = (j : Int) by omega]
          have hjp : j < p.length := by rw [HPN.out]; omega
          have hg1 := rowL_get (F := (F : Int)) hjp
          have hsz := blk_lt hrow
          have c1 : wr.cell? ⟨w.heap.size + 1, j, none⟩ = some (.int .i64 p[j]) := by
            rw [blk_cell hrow j]
            simp [hg1, hjp]
          have f1 := blk_frozen hrow j
          have hfb := (HPF.out) p[j] (List.getElem_mem hjp)
          have HROW2 := Lib.hid hrow
          have HJ2 := Lib.hid hjn
          have HD2 := Lib.hid hd
          have hjn1 : j < n := by omega
          obtain ⟨f, hf⟩ : ∃ f, f = p[j] := ⟨_, rfl⟩
          have HFE := Lib.hid hf
          rw [← hf] at c1 hfb
          clear hf hg1 hrow hjn hd
          have hk0 : (0 : Int) ≤ (j : Int) := by omega
          by_cases hff : f = (F : Int)
          · have hd1 : (f == (F : Int)) = true := by simpa using hff
            have HFF := Lib.hid hff
            clear hff
            go_wp2
            go_roundw
            case rel =>
              refine ⟨j, by go_num, by omega, ?_, drop_step hjp (by rw [← HFE.out, HFF.out]) HD2.out, hJ _ _ _ HJ2.out (Fix.setCell (p := ⟨w.heap.size + 1, j, none⟩) _ HROW2.out (fun h => h rfl))⟩
              rw [← rowL_back hjp, ← ints_set]
              exact blk_set HROW2.out j _
            case measure => simp [intOf]
          · have hd1 : (f == (F : Int)) = false := by simpa using hff
            have HFF := Lib.hid hff
            clear hff
            have d0 : decide ((j : Int) < 0) = false := by simp
            go_wp2
            go_roundw
            case rel =>
              refine ⟨k + 1, (rowL F p (j + 1)).set j (f + 1), ?_, hJ _ _ _ HJ2.out (Fix.setCell (p := ⟨w.heap.size + 1, j, none⟩) _ HROW2.out (fun h => h rfl)), ?_⟩
              · rw [← HNX.out, HFE.out]
                exact nxt_row hjp (by rw [← HFE.out]; exact HFF.out) HD2.out
              · rw [← ints_set]
                exact blk_set HROW2.out j _
            case measure =>
              have e1 := blk_set HROW2.out j (.int .i64 (f + 1))
              rw [ints_set] at e1
              have e2 : (allP F n)[k + 1]? = some ((rowL F p (j + 1)).set j (f + 1)) := by
                rw [← HNX.out, HFE.out]
                exact nxt_row hjp (by rw [← HFE.out]; exact HFF.out) HD2.out
              exact drop_pos HK.out e2 HR0.out e1
    | true =>
      rw [hsh] at HCL
      have HSH := Lib.hid hsh
      clear hsh
      go_wp2_with fail
      refine HCL.out.mono ?_
      rintro e w2 ⟨rfl, hb2⟩
      have r2 := blk_below HR0.out hb2 hsz
      have HLK := Lib.hid (hlook k w2 p HK.out HSH.out (hJ _ _ _ HJK.out (Fix.of_below hb2 (Nat.le_refl _))) r2)
      clear hb2 r2
      go_wp2_with fail
      refine HLK.out.mono ?_
      rintro e w3 ⟨⟨rfl, hj3⟩ | ⟨rfl, hj3⟩, r3⟩
      · have HROW := Lib.hid (show w3.heap[w.heap.size + 1]? = some (.cells (ints (rowL F p n)).toArray 3 (0, 0)) by
          rw [← HPN.out, rowL_all]; exact r3)
        have HJN := Lib.hid hj3
        clear r3 hj3 HLK
        go_wp2
        go_loopw [9] (fun i wr => ∃ j : Nat, i = .int .i64 ((j : Int) - 1) ∧ j ≤ n ∧ wr.heap[w.heap.size + 1]? = some (.cells (ints (rowL F p j)).toArray 3 (0, 0)) ∧ (∀ f ∈ p.drop j, f = F) ∧ J (k + 1) wr) (fun i _ => (intOf i + 1).toNat)
        case atStart => exact ⟨n, by go_num, Nat.le_refl _, HROW.out, (by intro f hf; rw [List.drop_eq_nil_of_le (by rw [HPN.out]; exact Nat.le_refl _)] at hf; cases hf), HJN.out⟩
        case round =>
          clear HROW HJN
          obtain ⟨j, rfl, hj, hrow, hd, hjn⟩ := hrel
          cases j with
          | zero =>
            have hend : k + 1 = (allP F n).length := by
              have h1 := HNX.out
              rw [nxt_none hd] at h1
              have h2 := List.getElem?_eq_none_iff.1 h1.symm
              have h3 := HKL.out
              omega
            rw [hend] at hjn
            have HJE := Lib.hid hjn
            clear hend hrow hd hjn
            rw [show ((0 : Nat) : Int) - 1 = -1 by omega]
            go_wp2
            refine bodyPost_ret (results_none rfl _ _ _) rfl ?_
            exact ⟨⟨_, rfl⟩, .inl HJE.out⟩
          | succ j =>
            rw [show ((j + 1 : Nat) : Int) - 1 = (j : Int) by omega]
            have hjp : j < p.length := by rw [HPN.out]; omega
            have hg1 := rowL_get (F := (F : Int)) hjp
            have hsz := blk_lt hrow
            have c1 : wr.cell? ⟨w.heap.size + 1, j, none⟩ = some (.int .i64 p[j]) := by
              rw [blk_cell hrow j]
              simp [hg1, hjp]
            have f1 := blk_frozen hrow j
            have hfb := (HPF.out) p[j] (List.getElem_mem hjp)
            have HROW2 := Lib.hid hrow
            have HJ2 := Lib.hid hjn
            have HD2 := Lib.hid hd
            have hjn1 : j < n := by omega
            obtain ⟨f, hf⟩ : ∃ f, f = p[j] := ⟨_, rfl⟩
            have HFE := Lib.hid hf
            rw [← hf] at c1 hfb
            clear hf hg1 hrow hjn hd
            have hk0 : (0 : Int) ≤ (j : Int) := by omega
            by_cases hff : f = (F : Int)
            · have hd1 : (f == (F : Int)) = true := by simpa using hff
              have HFF := Lib.hid hff
              clear hff
              go_wp2
              go_roundw
              case rel =>
                refine ⟨j, by go_num, by omega, ?_, drop_step hjp (by rw [← HFE.out, HFF.out]) HD2.out, hJ _ _ _ HJ2.out (Fix.setCell (p := ⟨w.heap.size + 1, j, none⟩) _ HROW2.out (fun h => h rfl))⟩
                rw [← rowL_back hjp, ← ints_set]
                exact blk_set HROW2.out j _
              case measure => simp [intOf]
            · have hd1 : (f == (F : Int)) = false := by simpa using hff
              have HFF := Lib.hid hff
              clear hff
              have d0 : decide ((j : Int) < 0) = false := by simp
              go_wp2
              go_roundw
              case rel =>
                refine ⟨k + 1, (rowL F p (j + 1)).set j (f + 1), ?_, hJ _ _ _ HJ2.out (Fix.setCell (p := ⟨w.heap.size + 1, j, none⟩) _ HROW2.out (fun h => h rfl)), ?_⟩
                · rw [← HNX.out, HFE.out]
                  exact nxt_row hjp (by rw [← HFE.out]; exact HFF.out) HD2.out
                · rw [← ints_set]
                  exact blk_set HROW2.out j _
              case measure =>
                have e1 := blk_set HROW2.out j (.int .i64 (f + 1))
                rw [ints_set] at e1
                have e2 : (allP F n)[k + 1]? = some ((rowL F p (j + 1)).set j (f + 1)) := by
                  rw [← HNX.out, HFE.out]
                  exact nxt_row hjp (by rw [← HFE.out]; exact HFF.out) HD2.out
                exact drop_pos HK.out e2 HR0.out e1
      · have HJE := Lib.hid hj3
        clear r3 hj3 HLK
        go_wp2
        refine bodyPost_ret (results_none rfl _ _ _) rfl ?_
        exact ⟨⟨_, rfl⟩, .inr ⟨k, HKL.out, HJE.out⟩⟩
end Go.Proofs.Ytnoocdannfeidaa

/-
  WALK: searched, the closures of Shortest.
-/
namespace Go.Proofs.Ytnoocdannfeidaa
open Go.RowKit Pulse

def srchE (ms : List Int) (n f : Int) : Int := if areModes ms = true ∧ 0 ≤ n ∧ n ≤ 6 ∧ 1 ≤ f ∧ f ≤ 2 then 0 else 1
theorem srchE_ok {ms : List Int} {n f : Int} (h : srchE ms n f = 0) : areModes ms = true ∧ 0 ≤ n ∧ n ≤ 6 ∧ 1 ≤ f ∧ f ≤ 2 := by
  unfold srchE at h
  split at h
  · assumption
  · omega
set_option maxHeartbeats 400000 in
theorem pSearched (A : Option Addr) (k c : Nat) (ms : List Int) (n f : Int) (w : World) (hl : ms.length ≤ 1000) (B : Nat) (hB : B ≤ w.heap.size) (hr : Rd w B 1 A k (ints ms)) :
    Calls Try.prog 63 #[.slice A k c, .int .i64 n, .int .i64 f] w fun e w' => e = .returned (.int .i64 (srchE ms n f)) ∧ Below w.heap.size w w' := by
  have H := Lib.hid (pisModes A k c ms w hl B hB hr)
  have HE : srchE ms n f = if areModes ms = true ∧ 0 ≤ n ∧ n ≤ 6 ∧ 1 ≤ f ∧ f ≤ 2 then 0 else 1 := rfl
  have HS := Lib.hid HE
  clear HE
  cases ha : areModes ms with
  | false =>
    have HA := Lib.hid ha
    rw [ha] at H
    clear ha
    go_enter Try.func63, Try.ntmps63
    go_wp2_with fail
    refine H.out.mono ?_
    rintro e w1 ⟨rfl, hb1⟩
    go_wp2
    go_ret
    exact ⟨ret_int (by rw [HS.out, HA.out]; simp), hb1⟩
  | true =>
    have HA := Lib.hid ha
    rw [ha] at H
    clear ha
    by_cases h1 : n < 0
    · go_enter Try.func63, Try.ntmps63
      go_wp2_with fail
      refine H.out.mono ?_
      rintro e w1 ⟨rfl, hb1⟩
      go_wp2
      go_ret
      exact ⟨ret_int (by rw [HS.out, if_neg (by omega)]), hb1⟩
    · by_cases h2 : 6 < n
      · go_enter Try.func63, Try.ntmps63
        go_wp2_with fail
        refine H.out.mono ?_
        rintro e w1 ⟨rfl, hb1⟩
        go_wp2
        go_ret
        exact ⟨ret_int (by rw [HS.out, if_neg (by omega)]), hb1⟩
      · by_cases h3 : f < 1
        · go_enter Try.func63, Try.ntmps63
          go_wp2_with fail
          refine H.out.mono ?_
          rintro e w1 ⟨rfl, hb1⟩
          go_wp2
          go_ret
          exact ⟨ret_int (by rw [HS.out, if_neg (by omega)]), hb1⟩
        · by_cases h4 : 2 < f
          · go_enter Try.func63, Try.ntmps63
            go_wp2_with fail
            refine H.out.mono ?_
            rintro e w1 ⟨rfl, hb1⟩
            go_wp2
            go_ret
            exact ⟨ret_int (by rw [HS.out, if_neg (by omega)]), hb1⟩
          · go_enter Try.func63, Try.ntmps63
            go_wp2_with fail
            refine H.out.mono ?_
            rintro e w1 ⟨rfl, hb1⟩
            go_wp2
            go_ret
            exact ⟨ret_int (by rw [HS.out, if_pos ⟨HA.out, by omega, by omega, by omega, by omega⟩]), hb1⟩

def nz (x : Int) : Bool := !(x == 0)
theorem nzFn (n : Int) (W : World) : Calls Try.prog 67 #[.int .i64 n] W fun e W' => e = .returned (.bool (nz n)) ∧ Below W.heap.size W W' := by
  have HN := Lib.hid (show nz n = !(n == 0) from rfl)
  by_cases h : n = 0
  · have hd : (n != 0) = false := by simpa using h
    have HX := Lib.hid h
    clear h
    go_enter Try.func67, Try.ntmps67
    go_wp2
    go_ret
    exact ⟨ret_bool (by rw [HN.out, HX.out]; rfl), Below.refl _ _⟩
  · have hd : (n != 0) = true := by simpa using h
    have HX := Lib.hid h
    clear h
    go_enter Try.func67, Try.ntmps67
    go_wp2
    go_ret
    exact ⟨ret_bool (by rw [HN.out]; simp [HX.out]), Below.refl _ _⟩

set_option maxHeartbeats 400000 in
/-- The closure of Shortest: it writes whether a force is there. -/
theorem shortFn (A : Option Addr) (k c : Nat) (p : List Int) (x : Bool) (b : Nat) (w : World) (hl : p.length ≤ 1000) (B : Nat) (hB : B ≤ w.heap.size) (hr : Rd w B 1 A k (ints p)) (hb : w.heap[b]? = some (.cells #[.bool x] 4 (0, 0))) :
    Calls Try.prog 65 #[.slice A k c, .pointer (some ⟨b, 0, none⟩)] w fun e w' => e = .returned (.bool (!p.any nz)) ∧ w'.heap[b]? = some (.cells #[.bool (p.any nz)] 4 (0, 0)) ∧ ∃ w1, Below w.heap.size w w1 ∧ w' = w1.setCell ⟨b, 0, none⟩ (.bool (p.any nz)) := by
  have H := Lib.hid (intContainsFunc 67 Try.call67 #[] nz A k c p w hl B hB hr (fun a _ W _ => nzFn a W))
  have HB := Lib.hid hb
  have hlt := blk_lt hb
  clear hb
  generalize p.any nz = y at *
  go_enter Try.func65, Try.ntmps65
  go_wp2_with fail
  refine H.out.mono ?_
  rintro e w1 ⟨rfl, hb1⟩
  have b1 := blk_below HB.out hb1 hlt
  have c1 : w1.cell? ⟨b, 0, none⟩ = some (.bool x) := blk_cell b1 0
  have f1 := blk_frozen b1 0
  have b2 := blk_set b1 0 (.bool y)
  have HB2 := Lib.hid b2
  have HBB := Lib.hid hb1
  clear b1 b2 hb1
  go_wp2
  go_ret
  exact ⟨rfl, HB2.out, w1, HBB.out, rfl⟩
end Go.Proofs.Ytnoocdannfeidaa

/-
  WALK: Shortest.
-/
namespace Go.Proofs.Ytnoocdannfeidaa
open Go.RowKit Pulse

/-- Some closed pulse of length n has a force. -/
def foundAt (ms : List Int) (F n : Nat) : Bool := (allP F n).any fun p => shut p ms && p.any nz
/-- The smallest length from 1 to 6 of a closed pulse with a force; 0 if there is none. -/
def firstLen (ms : List Int) (F : Nat) : Nat := ((List.range' 1 6).find? (foundAt ms F)).getD 0
def shortN (ms : List Int) (f : Int) : Int := if srchE ms 0 f = 0 then firstLen ms f.toNat else 0
def shortIs (ms : List Int) (f : Int) : Bool := decide (shortN ms f ≠ 0)

theorem firstLen_at {ms : List Int} {F q : Nat} (h1 : 1 ≤ q) (h2 : q ≤ 6) (h : foundAt ms F q = true) (hb : ∀ n, 1 ≤ n → n < q → foundAt ms F n = false) : firstLen ms F = q := by
  unfold firstLen
  have : (List.range' 1 6).find? (foundAt ms F) = some q := by
    rw [List.find?_eq_some_iff_append]
    refine ⟨h, List.range' 1 (q - 1), List.range' (q + 1) (6 - q), ?_, ?_⟩
    · rcases (show q = 1 ∨ q = 2 ∨ q = 3 ∨ q = 4 ∨ q = 5 ∨ q = 6 by omega) with rfl | rfl | rfl | rfl | rfl | rfl <;> rfl
    · intro a ha
      rw [List.mem_range'_1] at ha
      rw [hb a (by omega) (by omega)]; rfl
  rw [this]; rfl
theorem firstLen_none {ms : List Int} {F : Nat} (hb : ∀ n, 1 ≤ n → n < 7 → foundAt ms F n = false) : firstLen ms F = 0 := by
  unfold firstLen
  have : (List.range' 1 6).find? (foundAt ms F) = none := by
    rw [List.find?_eq_none]
    intro a ha
    rw [List.mem_range'_1] at ha
    rw [hb a (by omega) (by omega)]; decide
  rw [this]; rfl

/-- The state of the search for a force: none yet. -/
def ShJ (ms : List Int) (F n : Nat) (w0 : World) (b : Nat) (k : Nat) (W : World) : Prop :=
  Below w0.heap.size w0 W ∧ W.heap[b]? = some (.cells #[.bool false] 4 (0, 0)) ∧ ∀ j p, j < k → (allP F n)[j]? = some p → shut p ms = true → p.any nz = false
def ShX (ms : List Int) (F n : Nat) (w0 : World) (b : Nat) (_ : Nat) (W : World) : Prop :=
  Below w0.heap.size w0 W ∧ W.heap[b]? = some (.cells #[.bool true] 4 (0, 0)) ∧ foundAt ms F n = true

theorem ret_three {a a' b b' c c' : Value} (h : a = a') (h' : b = b') (h'' : c = c') : Ending.returned (.tuple #[a, b, c]) = .returned (.tuple #[a', b', c']) := by rw [h, h', h'']

set_option maxHeartbeats 1000000 in
/-- The search, as Shortest uses it: W0 is the world of the round, b the box. -/
theorem shSearch (ms : List Int) (A' : Option Addr) (k' c' n F : Nat) (hn : n ≤ 6) (hF : F ≤ 9) (hms : ∀ m ∈ ms, 0 ≤ m ∧ m ≤ 3) (hml : ms.length ≤ 1000) (w0 wr : World) (h0 : Below w0.heap.size w0 wr) (B : Nat) (hB : B ≤ w0.heap.size) (hr : Rd w0 B 1 A' k' (ints ms)) :
    Calls Try.prog 64 #[.slice A' k' c', .int .i64 n, .int .i64 F, .func (.func 65) #[] #[.pointer (some ⟨wr.heap.size, 0, none⟩)]] (wr.alloc (.cells #[.bool false] 4)) fun e W' =>
      (∃ v, e = .returned v) ∧ Below w0.heap.size w0 W' ∧ W'.heap[wr.heap.size]? = some (.cells #[.bool (foundAt ms F n)] 4 (0, 0)) := by
  have hs := h0.size
  refine (pSearch ms A' k' c' n F hn hF hms hml 65 Try.call65 #[.pointer (some ⟨wr.heap.size, 0, none⟩)] (wr.alloc (.cells #[.bool false] 4)) B (by simp; omega)
    (ShJ ms F n w0 wr.heap.size) (ShX ms F n w0 wr.heap.size) ?_ ?_ ?_ ?_ ?_).mono ?_
  · intro W hb
    rw [World.size_alloc] at hb
    exact ⟨(h0.alloc hs _).trans (hb.mono (by omega)), blk_below (blk_new wr 4 #[.bool false]) hb (by omega), fun j p hj => absurd hj (by omega)⟩
  · rw [World.size_alloc]
    rintro k W W' ⟨h1, h2, h4⟩ hf
    exact ⟨hf.frame h1 (fun g _ hg => by unfold But; omega) (Nat.le_refl _), hf.keep _ _ (by unfold But; omega) h2, h4⟩
  · rintro k W ⟨h1, _⟩
    exact hr.below' h1 hB
  · rintro k W p hk hsh ⟨h1, h2, h4⟩
    refine ⟨h1, h2, fun j q hj hq hs => ?_⟩
    rcases Nat.lt_or_ge j k with h | h
    · exact h4 j q h hq hs
    · obtain rfl : j = k := by omega
      rw [hk] at hq
      injection hq with hq
      rw [← hq, hsh] at hs
      cases hs
  · rintro k W p hk hsh ⟨h1, h2, h4⟩ hrow
    have hpm := mem_allP.1 (List.mem_of_getElem? hk)
    have hgs := blk_lt hrow
    have hrp : Rd W W.heap.size 1 (some ⟨(wr.alloc (.cells #[.bool false] 4)).heap.size + 1, 0, none⟩) n (ints p) := by
      have := rd_lit (sz := 1) (n := n) hrow (by simp [hpm.1])
      simpa using this.more (by omega)
    refine (shortFn (some ⟨(wr.alloc (.cells #[.bool false] 4)).heap.size + 1, 0, none⟩) n n p false wr.heap.size W (by rw [hpm.1]; omega) W.heap.size (Nat.le_refl _) hrp h2).mono ?_
    rintro e W' ⟨rfl, hb', w1, hb1, rfl⟩
    have hbel : Below w0.heap.size w0 (w1.setCell ⟨wr.heap.size, 0, none⟩ (.bool (p.any nz))) := (h1.trans (hb1.mono h1.size)).setCell (p := ⟨wr.heap.size, 0, none⟩) hs _
    refine ⟨?_, blk_far (blk_below hrow hb1 hgs) (p := ⟨wr.heap.size, 0, none⟩) (by simp; omega) _⟩
    cases hany : p.any nz with
    | false =>
      rw [hany] at hb' hbel
      refine .inl ⟨rfl, hbel, hb', fun j q hj hq hs => ?_⟩
      rcases Nat.lt_or_ge j k with h | h
      · exact h4 j q h hq hs
      · obtain rfl : j = k := by omega
        rw [hk] at hq
        injection hq with hq
        rw [← hq, hany]
    | true =>
      rw [hany] at hb' hbel
      refine .inr ⟨rfl, hbel, hb', ?_⟩
      rw [foundAt, List.any_eq_true]
      exact ⟨p, List.mem_of_getElem? hk, by rw [hsh, hany]; rfl⟩
  · rintro e W' ⟨he, ⟨h1, h2, h4⟩ | ⟨k, hk, h1, h2, h4⟩⟩
    · refine ⟨he, h1, ?_⟩
      have : foundAt ms F n = false := by
        rw [foundAt, List.any_eq_false]
        intro p hp
        obtain ⟨j, hj, rfl⟩ := List.getElem_of_mem hp
        cases hsh : shut (allP F n)[j] ms with
        | false => simp
        | true => rw [h4 j _ hj (List.getElem?_eq_getElem hj) hsh]; decide
      rw [this]; exact h2
    · exact ⟨he, h1, by rw [h4]; exact h2⟩

set_option maxHeartbeats 1000000 in
theorem pShortest (A : Option Addr) (k c : Nat) (ms : List Int) (f : Int) (w : World) (hl : ms.length ≤ 1000) (B : Nat) (hB : B ≤ w.heap.size) (hr : Rd w B 1 A k (ints ms)) :
    Calls Try.prog 26 #[.slice A k c, .int .i64 f] w fun e w' => e = .returned (.tuple #[.int .i64 (shortN ms f), .bool (shortIs ms f), .int .i64 (srchE ms 0 f)]) ∧ Below w.heap.size w w' := by
  have H := Lib.hid (pSearched A k c ms 0 f w hl B hB hr)
  have HN := Lib.hid (show shortN ms f = if srchE ms 0 f = 0 then (firstLen ms f.toNat : Int) else 0 from rfl)
  have HI := Lib.hid (show shortIs ms f = decide (shortN ms f ≠ 0) from rfl)
  by_cases h : srchE ms 0 f = 0
  · obtain ⟨h1, _, _, h2, h3⟩ := srchE_ok h
    obtain ⟨h4, h5⟩ := areModes_ok h1
    have HM := Lib.hid h
    have HMS := Lib.hid h5
    rw [h] at H
    have hN1 : shortN ms f = firstLen ms f.toNat := by rw [shortN, if_pos h]
    have HN1 := Lib.hid hN1
    obtain ⟨N, rfl⟩ := Int.eq_ofNat_of_zero_le (show 0 ≤ f by omega)
    clear h h1 h5 hN1
    go_enter Try.func26, Try.ntmps26
    go_wp2_with fail
    refine H.out.mono ?_
    rintro e w1 ⟨rfl, hb1⟩
    go_wp2
    go_loopw [8] (fun v wr => ∃ q : Nat, v = .int .i64 q ∧ 1 ≤ q ∧ q ≤ 7 ∧ Hid (∀ n, 1 ≤ n → n < q → foundAt ms N n = false) ∧ Below w.heap.size w wr) (fun v _ => 7 - (intOf v).toNat)
    case atStart => exact ⟨1, rfl, by omega, by omega, fun n h1 h2 => absurd h1 (by omega), hb1⟩
    case round =>
      clear hb1
      obtain ⟨q, rfl, hq1, hq2, hno, hb⟩ := hrel
      have hsz := hb.size
      by_cases hlt : q ≤ 6
      · have HSE := Lib.hid (shSearch ms A k c q N (by omega) (by omega) HMS.out hl w wr hb B hB hr)
        have HB := Lib.hid hb
        clear hb
        go_wp2_with fail
        refine HSE.out.mono ?_
        rintro e w2 ⟨⟨v, rfl⟩, hb2, hc2⟩
        have HB2 := Lib.hid hb2
        clear hb2 HSE
        cases hfa : foundAt ms N q with
        | true =>
          rw [hfa] at hc2
          have c1 : w2.cell? ⟨wr.heap.size, 0, none⟩ = some (.bool true) := blk_cell hc2 0
          have HFL := Lib.hid (firstLen_at hq1 hlt hfa hno.out)
          clear hc2 hfa
          go_wp2
          refine bodyPost_ret (results_tmp3 rfl _ _ _) rfl ?_
          refine ⟨ret_three (by rw [HN1.out]; show _ = Value.int .i64 ((firstLen ms N : Nat) : Int); rw [HFL.out]; rfl) (by rw [HI.out, HN1.out]; show _ = Value.bool (decide (((firstLen ms N : Nat) : Int) ≠ 0)); rw [HFL.out, decide_eq_true (by omega)]; rfl) (by rw [HM.out]; rfl), HB2.out⟩
        | false =>
          rw [hfa] at hc2
          have c1 : w2.cell? ⟨wr.heap.size, 0, none⟩ = some (.bool false) := blk_cell hc2 0
          have HNO := Lib.hid (show ∀ n, 1 ≤ n → n < q + 1 → foundAt ms N n = false from fun n h1 h2 => by
            rcases Nat.lt_or_ge n q with h | h
            · exact hno.out n h1 h
            · obtain rfl : n = q := by omega
              exact hfa)
          clear hc2 hfa
          go_wp2
          go_roundw
          case rel => exact ⟨q + 1, by go_num, by omega, by omega, HNO, HB2.out⟩
          case measure => simp [intOf]; omega
      · obtain rfl : q = 7 := by omega
        have HFL := Lib.hid (firstLen_none (fun n h1 h2 => hno.out n h1 h2))
        go_wp2
        refine bodyPost_ret (results_tmp3 rfl _ _ _) rfl ?_
        refine ⟨ret_three (by rw [HN1.out]; show _ = Value.int .i64 ((firstLen ms N : Nat) : Int); rw [HFL.out]; rfl) (by rw [HI.out, HN1.out]; show _ = Value.bool (decide (((firstLen ms N : Nat) : Int) ≠ 0)); rw [HFL.out]; rfl) (by rw [HM.out]; rfl), hb⟩
  · have hd : (srchE ms 0 f != 0) = true := by simpa using h
    have hz : shortN ms f = 0 := by rw [shortN, if_neg h]
    have HZ := Lib.hid hz
    clear h hz
    go_enter Try.func26, Try.ntmps26
    go_wp2_with fail
    refine H.out.mono ?_
    rintro e w1 ⟨rfl, hb1⟩
    go_wp2
    refine bodyPost_ret (results_tmp3 rfl _ _ _) rfl ?_
    exact ⟨ret_three (by rw [HZ.out]; rfl) (by rw [HI.out, HZ.out]; rfl) rfl, hb1⟩
end Go.Proofs.Ytnoocdannfeidaa
