/-
  WALK: Farthest.
-/
import Derived.Test.YtlhbmfaoldajdaaW20
import Derived.Test.YtlhbmfaoldajdaaP7
namespace Go.Proofs.Ytlhbmfaoldajdaa
open Go.RowKit Go.Maps

structure S7 where
  (a0 a1 a2 a3 m1 m2 d : Int)
def S7.l (c : S7) : List Int := [c.a0, c.a1, c.a2, c.a3, c.m1, c.m2, c.d]
def S7.v (c : S7) : Value := .agg #[.int .i64 c.a0, .int .i64 c.a1, .int .i64 c.a2, .int .i64 c.a3, .int .i64 c.m1, .int .i64 c.m2, .int .i64 c.d]
theorem list7 {l : List Int} (h : l.length = 7) : ∃ c : S7, l = c.l := by
  match l, h with
  | [a, b, c, d, e, f, g], _ => exact ⟨⟨a, b, c, d, e, f, g⟩, rfl⟩
theorem stepElem_s7 {v : Value} {y : DataW Unit × List MemPlace} (h : stepElem v = some y) : ∃ c : S7, v = c.v := by
  obtain ⟨zs, hl, hv, _⟩ := stepElem_inv h
  obtain ⟨c, rfl⟩ := list7 hl
  exact ⟨c, hv⟩
theorem stepElem_of7 (c : S7) : stepElem c.v = some (stepD c.l, []) := stepElem_mk (zs := c.l) rfl
/-- A node that comes out of the map is one of the nodes; what is still to come, less that one. -/
theorem range_node {Z : Int} {n : Nat} {T : List Nd} {c : S7} {kl : Lit} {y : DataW Unit × List MemPlace} {left : Lit → Bool} {most most' : Int} (hT : Tidy Z n T) (hZ : Z ≤ 6) (hn : n ≤ 4)
    (hy : stepElem c.v = some y) (hat : ∀ zd, (mapN T).atKey kl zd = y.1) (h : ∀ x ∈ T, left (keyL x.p) = true ∨ x.d ≤ most) (h1 : most ≤ most') (h2 : c.d ≤ most') :
    ∀ x ∈ T, (left (keyL x.p) && !(keyL x.p).sameKey kl) = true ∨ x.d ≤ most' := by
  intro x hx
  obtain ⟨x0, hx0, e1, e2⟩ := entry_mapN (hT.keys hZ hn) hT.1 hat
  rw [stepElem_of7] at hy
  injection hy with hy
  have e3 : stepD c.l = stepD (stepZ x0) := by rw [← e2, ← hy]
  have e4 := stepD_inj e3
  have hd : x0.d = c.d := by
    obtain ⟨b0, b1, b2, b3, hb⟩ := list4 (hT.2 x0 hx0).2.1
    rw [stepZ, hb] at e4
    unfold S7.l at e4
    simp at e4
    exact e4.2.2.2.2.2.2.symm
  rcases h x hx with h3 | h3
  · cases hs : (keyL x.p).sameKey kl with
    | true =>
      right
      have := WideAt.sameKey_eq hs
      rw [← e1] at this
      have hk := hT.keys hZ hn
      have hp := keyL_inj (hk x hx).1 (hk x0 hx0).1 (by rw [(hk x hx).2, (hk x0 hx0).2]) this
      rw [nodup_inj hT.1 hx hx0 hp, hd]
      exact h2
    | false => left; rw [h3]; rfl
  · right; omega

set_option maxRecDepth 100000 in
set_option maxHeartbeats 4000000 in
theorem pFarthest (Z : Int) (A A' : Option Addr) (k c k' c' : Nat) (L : List (Int × Int)) (s : List Int) (w : World) (hl : L.length ≤ 1000) (hc : k ≤ c) (hl' : s.length ≤ 1000) (hc' : k' ≤ c') (B : Nat) (hB : B ≤ w.heap.size) (hr : Rd w B 2 A k (prs L)) (hr' : Rd w B 1 A' k' (ints s)) :
    Calls Try.prog 13 #[.agg #[.int .i64 Z, .slice A k c], .slice A' k' c'] w fun e w' => ∃ n : Int, e = .returned (.tuple #[.int .i64 n, .int .i64 (placeE Z L s)]) ∧ (placeE Z L s = 0 → ∀ x ∈ bfsL Z L s, x.d ≤ n) ∧ Below w.heap.size w w' := by
  obtain rfl := hr'.int_len
  have HB1 := Lib.hid ((Below.refl w.heap.size w).alloc (Nat.le_refl _) (.cells #[.int .i64 Z, .slice A k c] 24))
  have HX := Lib.hid (blk_new w 24 #[.int .i64 Z, .slice A k c])
  have hr := (hr.more hB)
  have hr' := (hr'.more hB)
  have s1 : (w.alloc (.cells #[.int .i64 Z, .slice A k c] 24)).heap.size = w.heap.size + 1 := by simp
  have x0 : (w.alloc (.cells #[.int .i64 Z, .slice A k c] 24)).cell? ⟨w.heap.size, 0, none⟩ = some (.int .i64 Z) := blk_cell HX.out 0
  have x1 : (w.alloc (.cells #[.int .i64 Z, .slice A k c] 24)).cell? ⟨w.heap.size, 1, none⟩ = some (.slice A k c) := blk_cell HX.out 1
  have HP := Lib.hid (pValidatePlace Z A A' k c s.length c' L s (w.alloc (.cells #[.int .i64 Z, .slice A k c] 24)) hl hc hl' hc' w.heap.size (by simp) (hr.below HB1.out) (hr'.below HB1.out))
  by_cases h : placeE Z L s = 0
  · have HT := Lib.hid (bfsL_tidy h)
    obtain ⟨z1, z2, z3, z4⟩ := PlOk.of_place h
    have HPL := Lib.hid z4
    have HDP := Lib.hid (fun i y h => deep_bfs Z L s 1296 i y h)
    have H0 := Lib.hid h
    rw [h] at HP ⊢
    clear h z4
    go_enter Try.func13, Try.ntmps13
    go_wp2_with fail
    refine HP.out.mono ?_
    rintro e w1 ⟨rfl, hb1⟩
    have y0 := (hb1.cell (p := ⟨w.heap.size, 0, none⟩) (by simp)).trans x0
    have y1 := (hb1.cell (p := ⟨w.heap.size, 1, none⟩) (by simp)).trans x1
    have HB2 := Lib.hid (HB1.out.trans (hb1.mono (by omega)))
    have s2 := HB2.out.size
    clear hb1 x0 x1 HP
    go_wp2_with fail
    refine (preached Z A A' k c s.length c' L s w1 (by omega) z2 z3 hl HPL.out w.heap.size s2 (hr.below HB2.out) (hr'.below HB2.out)).mono ?_
    rintro e w2 ⟨b, rfl, hown, hb2⟩
    have HB3 := Lib.hid (HB2.out.trans (hb2.mono s2))
    have s3 := HB3.out.size
    have HDM := Lib.hid (show ∀ x ∈ bfsL Z L s, 0 ≤ x.d ∧ x.d ≤ 1296 from fun x hx => by
      obtain ⟨j, hj, hje⟩ := List.getElem_of_mem hx
      have h3 := HDP.out j x (by rw [← hje]; exact List.getElem?_eq_getElem hj)
      have h4 := HT.out.len z2 z3
      exact ⟨(HT.out.2 x hx).2.2, by omega⟩)
    obtain ⟨T, hTT⟩ : ∃ T, T = bfsL Z L s := ⟨_, rfl⟩
    have HTT := Lib.hid hTT
    rw [← hTT] at hown HDM HT
    clear hb2 y0 y1 hTT HDP HPL
    go_wp2_with (first | (at_range; refine wpList_range_own _ rfl _ 48 rfl 61 63 law61 Try.underlying48 stepElem b T.length _ rfl hown ?_; intro w3 hrg3 hg3 hs3) | fail)
    have hlt := hown.lt
    have HB4 := Lib.hid (HB3.out.grown hg3 s3 (fun g h => by cases h))
    have HRG := Lib.hid hrg3
    clear hown hrg3 hg3
    go_frame
    go_loopw [7] (fun u wr => ∃ (left : Lit → Bool) (cnt : Nat) (most : Int), u = .int .i64 most ∧ 0 ≤ most ∧ most ≤ 1296 ∧ (∀ x ∈ T, left (keyL x.p) = true ∨ x.d ≤ most) ∧ wr.ranges Try.prog 61 stepElem b w2.heap.size T.length (mapN T) left cnt ∧ Below w.heap.size w wr) (fun _ wr => wr.rangeLeft b w2.heap.size)
    case atStart => exact ⟨_, _, 0, rfl, Int.le_refl _, by omega, fun x hx => .inl (has_mapN_mem hx), HRG.out, HB4.out⟩
    case round =>
      obtain ⟨left, cnt, most, rfl, m0, m1, hmo, hrg, hb⟩ := hrel
      have sb := hb.size
      have HMO := Lib.hid hmo
      have HB := Lib.hid hb
      have HRI := Lib.hid hrg
      clear hmo hb
      go_wp2_with (first | (at_next; refine wpList_next_ranges (α := Value) (β := S7) _ rfl _ rfl 61 law61 stepElem (fun v => v) S7.v (fun key kl _ => ⟨key, rfl⟩) (fun v y h => stepElem_s7 h) b w2.heap.size T.length _ _ _ rfl hrg ?_ ?_) | fail)
      · intro hc0 hl0
        clear hrg
        go_wp2
        refine bodyPost_ret (results_tmp2 rfl _ _ _) rfl ?_
        refine ⟨most, ret_pair rfl rfl, fun _ x hx => ?_, HB.out⟩
        rcases HMO.out x (by rw [HTT.out]; exact hx) with h | h
        · rw [hl0] at h; cases h
        · exact h
      · intro xk c kl y ps w4 cnt4 hkey hlx hRc hat hrg4 hlt4 hg4 hs4 hen
        obtain ⟨xn, hxn, e1, e2⟩ := entry_mapN (HT.out.keys z2 z3) HT.out.1 hat
        have hcd : c.d = xn.d := by
          obtain ⟨b0, b1, b2, b3, hb⟩ := list4 (HT.out.2 xn hxn).2.1
          have h5 := stepElem_of7 c
          rw [h5] at hRc
          injection hRc with hRc
          have e4 := stepD_inj (show stepD c.l = stepD (stepZ xn) by rw [← e2]; exact (Prod.mk.inj hRc).1)
          rw [stepZ, hb] at e4
          unfold S7.l at e4
          simp at e4
          exact e4.2.2.2.2.2.2
        have hcb := HDM.out xn hxn
        rw [← hcd] at hcb
        have HNX := Lib.hid (fun most' h1 h2 => range_node (left := left) (most := most) (most' := most') HT.out z2 z3 hRc hat HMO.out h1 h2)
        have hs4' : w4.heap.size = wr.heap.size := hs4
        have HB5 := Lib.hid (HB.out.grown hg4 (by omega) (fun g h => by injection h with h; omega))
        have HR5 := Lib.hid hrg4
        have HLT := Lib.hid (And.intro hlt4 HRI.out.left_eq)
        have HCD := Lib.hid (show c.d = c.d from rfl)
        clear hrg hkey hlx hRc hat hrg4 hlt4 hg4 e1 e2 hcd hxn hs4
        unfold S7.v at hen ⊢
        obtain ⟨a0, a1, a2, a3, n1, n2, d⟩ := c
        simp only at hen hcb HNX ⊢
        have HB6 := Lib.hid (HB5.out.alloc (show w.heap.size ≤ w4.heap.size by omega) (.cells #[.int .i64 a0, .int .i64 a1, .int .i64 a2, .int .i64 a3, .int .i64 n1, .int .i64 n2, .int .i64 d] 63))
        have HR6 := Lib.hid (HR5.out.alloc (.cells #[.int .i64 a0, .int .i64 a1, .int .i64 a2, .int .i64 a3, .int .i64 n1, .int .i64 n2, .int .i64 d] 63))
        have e6 : (w4.alloc (.cells #[.int .i64 a0, .int .i64 a1, .int .i64 a2, .int .i64 a3, .int .i64 n1, .int .i64 n2, .int .i64 d] 63)).cell? ⟨w4.heap.size, 6, none⟩ = some (.int .i64 d) := blk_cell (blk_new w4 63 #[.int .i64 a0, .int .i64 a1, .int .i64 a2, .int .i64 a3, .int .i64 n1, .int .i64 n2, .int .i64 d]) 6
        clear HCD
        have hd0 := hcb.1
        have hd1 := hcb.2
        clear hcb
        go_wp2
        refine ⟨⟨_, cnt4, if most < d then d else most, rfl, by split <;> omega, by split <;> omega, HNX.out _ (by split <;> omega) (by split <;> omega), HR6.out, HB6.out⟩, ?_⟩
        rw [HR6.out.left_eq, HLT.out.2]; exact HLT.out.1
  · have hd : (placeE Z L s != 0) = true := by simpa using h
    have HN := Lib.hid h
    clear h
    generalize placeE Z L s = y at *
    go_enter Try.func13, Try.ntmps13
    go_wp2_with fail
    refine HP.out.mono ?_
    rintro e w1 ⟨rfl, hb1⟩
    go_wp2
    refine bodyPost_ret (results_tmp2 rfl _ _ _) rfl ?_
    exact ⟨0, ret_pair rfl rfl, fun h => absurd h HN.out, HB1.out.trans (hb1.mono (by omega))⟩
end Go.Proofs.Ytlhbmfaoldajdaa
