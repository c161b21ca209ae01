/-
  MERGED: W15, W16, W17, W18.
-/
import Derived.Test.YtnoocdannfeidaaK9
/-
  WALK: what each law asks of the program (known), and which lists are long.
-/
namespace Go.Proofs.Ytnoocdannfeidaa
open Go.RowKit Pulse

theorem kn1 : areaN [1, 1, 1, 1] 1 = 2 := by decide +kernel
theorem kn2 : moded [1, 1, 1, 1] 1 = 0 := by decide +kernel
theorem kn3 : sumV [1, 1, 1, 1] 1 = ⟨2, 2⟩ := by decide +kernel
theorem kn4 : shortN [1] 1 = 3 := by decide +kernel
theorem kn5 : shortIs [1] 1 = true := by decide +kernel
theorem kn6 : srchE [1] 0 1 = 0 := by decide +kernel

set_option maxHeartbeats 1000000 in
theorem known (w : World) : Calls Try.prog 18 #[] w fun e w' => e = .returned (.bool true) ∧ Below w.heap.size w w' := by
  have H1 := Lib.hid (pAreaF (some ⟨w.heap.size, 0, none⟩) 4 4 [1, 1, 1, 1] 1 (w.alloc (.cells #[.int .i64 1, .int .i64 1, .int .i64 1, .int .i64 1] 3)) (by decide) (w.heap.size + 1) (by simp) (rd_lit (blk_new w 3 #[.int .i64 1, .int .i64 1, .int .i64 1, .int .i64 1]) rfl))
  have HB := Lib.hid ((Below.refl w.heap.size w).alloc (Nat.le_refl _) (.cells #[.int .i64 1, .int .i64 1, .int .i64 1, .int .i64 1] 3))
  go_enter Try.func18, Try.ntmps18
  go_wp2_with fail
  refine H1.out.mono ?_
  rw [kn1, kn2]
  rintro e w1 ⟨rfl, hb1⟩
  have B1 := HB.out.trans (hb1.mono (by simp))
  have s1 := B1.size
  clear hb1
  go_wp2_with fail
  refine (pSumF (some ⟨w1.heap.size, 0, none⟩) 4 4 [1, 1, 1, 1] 1 (w1.alloc (.cells #[.int .i64 1, .int .i64 1, .int .i64 1, .int .i64 1] 3)) (by decide) (w1.heap.size + 1) (by simp) (rd_lit (blk_new w1 3 #[.int .i64 1, .int .i64 1, .int .i64 1, .int .i64 1]) rfl)).mono ?_
  rw [kn2, kn3]
  rintro e w2 ⟨rfl, hb2⟩
  have B2 := (B1.alloc s1 _).trans (hb2.mono (by simp; omega))
  have s2 := B2.size
  clear hb2
  go_wp2_with fail
  have hx := blk_new w2 29 #[.int .i64 2, .int .i64 2]
  have hx1 := blk_alloc hx (.cells #[.int .i64 1] 3)
  have hy := blk_new (w2.alloc (.cells #[.int .i64 2, .int .i64 2] 29)) 3 #[.int .i64 1]
  rw [World.size_alloc] at hy
  have HX := Lib.hid hx1
  have B3 := (B2.alloc s2 (.cells #[.int .i64 2, .int .i64 2] 29)).alloc (by simp; omega) (.cells #[.int .i64 1] 3)
  refine (pShortest (some ⟨w2.heap.size + 1, 0, none⟩) 1 1 [1] 1 ((w2.alloc (.cells #[.int .i64 2, .int .i64 2] 29)).alloc (.cells #[.int .i64 1] 3)) (by decide) (w2.heap.size + 1 + 1) (by simp) (rd_lit hy rfl)).mono ?_
  rw [kn4, kn5, kn6]
  rintro e w3 ⟨rfl, hb3⟩
  have z3 := blk_below HX.out hb3 (by simp; omega)
  have B4 := B3.trans (hb3.mono (by simp; omega))
  have c1 : w3.cell? ⟨w2.heap.size, 0, none⟩ = some (.int .i64 2) := blk_cell z3 0
  have c2 : w3.cell? ⟨w2.heap.size, 1, none⟩ = some (.int .i64 2) := blk_cell z3 1
  clear hx hx1 hy z3 hb3 B3 B2 B1
  go_wp2
  go_ret
  exact ⟨rfl, B4⟩
theorem long (A : Option Addr) (k c : Nat) (w : World) (hk : k ≤ maxLen) : Calls Try.prog 17 #[.slice A k c] w fun e w' => e = .returned (.bool (decide (100 < k))) ∧ w = w' := by
  by_cases h : 100 < k
  · have hd : decide (100 < k) = true := by simpa using h
    go_enter Try.func17, Try.ntmps17
    go_wp2
    go_ret
    exact ⟨ret_bool (by simp; omega), rfl⟩
  · have hd : decide (100 < k) = false := by simpa using h
    go_enter Try.func17, Try.ntmps17
    go_wp2
    go_ret
    exact ⟨ret_bool (by simp; omega), rfl⟩
end Go.Proofs.Ytnoocdannfeidaa

/-
  WALK: the reference's steps.
-/
namespace Go.Proofs.Ytnoocdannfeidaa
open Go.RowKit Pulse

abbrev ptCell (v : V) : List Value := [.int .i64 v.x, .int .i64 v.y]
def ptCells (l : List V) : List Value := l.flatMap ptCell
theorem ptCells_length (l : List V) : (ptCells l).length = l.length * 2 := by
  induction l with
  | nil => rfl
  | cons a l ih => simp only [ptCells, List.flatMap_cons, List.length_append] at *; rw [ih]; simp; omega
theorem pts_get (l : List V) (i j : Nat) (hi : i < l.length) (hj : j < 2) : (ptCells l)[i * 2 + j]? = (ptCell l[i])[j]? := by
  induction l generalizing i with
  | nil => simp at hi
  | cons a l ih =>
    cases i with
    | zero =>
      simp only [ptCells, List.flatMap_cons, Nat.zero_mul, Nat.zero_add]
      rw [List.getElem?_append_left (by simpa using hj)]
      rfl
    | succ i =>
      have e : (i + 1) * 2 + j = (i * 2 + j) + 2 := by omega
      simp only [ptCells, List.flatMap_cons]
      rw [List.getElem?_append_right (by simp; omega), e]
      have := ih i (by simpa using hi)
      simpa [ptCells] using this
theorem ptCells_snoc (l : List V) (v : V) : ptCells (l ++ [v]) = ptCells l ++ ptCell v := by simp [ptCells]
theorem ptCells_one (l : List V) : ((ptCells l).all fun u => u.oneCell') = true := by
  rw [List.all_eq_true]
  intro u hu
  obtain ⟨a, _, ha⟩ := List.mem_flatMap.1 hu
  simp only [ptCell, List.mem_cons, List.not_mem_nil, or_false] at ha
  rcases ha with rfl | rfl <;> rfl
theorem E22 : EOk Try.prog 22 3 (.int .i64 0) 1 8 :=
  ⟨Try.underlying22, by
    obtain ⟨i, h1, h2, h3, h4⟩ := info_parts (show (Try.prog.info? 3).map (fun i => (i.zero, i.size, i.bytes)) = some (some (.int .i64 0), 1, 8) by kernel_rfl)
    exact ⟨i, h1, h2, h3, h4⟩, rfl, by decide, by decide⟩
theorem E40 : EOk Try.prog 40 29 (.agg #[.int .i64 0, .int .i64 0]) 2 16 :=
  ⟨Try.underlying40, by
    obtain ⟨i, h1, h2, h3, h4⟩ := info_parts (show (Try.prog.info? 29).map (fun i => (i.zero, i.size, i.bytes)) = some (some (.agg #[.int .i64 0, .int .i64 0]), 2, 16) by kernel_rfl)
    exact ⟨i, h1, h2, h3, h4⟩, rfl, by decide, by decide⟩

/-- Step j of a pulse. -/
def stp (m : Int) (p : List Int) (j : Nat) : V := (stepAt m j).sm (p.getD j 0)
def stps (m : Int) (p : List Int) (q : Nat) : List V := (List.range q).map (stp m p)
theorem stps_len (m : Int) (p : List Int) (q : Nat) : (stps m p q).length = q := by simp [stps]
theorem stps_succ (m : Int) (p : List Int) (q : Nat) : stps m p (q + 1) = stps m p q ++ [stp m p q] := by simp [stps, List.range_succ]
theorem stps_get {m : Int} {p : List Int} {q j : Nat} (h : j < (stps m p q).length) : (stps m p q)[j] = stp m p j := by simp [stps]
theorem stp_turn {m : Int} (hm : 0 ≤ m) {p : List Int} {q : Nat} (h : q < p.length) : rotN (m * q % 4).toNat ⟨p[q], 0⟩ = stp m p q := by
  unfold stp stepAt
  rw [← rotN_sm, show p.getD q 0 = p[q] by simp [h]]
  have e : (⟨p[q], 0⟩ : V) = V.e1.sm p[q] := by simp [V.sm, V.e1]
  rw [e]
  refine rotN_congr ?_ _
  obtain ⟨M, rfl⟩ := Int.eq_ofNat_of_zero_le hm
  rw [show ((M : Int)).toNat = M from rfl]
  have : (M : Int) * (q : Int) = ((M * q : Nat) : Int) := by simp
  rw [this]
  omega
theorem stp_wi {m : Int} {p : List Int} (hF : Forces 99 p) (j : Nat) : Wi 99 (stp m p j) := by
  have h1 := stepAt_wi m j
  have h2 : -99 ≤ p.getD j 0 ∧ p.getD j 0 ≤ 99 := by
    rw [List.getD_eq_getElem?_getD]
    cases h : p[j]? with
    | none => simp
    | some f => exact hF f (List.mem_of_getElem? h)
  have b1 := mul_bd (a := p.getD j 0) (b := (stepAt m j).x) (A := 99) (B := 1) (by decide) h2 ⟨h1.1, h1.2.1⟩
  have b2 := mul_bd (a := p.getD j 0) (b := (stepAt m j).y) (A := 99) (B := 1) (by decide) h2 ⟨h1.2.2.1, h1.2.2.2⟩
  exact ⟨b1.1, b1.2, b2.1, b2.2⟩

set_option maxHeartbeats 1000000 in
theorem rsteps (p : List Int) (m : Int) (hl : p.length ≤ 12) (hF : Forces 99 p) (hm : 0 ≤ m) (hm' : m ≤ 3) (A : Option Addr) (c : Nat) (w : World) (B : Nat) (hB : B ≤ w.heap.size) (hr : Rd w B 1 A p.length (ints p)) :
    Calls Try.prog 93 #[.slice A p.length c, .int .i64 m] w fun e w' => ∃ v, e = .returned v ∧ w'.ownsRow w.heap.size 29 2 v p.length (ptCells (stps m p p.length)) ∧ Below w.heap.size w w' := by
  go_enter Try.func93, Try.ntmps93
  go_wp2
  go_loopw [5, 6] (fun v i wr => ∃ q : Nat, i = .int .i64 q ∧ q ≤ p.length ∧ wr.ownsRow w.heap.size 29 2 v q (ptCells (stps m p q)) ∧ Below w.heap.size w wr) (fun _ i _ => p.length - (intOf i).toNat)
  case atStart => exact ⟨0, rfl, Nat.zero_le _, World.ownsRow_nil .., Below.refl _ _⟩
  case round =>
    obtain ⟨q, rfl, hq, hown, hb⟩ := hrel
    by_cases hlt : q < p.length
    · obtain ⟨b, off, rfl, hbb, h0⟩ := (hr.below' hb hB).int hlt
      have hfb := hF p[q] (List.getElem_mem hlt)
      have hst := stp_turn hm hlt
      generalize p[q] = f at h0 hfb hst
      have HT := Lib.hid (rTurn ⟨f, 0⟩ ⟨by show (-1000000 : Int) ≤ f; omega, by show f ≤ 1000000; omega, by show (-1000000 : Int) ≤ 0; omega, by show (0 : Int) ≤ 1000000; omega⟩ (m * q) wr)
      rw [hst] at HT
      have hmq : 0 ≤ m * q ∧ m * q ≤ 36 := by
        have := mul_bd (a := m) (b := (q : Int)) (A := 3) (B := 12) (by decide) ⟨by omega, hm'⟩ ⟨by omega, by omega⟩
        exact ⟨Int.mul_nonneg hm (by omega), by omega⟩
      have HS := Lib.hid (stps_succ m p q)
      have hsz := hb.size
      clear hst
      go_wp2_with fail
      refine HT.out.mono ?_
      rintro e w2 ⟨rfl, hb2⟩
      have hown2 := own_below hown hb2
      have s2 := hb2.size
      obtain ⟨u, hu⟩ : ∃ u, u = stp m p q := ⟨_, rfl⟩
      rw [← hu] at HS ⊢
      have B2 := Lib.hid (fun (w' : World) => below_own (w' := w') (hb.trans (hb2.mono hsz)) (by omega) hown2 (Nat.le_refl _))
      clear hu hown hb hb2
      go_wp2_with (at_builtin; go_must (refine app1 rfl (.tmp 13) (.tmp 23) 40 rfl 29 _ 2 16 E40 w.heap.size _ _ _ _ rfl hown2 _ rfl ?_ ?_ ?_ ?_ ?_ ?_); rfl; rfl; rfl; omega; omega; intro v3 w3 hown3 hg3)
      go_roundw
      case rel => exact ⟨q + 1, by go_num, by omega, by rw [HS.out, ptCells_snoc]; exact hown3, B2.out _ hg3⟩
      case measure => simp [intOf]; omega
    · obtain rfl : q = p.length := by omega
      go_wp2
      go_ret
      exact ⟨_, rfl, hown, hb⟩
end Go.Proofs.Ytnoocdannfeidaa

/-
  WALK: the reference's end, sum and area. (Printed by gen_rend.py.)
-/
namespace Go.Proofs.Ytnoocdannfeidaa
open Go.RowKit Pulse

theorem pt_stp {m : Int} {p : List Int} {q : Nat} (h : q < p.length) : pt m p (q + 1) = (pt m p q).add (stp m p q) := by
  rw [pt_succ h, stp, show p.getD q 0 = p[q] by simp [h]]
/-- A row of points, at a place. -/
theorem own_pt {w : World} {base n : Nat} {A : Option Addr} {c : Nat} {l : List V} (h : w.ownsRow base 29 2 (.slice A n c) n (ptCells l)) (hn : l.length = n) {q : Nat} (hq : q < l.length) :
    ∃ b off, A = some ⟨b, off, none⟩ ∧ b < w.heap.size ∧ w.cell? ⟨b, off + q * 2, none⟩ = some (.int .i64 l[q].x) ∧ w.cell? ⟨b, off + q * 2 + 1, none⟩ = some (.int .i64 l[q].y) := by
  obtain ⟨b, off, e, hb, hc⟩ := (Rd.of_own h).2 (by omega)
  refine ⟨b, off, e, hb, ?_, ?_⟩
  · have := pts_get l q 0 hq (by omega)
    exact hc (q * 2) _ (by rw [Nat.add_zero] at this; rw [this]; rfl)
  · have := pts_get l q 1 hq (by omega)
    have := hc (q * 2 + 1) _ (by rw [this]; rfl)
    rw [← Nat.add_assoc] at this
    exact this
theorem own_set_far {w : World} {base n sz : Nat} {e : TypeId} {v : Value} {xs : List Value} (h : w.ownsRow base e sz v n xs) {p : Addr} (hp : p.block < base) (u : Value) : (w.setCell p u).ownsRow base e sz v n xs :=
  own_keep h fun g hg => Below.heap_setCell w p u g (by have := (h.lt g hg).1; omega)

set_option maxHeartbeats 1000000 in
theorem rend (p : List Int) (m : Int) (hl : p.length ≤ 12) (hF : Forces 99 p) (hm : 0 ≤ m) (hm' : m ≤ 3) (A : Option Addr) (c : Nat) (w : World) (B : Nat) (hB : B ≤ w.heap.size) (hr : Rd w B 1 A p.length (ints p)) :
    Calls Try.prog 75 #[.slice A p.length c, .int .i64 m] w fun e w' => e = .returned (vV (endL m.toNat p)) ∧ Below w.heap.size w w' := by
  have hn1 := blk_alloc (blk_new w 29 #[.int .i64 0, .int .i64 0]) (.cells #[.int .i64 0, .int .i64 0] 29)
  have hn2 := blk_new (w.alloc (.cells #[.int .i64 0, .int .i64 0] 29)) 29 #[.int .i64 0, .int .i64 0]
  rw [World.size_alloc] at hn2
  have HN := Lib.hid (And.intro hn1 hn2)
  have HB0 := Lib.hid (((Below.refl w.heap.size w).alloc (Nat.le_refl _) (.cells #[.int .i64 0, .int .i64 0] 29)).alloc (by simp) (.cells #[.int .i64 0, .int .i64 0] 29))
  have HST := Lib.hid (rsteps p m hl hF hm hm' A c ((w.alloc (.cells #[.int .i64 0, .int .i64 0] 29)).alloc (.cells #[.int .i64 0, .int .i64 0] 29)) B (by simp; omega) ((hr.alloc hB _).alloc (by simp; omega) _))
  clear hn1 hn2
  go_enter Try.func75, Try.ntmps75
  go_wp2_with fail
  refine HST.out.mono ?_
  rintro e w1 ⟨v1, rfl, hown, hb1⟩
  simp only [World.size_alloc] at hown hb1
  obtain ⟨Av, cv, rfl, hcv, hcv'⟩ := own_cap hown
  have g1 := blk_below HN.out.1 hb1 (by omega)
  have g2 := blk_below HN.out.2 hb1 (by omega)
  have HG := Lib.hid (And.intro g1 (And.intro g2 (And.intro hown (HB0.out.trans (hb1.mono (by omega))))))
  clear g1 g2 hown hb1 HST HB0 HN
  go_wp2
  go_loopw [7] (fun i wr => ∃ q : Nat, i = .int .i64 q ∧ q ≤ p.length ∧ wr.heap[w.heap.size]? = some (.cells #[.int .i64 0, .int .i64 0] 29 (0, 0)) ∧ wr.heap[w.heap.size + 1]? = some (.cells #[.int .i64 (pt m p q).x, .int .i64 (pt m p q).y] 29 (0, 0)) ∧
    wr.ownsRow (w.heap.size + 1 + 1) 29 2 (.slice Av p.length cv) p.length (ptCells (stps m p p.length)) ∧ Below w.heap.size w wr) (fun i _ => p.length - (intOf i).toNat)
  case atStart => exact ⟨0, rfl, Nat.zero_le _, HG.out.1, HG.out.2.1, HG.out.2.2.1, HG.out.2.2.2⟩
  case round =>
    clear HG
    obtain ⟨q, rfl, hq, h1, h2, hown, hb⟩ := hrel
    by_cases hlt : q < p.length
    · obtain ⟨b, off, rfl, hbb, k1, k2⟩ := own_pt hown (stps_len m p p.length) (show q < (stps m p p.length).length by rw [stps_len]; exact hlt)
      rw [stps_get] at k1 k2
      have hsu := stp_wi hF q (m := m)
      have hwu := pt_wi hl hF q (m := m)
      have HPT := Lib.hid (pt_stp (m := m) hlt)
      obtain ⟨s, hs⟩ : ∃ s, s = stp m p q := ⟨_, rfl⟩
      rw [← hs] at k1 k2 hsu HPT
      clear hs
      obtain ⟨u, hu⟩ : ∃ u, u = pt m p q := ⟨_, rfl⟩
      rw [← hu] at h2 hwu HPT
      clear hu
      have c1 : wr.cell? ⟨w.heap.size + 1, 0, none⟩ = some (.int .i64 u.x) := blk_cell h2 0
      have c2 : wr.cell? ⟨w.heap.size + 1, 1, none⟩ = some (.int .i64 u.y) := blk_cell h2 1
      have L1 : w.heap.size + 1 < wr.heap.size := blk_lt h2
      have L0 : w.heap.size < wr.heap.size := by omega
      have HH := Lib.hid (And.intro h1 (And.intro h2 (And.intro hown hb)))
      clear h1 h2 hown hb
      go_wp2
      have mc := cell_mergeW wr
      have mf := frozen_mergeW wr
      refine wp_region_btail 6 (by kernel_rfl) (by kernel_rfl) ?_
      simp only [List.take_succ_cons, List.take_zero, List.drop_succ_cons, List.drop_zero]
      repeat (go_big_quiet_step (first | (go_at_call 95; refine (rplus u s (hwu.mono (by decide)) (hsu.mono (by decide)) _).mono ?_; rintro e w3 ⟨rfl, hb3⟩; exact ⟨rfl, in_mergeW hb3⟩)))
      refine wpQuiet_nil ?_
      rintro w4 ⟨s4, hs4⟩
      have hb3 := below_mergeW wr s4
      rw [← hs4] at hb3
      clear hs4 mc mf
      obtain ⟨h1, h2, hown, hb⟩ := HH.out
      have x1 := blk_below h1 hb3 L0
      have x2 := blk_below h2 hb3 L1
      have x3 := own_below hown hb3
      have d1 : w4.cell? ⟨w.heap.size + 1, 0, none⟩ = some (.int .i64 u.x) := blk_cell x2 0
      have d2 : w4.cell? ⟨w.heap.size + 1, 1, none⟩ = some (.int .i64 u.y) := blk_cell x2 1
      have f1 := blk_frozen x2 0
      have f2 := blk_frozen x2 1
      obtain ⟨r, hr⟩ : ∃ r, r = u.add s := ⟨_, rfl⟩
      rw [← hr] at HPT ⊢
      clear hr
      have v1 := blk_far (blk_far x1 (p := ⟨w.heap.size + 1, 0, none⟩) (by simp) (.int .i64 r.x)) (p := ⟨w.heap.size + 1, 1, none⟩) (by simp) (.int .i64 r.y)
      have v2 := blk_set (blk_set x2 0 (.int .i64 r.x)) 1 (.int .i64 r.y)
      have v3 := own_set_far (own_set_far x3 (p := ⟨w.heap.size + 1, 0, none⟩) (by simp) (.int .i64 r.x)) (p := ⟨w.heap.size + 1, 1, none⟩) (by simp) (.int .i64 r.y)
      have v4 := ((hb.trans (hb3.mono hb.size)).setCell (p := ⟨w.heap.size + 1, 0, none⟩) (by simp) (.int .i64 r.x)).setCell (p := ⟨w.heap.size + 1, 1, none⟩) (by simp) (.int .i64 r.y)
      have V := Lib.hid (And.intro v1 (And.intro v2 (And.intro v3 v4)))
      clear v1 v2 v3 v4 x1 x2 x3 h1 h2 hown hb hb3 c1 c2 k1 k2
      go_wp2
      go_roundw
      case rel => exact ⟨q + 1, by go_num, by omega, V.out.1, by rw [HPT.out]; exact V.out.2.1, V.out.2.2.1, V.out.2.2.2⟩
      case measure => simp [intOf]; omega
    · obtain rfl : q = p.length := by omega
      have hall := pt_all m p
      rw [hall] at h2
      obtain ⟨u, hu⟩ : ∃ u, u = endL m.toNat p := ⟨_, rfl⟩
      rw [← hu] at h2
      have HU := Lib.hid hu
      clear hu hall
      have c1 : wr.cell? ⟨w.heap.size + 1, 0, none⟩ = some (.int .i64 u.x) := blk_cell h2 0
      have c2 : wr.cell? ⟨w.heap.size + 1, 1, none⟩ = some (.int .i64 u.y) := blk_cell h2 1
      have c3 : wr.cell? ⟨w.heap.size, 0, none⟩ = some (.int .i64 0) := blk_cell h1 0
      have c4 : wr.cell? ⟨w.heap.size, 1, none⟩ = some (.int .i64 0) := blk_cell h1 1
      have f1 := blk_frozen h1 0
      have f2 := blk_frozen h1 1
      have v1 := blk_set (blk_set h1 0 (.int .i64 u.x)) 1 (.int .i64 u.y)
      have v4 := (hb.setCell (p := ⟨w.heap.size, 0, none⟩) (Nat.le_refl _) (.int .i64 u.x)).setCell (p := ⟨w.heap.size, 1, none⟩) (Nat.le_refl _) (.int .i64 u.y)
      have V := Lib.hid (And.intro v1 v4)
      clear v1 v4 h1 h2 hown hb
      go_wp2
      have r0 := blk_cell V.out.1 0
      have r1 := blk_cell V.out.1 1
      exact bodyPost_ret (v := vV u) (by simp [results, Try.results75, go_sem, r0, r1]) rfl ⟨by rw [HU.out], V.out.2⟩
end Go.Proofs.Ytnoocdannfeidaa

/-
  WALK: the reference's sum. (Printed by gen_rend.py.)
-/
namespace Go.Proofs.Ytnoocdannfeidaa
open Go.RowKit Pulse

/-- What the reference's sum has told when q steps are over. -/
def wsAt (m : Int) (p : List Int) (q : Nat) : V := (sumL m.toNat (p.take q)).add ((pt m p q).sm ((p.length : Int) - q))
theorem wsAt_zero (m : Int) (p : List Int) : wsAt m p 0 = V.zero := by simp [wsAt, pt, sumL, endL, V.sm, V.add, V.zero]
theorem wsAt_succ {m : Int} {p : List Int} {q : Nat} (h : q < p.length) : wsAt m p (q + 1) = (wsAt m p q).add ((stp m p q).sm ((p.length : Int) - q)) := by
  unfold wsAt
  have e1 : sumL m.toNat (p.take (q + 1)) = (sumL m.toNat (p.take q)).add (pt m p (q + 1)) := totAt_succ (m := m) (p := p) (q := q + 1) (by omega)
  have e2 := pt_stp (m := m) h
  rw [e1, e2]
  generalize sumL m.toNat (p.take q) = S
  generalize pt m p q = P
  generalize stp m p q = T
  simp only [V.add, V.sm, V.mk.injEq]
  have e : ((p.length : Int) - ((q + 1 : Nat) : Int)) = ((p.length : Int) - (q : Int)) - 1 := by omega
  rw [e]
  generalize ((p.length : Int) - (q : Int)) = K
  constructor
  · rw [Int.sub_mul, Int.mul_add]; omega
  · rw [Int.sub_mul, Int.mul_add]; omega
theorem wsAt_all (m : Int) (p : List Int) : wsAt m p p.length = sumL m.toNat p := by
  unfold wsAt
  rw [List.take_length, Int.sub_self]
  simp [V.sm, V.add]
theorem wsAt_wi {m : Int} {p : List Int} (hl : p.length ≤ 12) (hF : Forces 99 p) (q : Nat) (hq : q ≤ p.length) : Wi 60000 (wsAt m p q) := by
  have h1 := totAt_wi hl hF (q + 1) (by omega) (m := m)
  have h2 := pt_wi hl hF q (m := m)
  have hk : -12 ≤ ((p.length : Int) - q) ∧ ((p.length : Int) - q) ≤ 12 := by omega
  have b1 := mul_bd (a := (p.length : Int) - q) (b := (pt m p q).x) (A := 12) (B := 2000) (by decide) hk ⟨h2.1, h2.2.1⟩
  have b2 := mul_bd (a := (p.length : Int) - q) (b := (pt m p q).y) (A := 12) (B := 2000) (by decide) hk ⟨h2.2.2.1, h2.2.2.2⟩
  have e : totAt m p (q + 1) = sumL m.toNat (p.take q) := rfl
  rw [e] at h1
  unfold wsAt
  generalize sumL m.toNat (p.take q) = S at *
  unfold Wi V.add V.sm at *
  dsimp only
  omega

set_option maxHeartbeats 1000000 in
theorem rsum (p : List Int) (m : Int) (hl : p.length ≤ 12) (hF : Forces 99 p) (hm : 0 ≤ m) (hm' : m ≤ 3) (A : Option Addr) (c : Nat) (w : World) (B : Nat) (hB : B ≤ w.heap.size) (hr : Rd w B 1 A p.length (ints p)) :
    Calls Try.prog 61 #[.slice A p.length c, .int .i64 m] w fun e w' => e = .returned (vV (sumL m.toNat p)) ∧ Below w.heap.size w w' := by
  have hn1 := blk_alloc (blk_new w 29 #[.int .i64 0, .int .i64 0]) (.cells #[.int .i64 0, .int .i64 0] 29)
  have hn2 := blk_new (w.alloc (.cells #[.int .i64 0, .int .i64 0] 29)) 29 #[.int .i64 0, .int .i64 0]
  rw [World.size_alloc] at hn2
  have HN := Lib.hid (And.intro hn1 hn2)
  have HB0 := Lib.hid (((Below.refl w.heap.size w).alloc (Nat.le_refl _) (.cells #[.int .i64 0, .int .i64 0] 29)).alloc (by simp) (.cells #[.int .i64 0, .int .i64 0] 29))
  have HST := Lib.hid (rsteps p m hl hF hm hm' A c ((w.alloc (.cells #[.int .i64 0, .int .i64 0] 29)).alloc (.cells #[.int .i64 0, .int .i64 0] 29)) B (by simp; omega) ((hr.alloc hB _).alloc (by simp; omega) _))
  clear hn1 hn2
  go_enter Try.func61, Try.ntmps61
  go_wp2_with fail
  refine HST.out.mono ?_
  rintro e w1 ⟨v1, rfl, hown, hb1⟩
  simp only [World.size_alloc] at hown hb1
  obtain ⟨Av, cv, rfl, hcv, hcv'⟩ := own_cap hown
  have g1 := blk_below HN.out.1 hb1 (by omega)
  have g2 := blk_below HN.out.2 hb1 (by omega)
  have HG := Lib.hid (And.intro g1 (And.intro g2 (And.intro hown (HB0.out.trans (hb1.mono (by omega))))))
  clear g1 g2 hown hb1 HST HB0 HN
  go_wp2
  go_loopw [7] (fun i wr => ∃ q : Nat, i = .int .i64 q ∧ q ≤ p.length ∧ wr.heap[w.heap.size]? = some (.cells #[.int .i64 0, .int .i64 0] 29 (0, 0)) ∧ wr.heap[w.heap.size + 1]? = some (.cells #[.int .i64 (wsAt m p q).x, .int .i64 (wsAt m p q).y] 29 (0, 0)) ∧
    wr.ownsRow (w.heap.size + 1 + 1) 29 2 (.slice Av p.length cv) p.length (ptCells (stps m p p.length)) ∧ Below w.heap.size w wr) (fun i _ => p.length - (intOf i).toNat)
  case atStart => exact ⟨0, rfl, Nat.zero_le _, HG.out.1, by rw [wsAt_zero]; exact HG.out.2.1, HG.out.2.2.1, HG.out.2.2.2⟩
  case round =>
    clear HG
    obtain ⟨q, rfl, hq, h1, h2, hown, hb⟩ := hrel
    by_cases hlt : q < p.length
    · obtain ⟨b, off, rfl, hbb, k1, k2⟩ := own_pt hown (stps_len m p p.length) (show q < (stps m p p.length).length by rw [stps_len]; exact hlt)
      rw [stps_get] at k1 k2
      have hsu := stp_wi hF q (m := m)
      have hwu := wsAt_wi hl hF q hq (m := m)
      have HPT := Lib.hid (wsAt_succ (m := m) hlt)
      obtain ⟨s, hs⟩ : ∃ s, s = stp m p q := ⟨_, rfl⟩
      rw [← hs] at k1 k2 hsu HPT
      clear hs
      obtain ⟨u, hu⟩ : ∃ u, u = wsAt m p q := ⟨_, rfl⟩
      rw [← hu] at h2 hwu HPT
      clear hu
      have c1 : wr.cell? ⟨w.heap.size + 1, 0, none⟩ = some (.int .i64 u.x) := blk_cell h2 0
      have c2 : wr.cell? ⟨w.heap.size + 1, 1, none⟩ = some (.int .i64 u.y) := blk_cell h2 1
      have L1 : w.heap.size + 1 < wr.heap.size := blk_lt h2
      have L0 : w.heap.size < wr.heap.size := by omega
      have HH := Lib.hid (And.intro h1 (And.intro h2 (And.intro hown hb)))
      clear h1 h2 hown hb
      have hk1 : 0 ≤ (p.length : Int) - q ∧ (p.length : Int) - q ≤ 12 := by omega
      have b1 := mul_bd (a := (p.length : Int) - q) (b := s.x) (A := 12) (B := 99) (by decide) ⟨by omega, hk1.2⟩ ⟨hsu.1, hsu.2.1⟩
      have b2 := mul_bd (a := (p.length : Int) - q) (b := s.y) (A := 12) (B := 99) (by decide) ⟨by omega, hk1.2⟩ ⟨hsu.2.2.1, hsu.2.2.2⟩
      have hwm : Wi 1000000 (s.sm ((p.length : Int) - q)) := by unfold Wi V.sm; dsimp only; omega
      go_wp2
      have mc := cell_mergeW wr
      have mf := frozen_mergeW wr
      refine wp_region_btail 17 (by kernel_rfl) (by kernel_rfl) ?_
      simp only [List.take_succ_cons, List.take_zero, List.drop_succ_cons, List.drop_zero]
      repeat (go_big_quiet_step (first | (go_at_call 95; refine (rplus u (s.sm ((p.length : Int) - q)) (hwu.mono (by decide)) hwm _).mono ?_; rintro e w3 ⟨rfl, hb3⟩; exact ⟨rfl, in_mergeW hb3⟩)))
      refine wpQuiet_nil ?_
      rintro w4 ⟨s4, hs4⟩
      have hb3 := below_mergeW wr s4
      rw [← hs4] at hb3
      clear hs4 mc mf
      obtain ⟨h1, h2, hown, hb⟩ := HH.out
      have x1 := blk_below h1 hb3 L0
      have x2 := blk_below h2 hb3 L1
      have x3 := own_below hown hb3
      have d1 : w4.cell? ⟨w.heap.size + 1, 0, none⟩ = some (.int .i64 u.x) := blk_cell x2 0
      have d2 : w4.cell? ⟨w.heap.size + 1, 1, none⟩ = some (.int .i64 u.y) := blk_cell x2 1
      have f1 := blk_frozen x2 0
      have f2 := blk_frozen x2 1
      obtain ⟨r, hr⟩ : ∃ r, r = u.add (s.sm ((p.length : Int) - q)) := ⟨_, rfl⟩
      rw [← hr] at HPT ⊢
      clear hr
      have v1 := blk_far (blk_far x1 (p := ⟨w.heap.size + 1, 0, none⟩) (by simp) (.int .i64 r.x)) (p := ⟨w.heap.size + 1, 1, none⟩) (by simp) (.int .i64 r.y)
      have v2 := blk_set (blk_set x2 0 (.int .i64 r.x)) 1 (.int .i64 r.y)
      have v3 := own_set_far (own_set_far x3 (p := ⟨w.heap.size + 1, 0, none⟩) (by simp) (.int .i64 r.x)) (p := ⟨w.heap.size + 1, 1, none⟩) (by simp) (.int .i64 r.y)
      have v4 := ((hb.trans (hb3.mono hb.size)).setCell (p := ⟨w.heap.size + 1, 0, none⟩) (by simp) (.int .i64 r.x)).setCell (p := ⟨w.heap.size + 1, 1, none⟩) (by simp) (.int .i64 r.y)
      have V := Lib.hid (And.intro v1 (And.intro v2 (And.intro v3 v4)))
      clear v1 v2 v3 v4 x1 x2 x3 h1 h2 hown hb hb3 c1 c2 k1 k2
      go_wp2
      go_roundw
      case rel => exact ⟨q + 1, by go_num, by omega, V.out.1, by rw [HPT.out]; exact V.out.2.1, V.out.2.2.1, V.out.2.2.2⟩
      case measure => simp [intOf]; omega
    · obtain rfl : q = p.length := by omega
      have hall := wsAt_all m p
      rw [hall] at h2
      obtain ⟨u, hu⟩ : ∃ u, u = sumL m.toNat p := ⟨_, rfl⟩
      rw [← hu] at h2
      have HU := Lib.hid hu
      clear hu hall
      have c1 : wr.cell? ⟨w.heap.size + 1, 0, none⟩ = some (.int .i64 u.x) := blk_cell h2 0
      have c2 : wr.cell? ⟨w.heap.size + 1, 1, none⟩ = some (.int .i64 u.y) := blk_cell h2 1
      have c3 : wr.cell? ⟨w.heap.size, 0, none⟩ = some (.int .i64 0) := blk_cell h1 0
      have c4 : wr.cell? ⟨w.heap.size, 1, none⟩ = some (.int .i64 0) := blk_cell h1 1
      have f1 := blk_frozen h1 0
      have f2 := blk_frozen h1 1
      have v1 := blk_set (blk_set h1 0 (.int .i64 u.x)) 1 (.int .i64 u.y)
      have v4 := (hb.setCell (p := ⟨w.heap.size, 0, none⟩) (Nat.le_refl _) (.int .i64 u.x)).setCell (p := ⟨w.heap.size, 1, none⟩) (Nat.le_refl _) (.int .i64 u.y)
      have V := Lib.hid (And.intro v1 v4)
      clear v1 v4 h1 h2 hown hb
      go_wp2
      have r0 := blk_cell V.out.1 0
      have r1 := blk_cell V.out.1 1
      exact bodyPost_ret (v := vV u) (by simp [results, Try.results61, go_sem, r0, r1]) rfl ⟨by rw [HU.out], V.out.2⟩
end Go.Proofs.Ytnoocdannfeidaa
