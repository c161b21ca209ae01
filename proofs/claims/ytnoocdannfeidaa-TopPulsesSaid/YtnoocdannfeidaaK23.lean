/-
  MERGED: W45.
-/
import Derived.Test.YtnoocdannfeidaaK22
import Derived.Test.YtnoocdannfeidaaK12
/-
  WALK: Find.
-/
namespace Go.Proofs.Ytnoocdannfeidaa
open Go.RowKit Pulse

def okP (ms : List Int) (a : Int) (p : List Int) : Bool := shut p ms && (areaL (hd0 ms) p == a)
def findO (ms : List Int) (n f a : Int) : Option (List Int) := if srchE ms n f = 0 then (allP f.toNat n.toNat).find? (okP ms a) else none
def findL (ms : List Int) (n f a : Int) : List Int := (findO ms n f a).getD []
def findIs (ms : List Int) (n f a : Int) : Bool := (findO ms n f a).isSome

def But2 (b c : Nat) (h : Nat) (_ : Obj) : Prop := h ≠ b ∧ h ≠ c

set_option maxRecDepth 100000 in
set_option maxHeartbeats 1000000 in
theorem findFn (A : Option Addr) (c : Nat) (p ms : List Int) (x : Int) (A' : Option Addr) (k' c' b4 b5 b12 b13 : Nat) (w : World) (hp : p.length ≤ 6) (hF : Forces 2 p) (hms : ∀ m ∈ ms, 0 ≤ m ∧ m ≤ 3) (hne : 0 < ms.length)
    (hr : Rd w w.heap.size 1 A p.length (ints p)) (hr' : Rd w w.heap.size 1 A' k' (ints ms)) (h4 : w.heap[b4]? = some (.cells #[.slice A' k' c'] 22 (0, 0))) (h5 : w.heap[b5]? = some (.cells #[.int .i64 x] 3 (0, 0)))
    (h12 : w.heap[b12]? = some (.cells #[.slice none 0 0] 22 (0, 0))) (h13 : w.heap[b13]? = some (.cells #[.bool false] 4 (0, 0))) (hne2 : b12 ≠ b13) :
    Calls Try.prog 80 #[.slice A p.length c, .pointer (some ⟨b4, 0, none⟩), .pointer (some ⟨b5, 0, none⟩), .pointer (some ⟨b12, 0, none⟩), .pointer (some ⟨b13, 0, none⟩)] w fun e w' =>
      if areaL (hd0 ms) p = x then e = .returned (.bool false) ∧ w'.heap[b13]? = some (.cells #[.bool true] 4 (0, 0)) ∧ (∃ v, w'.heap[b12]? = some (.cells #[v] 22 (0, 0)) ∧ w'.ownsRow w.heap.size 3 1 v p.length (ints p)) ∧ Fix (But2 b12 b13) w w'
      else e = .returned (.bool true) ∧ Below w.heap.size w w' := by
  obtain ⟨b', off', rfl, hbb', hm0⟩ := hr'.int hne
  have hk' : 0 < k' := by rw [hr'.int_len]; exact hne
  rw [Nat.add_zero] at hm0
  have hin := hms ms[0] (List.getElem_mem hne)
  have hhd : hd0 ms = ms[0].toNat := by simp [hd0, hne]
  have HA := Lib.hid (fun s => pArea p ms[0] (by omega) (fun f hf => by have := hF f hf; omega) hin.1 hin.2 A c (mergeW w s) w.heap.size (below_mergeW w s).size (hr.below (below_mergeW w s)))
  rw [← hhd] at HA
  have l4 := blk_lt h4
  have l5 := blk_lt h5
  have l12 := blk_lt h12
  have l13 := blk_lt h13
  have c4 : w.cell? ⟨b4, 0, none⟩ = some (.slice (some ⟨b', off', none⟩) k' c') := blk_cell h4 0
  have c5 : w.cell? ⟨b5, 0, none⟩ = some (.int .i64 x) := blk_cell h5 0
  have HH := Lib.hid (And.intro h12 (And.intro h13 hr))
  have hbd := area_bd1000 (m := hd0 ms) hp hF
  obtain ⟨a, ha⟩ : ∃ a, a = areaL (hd0 ms) p := ⟨_, rfl⟩
  rw [← ha] at HA hbd ⊢
  obtain ⟨m0, hm⟩ : ∃ m0, m0 = ms[0] := ⟨_, rfl⟩
  rw [← hm] at hm0 HA
  clear ha hm h4 h5 h12 h13 hhd hin
  have mc := cell_mergeW w
  have mf := frozen_mergeW w
  by_cases hax : a = x
  · have hd : (a == x) = true := by simpa using hax
    simp only [if_pos hax]
    clear hax
    go_enter Try.func80, Try.ntmps80
    go_wp2
    refine wp_region_btail 6 (by kernel_rfl) (by kernel_rfl) ?_
    simp only [List.take_succ_cons, List.take_zero, List.drop_succ_cons, List.drop_zero]
    repeat (go_big_quiet_step (first | (go_at_call 57; refine (HA.out _).mono ?_; rintro e w4 ⟨rfl, hb4⟩; exact ⟨rfl, in_mergeW hb4⟩)))
    refine wpQuiet_nil ?_
    rintro w4 ⟨s4, hs4⟩
    have hb4 := below_mergeW w s4
    rw [← hs4] at hb4
    clear hs4 mc mf HA
    have s4 := hb4.size
    have HCL := Lib.hid (pClone A p.length c p w4 (by omega) w.heap.size s4 (HH.out.2.2.below hb4))
    have HB4 := Lib.hid hb4
    clear hb4 c4 c5 hm0
    go_wp2_with fail
    refine HCL.out.mono ?_
    rintro e w5 ⟨v5, rfl, hown5, hb5⟩
    obtain ⟨A5, c5, rfl, _, _⟩ := own_cap hown5
    have s5 := hb5.size
    have x12 := blk_below (blk_below HH.out.1 HB4.out l12) hb5 (by omega)
    have x13 := blk_below (blk_below HH.out.2.1 HB4.out l13) hb5 (by omega)
    have d12 : w5.cell? ⟨b12, 0, none⟩ = some (.slice none 0 0) := blk_cell x12 0
    have f12 := blk_frozen x12 0
    have y13 := blk_far x13 (p := ⟨b12, 0, none⟩) (by simp only []; omega) (.slice A5 p.length c5)
    have d13 : w5.cell? ⟨b13, 0, none⟩ = some (.bool false) := blk_cell x13 0
    have f13 := blk_frozen x13 0
    have y12 := blk_set x12 0 (.slice A5 p.length c5)
    have z12 := blk_far y12 (p := ⟨b13, 0, none⟩) (by simp only []; omega) (.bool true)
    have z13 := blk_set y13 0 (.bool true)
    have zown := own_set_far (own_set_far hown5 (p := ⟨b12, 0, none⟩) (by simp only []; omega) (.slice A5 p.length c5)) (p := ⟨b13, 0, none⟩) (by simp only []; omega) (.bool true)
    have zf : Fix (But2 b12 b13) w ((w5.setCell ⟨b12, 0, none⟩ (.slice A5 p.length c5)).setCell ⟨b13, 0, none⟩ (.bool true)) :=
      ((Fix.of_below HB4.out (Nat.le_refl _)).trans (Fix.of_below hb5 (Nat.le_refl _))).trans ((Fix.setCell (p := ⟨b12, 0, none⟩) _ x12 (fun h => h.1 rfl)).trans (Fix.setCell (p := ⟨b13, 0, none⟩) _ y13 (fun h => h.2 rfl)))
    have e13 : ((w5.setCell ⟨b12, 0, none⟩ (.slice A5 p.length c5)).setCell ⟨b13, 0, none⟩ (.bool true)).cell? ⟨b13, 0, none⟩ = some (.bool true) := blk_cell z13 0
    have Z := Lib.hid (And.intro z12 (And.intro z13 (And.intro (own_base zown s4) zf)))
    clear x12 x13 y12 y13 z12 z13 zown zf hown5 hb5
    go_wp2
    go_ret
    exact ⟨rfl, by simpa using Z.out.2.1, ⟨_, by simpa using Z.out.1, Z.out.2.2.1⟩, Z.out.2.2.2⟩
  · have hd : (a == x) = false := by simpa using hax
    simp only [if_neg hax]
    clear hax
    go_enter Try.func80, Try.ntmps80
    go_wp2
    refine wp_region_btail 6 (by kernel_rfl) (by kernel_rfl) ?_
    simp only [List.take_succ_cons, List.take_zero, List.drop_succ_cons, List.drop_zero]
    repeat (go_big_quiet_step (first | (go_at_call 57; refine (HA.out _).mono ?_; rintro e w4 ⟨rfl, hb4⟩; exact ⟨rfl, in_mergeW hb4⟩)))
    refine wpQuiet_nil ?_
    rintro w4 ⟨s4, hs4⟩
    have hb4 := below_mergeW w s4
    rw [← hs4] at hb4
    clear hs4 mc mf HA
    have s4 := hb4.size
    have x13 := blk_below HH.out.2.1 hb4 l13
    have d13 : w4.cell? ⟨b13, 0, none⟩ = some (.bool false) := blk_cell x13 0
    clear c4 c5 hm0 x13
    go_wp2
    go_ret
    exact ⟨rfl, hb4⟩

theorem find_at {ms : List Int} {a : Int} {L : List (List Int)} {k : Nat} {p : List Int} (hk : L[k]? = some p) (hp : okP ms a p = true) (hno : ∀ j q, j < k → L[j]? = some q → okP ms a q = false) : L.find? (okP ms a) = some p := by
  obtain ⟨h1, h2⟩ := List.getElem?_eq_some_iff.1 hk
  rw [List.find?_eq_some_iff_getElem]
  refine ⟨hp, k, h1, h2, fun j hj => ?_⟩
  rw [hno j _ hj (List.getElem?_eq_getElem (by omega))]; rfl
theorem find_no {ms : List Int} {a : Int} {L : List (List Int)} (hno : ∀ j q, j < L.length → L[j]? = some q → okP ms a q = false) : L.find? (okP ms a) = none := by
  rw [List.find?_eq_none]
  intro p hp
  obtain ⟨j, hj, rfl⟩ := List.getElem_of_mem hp
  rw [hno j _ hj (List.getElem?_eq_getElem hj)]; decide

def FiJ (ms : List Int) (x : Int) (F n : Nat) (w0 : World) (A' : Option Addr) (k' c' b4 b5 b12 b13 : Nat) (k : Nat) (W : World) : Prop :=
  Below w0.heap.size w0 W ∧ W.heap[b4]? = some (.cells #[.slice A' k' c'] 22 (0, 0)) ∧ W.heap[b5]? = some (.cells #[.int .i64 x] 3 (0, 0)) ∧ W.heap[b12]? = some (.cells #[.slice none 0 0] 22 (0, 0)) ∧ W.heap[b13]? = some (.cells #[.bool false] 4 (0, 0)) ∧
    ∀ j p, j < k → (allP F n)[j]? = some p → okP ms x p = false
def FiX (ms : List Int) (x : Int) (F n : Nat) (w0 : World) (b12 b13 : Nat) (_ : Nat) (W : World) : Prop :=
  Below w0.heap.size w0 W ∧ W.heap[b13]? = some (.cells #[.bool true] 4 (0, 0)) ∧ ∃ v p, W.heap[b12]? = some (.cells #[v] 22 (0, 0)) ∧ W.ownsRow w0.heap.size 3 1 v p.length (ints p) ∧ (allP F n).find? (okP ms x) = some p

set_option maxHeartbeats 1000000 in
theorem fiSearch (ms : List Int) (x : Int) (A' : Option Addr) (k' c' n F : Nat) (hn : n ≤ 6) (hF : F ≤ 2) (hms : ∀ m ∈ ms, 0 ≤ m ∧ m ≤ 3) (hml : ms.length ≤ 1000) (hne : 0 < ms.length) (w0 w : World) (h0 : Below w0.heap.size w0 w) (B : Nat) (hB : B ≤ w0.heap.size) (hr : Rd w0 B 1 A' k' (ints ms))
    (b4 b5 b12 b13 : Nat) (h4 : w.heap[b4]? = some (.cells #[.slice A' k' c'] 22 (0, 0))) (h5 : w.heap[b5]? = some (.cells #[.int .i64 x] 3 (0, 0))) (h12 : w.heap[b12]? = some (.cells #[.slice none 0 0] 22 (0, 0))) (h13 : w.heap[b13]? = some (.cells #[.bool false] 4 (0, 0)))
    (hne2 : b12 ≠ b13) (hl12 : w0.heap.size ≤ b12) (hl13 : w0.heap.size ≤ b13) :
    Calls Try.prog 64 #[.slice A' k' c', .int .i64 n, .int .i64 F, .func (.func 80) #[] #[.pointer (some ⟨b4, 0, none⟩), .pointer (some ⟨b5, 0, none⟩), .pointer (some ⟨b12, 0, none⟩), .pointer (some ⟨b13, 0, none⟩)]] w fun e W' =>
      (∃ v, e = .returned v) ∧ ((FiJ ms x F n w0 A' k' c' b4 b5 b12 b13 (allP F n).length W') ∨ FiX ms x F n w0 b12 b13 0 W') := by
  have hs := h0.size
  have l4 := blk_lt h4
  have l5 := blk_lt h5
  have l12 := blk_lt h12
  have l13 := blk_lt h13
  refine (pSearch ms A' k' c' n F hn (by omega) hms hml 80 Try.call80 #[.pointer (some ⟨b4, 0, none⟩), .pointer (some ⟨b5, 0, none⟩), .pointer (some ⟨b12, 0, none⟩), .pointer (some ⟨b13, 0, none⟩)] w B (by omega)
    (FiJ ms x F n w0 A' k' c' b4 b5 b12 b13) (FiX ms x F n w0 b12 b13) ?_ ?_ ?_ ?_ ?_).mono ?_
  · intro W hb
    exact ⟨h0.trans (hb.mono hs), blk_below h4 hb l4, blk_below h5 hb l5, blk_below h12 hb l12, blk_below h13 hb l13, fun j p hj => absurd hj (by omega)⟩
  · rintro k W W' ⟨h1, g4, g5, g12, g13, hno⟩ hf
    exact ⟨hf.frame h1 (fun g _ hg => by unfold But; omega) (Nat.le_refl _), hf.keep _ _ (by unfold But; omega) g4, hf.keep _ _ (by unfold But; omega) g5, hf.keep _ _ (by unfold But; omega) g12, hf.keep _ _ (by unfold But; omega) g13, hno⟩
  · rintro k W ⟨h1, _⟩
    exact hr.below' h1 hB
  · rintro k W p hk hsh ⟨h1, g4, g5, g12, g13, hno⟩
    refine ⟨h1, g4, g5, g12, g13, fun j q hj hq => ?_⟩
    rcases Nat.lt_or_ge j k with h | h
    · exact hno j q h hq
    · obtain rfl : j = k := by omega
      rw [hk] at hq
      injection hq with hq
      rw [← hq, okP, hsh]; rfl
  · rintro k W p hk hsh ⟨h1, g4, g5, g12, g13, hno⟩ hrow
    have hpm := mem_allP.1 (List.mem_of_getElem? hk)
    have hgs := blk_lt hrow
    have hrp : Rd W W.heap.size 1 (some ⟨w.heap.size + 1, 0, none⟩) p.length (ints p) := by
      have := rd_lit (sz := 1) (n := p.length) hrow (by simp)
      simpa using this.more (by omega)
    have H := findFn (some ⟨w.heap.size + 1, 0, none⟩) n p ms x A' k' c' b4 b5 b12 b13 W (by rw [hpm.1]; omega) (fun f hf => by have := hpm.2 f hf; omega) hms hne hrp ((hr.below' h1 hB).more (by have := h1.size; omega)) g4 g5 g12 g13 hne2
    rw [hpm.1] at H
    refine H.mono ?_
    intro e W' he
    by_cases ha : areaL (hd0 ms) p = x
    · rw [if_pos ha] at he
      obtain ⟨rfl, q1, ⟨v, q2, q3⟩, q4⟩ := he
      refine ⟨.inr ⟨rfl, q4.frame h1 (fun g _ hg => ⟨by omega, by omega⟩) (Nat.le_refl _), q1, v, p, q2, ?_, find_at hk (by rw [okP, hsh, ha]; simp) hno⟩, q4.keep _ _ ⟨by omega, by omega⟩ hrow⟩
      rw [hpm.1]
      exact own_base q3 h1.size
    · rw [if_neg ha] at he
      obtain ⟨rfl, q1⟩ := he
      refine ⟨.inl ⟨rfl, h1.trans (q1.mono h1.size), blk_below g4 q1 (blk_lt g4), blk_below g5 q1 (blk_lt g5), blk_below g12 q1 (blk_lt g12), blk_below g13 q1 (blk_lt g13), fun j q hj hq => ?_⟩, blk_below hrow q1 hgs⟩
      rcases Nat.lt_or_ge j k with h | h
      · exact hno j q h hq
      · obtain rfl : j = k := by omega
        rw [hk] at hq
        injection hq with hq
        rw [← hq, okP, hsh]
        simpa using ha
  · rintro e W' ⟨he, h | ⟨k, hk, h⟩⟩
    · exact ⟨he, .inl h⟩
    · exact ⟨he, .inr h⟩

set_option maxRecDepth 100000 in
set_option maxHeartbeats 2000000 in
theorem pFind (A : Option Addr) (k c : Nat) (ms : List Int) (x n f : Int) (w : World) (hl : ms.length ≤ 1000) (B : Nat) (hB : B ≤ w.heap.size) (hr : Rd w B 1 A k (ints ms)) :
    Calls Try.prog 40 #[.slice A k c, .int .i64 x, .int .i64 n, .int .i64 f] w fun e w' => ∃ v, e = .returned (.tuple #[v, .bool (findIs ms n f x), .int .i64 (srchE ms n f)]) ∧ w'.ownsRow w.heap.size 3 1 v (findL ms n f x).length (ints (findL ms n f x)) ∧ Below w.heap.size w w' := by
  have hn0 := blk_alloc (blk_new w 22 #[.slice A k c]) (.cells #[.int .i64 x] 3)
  have hn1 := blk_new (w.alloc (.cells #[.slice A k c] 22)) 3 #[.int .i64 x]
  rw [World.size_alloc] at hn1
  have hr0 := (hr.alloc hB (.cells #[.slice A k c] 22)).alloc (by simp; omega) (.cells #[.int .i64 x] 3)
  have H := Lib.hid (pSearched A k c ms n f ((w.alloc (.cells #[.slice A k c] 22)).alloc (.cells #[.int .i64 x] 3)) hl B (by simp; omega) hr0)
  have HN0 := Lib.hid (And.intro hn0 hn1)
  have HB0 := Lib.hid (((Below.refl w.heap.size w).alloc (Nat.le_refl _) (.cells #[.slice A k c] 22)).alloc (by simp) (.cells #[.int .i64 x] 3))
  have HO := Lib.hid (show findO ms n f x = if srchE ms n f = 0 then (allP f.toNat n.toNat).find? (okP ms x) else none from rfl)
  have HLL := Lib.hid (show findL ms n f x = (findO ms n f x).getD [] from rfl)
  have HII := Lib.hid (show findIs ms n f x = (findO ms n f x).isSome from rfl)
  clear hn0 hn1
  by_cases h : srchE ms n f = 0
  · obtain ⟨h1, n1, n2, h2, h3⟩ := srchE_ok h
    obtain ⟨h4, h5⟩ := areModes_ok h1
    have HM := Lib.hid h
    have HMS := Lib.hid h5
    rw [h] at H
    rw [if_pos h] at HO
    obtain ⟨F, rfl⟩ := Int.eq_ofNat_of_zero_le (show 0 ≤ f by omega)
    obtain ⟨N, rfl⟩ := Int.eq_ofNat_of_zero_le n1
    have HO2 := Lib.hid (show findO ms N F x = (allP F N).find? (okP ms x) from HO.out)
    clear h h1 h5 hr0 HO
    go_enter Try.func40, Try.ntmps40
    go_wp2_with fail
    refine H.out.mono ?_
    rintro e w1 ⟨rfl, hb1⟩
    simp only [World.size_alloc] at hb1
    have s1 := hb1.size
    simp only [World.size_alloc] at s1
    have x1 := blk_below HN0.out.1 hb1 (by omega)
    have x2 := blk_below HN0.out.2 hb1 (by omega)
    have B1 := HB0.out.trans (hb1.mono (by omega))
    have y1 := blk_alloc (blk_alloc x1 (.cells #[.slice none 0 0] 22)) (.cells #[.bool false] 4)
    have y2 := blk_alloc (blk_alloc x2 (.cells #[.slice none 0 0] 22)) (.cells #[.bool false] 4)
    have y3 := blk_alloc (blk_new w1 22 #[.slice none 0 0]) (.cells #[.bool false] 4)
    have y4 := blk_new (w1.alloc (.cells #[.slice none 0 0] 22)) 4 #[.bool false]
    rw [World.size_alloc] at y4
    have B2 := (B1.alloc B1.size (.cells #[.slice none 0 0] 22)).alloc (by simp; omega) (.cells #[.bool false] 4)
    have c0 : w1.cell? ⟨w.heap.size, 0, none⟩ = some (.slice A k c) := blk_cell x1 0
    have HY := Lib.hid (And.intro y1 (And.intro y2 (And.intro y3 (And.intro y4 B2))))
    have L1 : w.heap.size < w1.heap.size := by omega
    clear hb1 x1 x2 B1 y1 y2 y3 y4 B2
    go_wp2_with fail
    refine (fiSearch ms x A k c N F (by omega) (by omega) HMS.out hl h4 w _ HY.out.2.2.2.2 B hB hr w.heap.size (w.heap.size + 1) w1.heap.size (w1.heap.size + 1) HY.out.1 HY.out.2.1 HY.out.2.2.1 HY.out.2.2.2.1 (by omega) (by omega) (by omega)).mono ?_
    rintro e w2 ⟨⟨u, rfl⟩, ⟨q1, _, _, q4, q5, hno⟩ | ⟨q1, q2, v, p, q3, q4, q5⟩⟩
    · have d0 : w2.cell? ⟨w1.heap.size, 0, none⟩ = some (.slice none 0 0) := blk_cell q4 0
      have d1 : w2.cell? ⟨w1.heap.size + 1, 0, none⟩ = some (.bool false) := blk_cell q5 0
      have HFN := Lib.hid (find_no hno)
      clear q4 q5 hno
      go_wp2
      go_quiet (fail)
      go_wp2
      refine bodyPost_ret (results_tmp3 rfl _ _ _) rfl ?_
      exact ⟨_, ret_three rfl (by rw [HII.out, HO2.out, HFN.out]; rfl) (by rw [HM.out]; rfl), by rw [HLL.out, HO2.out, HFN.out]; exact World.ownsRow_nil .., below_drewN q1 nq⟩
    · obtain ⟨Av, cv, rfl, _, _⟩ := own_cap q4
      have d0 : w2.cell? ⟨w1.heap.size, 0, none⟩ = some (.slice Av p.length cv) := blk_cell q3 0
      have d1 : w2.cell? ⟨w1.heap.size + 1, 0, none⟩ = some (.bool true) := blk_cell q2 0
      have HFN := Lib.hid q5
      have HOW := Lib.hid q4
      clear q2 q3 q4 q5
      go_wp2
      go_quiet (fail)
      go_wp2
      refine bodyPost_ret (results_tmp3 rfl _ _ _) rfl ?_
      refine ⟨_, ret_three rfl (by rw [HII.out, HO2.out, HFN.out]; rfl) (by rw [HM.out]; rfl), ?_, below_drewN q1 nq⟩
      rw [HLL.out, HO2.out, HFN.out]
      exact own_keep HOW.out (fun g _ => rfl)
  · have hd : (srchE ms n f != 0) = true := by simpa using h
    rw [if_neg h] at HO
    rw [HO.out] at HLL HII
    clear h
    go_enter Try.func40, Try.ntmps40
    go_wp2_with fail
    refine H.out.mono ?_
    rintro e w1 ⟨rfl, hb1⟩
    simp only [World.size_alloc] at hb1
    go_wp2
    refine bodyPost_ret (results_tmp3 rfl _ _ _) rfl ?_
    exact ⟨_, ret_three rfl (by rw [HII.out]; rfl) rfl, by rw [HLL.out]; exact World.ownsRow_nil .., HB0.out.trans (hb1.mono (by omega))⟩
end Go.Proofs.Ytnoocdannfeidaa
