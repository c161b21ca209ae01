/-
  MERGED: W42, W43.
-/
import Derived.Shelf.Sort.Plain
import Derived.Shelf.Slices.In.SortNone
import Derived.Sort.OwnSortedInts
import Derived.Test.YtnoocdannfeidaaK22
import Derived.Test.YtnoocdannfeidaaK24
/-
  slices.Sort of ints: laid off the library's shelf by the kit's tools lay-shelf and lay-plain (the rows of slices.Sort alone).
-/
namespace Go.Proofs.Ytnoocdannfeidaa
open Go.Shelf Go.Sort Go.RowKit
def lays189_ren : Go.Shelf.Ren := ⟨fun | 189 => 90 | 125 => 104 | 257 => 103 | 128 => 116 | 129 => 117 | 294 => 107 | 295 => 108 | 296 => 109 | 297 => 110 | 298 => 111 | 299 => 112 | 216 => 113 | 300 => 114 | 301 => 115 | 328 => 120 | 329 => 121 | 330 => 122 | 331 => 123 | 332 => 124 | 215 => 125 | 343 => 126 | n => n, fun | 28 => 22 | 3 => 3 | 46 => 91 | 0 => 0 | 51 => 103 | 53 => 105 | 4 => 4 | 183 => 96 | 182 => 95 | 131 => 100 | 5 => 5 | 9 => 9 | 218 => 110 | 222 => 114 | 228 => 116 | 229 => 117 | n => n, fun | n => n⟩
theorem lays189 : Lays.n189 Try.prog lays189_ren := {
  mixed := by kernel_rfl
  f125 := Try.func104.trans (congrArg some (by kernel_rfl))
  f128 := Try.func116.trans (congrArg some (by kernel_rfl))
  f129 := Try.func117.trans (congrArg some (by kernel_rfl))
  f189 := Try.func90.trans (congrArg some (by kernel_rfl))
  f215 := Try.func125.trans (congrArg some (by kernel_rfl))
  f216 := Try.func113.trans (congrArg some (by kernel_rfl))
  f257 := Try.func103.trans (congrArg some (by kernel_rfl))
  f294 := Try.func107.trans (congrArg some (by kernel_rfl))
  f295 := Try.func108.trans (congrArg some (by kernel_rfl))
  f296 := Try.func109.trans (congrArg some (by kernel_rfl))
  f297 := Try.func110.trans (congrArg some (by kernel_rfl))
  f298 := Try.func111.trans (congrArg some (by kernel_rfl))
  f299 := Try.func112.trans (congrArg some (by kernel_rfl))
  f300 := Try.func114.trans (congrArg some (by kernel_rfl))
  f301 := Try.func115.trans (congrArg some (by kernel_rfl))
  f328 := Try.func120.trans (congrArg some (by kernel_rfl))
  f329 := Try.func121.trans (congrArg some (by kernel_rfl))
  f330 := Try.func122.trans (congrArg some (by kernel_rfl))
  f331 := Try.func123.trans (congrArg some (by kernel_rfl))
  f332 := Try.func124.trans (congrArg some (by kernel_rfl))
  f343 := Try.func126.trans (congrArg some (by kernel_rfl))
  t0 := Try.underlying0
  a0 := Try.isAgg0
  z0 := Try.sizeOf0
  v0 := Try.zeroValue0
  t3 := Try.underlying3
  a3 := Try.isAgg3
  z3 := Try.sizeOf3
  v3 := Try.zeroValue3
  t4 := Try.underlying4
  a4 := Try.isAgg4
  z4 := Try.sizeOf4
  v4 := Try.zeroValue4
  t5 := Try.underlying5
  a5 := Try.isAgg5
  z5 := Try.sizeOf5
  v5 := Try.zeroValue5
  t9 := Try.underlying9
  a9 := Try.isAgg9
  z9 := Try.sizeOf9
  v9 := Try.zeroValue9
  t28 := Try.underlying22
  a28 := Try.isAgg22
  z28 := Try.sizeOf22
  v28 := Try.zeroValue22
  t46 := Try.underlying91
  a46 := Try.isAgg91
  z46 := Try.sizeOf91
  v46 := Try.zeroValue91
  t51 := Try.underlying103
  a51 := Try.isAgg103
  z51 := Try.sizeOf103
  v51 := Try.zeroValue103
  t53 := Try.underlying105
  a53 := Try.isAgg105
  z53 := Try.sizeOf105
  v53 := Try.zeroValue105
  t131 := Try.underlying100
  a131 := Try.isAgg100
  z131 := Try.sizeOf100
  v131 := Try.zeroValue100
  t182 := Try.underlying95
  a182 := Try.isAgg95
  z182 := Try.sizeOf95
  v182 := Try.zeroValue95
  t183 := Try.underlying96
  a183 := Try.isAgg96
  z183 := Try.sizeOf96
  v183 := Try.zeroValue96
  t218 := Try.underlying110
  a218 := Try.isAgg110
  z218 := Try.sizeOf110
  v218 := Try.zeroValue110
  t222 := Try.underlying114
  a222 := Try.isAgg114
  z222 := Try.sizeOf114
  v222 := Try.zeroValue114
  t228 := Try.underlying116
  a228 := Try.isAgg116
  z228 := Try.sizeOf116
  v228 := Try.zeroValue116
  t229 := Try.underlying117
  a229 := Try.isAgg117
  z229 := Try.sizeOf117
  v229 := Try.zeroValue117 }

theorem sortI (blk off cap : Nat) (zs : List Int) (w : World) (hH : Holds (Value.int .i64) w blk off zs.toArray) (hblk : blk < w.heap.size) (hsz : zs.length < 4611686018427387904) :
    Calls Try.prog 90 #[.slice (some ⟨blk, off, none⟩) zs.length cap] w fun e w' =>
      e = .returned (.tuple #[]) ∧ ∃ n os, w' = grow (putRow (Value.int .i64) (Sort.ahead w n) blk off (zs.mergeSort fun x y => decide (x ≤ y)).toArray) os := Any.slices_Sort_int lays189 blk off cap zs w hH hblk hsz
theorem sortI_none (p : Option Addr) (cap : Nat) (w : World) :
    Calls Try.prog 90 #[.slice p 0 cap] w fun e w' => e = .returned (.tuple #[]) ∧ w' = w := Any.slices_Sort_int_none lays189 p cap w

/-- A row of the call's own, sorted. -/
theorem pSort (v : Value) (l : List Int) (base : Nat) (w : World) (hl : l.length ≤ 100000) (hown : w.ownsRow base 3 1 v l.length (ints l)) :
    Calls Try.prog 90 #[v] w fun e w' => e = .returned (.tuple #[]) ∧ w'.ownsRow base 3 1 v l.length (ints (l.mergeSort fun x y => decide (x ≤ y))) ∧ w.grownBy w' v.ownBlock := by
  rcases hown.2 with ⟨rfl, h0⟩ | ⟨g, cap, cur, rfl, hg, hh, h1, h2, h3, h4⟩
  · have hl0 : l = [] := by simpa [ints] using h0
    subst hl0
    refine (sortI_none none 0 w).mono ?_
    rintro e w' ⟨rfl, rfl⟩
    exact ⟨rfl, by simpa using hown, World.grownBy.refl _ _⟩
  · refine (sortI g 0 cap l w (holds_of_blockI hh (by simpa [ints] using h4)) (blk_lt hh) (by omega)).mono ?_
    rintro e w' ⟨rfl, n, os, rfl⟩
    refine ⟨rfl, ?_, grownBy_sortedI _⟩
    exact ownsRow_sortedI (by simp) hg hh h1 h2 h3
end Go.Proofs.Ytnoocdannfeidaa

/-
  WALK: Areas.
-/
namespace Go.Proofs.Ytnoocdannfeidaa
open Go.RowKit Pulse

/-- Some closed pulse of length n has the area a. -/
def hasA (ms : List Int) (F n : Nat) (a : Int) : Bool := (allP F n).any fun p => shut p ms && (areaL (hd0 ms) p == a)
def areasTo (ms : List Int) (F n k : Nat) : List Int := ((List.range k).map fun (i : Nat) => (i : Int) - 1000).filter (hasA ms F n)
def areasL (ms : List Int) (n f : Int) : List Int := if srchE ms n f = 0 then areasTo ms f.toNat n.toNat 2001 else []

theorem lt_eq : ∀ {l m : List Int}, l.Pairwise (· < ·) → m.Pairwise (· < ·) → (∀ a, a ∈ l ↔ a ∈ m) → l = m
  | [], m, _, _, h => by
    cases m with
    | nil => rfl
    | cons b m => exact absurd ((h b).2 (by simp)) (by simp)
  | a :: l, m, hl, hm, h => by
    cases m with
    | nil => exact absurd ((h a).1 (by simp)) (by simp)
    | cons b m =>
      have h1 := List.pairwise_cons.1 hl
      have h2 := List.pairwise_cons.1 hm
      have e : a = b := by
        rcases List.mem_cons.1 ((h a).1 (by simp)) with e | e
        · exact e
        · rcases List.mem_cons.1 ((h b).2 (by simp)) with e' | e'
          · exact e'.symm
          · have := h1.1 b e'
            have := h2.1 a e
            omega
      subst e
      rw [lt_eq h1.2 h2.2 (fun x => ?_)]
      constructor
      · intro hx
        have := h1.1 x hx
        rcases List.mem_cons.1 ((h x).1 (by simp [hx])) with e | e
        · omega
        · exact e
      · intro hx
        have := h2.1 x hx
        rcases List.mem_cons.1 ((h x).2 (by simp [hx])) with e | e
        · omega
        · exact e
theorem areasTo_lt (ms : List Int) (F n k : Nat) : (areasTo ms F n k).Pairwise (· < ·) := by
  unfold areasTo
  refine List.Pairwise.filter _ ?_
  rw [List.pairwise_map]
  refine List.Pairwise.imp ?_ (List.pairwise_lt_range (n := k))
  intro a b h
  omega
theorem mem_areasTo {ms : List Int} {F n k : Nat} {a : Int} : a ∈ areasTo ms F n k ↔ (∃ i : Nat, i < k ∧ (i : Int) - 1000 = a) ∧ hasA ms F n a = true := by
  unfold areasTo
  rw [List.mem_filter, List.mem_map]
  constructor
  · rintro ⟨⟨i, hi, e⟩, h⟩
    exact ⟨⟨i, List.mem_range.1 hi, e⟩, h⟩
  · rintro ⟨⟨i, hi, e⟩, h⟩
    exact ⟨⟨i, List.mem_range.2 hi, e⟩, h⟩
theorem hasA_bd {ms : List Int} {F n : Nat} (hF : F ≤ 2) (hn : n ≤ 6) {a : Int} (h : hasA ms F n a = true) : -288 ≤ a ∧ a ≤ 288 := by
  unfold hasA at h
  rw [List.any_eq_true] at h
  obtain ⟨p, hp, hq⟩ := h
  obtain ⟨h1, h2⟩ := mem_allP.1 hp
  simp only [Bool.and_eq_true, beq_iff_eq] at hq
  rw [← hq.2]
  exact area_bd1000 (by omega) (fun f hf => by have := h2 f hf; omega)
theorem mem_acc_all {ms : List Int} {F n : Nat} {a : Int} : a ∈ accN (hd0 ms) ms (allP F n) (allP F n).length ↔ hasA ms F n a = true := by
  rw [mem_accN, hasA, List.any_eq_true]
  constructor
  · rintro ⟨j, p, hj, hp, hs, ha⟩
    exact ⟨p, List.mem_of_getElem? hp, by rw [hs, ha]; simp⟩
  · rintro ⟨p, hp, hq⟩
    obtain ⟨j, hj, rfl⟩ := List.getElem_of_mem hp
    simp only [Bool.and_eq_true, beq_iff_eq] at hq
    exact ⟨j, _, hj, List.getElem?_eq_getElem hj, hq.1, hq.2⟩
theorem sorted_acc {ms : List Int} {F n : Nat} (hF : F ≤ 2) (hn : n ≤ 6) : (accN (hd0 ms) ms (allP F n) (allP F n).length).mergeSort (fun x y => decide (x ≤ y)) = areasTo ms F n 2001 := by
  refine lt_eq ?_ (areasTo_lt ms F n 2001) (fun a => ?_)
  · have h1 := List.pairwise_mergeSort (le := fun (x y : Int) => decide (x ≤ y)) (fun a b c h h' => by simp at *; omega) (fun a b => by simp; omega) (accN (hd0 ms) ms (allP F n) (allP F n).length)
    have h2 : ((accN (hd0 ms) ms (allP F n) (allP F n).length).mergeSort (fun x y => decide (x ≤ y))).Nodup := (List.mergeSort_perm _ _).nodup_iff.2 (accN_nodup _)
    refine (h1.and h2).imp ?_
    rintro a b ⟨h, h'⟩
    simp at h
    omega
  · rw [List.mem_mergeSort, mem_acc_all, mem_areasTo]
    constructor
    · intro h
      have := hasA_bd hF hn h
      exact ⟨⟨(a + 1000).toNat, by omega, by omega⟩, h⟩
    · exact fun h => h.2
theorem areasTo_len (ms : List Int) (F n k : Nat) : (areasTo ms F n k).length ≤ k := by
  unfold areasTo
  exact Nat.le_trans (List.length_filter_le ..) (by simp)
theorem areasL_len (ms : List Int) (n f : Int) : (areasL ms n f).length ≤ 2001 := by
  unfold areasL
  split
  · exact areasTo_len ..
  · simp

/-- The state of the search: the areas of the first k pulses. -/
def ArJ (ms : List Int) (F n : Nat) (w0 : World) (A' : Option Addr) (k' c' b3 b9 base : Nat) (k : Nat) (W : World) : Prop :=
  Below w0.heap.size w0 W ∧ W.heap[b3]? = some (.cells #[.slice A' k' c'] 22 (0, 0)) ∧ ∃ v, W.heap[b9]? = some (.cells #[v] 22 (0, 0)) ∧
    W.ownsRow base 3 1 v (accN (hd0 ms) ms (allP F n) k).length (ints (accN (hd0 ms) ms (allP F n) k))

set_option maxHeartbeats 1000000 in
theorem arSearch (ms : List Int) (A' : Option Addr) (k' c' n F : Nat) (hn : n ≤ 6) (hF : F ≤ 2) (hms : ∀ m ∈ ms, 0 ≤ m ∧ m ≤ 3) (hml : ms.length ≤ 1000) (hne : 0 < ms.length) (w0 w : World) (h0 : Below w0.heap.size w0 w) (B : Nat) (hB : B ≤ w0.heap.size) (hr : Rd w0 B 1 A' k' (ints ms))
    (b3 b9 : Nat) (h3 : w.heap[b3]? = some (.cells #[.slice A' k' c'] 22 (0, 0))) (h9 : w.heap[b9]? = some (.cells #[.slice none 0 0] 22 (0, 0))) (hne3 : b3 ≠ b9) (h39 : w0.heap.size ≤ b9) :
    Calls Try.prog 64 #[.slice A' k' c', .int .i64 n, .int .i64 F, .func (.func 88) #[] #[.pointer (some ⟨b3, 0, none⟩), .pointer (some ⟨b9, 0, none⟩)]] w fun e W' =>
      (∃ v, e = .returned v) ∧ ArJ ms F n w0 A' k' c' b3 b9 (w.heap.size + 2) (allP F n).length W' := by
  have hs := h0.size
  have l3 := blk_lt h3
  have l9 := blk_lt h9
  refine (pSearch ms A' k' c' n F hn (by omega) hms hml 88 Try.call88 #[.pointer (some ⟨b3, 0, none⟩), .pointer (some ⟨b9, 0, none⟩)] w B (by omega)
    (ArJ ms F n w0 A' k' c' b3 b9 (w.heap.size + 2)) (fun _ _ => False) ?_ ?_ ?_ ?_ ?_).mono ?_
  · intro W hb
    exact ⟨h0.trans (hb.mono hs), blk_below h3 hb l3, _, blk_below h9 hb l9, World.ownsRow_nil ..⟩
  · rintro k W W' ⟨h1, h2, v, h4, h5⟩ hf
    exact ⟨hf.frame h1 (fun g _ hg => by unfold But; omega) (Nat.le_refl _), hf.keep _ _ (by unfold But; omega) h2, v, hf.keep _ _ (by unfold But; omega) h4,
      own_fix h5 hf (fun g cs hg => by have := (own_obj h5 hg).1; unfold But; omega)⟩
  · rintro k W ⟨h1, _⟩
    exact hr.below' h1 hB
  · rintro k W p hk hsh ⟨h1, h2, v, h4, h5⟩
    refine ⟨h1, h2, v, h4, ?_⟩
    rw [accN_skip hk hsh]; exact h5
  · rintro k W p hk hsh ⟨h1, h2, v, h4, h5⟩ hrow
    have hpm := mem_allP.1 (List.mem_of_getElem? hk)
    have hgs := blk_lt hrow
    have hrp : Rd W W.heap.size 1 (some ⟨w.heap.size + 1, 0, none⟩) p.length (ints p) := by
      have := rd_lit (sz := 1) (n := p.length) hrow (by simp)
      simpa using this.more (by omega)
    have hkl : k < (allP F n).length := (List.getElem?_eq_some_iff.1 hk).1
    have hal := allP_bd (F := F) (q := n) hF hn
    have hacc := accN_len (m := hd0 ms) (ms := ms) (L := allP F n) k
    have H := areasFn (some ⟨w.heap.size + 1, 0, none⟩) n p ms (accN (hd0 ms) ms (allP F n) k) A' k' c' b3 b9 (w.heap.size + 2) v W (by rw [hpm.1]; omega) (fun f hf => by have := hpm.2 f hf; omega) hms hne hrp ((hr.below' h1 hB).more (by have := h1.size; omega)) h2 h4 h5 (by omega) (by omega) (by omega)
    rw [hpm.1] at H
    refine H.mono ?_
    rintro e W' ⟨rfl, v', q1, q2, q3⟩
    refine ⟨.inl ⟨rfl, q3.frame h1 (fun g _ hg => ⟨by omega, by omega⟩) (Nat.le_refl _), q3.keep _ _ ⟨hne3, by omega⟩ h2, v', q1, ?_⟩, q3.keep _ _ ⟨by omega, by omega⟩ hrow⟩
    have e1 : accN (hd0 ms) ms (allP F n) (k + 1) = if hasB (accN (hd0 ms) ms (allP F n) k) (areaL (hd0 ms) p) then accN (hd0 ms) ms (allP F n) k else accN (hd0 ms) ms (allP F n) k ++ [areaL (hd0 ms) p] := by
      cases hh : hasB (accN (hd0 ms) ms (allP F n) k) (areaL (hd0 ms) p) with
      | true => rw [accN_had hk hh]; rfl
      | false => rw [accN_new hk hsh hh]; rfl
    rw [e1]; exact q2
  · rintro e W' ⟨he, h | ⟨k, hk, h⟩⟩
    · exact ⟨he, h⟩
    · exact absurd h (by simp)

set_option maxRecDepth 100000 in
set_option maxHeartbeats 2000000 in
theorem pAreas (A : Option Addr) (k c : Nat) (ms : List Int) (n f : Int) (w : World) (hl : ms.length ≤ 1000) (B : Nat) (hB : B ≤ w.heap.size) (hr : Rd w B 1 A k (ints ms)) :
    Calls Try.prog 55 #[.slice A k c, .int .i64 n, .int .i64 f] w fun e w' => ∃ v, e = .returned (.tuple #[v, .int .i64 (srchE ms n f)]) ∧ w'.ownsRow w.heap.size 3 1 v (areasL ms n f).length (ints (areasL ms n f)) ∧ Below w.heap.size w w' := by
  have hr0 := hr.alloc hB (.cells #[.slice A k c] 22)
  have H := Lib.hid (pSearched A k c ms n f (w.alloc (.cells #[.slice A k c] 22)) hl B (by simp; omega) hr0)
  have HN0 := Lib.hid (blk_new w 22 #[.slice A k c])
  have HB0 := Lib.hid ((Below.refl w.heap.size w).alloc (Nat.le_refl _) (.cells #[.slice A k c] 22))
  have HL := Lib.hid (show areasL ms n f = if srchE ms n f = 0 then areasTo ms f.toNat n.toNat 2001 else [] from rfl)
  by_cases h : srchE ms n f = 0
  · obtain ⟨h1, n1, n2, h2, h3⟩ := srchE_ok h
    obtain ⟨h4, h5⟩ := areModes_ok h1
    have HM := Lib.hid h
    have HMS := Lib.hid h5
    rw [h] at H
    rw [if_pos h] at HL
    obtain ⟨F, rfl⟩ := Int.eq_ofNat_of_zero_le (show 0 ≤ f by omega)
    obtain ⟨N, rfl⟩ := Int.eq_ofNat_of_zero_le n1
    have HSA := Lib.hid (sorted_acc (ms := ms) (F := F) (n := N) (by omega) (by omega))
    have hacc := accN_len (m := hd0 ms) (ms := ms) (L := allP F N) (allP F N).length
    have hal := allP_bd (F := F) (q := N) (by omega) (by omega)
    clear h h1 h5 hr0
    go_enter Try.func55, Try.ntmps55
    go_wp2_with fail
    refine H.out.mono ?_
    rintro e w1 ⟨rfl, hb1⟩
    rw [World.size_alloc] at hb1
    have s1 := hb1.size
    rw [World.size_alloc] at s1
    have x1 := blk_below HN0.out hb1 (by omega)
    have B1 := HB0.out.trans (hb1.mono (by omega))
    have y1 := blk_alloc x1 (.cells #[.slice none 0 0] 22)
    have c0 : w1.cell? ⟨w.heap.size, 0, none⟩ = some (.slice A k c) := blk_cell x1 0
    have c1 : (w1.alloc (.cells #[.slice none 0 0] 22)).cell? ⟨w.heap.size, 0, none⟩ = some (.slice A k c) := blk_cell y1 0
    have HSE := Lib.hid (arSearch ms A k c N F (by omega) (by omega) HMS.out hl h4 w (w1.alloc (.cells #[.slice none 0 0] 22)) (B1.alloc B1.size _) B hB hr w.heap.size w1.heap.size y1 (blk_new w1 22 #[.slice none 0 0]) (by omega) (by omega))
    rw [World.size_alloc] at HSE
    clear hb1 x1 B1 y1
    go_wp2_with fail
    refine HSE.out.mono ?_
    rintro e w2 ⟨⟨u, rfl⟩, q1, q2, v, q3, q4⟩
    obtain ⟨Av, cv, rfl, _, _⟩ := own_cap q4
    have d0 : w2.cell? ⟨w1.heap.size, 0, none⟩ = some (.slice Av (accN (hd0 ms) ms (allP F N) (allP F N).length).length cv) := blk_cell q3 0
    have HSO := Lib.hid (pSort _ _ _ w2 (by omega) q4)
    have HOB := Lib.hid (fun g (hg : (Value.slice Av (accN (hd0 ms) ms (allP F N) (allP F N).length).length cv).ownBlock = some g) => (own_obj q4 hg).1)
    have HNE := Lib.hid (show some w1.heap.size ≠ (Value.slice Av (accN (hd0 ms) ms (allP F N) (allP F N).length).length cv).ownBlock from fun e => by have := (own_obj q4 e.symm).1; omega)
    have HQ := Lib.hid (And.intro q1 q3)
    rw [HSA.out] at HSO
    have HLE := Lib.hid (show (accN (hd0 ms) ms (allP F N) (allP F N).length).length = (areasTo ms F N 2001).length by rw [← HSA.out]; simp)
    obtain ⟨L, hL⟩ : ∃ L, L = (accN (hd0 ms) ms (allP F N) (allP F N).length).length := ⟨_, rfl⟩
    rw [← hL] at d0 HSO HOB HNE HLE HQ
    clear hL q1 q2 q3 q4 c0 c1 HSE hacc hal
    go_wp2_with fail
    refine HSO.out.mono ?_
    rintro e w3 ⟨rfl, hown3, hg3⟩
    have x3 := blk_grown HQ.out.2 hg3 HNE.out
    have e0 : w3.cell? ⟨w1.heap.size, 0, none⟩ = some (.slice Av L cv) := blk_cell x3 0
    have B3 := HQ.out.1.grown hg3 (HQ.out.1.size) (fun g hg => by have := HOB.out g hg; omega)
    clear hg3 x3 HSO d0
    go_wp2
    go_ret2
    refine ⟨_, ret_two rfl (by rw [HM.out]; rfl), ?_, B3⟩
    rw [HL.out]
    show w3.ownsRow w.heap.size 3 1 _ (areasTo ms F N 2001).length (ints (areasTo ms F N 2001))
    rw [← HLE.out]
    exact own_base hown3 (by omega)
  · have hd : (srchE ms n f != 0) = true := by simpa using h
    rw [if_neg h] at HL
    clear h
    go_enter Try.func55, Try.ntmps55
    go_wp2_with fail
    refine H.out.mono ?_
    rintro e w1 ⟨rfl, hb1⟩
    rw [World.size_alloc] at hb1
    go_wp2
    go_ret2
    exact ⟨_, ret_two rfl rfl, by rw [HL.out]; exact World.ownsRow_nil .., HB0.out.trans (hb1.mono (by omega))⟩
end Go.Proofs.Ytnoocdannfeidaa
