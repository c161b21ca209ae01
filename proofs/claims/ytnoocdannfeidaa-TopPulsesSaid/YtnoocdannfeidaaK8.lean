/-
  MERGED: W10, W11, Plain3.
-/
import Derived.Test.YtnoocdannfeidaaK7
import Derived.Laws.CopyOwn
import Derived.Deep.RegionLaw
import Derived.Test.YtnoocdannfeidaaK3
/-
  WALK: Sum, End of the program. (Printed by gensum.py.)
-/
namespace Go.Proofs.Ytnoocdannfeidaa
open Go.RowKit Pulse

set_option maxHeartbeats 400000 in
theorem pSumF (A : Option Addr) (k c : Nat) (p : List Int) (m : Int) (w : World) (hl : p.length ≤ 1000) (B : Nat) (hB : B ≤ w.heap.size) (hr : Rd w B 1 A k (ints p)) :
    Calls Try.prog 21 #[.slice A k c, .int .i64 m] w fun e w' => e = .returned (.tuple #[vV (sumV p m), .int .i64 (moded p m)]) ∧ Below w.heap.size w w' := by
  obtain rfl := hr.int_len
  have H := Lib.hid (pmoded A p.length c p m (w.alloc (.cells #[.int .i64 0, .int .i64 0] 29)) hl B (by simp; omega) (hr.alloc hB _))
  have hn := blk_new w 29 #[.int .i64 0, .int .i64 0]
  have HB := Lib.hid ((Below.refl w.heap.size w).alloc (Nat.le_refl _) (.cells #[.int .i64 0, .int .i64 0] 29))
  have hr1 := hr.alloc hB (.cells #[.int .i64 0, .int .i64 0] 29)
  by_cases h : moded p m = 0
  · obtain ⟨h1, h2, h3⟩ := moded_ok h
    obtain ⟨h4, h5⟩ := vald_ok h1
    have HA := Lib.hid (show sumV p m = sumL m.toNat p by rw [sumV, if_pos h])
    have HM := Lib.hid h
    have HN := Lib.hid hn
    have HR := Lib.hid hr1
    clear h hn hr1
    go_enter Try.func21, Try.ntmps21
    go_wp2_with fail
    refine H.out.mono ?_
    rw [HM.out]
    rintro e w1 ⟨rfl, hb1⟩
    have s1 := hb1.size
    rw [World.size_alloc] at s1
    have n1 := blk_below HN.out hb1 (by simp)
    have r1 := HR.out.below' hb1 (by simp; omega)
    have HN1 := Lib.hid n1
    have HR1 := Lib.hid r1
    have HB1 := Lib.hid (HB.out.trans (hb1.mono (by simp)))
    clear n1 r1 hb1
    go_wp2_with fail
    refine (pTotal p m h4 h5 h2 h3 A c w1 B (by omega) HR1.out).mono ?_
    rintro e w2 ⟨rfl, hb2⟩
    obtain ⟨u, hu⟩ : ∃ u, u = sumL m.toNat p := ⟨_, rfl⟩
    rw [← hu]
    have HU := Lib.hid hu
    clear hu
    have n2 := blk_below HN1.out hb2 (by omega)
    have s2 := hb2.size
    have hbx := (HB1.out.trans (hb2.mono (by omega))).setCell (p := ⟨w.heap.size, 0, none⟩) (Nat.le_refl _) (.int .i64 u.x)
    have HBX := Lib.hid (hbx.setCell (p := ⟨w.heap.size, 1, none⟩) (Nat.le_refl _) (.int .i64 u.y))
    clear hb2 hbx
    have c1 : w2.cell? ⟨w.heap.size, 0, none⟩ = some (.int .i64 0) := blk_cell n2 0
    have c2 : w2.cell? ⟨w.heap.size, 1, none⟩ = some (.int .i64 0) := blk_cell n2 1
    have f1 := blk_frozen n2 0
    have f2 := blk_frozen n2 1
    have v2 := blk_set (blk_set n2 0 (.int .i64 u.x)) 1 (.int .i64 u.y)
    have HV2 := Lib.hid v2
    clear n2 v2
    go_wp2
    have r0 := blk_cell HV2.out 0
    have r1 := blk_cell HV2.out 1
    exact bodyPost_ret (v := .tuple #[vV u, .int .i64 0]) (by simp [results, Try.results21, go_sem, r0, r1]) rfl ⟨ret_two (by rw [HA.out, HU.out]) (by rw [HM.out]), HBX.out⟩
  · have HA := Lib.hid (show sumV p m = V.zero by rw [sumV, if_neg h])
    have hd : (moded p m != 0) = true := by simpa using h
    clear h
    have HN := Lib.hid hn
    clear hn hr1
    go_enter Try.func21, Try.ntmps21
    go_wp2_with fail
    refine H.out.mono ?_
    rintro e w1 ⟨rfl, hb1⟩
    have s1 := hb1.size
    rw [World.size_alloc] at s1
    have n2 := blk_below HN.out hb1 (by simp)
    have hbx := (HB.out.trans (hb1.mono (by simp))).setCell (p := ⟨w.heap.size, 0, none⟩) (Nat.le_refl _) (.int .i64 0)
    have HBX := Lib.hid (hbx.setCell (p := ⟨w.heap.size, 1, none⟩) (Nat.le_refl _) (.int .i64 0))
    clear hbx hb1
    have c1 : w1.cell? ⟨w.heap.size, 0, none⟩ = some (.int .i64 0) := blk_cell n2 0
    have c2 : w1.cell? ⟨w.heap.size, 1, none⟩ = some (.int .i64 0) := blk_cell n2 1
    have f1 := blk_frozen n2 0
    have f2 := blk_frozen n2 1
    have v2 := blk_set (blk_set n2 0 (.int .i64 0)) 1 (.int .i64 0)
    have HV2 := Lib.hid v2
    clear n2 v2
    go_wp2
    have r0 := blk_cell HV2.out 0
    have r1 := blk_cell HV2.out 1
    exact bodyPost_ret (v := .tuple #[vV V.zero, .int .i64 (moded p m)]) (by simp [results, Try.results21, go_sem, r0, r1, V.zero]) rfl ⟨ret_two (by rw [HA.out]) rfl, HBX.out⟩
set_option maxHeartbeats 400000 in
theorem pEndF (A : Option Addr) (k c : Nat) (p : List Int) (m : Int) (w : World) (hl : p.length ≤ 1000) (B : Nat) (hB : B ≤ w.heap.size) (hr : Rd w B 1 A k (ints p)) :
    Calls Try.prog 32 #[.slice A k c, .int .i64 m] w fun e w' => e = .returned (.tuple #[vV (endV p m), .int .i64 (moded p m)]) ∧ Below w.heap.size w w' := by
  obtain rfl := hr.int_len
  have H := Lib.hid (pmoded A p.length c p m (w.alloc (.cells #[.int .i64 0, .int .i64 0] 29)) hl B (by simp; omega) (hr.alloc hB _))
  have hn := blk_new w 29 #[.int .i64 0, .int .i64 0]
  have HB := Lib.hid ((Below.refl w.heap.size w).alloc (Nat.le_refl _) (.cells #[.int .i64 0, .int .i64 0] 29))
  have hr1 := hr.alloc hB (.cells #[.int .i64 0, .int .i64 0] 29)
  by_cases h : moded p m = 0
  · obtain ⟨h1, h2, h3⟩ := moded_ok h
    obtain ⟨h4, h5⟩ := vald_ok h1
    have HA := Lib.hid (show endV p m = endL m.toNat p by rw [endV, if_pos h])
    have HM := Lib.hid h
    have HN := Lib.hid hn
    have HR := Lib.hid hr1
    clear h hn hr1
    go_enter Try.func32, Try.ntmps32
    go_wp2_with fail
    refine H.out.mono ?_
    rw [HM.out]
    rintro e w1 ⟨rfl, hb1⟩
    have s1 := hb1.size
    rw [World.size_alloc] at s1
    have n1 := blk_below HN.out hb1 (by simp)
    have r1 := HR.out.below' hb1 (by simp; omega)
    have HN1 := Lib.hid n1
    have HR1 := Lib.hid r1
    have HB1 := Lib.hid (HB.out.trans (hb1.mono (by simp)))
    clear n1 r1 hb1
    go_wp2_with fail
    refine (pEnd p m h4 h5 h2 h3 A c w1 B (by omega) HR1.out).mono ?_
    rintro e w2 ⟨rfl, hb2⟩
    obtain ⟨u, hu⟩ : ∃ u, u = endL m.toNat p := ⟨_, rfl⟩
    rw [← hu]
    have HU := Lib.hid hu
    clear hu
    have n2 := blk_below HN1.out hb2 (by omega)
    have s2 := hb2.size
    have hbx := (HB1.out.trans (hb2.mono (by omega))).setCell (p := ⟨w.heap.size, 0, none⟩) (Nat.le_refl _) (.int .i64 u.x)
    have HBX := Lib.hid (hbx.setCell (p := ⟨w.heap.size, 1, none⟩) (Nat.le_refl _) (.int .i64 u.y))
    clear hb2 hbx
    have c1 : w2.cell? ⟨w.heap.size, 0, none⟩ = some (.int .i64 0) := blk_cell n2 0
    have c2 : w2.cell? ⟨w.heap.size, 1, none⟩ = some (.int .i64 0) := blk_cell n2 1
    have f1 := blk_frozen n2 0
    have f2 := blk_frozen n2 1
    have v2 := blk_set (blk_set n2 0 (.int .i64 u.x)) 1 (.int .i64 u.y)
    have HV2 := Lib.hid v2
    clear n2 v2
    go_wp2
    have r0 := blk_cell HV2.out 0
    have r1 := blk_cell HV2.out 1
    exact bodyPost_ret (v := .tuple #[vV u, .int .i64 0]) (by simp [results, Try.results32, go_sem, r0, r1]) rfl ⟨ret_two (by rw [HA.out, HU.out]) (by rw [HM.out]), HBX.out⟩
  · have HA := Lib.hid (show endV p m = V.zero by rw [endV, if_neg h])
    have hd : (moded p m != 0) = true := by simpa using h
    clear h
    have HN := Lib.hid hn
    clear hn hr1
    go_enter Try.func32, Try.ntmps32
    go_wp2_with fail
    refine H.out.mono ?_
    rintro e w1 ⟨rfl, hb1⟩
    have s1 := hb1.size
    rw [World.size_alloc] at s1
    have n2 := blk_below HN.out hb1 (by simp)
    have hbx := (HB.out.trans (hb1.mono (by simp))).setCell (p := ⟨w.heap.size, 0, none⟩) (Nat.le_refl _) (.int .i64 0)
    have HBX := Lib.hid (hbx.setCell (p := ⟨w.heap.size, 1, none⟩) (Nat.le_refl _) (.int .i64 0))
    clear hbx hb1
    have c1 : w1.cell? ⟨w.heap.size, 0, none⟩ = some (.int .i64 0) := blk_cell n2 0
    have c2 : w1.cell? ⟨w.heap.size, 1, none⟩ = some (.int .i64 0) := blk_cell n2 1
    have f1 := blk_frozen n2 0
    have f2 := blk_frozen n2 1
    have v2 := blk_set (blk_set n2 0 (.int .i64 0)) 1 (.int .i64 0)
    have HV2 := Lib.hid v2
    clear n2 v2
    go_wp2
    have r0 := blk_cell HV2.out 0
    have r1 := blk_cell HV2.out 1
    exact bodyPost_ret (v := .tuple #[vV V.zero, .int .i64 (moded p m)]) (by simp [results, Try.results32, go_sem, r0, r1, V.zero]) rfl ⟨ret_two (by rw [HA.out]) rfl, HBX.out⟩
end Go.Proofs.Ytnoocdannfeidaa

/-
  WALKS: slices.Repeat of one number.
-/
namespace Go.Proofs.Ytnoocdannfeidaa
open Go.RowKit Pulse

set_option maxRecDepth 100000 in
theorem mul64_1 (n : Int) (h0 : 0 ≤ n) (h1 : n ≤ 6) (w : World) : Calls Try.prog 119 #[.int .u64 1, .int .u64 n] w fun e w' => e = .returned (.tuple #[.int .u64 0, .int .u64 n]) ∧ w = w' := by
  rcases (show n = 0 ∨ n = 1 ∨ n = 2 ∨ n = 3 ∨ n = 4 ∨ n = 5 ∨ n = 6 by omega) with rfl | rfl | rfl | rfl | rfl | rfl | rfl
  all_goals
    go_enter Try.func119, Try.ntmps119
    go_wp2
    go_ret2
    exact ⟨rfl, rfl⟩
set_option maxRecDepth 100000 in
theorem mul_1 (n : Int) (h0 : 0 ≤ n) (h1 : n ≤ 6) (w : World) : Calls Try.prog 105 #[.int .u64 1, .int .u64 n] w fun e w' => e = .returned (.tuple #[.int .u64 0, .int .u64 n]) ∧ w = w' := by
  go_enter Try.func105, Try.ntmps105
  go_wp2_with (go_at_call 119; refine (mul64_1 n h0 h1 _).mono ?_; rintro e w' ⟨rfl, rfl⟩)
  go_ret2
  exact ⟨rfl, rfl⟩

/-- Of n places the first k hold x, the others 0. -/
def rep (x : Int) (n k : Nat) : List Value := List.replicate k (.int .i64 x) ++ List.replicate (n - k) (Value.int .i64 0)
theorem rep_len (x : Int) {n k : Nat} (h : k ≤ n) : (rep x n k).length = n := by simp [rep]; omega
theorem rep_get (x : Int) {n k j : Nat} (h : k ≤ n) (hj : j < k) : (rep x n k)[j]? = some (.int .i64 x) := by
  rw [rep, List.getElem?_append_left (by simpa using hj), List.getElem?_replicate, if_pos hj]
theorem rep_splice (x : Int) {n k m : Nat} (h : k + m ≤ n) : splice (rep x n k) k (List.replicate m (.int .i64 x)) = rep x n (k + m) := by
  unfold splice rep
  have h1 : (List.replicate k (Value.int .i64 x) ++ List.replicate (n - k) (Value.int .i64 0)).take k = List.replicate k (Value.int .i64 x) := by
    rw [List.take_append_of_le_length (by simp), List.take_of_length_le (by simp)]
  have h2 : (List.replicate k (Value.int .i64 x) ++ List.replicate (n - k) (Value.int .i64 0)).drop (k + (List.replicate m (Value.int .i64 x)).length) = List.replicate (n - (k + m)) (Value.int .i64 0) := by
    rw [List.length_replicate, List.drop_append, List.drop_of_length_le (by simp), List.nil_append, List.length_replicate, List.drop_replicate]
    congr 1
    omega
  rw [h1, h2, ← List.append_assoc, List.replicate_append_replicate]

set_option maxRecDepth 100000 in
set_option maxHeartbeats 1000000 in
theorem pRepeat (x : Int) (n g : Nat) (w : World) (h1 : n ≤ 6) (hg : w.heap[g]? = some (.cells #[.int .i64 x] 3 (0, 0))) :
    Calls Try.prog 96 #[.slice (some ⟨g, 0, none⟩) 1 1, .int .i64 n] w fun e w' => e = .returned (.slice (some ⟨w.heap.size, 0, none⟩) n n) ∧ w'.heap[w.heap.size]? = some (.cells (rep x n n).toArray 3 (0, 0)) ∧ Below w.heap.size w w' := by
  have hc : w.cell? ⟨g, 0, none⟩ = some (.int .i64 x) := blk_cell hg 0
  have hl := blk_lt hg
  have hmk := fun W => run_make_row' (P := Try.prog) 22 3 (.int .i64 0) 8 Try.underlying22 (show (Try.prog.info? 3).map (fun i => (i.zero, i.size, i.bytes)) = some (some (.int .i64 0), 1, 8) by kernel_rfl) rfl .i64 .i64 n (by omega) (by omega) W
  have HG := Lib.hid (show (w.alloc (.cells (madeCells #[.int .i64 0] n) 3)).heap[w.heap.size]? = some (.cells (rep x n 0).toArray 3 (0, 0)) from by
    rw [blk_new]
    congr 2
    apply Array.ext'
    rw [toList_madeCells_one]
    simp [rep])
  have HB := Lib.hid ((Below.refl w.heap.size w).alloc (Nat.le_refl _) (.cells (madeCells #[.int .i64 0] n) 3))
  have hc1 := (World.cell?_alloc_lt w (.cells (madeCells #[.int .i64 0] n) 3) ⟨g, 0, none⟩ hl).trans hc
  have HC := Lib.hid hc1
  have HS := Lib.hid (show splice (rep x n 0) 0 (List.replicate (min 1 n) (.int .i64 x)) = rep x n (min 1 n) by rw [rep_splice x (by omega), Nat.zero_add])
  have hsz : (Try.prog.info? 3).map (·.size) = some 1 := by kernel_rfl
  have HSZ := Lib.hid hsz
  obtain ⟨cs, hcs⟩ : ∃ cs, cs = List.replicate (min 1 n) (Value.int .i64 x) := ⟨_, rfl⟩
  have hcl : cs.length = min 1 n := by rw [hcs]; simp
  have HCS := Lib.hid hcs
  rw [← hcs] at HS
  have hm1 : cs.length ≤ n := by omega
  have hm2 : 0 < n → 0 < cs.length := by omega
  have HPOS := Lib.hid (show ∀ j v, cs[j]? = some v → (w.alloc (.cells (madeCells #[.int .i64 0] n) 3)).cell? ((⟨g, 0, none⟩ : Addr).add j) = some v from fun j v hj => by
    rw [hcs, List.getElem?_replicate] at hj
    split at hj
    · injection hj with hj
      have hj0 : j = 0 := by omega
      subst hj hj0
      exact hc1
    · cases hj)
  have HONE := Lib.hid (show ∀ v ∈ cs, v.oneCell' = true from fun v hv => by
    rw [hcs] at hv
    rw [(List.mem_replicate.1 hv).2]
    rfl)
  have HN1 := Lib.hid (show cs.length = Nat.min 1 n from hcl)
  have HFIT := Lib.hid (show 0 + cs.length ≤ (rep x n 0).length by rw [rep_len x (Nat.zero_le _)]; omega)
  clear hcs hc1 hsz
  have HMIN := Lib.hid hcl
  clear hcl
  go_enter Try.func96, Try.ntmps96
  go_wp2_with (first
    | (go_at_call 105; refine (mul_1 _ (by omega) (by omega) _).mono ?_; rintro e w' ⟨rfl, rfl⟩)
    | ((with_reducible refine wpList_copy_splice rfl (.tmp 31) (.tmp 32) 22 22 rfl 3 Try.underlying22 HSZ.out (some ⟨w.heap.size, 0, none⟩) (some ⟨g, 0, none⟩) n n 1 1 rfl rfl w.heap.size 0 (rep x n 0) 3 HG.out cs HN1.out (fun _ => ⟨rfl, _, rfl, HPOS.out⟩) HFIT.out HONE.out w.heap.size w HB.out (Nat.le_refl _) ?_); intro w2 HG2 hb2))
  have HG2' := Lib.hid (show w2.heap[w.heap.size]? = some (.cells (rep x n cs.length).toArray 3 (0, 0)) by rw [HG2.out, HS.out, HMIN.out])
  clear HG2
  generalize cs.length = m at *
  go_loopw [8] (fun v wr => ∃ k : Nat, k ≤ n ∧ (0 < n → 0 < k) ∧ v = .int .i64 k ∧ wr.heap[w.heap.size]? = some (.cells (rep x n k).toArray 3 (0, 0)) ∧ Below w.heap.size w wr) (fun v _ => n - (intOf v).toNat)
  case atStart => exact ⟨m, hm1, hm2, rfl, HG2'.out, hb2⟩
  case round =>
    clear hb2 hm1 hm2
    obtain ⟨k, hk, hk0, rfl, hgk, hb⟩ := hrel
    by_cases hlt : k < n
    · have hkpos := hk0 (by omega)
      have HGK := Lib.hid hgk
      have HBK := Lib.hid hb
      have HBD := Lib.hid hb.drew
      obtain ⟨ds, hds⟩ : ∃ ds, ds = List.replicate (min k (n - k)) (Value.int .i64 x) := ⟨_, rfl⟩
      have hdl : ds.length = min k (n - k) := by rw [hds]; simp
      have HDS := Lib.hid hds
      have HSP := Lib.hid (show splice (rep x n k) k ds = rep x n (k + ds.length) by rw [hdl, hds]; exact rep_splice x (by omega))
      have HDL := Lib.hid hdl
      have hd1 : 0 < ds.length := by omega
      have hd2 : k + ds.length ≤ n := by omega
      have n1 : ¬ n = k := by omega
      have n2 : (0 : Int) ≤ (k : Int) := by omega
      have n3 : (k : Int) ≤ (n : Int) := by omega
      have HPOS2 := Lib.hid (show ∀ j v, ds[j]? = some v → wr.drew.cell? ((⟨w.heap.size, 0, none⟩ : Addr).add j) = some v from fun j v hj => by
        have hjd : j < ds.length := (List.getElem?_eq_some_iff.1 hj).1
        rw [hds, List.getElem?_replicate, if_pos (by omega)] at hj
        rw [show ((⟨w.heap.size, 0, none⟩ : Addr).add j) = ⟨w.heap.size, j, none⟩ from by unfold Addr.add; split <;> simp [*]]
        rw [← hj, ← rep_get x hk (show j < k by omega)]
        have := blk_cell hgk j
        simpa using this)
      have HONE2 := Lib.hid (show ∀ v ∈ ds, v.oneCell' = true from fun v hv => by
        rw [hds] at hv
        rw [(List.mem_replicate.1 hv).2]
        rfl)
      have HN2 := Lib.hid (show ds.length = Nat.min k (n - k) from hdl)
      have HFIT2 := Lib.hid (show k + ds.length ≤ (rep x n k).length by rw [rep_len x hk]; omega)
      clear hgk hb hds hdl hk0
      go_wp2
      go_region_law (refine step_copy_splice rfl (.tmp 41) (.tmp 44) 22 22 rfl 3 Try.underlying22 HSZ.out (some ⟨w.heap.size, k, none⟩) (some ⟨w.heap.size, 0, none⟩) (n - k) (n - k) k n (by simp [Act.eval, Act.put]) (by simp [Act.eval, Act.put]) w.heap.size k (rep x n k) 3 HGK.out ds HN2.out (fun _ => ⟨rfl, _, rfl, HPOS2.out⟩) HFIT2.out HONE2.out w.heap.size w HBD.out (Nat.le_refl _) ?_; intro w3 HG3 hb3)
      all_goals
        have HG3' := Lib.hid (show w3.heap[w.heap.size]? = some (.cells (rep x n (k + ds.length)).toArray 3 (0, 0)) by rw [HG3.out, HSP.out])
        clear HG3
        generalize ds.length = z at *
        have hz : z ≤ 6 := by omega
        have hwr : IntKind.i64.wrap ((k : Int) + (z : Int)) = ((k + z : Nat) : Int) := by rw [IntWalk.i64_in _ (by omega)]; omega
        simp [go_sem]
        rw [hwr]
        go_roundw
        case rel => exact ⟨_, _, _, _, _, _, _, _, _, _, _, _, _, _, ⟨k + z, by omega, by omega, rfl, HG3'.out, hb3⟩, rfl⟩
        case measure => simp [intOf]; omega
    · obtain rfl : k = n := by omega
      have HGK := Lib.hid hgk
      clear hgk
      go_wp2
      go_ret
      exact ⟨rfl, HGK.out, hb⟩
end Go.Proofs.Ytnoocdannfeidaa

/-
  THE PLAIN LAWS OF PULSES, third part: the search's own step.
-/
namespace Go.Proofs.Ytnoocdannfeidaa
namespace Pulse

/-- The first j places of p, then the beginning. -/
def rowL (F : Int) (p : List Int) (j : Nat) : List Int := p.take j ++ List.replicate (p.length - j) (-F)
theorem rowL_len {F : Int} {p : List Int} {j : Nat} (h : j ≤ p.length) : (rowL F p j).length = p.length := by simp [rowL]; omega
theorem rowL_all (F : Int) (p : List Int) : rowL F p p.length = p := by simp [rowL]
theorem rowL_get {F : Int} {p : List Int} {j : Nat} (h : j < p.length) : (rowL F p (j + 1))[j]? = p[j]? := by
  unfold rowL
  rw [List.getElem?_append_left (by simp; omega), List.getElem?_take]
  simp
theorem rowL_set {F : Int} {p : List Int} {j : Nat} (h : j < p.length) (x : Int) : (rowL F p (j + 1)).set j x = p.take j ++ x :: List.replicate (p.length - (j + 1)) (-F) := by
  unfold rowL
  have e : p.take (j + 1) = p.take j ++ [p[j]] := take_snoc' p j h
  rw [e, List.append_assoc, List.set_append_right _ _ (by simp; omega)]
  simp [Nat.min_eq_left (Nat.le_of_lt h)]
theorem rowL_back {F : Int} {p : List Int} {j : Nat} (h : j < p.length) : (rowL F p (j + 1)).set j (-F) = rowL F p j := by
  rw [rowL_set h, rowL]
  rw [show p.length - j = (p.length - (j + 1)) + 1 by omega, List.replicate_succ]
theorem nxt_row {F : Int} {p : List Int} {j : Nat} (h : j < p.length) (hf : p[j] ≠ F) (hd : ∀ f ∈ p.drop (j + 1), f = F) : nxt F p = some ((rowL F p (j + 1)).set j (p[j] + 1)) := by
  have e : p = p.take j ++ p[j] :: p.drop (j + 1) := by
    conv => lhs; rw [← List.take_append_drop j p]
    rw [List.drop_eq_getElem_cons h]
  have := nxt_at hf hd (p.take j)
  rw [← e] at this
  rw [this, rowL_set h, List.length_drop]
theorem drop_step {F : Int} {p : List Int} {j : Nat} (h : j < p.length) (hf : p[j] = F) (hd : ∀ f ∈ p.drop (j + 1), f = F) : ∀ f ∈ p.drop j, f = F := by
  rw [List.drop_eq_getElem_cons h]
  intro f hm
  rcases List.mem_cons.1 hm with e | e
  · rw [e, hf]
  · exact hd f e
theorem nxt_none {F : Int} {p : List Int} (hd : ∀ f ∈ p.drop 0, f = F) : nxt F p = none := nxt_top (by simpa using hd)
/-- The place of a list among lists. -/
def pos (p : List Int) : List (List Int) → Nat
  | [] => 0
  | q :: l => if q = p then 0 else pos p l + 1
theorem pos_get : ∀ {l : List (List Int)}, l.Nodup → ∀ i (h : i < l.length), pos l[i] l = i := by
  intro l
  induction l with
  | nil => intro _ i h; simp at h
  | cons q l ih =>
    intro hn i h
    rw [List.nodup_cons] at hn
    cases i with
    | zero => simp [pos]
    | succ i =>
      have h' : i < l.length := by simpa using h
      rw [List.getElem_cons_succ, pos, if_neg (fun e => hn.1 (by rw [e]; exact List.getElem_mem h')), ih hn.2 i h']
end Pulse
end Go.Proofs.Ytnoocdannfeidaa
