/-
  WALKS: slices.Repeat of one number.
-/
import Derived.Test.YtejjogpgolgdgaaW7
import Derived.Laws.CopyOwn
import Derived.Deep.RegionLaw
namespace Go.Proofs.Ytejjogpgolgdgaa
open Go.RowKit Pulse

set_option maxRecDepth 100000 in
theorem mul64_1 (n : Int) (h0 : 0 ≤ n) (h1 : n ≤ 6) (w : World) : Calls Try.prog 100 #[.int .u64 1, .int .u64 n] w fun e w' => e = .returned (.tuple #[.int .u64 0, .int .u64 n]) ∧ w = w' := by
  rcases (show n = 0 ∨ n = 1 ∨ n = 2 ∨ n = 3 ∨ n = 4 ∨ n = 5 ∨ n = 6 by omega) with rfl | rfl | rfl | rfl | rfl | rfl | rfl
  all_goals
    go_enter Try.func100, Try.ntmps100
    go_wp2
    go_ret2
    exact ⟨rfl, rfl⟩
set_option maxRecDepth 100000 in
theorem mul_1 (n : Int) (h0 : 0 ≤ n) (h1 : n ≤ 6) (w : World) : Calls Try.prog 98 #[.int .u64 1, .int .u64 n] w fun e w' => e = .returned (.tuple #[.int .u64 0, .int .u64 n]) ∧ w = w' := by
  go_enter Try.func98, Try.ntmps98
  go_wp2_with (go_at_call 100; refine (mul64_1 n h0 h1 _).mono ?_; rintro e w' ⟨rfl, rfl⟩)
  go_ret2
  exact ⟨rfl, rfl⟩

/-- Of n places the first k hold x, the others 0. -/
def rep (x : Int) (n k : Nat) : List Value := List.replicate k (.int .i64 x) ++ List.replicate (n - k) (Value.int .i64 0)
theorem rep_len (x : Int) {n k : Nat} (h : k ≤ n) : (rep x n k).length = n := by simp [rep]; omega
theorem rep_get (x : Int) {n k j : Nat} (h : k ≤ n) (hj : j < k) : (rep x n k)[j]? = some (.int .i64 x) := by
  rw [rep, List.getElem?_append_left (by simpa using hj), List.getElem?_replicate, if_pos hj]
theorem rep_splice (x : Int) {n k m : Nat} (h : k + m ≤ n) : splice (rep x n k) k (List.replicate m (.int .i64 x)) = rep x n (k + m) := by
  unfold splice rep
  have h1 : (List.replicate k (Value.int .i64 x) ++ List.replicate (n - k) (Value.int .i64 0)).take k = List.replicate k (Value.int .i64 x) := by
    rw [List.take_append_of_le_length (by simp), List.take_of_length_le (by simp)]
  have h2 : (List.replicate k (Value.int .i64 x) ++ List.replicate (n - k) (Value.int .i64 0)).drop (k + (List.replicate m (Value.int .i64 x)).length) = List.replicate (n - (k + m)) (Value.int .i64 0) := by
    rw [List.length_replicate, List.drop_append, List.drop_of_length_le (by simp), List.nil_append, List.length_replicate, List.drop_replicate]
    congr 1
    omega
  rw [h1, h2, ← List.append_assoc, List.replicate_append_replicate]

set_option maxRecDepth 100000 in
set_option maxHeartbeats 1000000 in
theorem pRepeat (x : Int) (n g : Nat) (w : World) (h1 : n ≤ 6) (hg : w.heap[g]? = some (.cells #[.int .i64 x] 3 (0, 0))) :
    Calls Try.prog 94 #[.slice (some ⟨g, 0, none⟩) 1 1, .int .i64 n] w fun e w' => e = .returned (.slice (some ⟨w.heap.size, 0, none⟩) n n) ∧ w'.heap[w.heap.size]? = some (.cells (rep x n n).toArray 3 (0, 0)) ∧ Below w.heap.size w w' := by
  have hc : w.cell? ⟨g, 0, none⟩ = some (.int .i64 x) := blk_cell hg 0
  have hl := blk_lt hg
  have hmk := fun W => run_make_row' (P := Try.prog) 23 3 (.int .i64 0) 8 Try.underlying23 (show (Try.prog.info? 3).map (fun i => (i.zero, i.size, i.bytes)) = some (some (.int .i64 0), 1, 8) by kernel_rfl) rfl .i64 .i64 n (by omega) (by omega) W
  have HG := Lib.hid (show (w.alloc (.cells (madeCells #[.int .i64 0] n) 3)).heap[w.heap.size]? = some (.cells (rep x n 0).toArray 3 (0, 0)) from by
    rw [blk_new]
    congr 2
    apply Array.ext'
    rw [toList_madeCells_one]
    simp [rep])
  have HB := Lib.hid ((Below.refl w.heap.size w).alloc (Nat.le_refl _) (.cells (madeCells #[.int .i64 0] n) 3))
  have hc1 := (World.cell?_alloc_lt w (.cells (madeCells #[.int .i64 0] n) 3) ⟨g, 0, none⟩ hl).trans hc
  have HC := Lib.hid hc1
  have HS := Lib.hid (show splice (rep x n 0) 0 (List.replicate (min 1 n) (.int .i64 x)) = rep x n (min 1 n) by rw [rep_splice x (by omega), Nat.zero_add])
  have hsz : (Try.prog.info? 3).map (·.size) = some 1 := by kernel_rfl
  have HSZ := Lib.hid hsz
  obtain ⟨cs, hcs⟩ : ∃ cs, cs = List.replicate (min 1 n) (Value.int .i64 x) := ⟨_, rfl⟩
  have hcl : cs.length = min 1 n := by rw [hcs]; simp
  have HCS := Lib.hid hcs
  rw [← hcs] at HS
  have hm1 : cs.length ≤ n := by omega
  have hm2 : 0 < n → 0 < cs.length := by omega
  have HPOS := Lib.hid (show ∀ j v, cs[j]? = some v → (w.alloc (.cells (madeCells #[.int .i64 0] n) 3)).cell? ((⟨g, 0, none⟩ : Addr).add j) = some v from fun j v hj => by
    rw [hcs, List.getElem?_replicate] at hj
    split at hj
    · injection hj with hj
      have hj0 : j = 0 := by omega
      subst hj hj0
      exact hc1
    · cases hj)
  have HONE := Lib.hid (show ∀ v ∈ cs, v.oneCell' = true from fun v hv => by
    rw [hcs] at hv
    rw [(List.mem_replicate.1 hv).2]
    rfl)
  have HN1 := Lib.hid (show cs.length = Nat.min 1 n from hcl)
  have HFIT := Lib.hid (show 0 + cs.length ≤ (rep x n 0).length by rw [rep_len x (Nat.zero_le _)]; omega)
  clear hcs hc1 hsz
  have HMIN := Lib.hid hcl
  clear hcl
  go_enter Try.func94, Try.ntmps94
  go_wp2_with (first
    | (go_at_call 98; refine (mul_1 _ (by omega) (by omega) _).mono ?_; rintro e w' ⟨rfl, rfl⟩)
    | ((with_reducible refine wpList_copy_splice rfl (.tmp 31) (.tmp 32) 23 23 rfl 3 Try.underlying23 HSZ.out (some ⟨w.heap.size, 0, none⟩) (some ⟨g, 0, none⟩) n n 1 1 rfl rfl w.heap.size 0 (rep x n 0) 3 HG.out cs HN1.out (fun _ => ⟨rfl, _, rfl, HPOS.out⟩) HFIT.out HONE.out w.heap.size w HB.out (Nat.le_refl _) ?_); intro w2 HG2 hb2))
  have HG2' := Lib.hid (show w2.heap[w.heap.size]? = some (.cells (rep x n cs.length).toArray 3 (0, 0)) by rw [HG2.out, HS.out, HMIN.out])
  clear HG2
  generalize cs.length = m at *
  go_loopw [8] (fun v wr => ∃ k : Nat, k ≤ n ∧ (0 < n → 0 < k) ∧ v = .int .i64 k ∧ wr.heap[w.heap.size]? = some (.cells (rep x n k).toArray 3 (0, 0)) ∧ Below w.heap.size w wr) (fun v _ => n - (intOf v).toNat)
  case atStart => exact ⟨m, hm1, hm2, rfl, HG2'.out, hb2⟩
  case round =>
    clear hb2 hm1 hm2
    obtain ⟨k, hk, hk0, rfl, hgk, hb⟩ := hrel
    by_cases hlt : k < n
    · have hkpos := hk0 (by omega)
      have HGK := Lib.hid hgk
      have HBK := Lib.hid hb
      have HBD := Lib.hid hb.drew
      obtain ⟨ds, hds⟩ : ∃ ds, ds = List.replicate (min k (n - k)) (Value.int .i64 x) := ⟨_, rfl⟩
      have hdl : ds.length = min k (n - k) := by rw [hds]; simp
      have HDS := Lib.hid hds
      have HSP := Lib.hid (show splice (rep x n k) k ds = rep x n (k + ds.length) by rw [hdl, hds]; exact rep_splice x (by omega))
      have HDL := Lib.hid hdl
      have hd1 : 0 < ds.length := by omega
      have hd2 : k + ds.length ≤ n := by omega
      have n1 : ¬ n = k := by omega
      have n2 : (0 : Int) ≤ (k : Int) := by omega
      have n3 : (k : Int) ≤ (n : Int) := by omega
      have HPOS2 := Lib.hid (show ∀ j v, ds[j]? = some v → wr.drew.cell? ((⟨w.heap.size, 0, none⟩ : Addr).add j) = some v from fun j v hj => by
        have hjd : j < ds.length := (List.getElem?_eq_some_iff.1 hj).1
        rw [hds, List.getElem?_replicate, if_pos (by omega)] at hj
        rw [show ((⟨w.heap.size, 0, none⟩ : Addr).add j) = ⟨w.heap.size, j, none⟩ from by unfold Addr.add; split <;> simp [*]]
        rw [← hj, ← rep_get x hk (show j < k by omega)]
        have := blk_cell hgk j
        simpa using this)
      have HONE2 := Lib.hid (show ∀ v ∈ ds, v.oneCell' = true from fun v hv => by
        rw [hds] at hv
        rw [(List.mem_replicate.1 hv).2]
        rfl)
      have HN2 := Lib.hid (show ds.length = Nat.min k (n - k) from hdl)
      have HFIT2 := Lib.hid (show k + ds.length ≤ (rep x n k).length by rw [rep_len x hk]; omega)
      clear hgk hb hds hdl hk0
      go_wp2
      go_region_law (refine step_copy_splice rfl (.tmp 41) (.tmp 44) 23 23 rfl 3 Try.underlying23 HSZ.out (some ⟨w.heap.size, k, none⟩) (some ⟨w.heap.size, 0, none⟩) (n - k) (n - k) k n (by simp [Act.eval, Act.put]) (by simp [Act.eval, Act.put]) w.heap.size k (rep x n k) 3 HGK.out ds HN2.out (fun _ => ⟨rfl, _, rfl, HPOS2.out⟩) HFIT2.out HONE2.out w.heap.size w HBD.out (Nat.le_refl _) ?_; intro w3 HG3 hb3)
      all_goals
        have HG3' := Lib.hid (show w3.heap[w.heap.size]? = some (.cells (rep x n (k + ds.length)).toArray 3 (0, 0)) by rw [HG3.out, HSP.out])
        clear HG3
        generalize ds.length = z at *
        have hz : z ≤ 6 := by omega
        have hwr : IntKind.i64.wrap ((k : Int) + (z : Int)) = ((k + z : Nat) : Int) := by rw [IntWalk.i64_in _ (by omega)]; omega
        simp [go_sem]
        rw [hwr]
        go_roundw
        case rel => exact ⟨_, _, _, _, _, _, _, _, _, _, _, _, _, _, ⟨k + z, by omega, by omega, rfl, HG3'.out, hb3⟩, rfl⟩
        case measure => simp [intOf]; omega
    · obtain rfl : k = n := by omega
      have HGK := Lib.hid hgk
      clear hgk
      go_wp2
      go_ret
      exact ⟨rfl, HGK.out, hb⟩
end Go.Proofs.Ytejjogpgolgdgaa
