/-
  WALK: joined; Join, Delay of both.
-/
import Derived.Test.YtnoocdannfeidaaW34
namespace Go.Proofs.Ytnoocdannfeidaa
open Go.RowKit Pulse

def joinE (p q : List Int) : Int := if bothE p q = 0 then (if 12 < p.length + q.length then 3 else 0) else bothE p q
def joinL (p q : List Int) : List Int := if bothE p q = 0 ∧ ¬ 12 < p.length + q.length then p ++ q else []
def delayE (p : List Int) (s : Int) : Int := if vald p = 0 then (if 0 ≤ s ∧ s ≤ 12 then (if 12 < s.toNat + p.length then 3 else 0) else 1) else vald p
def delayL (p : List Int) (s : Int) : List Int := if vald p = 0 ∧ (0 ≤ s ∧ s ≤ 12) ∧ ¬ 12 < s.toNat + p.length then List.replicate s.toNat 0 ++ p else []

set_option maxHeartbeats 1000000 in
theorem pJoined (A A' : Option Addr) (k c k' c' : Nat) (l m : List Int) (w : World) (hl : l.length ≤ 100) (hm : m.length ≤ 100) (B : Nat) (hB : B ≤ w.heap.size) (hr : Rd w B 1 A k (ints l)) (hr' : Rd w B 1 A' k' (ints m)) :
    Calls Try.prog 87 #[.slice A k c, .slice A' k' c'] w fun e w' => ∃ v, e = .returned (.tuple #[v, .int .i64 (if 12 < l.length + m.length then 3 else 0)]) ∧ w'.ownsRow w.heap.size 3 1 v (if 12 < l.length + m.length then [] else l ++ m).length (ints (if 12 < l.length + m.length then [] else l ++ m)) ∧ Below w.heap.size w w' := by
  obtain rfl := hr.int_len
  obtain rfl := hr'.int_len
  by_cases h : 12 < l.length + m.length
  · rw [if_pos h, if_pos h]
    have hd : decide (12 < (l.length : Int) + (m.length : Int)) = true := by simp; omega
    clear h
    go_enter Try.func87, Try.ntmps87
    go_wp2
    go_ret2
    exact ⟨_, rfl, World.ownsRow_nil .., Below.refl _ _⟩
  · rw [if_neg h, if_neg h]
    have hd : decide (12 < (l.length : Int) + (m.length : Int)) = false := by simp; omega
    clear h
    have hn := blk_new w 22 #[.slice A l.length c, .slice A' m.length c']
    have HC := Lib.hid (pConcat w.heap.size A A' l.length c m.length c' l m (w.alloc (.cells #[.slice A l.length c, .slice A' m.length c'] 22)) hl hm B (by simp; omega) (hr.alloc hB _) (hr'.alloc hB _) hn)
    have HB := Lib.hid ((Below.refl w.heap.size w).alloc (Nat.le_refl _) (.cells #[.slice A l.length c, .slice A' m.length c'] 22))
    clear hn
    go_enter Try.func87, Try.ntmps87
    go_wp2_with fail
    refine HC.out.mono ?_
    rintro e w1 ⟨v1, rfl, hown1, hb1⟩
    rw [World.size_alloc] at hown1 hb1
    go_wp2
    go_ret2
    exact ⟨_, rfl, own_base hown1 (by omega), HB.out.trans (hb1.mono (by omega))⟩

set_option maxHeartbeats 1000000 in
theorem pJoin (A A' : Option Addr) (k c k' c' : Nat) (p r : List Int) (w : World) (hl : p.length ≤ 1000) (hl' : r.length ≤ 1000) (B : Nat) (hB : B ≤ w.heap.size) (hr : Rd w B 1 A k (ints p)) (hr' : Rd w B 1 A' k' (ints r)) :
    Calls Try.prog 51 #[.slice A k c, .slice A' k' c'] w fun e w' => ∃ v, e = .returned (.tuple #[v, .int .i64 (joinE p r)]) ∧ w'.ownsRow w.heap.size 3 1 v (joinL p r).length (ints (joinL p r)) ∧ Below w.heap.size w w' := by
  have H := Lib.hid (pboth A A' k c k' c' p r w hl hl' B hB hr hr')
  have HE := Lib.hid (show joinE p r = if bothE p r = 0 then (if 12 < p.length + r.length then 3 else 0) else bothE p r from rfl)
  have HL := Lib.hid (show joinL p r = if bothE p r = 0 ∧ ¬ 12 < p.length + r.length then p ++ r else [] from rfl)
  by_cases h : bothE p r = 0
  · obtain ⟨v1, v2⟩ := bothE_ok h
    have hp := (vald_ok v1).1
    have hp' := (vald_ok v2).1
    rw [h] at H
    rw [if_pos h] at HE
    have HL2 := Lib.hid (show joinL p r = if 12 < p.length + r.length then [] else p ++ r by
      rw [HL.out]
      by_cases h2 : 12 < p.length + r.length
      · rw [if_neg (fun x => x.2 h2), if_pos h2]
      · rw [if_pos ⟨h, h2⟩, if_neg h2])
    clear v1 v2 h HL
    go_enter Try.func51, Try.ntmps51
    go_wp2_with fail
    refine H.out.mono ?_
    rintro e w1 ⟨rfl, hb1⟩
    have s1 := hb1.size
    go_wp2_with fail
    refine (pJoined A A' k c k' c' p r w1 (by omega) (by omega) B (by omega) (hr.below' hb1 hB) (hr'.below' hb1 hB)).mono ?_
    rw [← HE.out, ← HL2.out]
    rintro e w2 ⟨v2, rfl, hown2, hb2⟩
    go_wp2
    go_ret2
    exact ⟨_, rfl, own_base hown2 s1, hb1.trans (hb2.mono s1)⟩
  · have hd : (bothE p r != 0) = true := by simpa using h
    rw [if_neg h] at HE
    rw [if_neg (fun x => h x.1)] at HL
    clear h
    go_enter Try.func51, Try.ntmps51
    go_wp2_with fail
    refine H.out.mono ?_
    rintro e w1 ⟨rfl, hb1⟩
    go_wp2
    go_ret2
    exact ⟨_, ret_two rfl (by rw [HE.out]; rfl), by rw [HL.out]; exact World.ownsRow_nil .., hb1⟩

set_option maxHeartbeats 1000000 in
theorem rJoin (A A' : Option Addr) (k c k' c' : Nat) (p r : List Int) (w : World) (hl : p.length ≤ 1000) (hl' : r.length ≤ 1000) (B : Nat) (hB : B ≤ w.heap.size) (hr : Rd w B 1 A k (ints p)) (hr' : Rd w B 1 A' k' (ints r)) :
    Calls Try.prog 52 #[.slice A k c, .slice A' k' c'] w fun e w' => ∃ v, e = .returned (.tuple #[v, .int .i64 (joinE p r)]) ∧ w'.ownsRow w.heap.size 3 1 v (joinL p r).length (ints (joinL p r)) ∧ Below w.heap.size w w' := by
  obtain rfl := hr.int_len
  obtain rfl := hr'.int_len
  have H := Lib.hid (rboth A A' p.length c r.length c' p r w hl hl' B hB hr hr')
  have HE := Lib.hid (show joinE p r = if bothE p r = 0 then (if 12 < p.length + r.length then 3 else 0) else bothE p r from rfl)
  have HL := Lib.hid (show joinL p r = if bothE p r = 0 ∧ ¬ 12 < p.length + r.length then p ++ r else [] from rfl)
  by_cases h : bothE p r = 0
  · have HV := Lib.hid h
    rw [h] at H
    rw [if_pos h] at HE
    clear h
    by_cases h2 : 12 < p.length + r.length
    · have hd : decide (12 < (p.length : Int) + (r.length : Int)) = true := by simp; omega
      rw [if_pos h2] at HE
      rw [if_neg (fun x => x.2 h2)] at HL
      clear h2
      go_enter Try.func52, Try.ntmps52
      go_wp2_with fail
      refine H.out.mono ?_
      rintro e w1 ⟨rfl, hb1⟩
      go_wp2
      go_ret2
      exact ⟨_, ret_two rfl (by rw [HE.out]; rfl), by rw [HL.out]; exact World.ownsRow_nil .., hb1⟩
    · have hd : decide (12 < (p.length : Int) + (r.length : Int)) = false := by simp; omega
      rw [if_neg h2] at HE
      rw [if_pos ⟨HV.out, h2⟩] at HL
      clear h2
      go_enter Try.func52, Try.ntmps52
      go_wp2_with fail
      refine H.out.mono ?_
      rintro e w1 ⟨rfl, hb1⟩
      have s1 := hb1.size
      have HO := Lib.hid (show (w1.alloc (.cells #[] 3)).ownsRow w1.heap.size 3 1 (.slice (some ⟨w1.heap.size, 0, none⟩) 0 0) 0 [] from own_empty (blk_new w1 3 #[]) (Nat.le_refl _))
      have B1 := (hb1.alloc s1 (.cells #[] 3))
      have s2 : (w1.alloc (.cells #[] 3)).heap.size = w1.heap.size + 1 := by simp
      have hR := hr.below' B1 hB
      clear hb1
      go_wp2_with (at_builtin; first
        | ((refine appN rfl (.tmp 21) (.tmp 22) 22 rfl 3 _ 1 8 E22 w1.heap.size _ _ _ rfl hown5 B A' r.length c' (ints r) rfl (hr'.below' (below_own B1 (by omega) HO.out s1 hg5) hB) (ints_one _) (by omega) (by have := (below_own B1 (by omega) HO.out s1 hg5).size; have := hg5.size; omega) ?_); intro v6 w6 hown6 hg6)
        | ((refine appN rfl (.tmp 19) (.tmp 20) 22 rfl 3 _ 1 8 E22 w1.heap.size _ _ _ rfl HO.out B A p.length c (ints p) rfl hR (ints_one _) (by omega) (by simp) ?_); intro v5 w5 hown5 hg5; rw [Nat.zero_add, List.nil_append] at hown5))
      have B5 := below_own B1 (by omega) HO.out s1 hg5
      have B6 := below_own B5 B5.size hown5 s1 hg6
      go_ret2
      exact ⟨_, ret_two rfl (by rw [HE.out]; rfl), by rw [HL.out, List.length_append]; simpa [ints] using own_base hown6 s1, B6⟩
  · have hd : (bothE p r != 0) = true := by simpa using h
    rw [if_neg h] at HE
    rw [if_neg (fun x => h x.1)] at HL
    clear h
    go_enter Try.func52, Try.ntmps52
    go_wp2_with fail
    refine H.out.mono ?_
    rintro e w1 ⟨rfl, hb1⟩
    go_wp2
    go_ret2
    exact ⟨_, ret_two rfl (by rw [HE.out]; rfl), by rw [HL.out]; exact World.ownsRow_nil .., hb1⟩

theorem made_zeros (n : Nat) : (madeCells #[.int .i64 0] n).toList = ints (List.replicate n 0) := by
  rw [toList_madeCells_one]; simp [ints]
theorem own_made (w : World) (n : Nat) (hn : n ≤ 1000) : (w.alloc (.cells (madeCells #[.int .i64 0] n) 3)).ownsRow w.heap.size 3 1 (.slice (some ⟨w.heap.size, 0, none⟩) n n) n (ints (List.replicate n 0)) := by
  refine ⟨by simp, .inr ⟨w.heap.size, n, madeCells #[.int .i64 0] n, rfl, Nat.le_refl _, blk_new _ _ _, Nat.le_refl _, by unfold maxLen; omega, ?_, ?_⟩⟩
  · rw [← Array.length_toList, made_zeros]; simp
  · rw [made_zeros, List.take_of_length_le (by simp)]

set_option maxHeartbeats 1000000 in
theorem pDelay (A : Option Addr) (k c : Nat) (p : List Int) (s : Int) (w : World) (hl : p.length ≤ 1000) (B : Nat) (hB : B ≤ w.heap.size) (hr : Rd w B 1 A k (ints p)) :
    Calls Try.prog 53 #[.slice A k c, .int .i64 s] w fun e w' => ∃ v, e = .returned (.tuple #[v, .int .i64 (delayE p s)]) ∧ w'.ownsRow w.heap.size 3 1 v (delayL p s).length (ints (delayL p s)) ∧ Below w.heap.size w w' := by
  have H := Lib.hid (pValidate A k c p w hl B hB hr)
  have HE := Lib.hid (show delayE p s = if vald p = 0 then (if 0 ≤ s ∧ s ≤ 12 then (if 12 < s.toNat + p.length then 3 else 0) else 1) else vald p from rfl)
  have HL := Lib.hid (show delayL p s = if vald p = 0 ∧ (0 ≤ s ∧ s ≤ 12) ∧ ¬ 12 < s.toNat + p.length then List.replicate s.toNat 0 ++ p else [] from rfl)
  by_cases h : vald p = 0
  · have hp := (vald_ok h).1
    have HV := Lib.hid h
    rw [h] at H
    rw [if_pos h] at HE
    clear h
    by_cases h1 : s < 0
    · rw [if_neg (by omega)] at HE
      rw [if_neg (by omega)] at HL
      go_enter Try.func53, Try.ntmps53
      go_wp2_with fail
      refine H.out.mono ?_
      rintro e w1 ⟨rfl, hb1⟩
      go_wp2
      go_ret2
      exact ⟨_, ret_two rfl (by rw [HE.out]; rfl), by rw [HL.out]; exact World.ownsRow_nil .., hb1⟩
    · by_cases h2 : 12 < s
      · rw [if_neg (by omega)] at HE
        rw [if_neg (by omega)] at HL
        go_enter Try.func53, Try.ntmps53
        go_wp2_with fail
        refine H.out.mono ?_
        rintro e w1 ⟨rfl, hb1⟩
        go_wp2
        go_ret2
        exact ⟨_, ret_two rfl (by rw [HE.out]; rfl), by rw [HL.out]; exact World.ownsRow_nil .., hb1⟩
      · rw [if_pos (by omega)] at HE
        obtain ⟨n, rfl⟩ := Int.eq_ofNat_of_zero_le (show 0 ≤ s by omega)
        rw [show ((n : Int)).toNat = n from rfl] at HE HL
        have hn : n ≤ 12 := by omega
        have HL2 := Lib.hid (show delayL p n = if 12 < (List.replicate n (0 : Int)).length + p.length then [] else List.replicate n 0 ++ p by
          rw [HL.out, List.length_replicate]
          by_cases h2 : 12 < n + p.length
          · rw [if_neg (fun x => x.2.2 h2), if_pos h2]
          · rw [if_pos ⟨HV.out, by omega, h2⟩, if_neg h2])
        have HE2 := Lib.hid (show delayE p n = if 12 < (List.replicate n (0 : Int)).length + p.length then 3 else 0 by rw [HE.out, List.length_replicate])
        clear HE HL
        have hmk := fun W => run_make_row' (P := Try.prog) 22 3 (.int .i64 0) 8 Try.underlying22 (show (Try.prog.info? 3).map (fun i => (i.zero, i.size, i.bytes)) = some (some (.int .i64 0), 1, 8) by kernel_rfl) rfl .i64 .i64 n (by omega) (by omega) W
        go_enter Try.func53, Try.ntmps53
        go_wp2_with fail
        refine H.out.mono ?_
        rintro e w1 ⟨rfl, hb1⟩
        have s1 := hb1.size
        have HO := Lib.hid (Rd.of_own (own_made w1 n (by omega)))
        have HB1 := Lib.hid (hb1.alloc s1 (.cells (madeCells #[.int .i64 0] n) 3))
        have s2 : (w1.alloc (.cells (madeCells #[.int .i64 0] n) 3)).heap.size = w1.heap.size + 1 := by simp
        clear hb1
        go_wp2_with fail
        refine (pJoined (some ⟨w1.heap.size, 0, none⟩) A n n k c (List.replicate n 0) p (w1.alloc (.cells (madeCells #[.int .i64 0] n) 3)) (by simp; omega) (by omega) (w1.alloc (.cells (madeCells #[.int .i64 0] n) 3)).heap.size (Nat.le_refl _) HO.out ((hr.below' HB1.out hB).more (by omega))).mono ?_
        rw [← HE2.out, ← HL2.out]
        rintro e w2 ⟨v2, rfl, hown2, hb2⟩
        go_wp2
        go_ret2
        exact ⟨_, rfl, own_base hown2 (by omega), HB1.out.trans (hb2.mono (by omega))⟩
  · have hd : (vald p != 0) = true := by simpa using h
    rw [if_neg h] at HE
    rw [if_neg (fun x => h x.1)] at HL
    clear h
    go_enter Try.func53, Try.ntmps53
    go_wp2_with fail
    refine H.out.mono ?_
    rintro e w1 ⟨rfl, hb1⟩
    go_wp2
    go_ret2
    exact ⟨_, ret_two rfl (by rw [HE.out]; rfl), by rw [HL.out]; exact World.ownsRow_nil .., hb1⟩

set_option maxHeartbeats 1000000 in
theorem rDelay (A : Option Addr) (k c : Nat) (p : List Int) (s : Int) (w : World) (hl : p.length ≤ 1000) (B : Nat) (hB : B ≤ w.heap.size) (hr : Rd w B 1 A k (ints p)) :
    Calls Try.prog 54 #[.slice A k c, .int .i64 s] w fun e w' => ∃ v, e = .returned (.tuple #[v, .int .i64 (delayE p s)]) ∧ w'.ownsRow w.heap.size 3 1 v (delayL p s).length (ints (delayL p s)) ∧ Below w.heap.size w w' := by
  obtain rfl := hr.int_len
  have H := Lib.hid (rValidate A p.length c p w hl B hB hr)
  have HE := Lib.hid (show delayE p s = if vald p = 0 then (if 0 ≤ s ∧ s ≤ 12 then (if 12 < s.toNat + p.length then 3 else 0) else 1) else vald p from rfl)
  have HL := Lib.hid (show delayL p s = if vald p = 0 ∧ (0 ≤ s ∧ s ≤ 12) ∧ ¬ 12 < s.toNat + p.length then List.replicate s.toNat 0 ++ p else [] from rfl)
  by_cases h : vald p = 0
  · have hp := (vald_ok h).1
    have HV := Lib.hid h
    rw [h] at H
    rw [if_pos h] at HE
    clear h
    by_cases h1 : 0 ≤ s ∧ s ≤ 12
    · have HW := Lib.hid (show (decide (0 ≤ s) && decide (s ≤ 12)) = true by simp [h1.1, h1.2])
      rw [if_pos h1] at HE
      obtain ⟨n, rfl⟩ := Int.eq_ofNat_of_zero_le h1.1
      rw [show ((n : Int)).toNat = n from rfl] at HE HL
      have hn : n ≤ 12 := by omega
      by_cases h2 : 12 < n + p.length
      · have hd : decide (12 < (p.length : Int) + (n : Int)) = true := by simp; omega
        rw [if_pos h2] at HE
        rw [if_neg (fun x => x.2.2 h2)] at HL
        clear h2 h1
        go_enter Try.func54, Try.ntmps54
        go_wp2_with fail
        refine H.out.mono ?_
        rintro e w1 ⟨rfl, hb1⟩
        go_wp2_with fail
        refine (rwithin _ _ _ _).mono ?_
        rw [HW.out]
        rintro e w' ⟨rfl, rfl⟩
        go_wp2
        go_ret2
        exact ⟨_, ret_two rfl (by rw [HE.out]; rfl), by rw [HL.out]; exact World.ownsRow_nil .., hb1⟩
      · have hd : decide (12 < (p.length : Int) + (n : Int)) = false := by simp; omega
        rw [if_neg h2] at HE
        rw [if_pos ⟨HV.out, h1, h2⟩] at HL
        clear h2 h1
        have hmk := fun W => run_make_row' (P := Try.prog) 22 3 (.int .i64 0) 8 Try.underlying22 (show (Try.prog.info? 3).map (fun i => (i.zero, i.size, i.bytes)) = some (some (.int .i64 0), 1, 8) by kernel_rfl) rfl .i64 .i64 n (by omega) (by omega) W
        go_enter Try.func54, Try.ntmps54
        go_wp2_with fail
        refine H.out.mono ?_
        rintro e w1 ⟨rfl, hb1⟩
        go_wp2_with fail
        refine (rwithin _ _ _ _).mono ?_
        rw [HW.out]
        rintro e w' ⟨rfl, rfl⟩
        have s1 := hb1.size
        have HO := Lib.hid (own_made w1 n (by omega))
        have HB1 := hb1.alloc s1 (.cells (madeCells #[.int .i64 0] n) 3)
        have s2 : (w1.alloc (.cells (madeCells #[.int .i64 0] n) 3)).heap.size = w1.heap.size + 1 := by simp
        have hR := hr.below' HB1 hB
        clear hb1
        go_wp2_with (at_builtin; go_must (refine appN rfl (.tmp 21) (.tmp 22) 22 rfl 3 _ 1 8 E22 w1.heap.size _ _ _ rfl HO.out B A p.length c (ints p) rfl hR (ints_one _) (by omega) (by omega) ?_); intro v5 w5 hown5 hg5)
        have B5 := below_own HB1 (by omega) HO.out s1 hg5
        go_ret2
        exact ⟨_, ret_two rfl (by rw [HE.out]; rfl), by rw [HL.out, List.length_append, List.length_replicate]; simpa [ints] using own_base hown5 s1, B5⟩
    · have HW := Lib.hid (show (decide (0 ≤ s) && decide (s ≤ 12)) = false by simp; omega)
      rw [if_neg h1] at HE
      rw [if_neg (fun x => h1 x.2.1)] at HL
      clear h1
      go_enter Try.func54, Try.ntmps54
      go_wp2_with fail
      refine H.out.mono ?_
      rintro e w1 ⟨rfl, hb1⟩
      go_wp2_with fail
      refine (rwithin _ _ _ _).mono ?_
      rw [HW.out]
      rintro e w' ⟨rfl, rfl⟩
      go_wp2
      go_ret2
      exact ⟨_, ret_two rfl (by rw [HE.out]; rfl), by rw [HL.out]; exact World.ownsRow_nil .., hb1⟩
  · have hd : (vald p != 0) = true := by simpa using h
    rw [if_neg h] at HE
    rw [if_neg (fun x => h x.1)] at HL
    clear h
    go_enter Try.func54, Try.ntmps54
    go_wp2_with fail
    refine H.out.mono ?_
    rintro e w1 ⟨rfl, hb1⟩
    go_wp2
    go_ret2
    exact ⟨_, ret_two rfl (by rw [HE.out]; rfl), by rw [HL.out]; exact World.ownsRow_nil .., hb1⟩
end Go.Proofs.Ytnoocdannfeidaa
