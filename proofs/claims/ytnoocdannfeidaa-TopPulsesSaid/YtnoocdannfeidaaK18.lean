/-
  MERGED: W35, LAdds.
-/
import Derived.Test.YtnoocdannfeidaaK17
import Derived.Test.YtnoocdannfeidaaK1
import Derived.Test.YtnoocdannfeidaaK14
/-
  WALK: joined; Join, Delay of both.
-/
namespace Go.Proofs.Ytnoocdannfeidaa
open Go.RowKit Pulse

def joinE (p q : List Int) : Int := if bothE p q = 0 then (if 12 < p.length + q.length then 3 else 0) else bothE p q
def joinL (p q : List Int) : List Int := if bothE p q = 0 ∧ ¬ 12 < p.length + q.length then p ++ q else []
def delayE (p : List Int) (s : Int) : Int := if vald p = 0 then (if 0 ≤ s ∧ s ≤ 12 then (if 12 < s.toNat + p.length then 3 else 0) else 1) else vald p
def delayL (p : List Int) (s : Int) : List Int := if vald p = 0 ∧ (0 ≤ s ∧ s ≤ 12) ∧ ¬ 12 < s.toNat + p.length then List.replicate s.toNat 0 ++ p else []

set_option maxHeartbeats 1000000 in
theorem pJoined (A A' : Option Addr) (k c k' c' : Nat) (l m : List Int) (w : World) (hl : l.length ≤ 100) (hm : m.length ≤ 100) (B : Nat) (hB : B ≤ w.heap.size) (hr : Rd w B 1 A k (ints l)) (hr' : Rd w B 1 A' k' (ints m)) :
    Calls Try.prog 87 #[.slice A k c, .slice A' k' c'] w fun e w' => ∃ v, e = .returned (.tuple #[v, .int .i64 (if 12 < l.length + m.length then 3 else 0)]) ∧ w'.ownsRow w.heap.size 3 1 v (if 12 < l.length + m.length then [] else l ++ m).length (ints (if 12 < l.length + m.length then [] else l ++ m)) ∧ Below w.heap.size w w' := by
  obtain rfl := hr.int_len
  obtain rfl := hr'.int_len
  by_cases h : 12 < l.length + m.length
  · rw [if_pos h, if_pos h]
    have hd : decide (12 < (l.length : Int) + (m.length : Int)) = true := by simp; omega
    clear h
    go_enter Try.func87, Try.ntmps87
    go_wp2
    go_ret2
    exact ⟨_, rfl, World.ownsRow_nil .., Below.refl _ _⟩
  · rw [if_neg h, if_neg h]
    have hd : decide (12 < (l.length : Int) + (m.length : Int)) = false := by simp; omega
    clear h
    have hn := blk_new w 22 #[.slice A l.length c, .slice A' m.length c']
    have HC := Lib.hid (pConcat w.heap.size A A' l.length c m.length c' l m (w.alloc (.cells #[.slice A l.length c, .slice A' m.length c'] 22)) hl hm B (by simp; omega) (hr.alloc hB _) (hr'.alloc hB _) hn)
    have HB := Lib.hid ((Below.refl w.heap.size w).alloc (Nat.le_refl _) (.cells #[.slice A l.length c, .slice A' m.length c'] 22))
    clear hn
    go_enter Try.func87, Try.ntmps87
    go_wp2_with fail
    refine HC.out.mono ?_
    rintro e w1 ⟨v1, rfl, hown1, hb1⟩
    rw [World.size_alloc] at hown1 hb1
    go_wp2
    go_ret2
    exact ⟨_, rfl, own_base hown1 (by omega), HB.out.trans (hb1.mono (by omega))⟩

set_option maxHeartbeats 1000000 in
theorem pJoin (A A' : Option Addr) (k c k' c' : Nat) (p r : List Int) (w : World) (hl : p.length ≤ 1000) (hl' : r.length ≤ 1000) (B : Nat) (hB : B ≤ w.heap.size) (hr : Rd w B 1 A k (ints p)) (hr' : Rd w B 1 A' k' (ints r)) :
    Calls Try.prog 51 #[.slice A k c, .slice A' k' c'] w fun e w' => ∃ v, e = .returned (.tuple #[v, .int .i64 (joinE p r)]) ∧ w'.ownsRow w.heap.size 3 1 v (joinL p r).length (ints (joinL p r)) ∧ Below w.heap.size w w' := by
  have H := Lib.hid (pboth A A' k c k' c' p r w hl hl' B hB hr hr')
  have HE := Lib.hid (show joinE p r = if bothE p r = 0 then (if 12 < p.length + r.length then 3 else 0) else bothE p r from rfl)
  have HL := Lib.hid (show joinL p r = if bothE p r = 0 ∧ ¬ 12 < p.length + r.length then p ++ r else [] from rfl)
  by_cases h : bothE p r = 0
  · obtain ⟨v1, v2⟩ := bothE_ok h
    have hp := (vald_ok v1).1
    have hp' := (vald_ok v2).1
    rw [h] at H
    rw [if_pos h] at HE
    have HL2 := Lib.hid (show joinL p r = if 12 < p.length + r.length then [] else p ++ r by
      rw [HL.out]
      by_cases h2 : 12 < p.length + r.length
      · rw [if_neg (fun x => x.2 h2), if_pos h2]
      · rw [if_pos ⟨h, h2⟩, if_neg h2])
    clear v1 v2 h HL
    go_enter Try.func51, Try.ntmps51
    go_wp2_with fail
    refine H.out.mono ?_
    rintro e w1 ⟨rfl, hb1⟩
    have s1 := hb1.size
    go_wp2_with fail
    refine (pJoined A A' k c k' c' p r w1 (by omega) (by omega) B (by omega) (hr.below' hb1 hB) (hr'.below' hb1 hB)).mono ?_
    rw [← HE.out, ← HL2.out]
    rintro e w2 ⟨v2, rfl, hown2, hb2⟩
    go_wp2
    go_ret2
    exact ⟨_, rfl, own_base hown2 s1, hb1.trans (hb2.mono s1)⟩
  · have hd : (bothE p r != 0) = true := by simpa using h
    rw [if_neg h] at HE
    rw [if_neg (fun x => h x.1)] at HL
    clear h
    go_enter Try.func51, Try.ntmps51
    go_wp2_with fail
    refine H.out.mono ?_
    rintro e w1 ⟨rfl, hb1⟩
    go_wp2
    go_ret2
    exact ⟨_, ret_two rfl (by rw [HE.out]; rfl), by rw [HL.out]; exact World.ownsRow_nil .., hb1⟩

set_option maxHeartbeats 1000000 in
theorem rJoin (A A' : Option Addr) (k c k' c' : Nat) (p r : List Int) (w : World) (hl : p.length ≤ 1000) (hl' : r.length ≤ 1000) (B : Nat) (hB : B ≤ w.heap.size) (hr : Rd w B 1 A k (ints p)) (hr' : Rd w B 1 A' k' (ints r)) :
    Calls Try.prog 52 #[.slice A k c, .slice A' k' c'] w fun e w' => ∃ v, e = .returned (.tuple #[v, .int .i64 (joinE p r)]) ∧ w'.ownsRow w.heap.size 3 1 v (joinL p r).length (ints (joinL p r)) ∧ Below w.heap.size w w' := by
  obtain rfl := hr.int_len
  obtain rfl := hr'.int_len
  have H := Lib.hid (rboth A A' p.length c r.length c' p r w hl hl' B hB hr hr')
  have HE := Lib.hid (show joinE p r = if bothE p r = 0 then (if 12 < p.length + r.length then 3 else 0) else bothE p r from rfl)
  have HL := Lib.hid (show joinL p r = if bothE p r = 0 ∧ ¬ 12 < p.length + r.length then p ++ r else [] from rfl)
  by_cases h : bothE p r = 0
  · have HV := Lib.hid h
    rw [h] at H
    rw [if_pos h] at HE
    clear h
    by_cases h2 : 12 < p.length + r.length
    · have hd : decide (12 < (p.length : Int) + (r.length : Int)) = true := by simp; omega
      rw [if_pos h2] at HE
      rw [if_neg (fun x => x.2 h2)] at HL
      clear h2
      go_enter Try.func52, Try.ntmps52
      go_wp2_with fail
      refine H.out.mono ?_
      rintro e w1 ⟨rfl, hb1⟩
      go_wp2
      go_ret2
      exact ⟨_, ret_two rfl (by rw [HE.out]; rfl), by rw [HL.out]; exact World.ownsRow_nil .., hb1⟩
    · have hd : decide (12 < (p.length : Int) + (r.length : Int)) = false := by simp; omega
      rw [if_neg h2] at HE
      rw [if_pos ⟨HV.out, h2⟩] at HL
      clear h2
      go_enter Try.func52, Try.ntmps52
      go_wp2_with fail
      refine H.out.mono ?_
      rintro e w1 ⟨rfl, hb1⟩
      have s1 := hb1.size
      have HO := Lib.hid (show (w1.alloc (.cells #[] 3)).ownsRow w1.heap.size 3 1 (.slice (some ⟨w1.heap.size, 0, none⟩) 0 0) 0 [] from own_empty (blk_new w1 3 #[]) (Nat.le_refl _))
      have B1 := (hb1.alloc s1 (.cells #[] 3))
      have s2 : (w1.alloc (.cells #[] 3)).heap.size = w1.heap.size + 1 := by simp
      have hR := hr.below' B1 hB
      clear hb1
      go_wp2_with (at_builtin; first
        | ((refine appN rfl (.tmp 21) (.tmp 22) 22 rfl 3 _ 1 8 E22 w1.heap.size _ _ _ rfl hown5 B A' r.length c' (ints r) rfl (hr'.below' (below_own B1 (by omega) HO.out s1 hg5) hB) (ints_one _) (by omega) (by have := (below_own B1 (by omega) HO.out s1 hg5).size; have := hg5.size; omega) ?_); intro v6 w6 hown6 hg6)
        | ((refine appN rfl (.tmp 19) (.tmp 20) 22 rfl 3 _ 1 8 E22 w1.heap.size _ _ _ rfl HO.out B A p.length c (ints p) rfl hR (ints_one _) (by omega) (by simp) ?_); intro v5 w5 hown5 hg5; rw [Nat.zero_add, List.nil_append] at hown5))
      have B5 := below_own B1 (by omega) HO.out s1 hg5
      have B6 := below_own B5 B5.size hown5 s1 hg6
      go_ret2
      exact ⟨_, ret_two rfl (by rw [HE.out]; rfl), by rw [HL.out, List.length_append]; simpa [ints] using own_base hown6 s1, B6⟩
  · have hd : (bothE p r != 0) = true := by simpa using h
    rw [if_neg h] at HE
    rw [if_neg (fun x => h x.1)] at HL
    clear h
    go_enter Try.func52, Try.ntmps52
    go_wp2_with fail
    refine H.out.mono ?_
    rintro e w1 ⟨rfl, hb1⟩
    go_wp2
    go_ret2
    exact ⟨_, ret_two rfl (by rw [HE.out]; rfl), by rw [HL.out]; exact World.ownsRow_nil .., hb1⟩

theorem made_zeros (n : Nat) : (madeCells #[.int .i64 0] n).toList = ints (List.replicate n 0) := by
  rw [toList_madeCells_one]; simp [ints]
theorem own_made (w : World) (n : Nat) (hn : n ≤ 1000) : (w.alloc (.cells (madeCells #[.int .i64 0] n) 3)).ownsRow w.heap.size 3 1 (.slice (some ⟨w.heap.size, 0, none⟩) n n) n (ints (List.replicate n 0)) := by
  refine ⟨by simp, .inr ⟨w.heap.size, n, madeCells #[.int .i64 0] n, rfl, Nat.le_refl _, blk_new _ _ _, Nat.le_refl _, by unfold maxLen; omega, ?_, ?_⟩⟩
  · rw [← Array.length_toList, made_zeros]; simp
  · rw [made_zeros, List.take_of_length_le (by simp)]

set_option maxHeartbeats 1000000 in
theorem pDelay (A : Option Addr) (k c : Nat) (p : List Int) (s : Int) (w : World) (hl : p.length ≤ 1000) (B : Nat) (hB : B ≤ w.heap.size) (hr : Rd w B 1 A k (ints p)) :
    Calls Try.prog 53 #[.slice A k c, .int .i64 s] w fun e w' => ∃ v, e = .returned (.tuple #[v, .int .i64 (delayE p s)]) ∧ w'.ownsRow w.heap.size 3 1 v (delayL p s).length (ints (delayL p s)) ∧ Below w.heap.size w w' := by
  have H := Lib.hid (pValidate A k c p w hl B hB hr)
  have HE := Lib.hid (show delayE p s = if vald p = 0 then (if 0 ≤ s ∧ s ≤ 12 then (if 12 < s.toNat + p.length then 3 else 0) else 1) else vald p from rfl)
  have HL := Lib.hid (show delayL p s = if vald p = 0 ∧ (0 ≤ s ∧ s ≤ 12) ∧ ¬ 12 < s.toNat + p.length then List.replicate s.toNat 0 ++ p else [] from rfl)
  by_cases h : vald p = 0
  · have hp := (vald_ok h).1
    have HV := Lib.hid h
    rw [h] at H
    rw [if_pos h] at HE
    clear h
    by_cases h1 : s < 0
    · rw [if_neg (by omega)] at HE
      rw [if_neg (by omega)] at HL
      go_enter Try.func53, Try.ntmps53
      go_wp2_with fail
      refine H.out.mono ?_
      rintro e w1 ⟨rfl, hb1⟩
      go_wp2
      go_ret2
      exact ⟨_, ret_two rfl (by rw [HE.out]; rfl), by rw [HL.out]; exact World.ownsRow_nil .., hb1⟩
    · by_cases h2 : 12 < s
      · rw [if_neg (by omega)] at HE
        rw [if_neg (by omega)] at HL
        go_enter Try.func53, Try.ntmps53
        go_wp2_with fail
        refine H.out.mono ?_
        rintro e w1 ⟨rfl, hb1⟩
        go_wp2
        go_ret2
        exact ⟨_, ret_two rfl (by rw [HE.out]; rfl), by rw [HL.out]; exact World.ownsRow_nil .., hb1⟩
      · rw [if_pos (by omega)] at HE
        obtain ⟨n, rfl⟩ := Int.eq_ofNat_of_zero_le (show 0 ≤ s by omega)
        rw [show ((n : Int)).toNat = n from rfl] at HE HL
        have hn : n ≤ 12 := by omega
        have HL2 := Lib.hid (show delayL p n = if 12 < (List.replicate n (0 : Int)).length + p.length then [] else List.replicate n 0 ++ p by
          rw [HL.out, List.length_replicate]
          by_cases h2 : 12 < n + p.length
          · rw [if_neg (fun x => x.2.2 h2), if_pos h2]
          · rw [if_pos ⟨HV.out, by omega, h2⟩, if_neg h2])
        have HE2 := Lib.hid (show delayE p n = if 12 < (List.replicate n (0 : Int)).length + p.length then 3 else 0 by rw [HE.out, List.length_replicate])
        clear HE HL
        have hmk := fun W => run_make_row' (P := Try.prog) 22 3 (.int .i64 0) 8 Try.underlying22 (show (Try.prog.info? 3).map (fun i => (i.zero, i.size, i.bytes)) = some (some (.int .i64 0), 1, 8) by kernel_rfl) rfl .i64 .i64 n (by omega) (by omega) W
        go_enter Try.func53, Try.ntmps53
        go_wp2_with fail
        refine H.out.mono ?_
        rintro e w1 ⟨rfl, hb1⟩
        have s1 := hb1.size
        have HO := Lib.hid (Rd.of_own (own_made w1 n (by omega)))
        have HB1 := Lib.hid (hb1.alloc s1 (.cells (madeCells #[.int .i64 0] n) 3))
        have s2 : (w1.alloc (.cells (madeCells #[.int .i64 0] n) 3)).heap.size = w1.heap.size + 1 := by simp
        clear hb1
        go_wp2_with fail
        refine (pJoined (some ⟨w1.heap.size, 0, none⟩) A n n k c (List.replicate n 0) p (w1.alloc (.cells (madeCells #[.int .i64 0] n) 3)) (by simp; omega) (by omega) (w1.alloc (.cells (madeCells #[.int .i64 0] n) 3)).heap.size (Nat.le_refl _) HO.out ((hr.below' HB1.out hB).more (by omega))).mono ?_
        rw [← HE2.out, ← HL2.out]
        rintro e w2 ⟨v2, rfl, hown2, hb2⟩
        go_wp2
        go_ret2
        exact ⟨_, rfl, own_base hown2 (by omega), HB1.out.trans (hb2.mono (by omega))⟩
  · have hd : (vald p != 0) = true := by simpa using h
    rw [if_neg h] at HE
    rw [if_neg (fun x => h x.1)] at HL
    clear h
    go_enter Try.func53, Try.ntmps53
    go_wp2_with fail
    refine H.out.mono ?_
    rintro e w1 ⟨rfl, hb1⟩
    go_wp2
    go_ret2
    exact ⟨_, ret_two rfl (by rw [HE.out]; rfl), by rw [HL.out]; exact World.ownsRow_nil .., hb1⟩

set_option maxHeartbeats 1000000 in
theorem rDelay (A : Option Addr) (k c : Nat) (p : List Int) (s : Int) (w : World) (hl : p.length ≤ 1000) (B : Nat) (hB : B ≤ w.heap.size) (hr : Rd w B 1 A k (ints p)) :
    Calls Try.prog 54 #[.slice A k c, .int .i64 s] w fun e w' => ∃ v, e = .returned (.tuple #[v, .int .i64 (delayE p s)]) ∧ w'.ownsRow w.heap.size 3 1 v (delayL p s).length (ints (delayL p s)) ∧ Below w.heap.size w w' := by
  obtain rfl := hr.int_len
  have H := Lib.hid (rValidate A p.length c p w hl B hB hr)
  have HE := Lib.hid (show delayE p s = if vald p = 0 then (if 0 ≤ s ∧ s ≤ 12 then (if 12 < s.toNat + p.length then 3 else 0) else 1) else vald p from rfl)
  have HL := Lib.hid (show delayL p s = if vald p = 0 ∧ (0 ≤ s ∧ s ≤ 12) ∧ ¬ 12 < s.toNat + p.length then List.replicate s.toNat 0 ++ p else [] from rfl)
  by_cases h : vald p = 0
  · have hp := (vald_ok h).1
    have HV := Lib.hid h
    rw [h] at H
    rw [if_pos h] at HE
    clear h
    by_cases h1 : 0 ≤ s ∧ s ≤ 12
    · have HW := Lib.hid (show (decide (0 ≤ s) && decide (s ≤ 12)) = true by simp [h1.1, h1.2])
      rw [if_pos h1] at HE
      obtain ⟨n, rfl⟩ := Int.eq_ofNat_of_zero_le h1.1
      rw [show ((n : Int)).toNat = n from rfl] at HE HL
      have hn : n ≤ 12 := by omega
      by_cases h2 : 12 < n + p.length
      · have hd : decide (12 < (p.length : Int) + (n : Int)) = true := by simp; omega
        rw [if_pos h2] at HE
        rw [if_neg (fun x => x.2.2 h2)] at HL
        clear h2 h1
        go_enter Try.func54, Try.ntmps54
        go_wp2_with fail
        refine H.out.mono ?_
        rintro e w1 ⟨rfl, hb1⟩
        go_wp2_with fail
        refine (rwithin _ _ _ _).mono ?_
        rw [HW.out]
        rintro e w' ⟨rfl, rfl⟩
        go_wp2
        go_ret2
        exact ⟨_, ret_two rfl (by rw [HE.out]; rfl), by rw [HL.out]; exact World.ownsRow_nil .., hb1⟩
      · have hd : decide (12 < (p.length : Int) + (n : Int)) = false := by simp; omega
        rw [if_neg h2] at HE
        rw [if_pos ⟨HV.out, h1, h2⟩] at HL
        clear h2 h1
        have hmk := fun W => run_make_row' (P := Try.prog) 22 3 (.int .i64 0) 8 Try.underlying22 (show (Try.prog.info? 3).map (fun i => (i.zero, i.size, i.bytes)) = some (some (.int .i64 0), 1, 8) by kernel_rfl) rfl .i64 .i64 n (by omega) (by omega) W
        go_enter Try.func54, Try.ntmps54
        go_wp2_with fail
        refine H.out.mono ?_
        rintro e w1 ⟨rfl, hb1⟩
        go_wp2_with fail
        refine (rwithin _ _ _ _).mono ?_
        rw [HW.out]
        rintro e w' ⟨rfl, rfl⟩
        have s1 := hb1.size
        have HO := Lib.hid (own_made w1 n (by omega))
        have HB1 := hb1.alloc s1 (.cells (madeCells #[.int .i64 0] n) 3)
        have s2 : (w1.alloc (.cells (madeCells #[.int .i64 0] n) 3)).heap.size = w1.heap.size + 1 := by simp
        have hR := hr.below' HB1 hB
        clear hb1
        go_wp2_with (at_builtin; go_must (refine appN rfl (.tmp 21) (.tmp 22) 22 rfl 3 _ 1 8 E22 w1.heap.size _ _ _ rfl HO.out B A p.length c (ints p) rfl hR (ints_one _) (by omega) (by omega) ?_); intro v5 w5 hown5 hg5)
        have B5 := below_own HB1 (by omega) HO.out s1 hg5
        go_ret2
        exact ⟨_, ret_two rfl (by rw [HE.out]; rfl), by rw [HL.out, List.length_append, List.length_replicate]; simpa [ints] using own_base hown5 s1, B5⟩
    · have HW := Lib.hid (show (decide (0 ≤ s) && decide (s ≤ 12)) = false by simp; omega)
      rw [if_neg h1] at HE
      rw [if_neg (fun x => h1 x.2.1)] at HL
      clear h1
      go_enter Try.func54, Try.ntmps54
      go_wp2_with fail
      refine H.out.mono ?_
      rintro e w1 ⟨rfl, hb1⟩
      go_wp2_with fail
      refine (rwithin _ _ _ _).mono ?_
      rw [HW.out]
      rintro e w' ⟨rfl, rfl⟩
      go_wp2
      go_ret2
      exact ⟨_, ret_two rfl (by rw [HE.out]; rfl), by rw [HL.out]; exact World.ownsRow_nil .., hb1⟩
  · have hd : (vald p != 0) = true := by simpa using h
    rw [if_neg h] at HE
    rw [if_neg (fun x => h x.1)] at HL
    clear h
    go_enter Try.func54, Try.ntmps54
    go_wp2_with fail
    refine H.out.mono ?_
    rintro e w1 ⟨rfl, hb1⟩
    go_wp2
    go_ret2
    exact ⟨_, ret_two rfl (by rw [HE.out]; rfl), by rw [HL.out]; exact World.ownsRow_nil .., hb1⟩
end Go.Proofs.Ytnoocdannfeidaa

/-
  THE WALK of the law PulseAdds.
-/
namespace Go.Proofs.Ytnoocdannfeidaa
open Go.RowKit Pulse

theorem addE_ok {p r : List Int} (h : addE p r = 0) : vald p = 0 ∧ vald r = 0 ∧ p.length = r.length ∧ vald (addS p r) = 0 ∧ addL p r = addS p r := by
  unfold addE at h
  split at h
  · rename_i h0
    split at h
    · rename_i h1
      split at h
      · rename_i h2
        exact ⟨(bothE_ok h0).1, (bothE_ok h0).2, h1, h2, by rw [addL, if_pos ⟨h0, h1, h2⟩]⟩
      · omega
    · omega
  · exact absurd h (by assumption)
theorem addS_comm (p r : List Int) : addS r p = addS p r := by
  unfold addS
  rw [List.zipWith_comm]
  congr 1
  funext a b
  omega
theorem addE_comm {p r : List Int} (h : addE p r = 0) : addE r p = 0 ∧ addL r p = addS p r := by
  obtain ⟨h1, h2, h3, h4, _⟩ := addE_ok h
  have hb : bothE r p = 0 := by rw [bothE, if_pos h2]; exact h1
  have hs : vald (addS r p) = 0 := by rw [addS_comm]; exact h4
  exact ⟨by rw [addE, if_pos hb, if_pos h3.symm, if_pos hs], by rw [addL, if_pos ⟨hb, h3.symm, hs⟩, addS_comm]⟩
theorem moded_same {p r : List Int} (h : vald p = 0) (h' : vald r = 0) (m : Int) : moded r m = moded p m := by rw [moded, if_pos h', moded, if_pos h]
theorem endV_add {p r : List Int} {m : Int} (hp : moded p m = 0) (h1 : vald r = 0) (h2 : p.length = r.length) (h3 : vald (addS p r) = 0) : endV (addS p r) m = (endV p m).add (endV r m) := by
  have h0 := (moded_ok hp).1
  rw [endV, if_pos (by rw [moded_same h0 h3]; exact hp), endV, if_pos hp, endV, if_pos (by rw [moded_same h0 h1]; exact hp)]
  exact endL_add m.toNat p r h2
theorem endV_wi (p : List Int) (m : Int) : Wi 2000 (endV p m) := by
  unfold endV
  split
  · rename_i h
    obtain ⟨h1, _, _⟩ := moded_ok h
    obtain ⟨h4, h5⟩ := vald_ok h1
    exact (endL_wi (F := 99) (by decide) m.toNat p h5).mono (by omega)
  · unfold Wi V.zero; decide

set_option maxRecDepth 100000 in
set_option maxHeartbeats 4000000 in
theorem lawAdds (A : Option Addr) (k c : Nat) (p : List Int) (A' : Option Addr) (k' c' : Nat) (r : List Int) (m : Int) (w : World) (hk : k ≤ c) (hc : c ≤ maxLen) (hr : Rd w w.heap.size 1 A k (ints p)) (_ : Big p)
    (hk' : k' ≤ c') (hc' : c' ≤ maxLen) (hr' : Rd w w.heap.size 1 A' k' (ints r)) (_ : Big r) (_ : I64 m) :
    Calls Try.prog 12 #[.slice A k c, .slice A' k' c', .int .i64 m] w fun e w' => e = .returned (.bool true) ∧ Below w.heap.size w w' := by
  have hkm : k ≤ maxLen := Nat.le_trans hk hc
  have hkm' : k' ≤ maxLen := Nat.le_trans hk' hc'
  obtain rfl := hr.int_len
  obtain rfl := hr'.int_len
  by_cases hL : 100 < p.length
  · have HD := Lib.hid (show decide (100 < p.length) = true by simpa using hL)
    clear hL
    go_enter Try.func12, Try.ntmps12
    go_wp2_with fail
    refine (long _ _ _ _ hkm).mono ?_
    rw [HD.out]
    rintro e w1 ⟨rfl, rfl⟩
    go_wp2_with fail
    refine (known _).mono ?_
    rintro e w2 ⟨rfl, hb2⟩
    go_wp2
    go_ret
    exact ⟨rfl, hb2⟩
  · have HD := Lib.hid (show decide (100 < p.length) = false by simpa using hL)
    by_cases hL' : 100 < r.length
    · have HD' := Lib.hid (show decide (100 < r.length) = true by simpa using hL')
      go_enter Try.func12, Try.ntmps12
      go_wp2_with fail
      refine (long _ _ _ _ hkm).mono ?_
      rw [HD.out]
      rintro e w1 ⟨rfl, rfl⟩
      go_wp2_with fail
      refine (long _ _ _ _ hkm').mono ?_
      rw [HD'.out]
      rintro e w1 ⟨rfl, rfl⟩
      go_wp2_with fail
      refine (known _).mono ?_
      rintro e w2 ⟨rfl, hb2⟩
      go_wp2
      go_ret
      exact ⟨rfl, hb2⟩
    · have HD' := Lib.hid (show decide (100 < r.length) = false by simpa using hL')
      have hl : p.length ≤ 1000 := by omega
      have hl' : r.length ≤ 1000 := by omega
      have hsl : (addL p r).length ≤ 1000 := by unfold addL; split <;> simp [addS]; omega
      have HOK := Lib.hid (fun h => addE_ok (p := p) (r := r) h)
      have HCM := Lib.hid (fun h => addE_comm (p := p) (r := r) h)
      go_enter Try.func12, Try.ntmps12
      go_wp2_with fail
      refine (long _ _ _ _ hkm).mono ?_
      rw [HD.out]
      rintro e w1 ⟨rfl, rfl⟩
      go_wp2_with fail
      refine (long _ _ _ _ hkm').mono ?_
      rw [HD'.out]
      rintro e w1 ⟨rfl, rfl⟩
      clear hL hL'
      go_wp2_with fail
      refine (pAdd A A' p.length c r.length c' p r w hl hl' w.heap.size (Nat.le_refl _) hr hr').mono ?_
      rintro e w1 ⟨v1, rfl, hown1, B1⟩
      obtain ⟨A1, c1, rfl, _, _⟩ := own_cap hown1
      have s1 := B1.size
      have r1 := Rd.of_own hown1
      clear hown1
      go_wp2_with fail
      refine (rAdd A A' p.length c r.length c' p r w1 hl hl' w.heap.size s1 (hr.below B1) (hr'.below B1)).mono ?_
      rintro e w2 ⟨v2, rfl, hown2, hb2⟩
      obtain ⟨A2, c2, rfl, _, _⟩ := own_cap hown2
      have B2 := B1.trans (hb2.mono s1)
      have s2 := hb2.size
      have r1 := (r1.below hb2).more s2
      have r2 := Rd.of_own hown2
      clear hown2 hb2 B1
      go_wp2_with fail
      refine (rSameInts A1 A2 (addL p r).length (addL p r).length c1 c2 (addL p r) (addL p r) w2 hsl hsl w2.heap.size (Nat.le_refl _) r1 r2).mono ?_
      rw [decide_eq_true rfl]
      rintro e w3 ⟨rfl, hb3⟩
      have B3 := B2.trans (hb3.mono (by omega))
      have s3 := hb3.size
      have r1 := (r1.below hb3).more s3
      clear hb3 B2 r2
      by_cases h0 : addE p r = 0
      · obtain ⟨g1, g2, g3, g4, g5⟩ := HOK.out h0
        obtain ⟨g6, g7⟩ := HCM.out h0
        have HX := Lib.hid (And.intro g6 g7)
        have HMA := Lib.hid (moded_same g1 g4 m)
        have HMR := Lib.hid (moded_same g1 g2 m)
        have HEN := Lib.hid (fun hp => endV_add (m := m) (r := r) hp g2 g3 g4)
        rw [h0, g5]
        rw [g5] at r1 hsl
        clear h0 g1 g2 g3 g4 g5 g6 g7 HOK HCM
        go_wp2_with fail
        refine (pAdd A' A r.length c' p.length c r p w3 hl' hl w.heap.size (by omega) (hr'.below B3) (hr.below B3)).mono ?_
        rw [HX.out.1, HX.out.2]
        rintro e w4 ⟨v4, rfl, hown4, hb4⟩
        obtain ⟨A4, c4, rfl, _, _⟩ := own_cap hown4
        have B4 := B3.trans (hb4.mono (by omega))
        have s4 := hb4.size
        have r1 := (r1.below hb4).more s4
        have r4 := Rd.of_own hown4
        clear hown4 hb4 B3
        have hwx := endV_wi p m
        have hwy := endV_wi r m
        have HZ := Lib.hid (fun W B hB h => pEndF A1 (addS p r).length c1 (addS p r) m W hsl B hB h)
        obtain ⟨x, hx⟩ : ∃ x, x = endV p m := ⟨_, rfl⟩
        obtain ⟨y, hy⟩ : ∃ y, y = endV r m := ⟨_, rfl⟩
        obtain ⟨z, hz⟩ : ∃ z, z = endV (addS p r) m := ⟨_, rfl⟩
        rw [← hx] at hwx
        rw [← hy] at hwy
        rw [← hx, ← hy, ← hz] at HEN
        rw [← hz, HMA.out] at HZ
        have HX1 := Lib.hid hx
        have HY1 := Lib.hid hy
        clear hx hy hz
        go_wp2_with fail
        refine (pEndF A p.length c p m w4 hl w.heap.size (by omega) (hr.below B4)).mono ?_
        rw [← HX1.out]
        rintro e w5 ⟨rfl, hb5⟩
        have s5 := hb5.size
        have B5 := B4.trans (hb5.mono (by omega))
        have B5' := B5.alloc B5.size (.cells #[.int .i64 x.x, .int .i64 x.y] 29)
        have r1 := (((r1.below hb5).more s5).alloc (Nat.le_refl _) (.cells #[.int .i64 x.x, .int .i64 x.y] 29))
        have r4 := (((r4.below hb5).more s5).alloc (Nat.le_refl _) (.cells #[.int .i64 x.x, .int .i64 x.y] 29))
        have HNX := Lib.hid (blk_new w5 29 #[.int .i64 x.x, .int .i64 x.y])
        clear hb5 B4 B5
        go_wp2_with fail
        refine (pEndF A' r.length c' r m (w5.alloc (.cells #[.int .i64 x.x, .int .i64 x.y] 29)) hl' w.heap.size (by simp; omega) (hr'.below B5')).mono ?_
        rw [← HY1.out, HMR.out]
        rintro e w6 ⟨rfl, hb6⟩
        have s6 := hb6.size
        rw [World.size_alloc] at s6 hb6
        have B6 := B5'.trans (hb6.mono (by omega))
        have B6' := B6.alloc B6.size (.cells #[.int .i64 y.x, .int .i64 y.y] 29)
        have n6 := blk_alloc (blk_below HNX.out hb6 (by omega)) (.cells #[.int .i64 y.x, .int .i64 y.y] 29)
        have r1 := (((r1.below' hb6 (by omega)).more (B' := w6.heap.size) (by omega)).alloc (Nat.le_refl _) (.cells #[.int .i64 y.x, .int .i64 y.y] 29))
        have r4 := (((r4.below' hb6 (by omega)).more (B' := w6.heap.size) (by omega)).alloc (Nat.le_refl _) (.cells #[.int .i64 y.x, .int .i64 y.y] 29))
        have HNY := Lib.hid (And.intro n6 (blk_new w6 29 #[.int .i64 y.x, .int .i64 y.y]))
        clear hb6 B5' B6 n6
        go_wp2_with fail
        refine (HZ.out (w6.alloc (.cells #[.int .i64 y.x, .int .i64 y.y] 29)) w6.heap.size (by simp) r1).mono ?_
        rintro e w7 ⟨rfl, hb7⟩
        have s7 := hb7.size
        rw [World.size_alloc] at s7 hb7
        have B7 := B6'.trans (hb7.mono (by omega))
        have B7' := B7.alloc B7.size (.cells #[.int .i64 z.x, .int .i64 z.y] 29)
        have n1 := blk_alloc (blk_below HNY.out.1 hb7 (by omega)) (.cells #[.int .i64 z.x, .int .i64 z.y] 29)
        have n2 := blk_alloc (blk_below HNY.out.2 hb7 (by omega)) (.cells #[.int .i64 z.x, .int .i64 z.y] 29)
        have r1 := (((r1.below' hb7 (by omega)).more (B' := w7.heap.size) (by omega)).alloc (Nat.le_refl _) (.cells #[.int .i64 z.x, .int .i64 z.y] 29))
        have r4 := (((r4.below' hb7 (by omega)).more (B' := w7.heap.size) (by omega)).alloc (Nat.le_refl _) (.cells #[.int .i64 z.x, .int .i64 z.y] 29))
        have HN7 := Lib.hid (And.intro n1 (And.intro n2 (blk_new w7 29 #[.int .i64 z.x, .int .i64 z.y])))
        have HB7 := Lib.hid B7'
        have s8 : (w7.alloc (.cells #[.int .i64 z.x, .int .i64 z.y] 29)).heap.size = w7.heap.size + 1 := by simp
        clear hb7 B6' B7 B7' n1 n2
        go_wp2_with fail
        refine (rSameInts A1 A4 (addS p r).length (addS p r).length c1 c4 (addS p r) (addS p r) (w7.alloc (.cells #[.int .i64 z.x, .int .i64 z.y] 29)) hsl hsl w7.heap.size (by omega) r1 r4).mono ?_
        rw [decide_eq_true rfl]
        rintro e w8 ⟨rfl, hb8⟩
        have t8 := hb8.size
        have n1 := blk_below HN7.out.1 hb8 (by omega)
        have n2 := blk_below HN7.out.2.1 hb8 (by omega)
        have n3 := blk_below HN7.out.2.2 hb8 (by omega)
        have HB8 := Lib.hid (HB7.out.trans (hb8.mono (by omega)))
        have c5 : w8.cell? ⟨w5.heap.size, 0, none⟩ = some (.int .i64 x.x) := blk_cell n1 0
        have c6 : w8.cell? ⟨w5.heap.size, 1, none⟩ = some (.int .i64 x.y) := blk_cell n1 1
        have c7 : w8.cell? ⟨w6.heap.size, 0, none⟩ = some (.int .i64 y.x) := blk_cell n2 0
        have c8 : w8.cell? ⟨w6.heap.size, 1, none⟩ = some (.int .i64 y.y) := blk_cell n2 1
        have c9 : w8.cell? ⟨w7.heap.size, 0, none⟩ = some (.int .i64 z.x) := blk_cell n3 0
        have c10 : w8.cell? ⟨w7.heap.size, 1, none⟩ = some (.int .i64 z.y) := blk_cell n3 1
        clear n1 n2 n3 hb8 r1 r4
        by_cases hm0 : moded p m = 0
        · have hz := HEN.out hm0
          rw [hm0]
          clear hm0
          subst hz
          dsimp only [V.add] at c9 c10
          obtain ⟨hw1, hw2, hw3, hw4⟩ := hwx
          obtain ⟨hw5, hw6, hw7, hw8⟩ := hwy
          go_wp2_with fail
          refine (known _).mono ?_
          rintro e w9 ⟨rfl, hb9⟩
          go_wp2
          go_ret
          exact ⟨rfl, HB8.out.trans (hb9.mono (by omega))⟩
        · have d1 : (moded p m != 0) = true := by simpa using hm0
          have d2 : (moded p m == 0) = false := by simpa using hm0
          clear hm0 HEN
          go_wp2_with fail
          refine (known _).mono ?_
          rintro e w9 ⟨rfl, hb9⟩
          go_wp2
          go_ret
          exact ⟨rfl, HB8.out.trans (hb9.mono (by omega))⟩
      · have hd0 : (addE p r != 0) = true := by simpa using h0
        clear h0
        go_wp2_with fail
        refine (known _).mono ?_
        rintro e w9 ⟨rfl, hb9⟩
        go_wp2
        go_ret
        exact ⟨rfl, B3.trans (hb9.mono (by omega))⟩
end Go.Proofs.Ytnoocdannfeidaa
