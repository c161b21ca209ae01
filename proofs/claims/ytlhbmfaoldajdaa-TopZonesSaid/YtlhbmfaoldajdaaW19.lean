/-
  WALK: Reach, Far.
-/
import Derived.Test.YtlhbmfaoldajdaaW18
namespace Go.Proofs.Ytlhbmfaoldajdaa
open Go.RowKit Go.Maps

theorem PlOk.of_place {Z : Int} {L : List (Int × Int)} {s : List Int} (h : placeE Z L s = 0) : 1 ≤ Z ∧ Z ≤ 6 ∧ s.length ≤ 4 ∧ PlOk Z s.length s := by
  obtain ⟨h1, h2⟩ := placeE_ok h
  exact ⟨(vldT_ok h1).1, (vldT_ok h1).2.1, (placedE_ok h2).1, PlOk.of h2⟩
theorem bfsL_tidy {Z : Int} {L : List (Int × Int)} {s : List Int} (h : placeE Z L s = 0) : Tidy Z s.length (bfsL Z L s) := by
  obtain ⟨_, _, h3, h4⟩ := PlOk.of_place h
  exact tidy_bfs h4 h3 1296
def reachN (Z : Int) (L : List (Int × Int)) (s : List Int) : Int := if placeE Z L s = 0 then ((bfsL Z L s).length : Int) else 0
def nodeOf (T : List Nd) (p : List Int) : Option Nd := T.find? (fun x => decide (x.p = p))
theorem nodeOf_some {T : List Nd} {p : List Int} {x : Nd} (h : nodeOf T p = some x) : x ∈ T ∧ x.p = p := ⟨List.mem_of_find?_eq_some h, by have := List.find?_some h; simpa using this⟩
def nodeD : Option Nd → Int
  | some x => x.d
  | none => 0
def farN (Z : Int) (L : List (Int × Int)) (s t : List Int) : Int := if pairZ Z L s t = 0 then nodeD (nodeOf (bfsL Z L s) t) else 0
def farB (Z : Int) (L : List (Int × Int)) (s t : List Int) : Bool := if pairZ Z L s t = 0 then (nodeOf (bfsL Z L s) t).isSome else false
section
variable {w : World} {b n : Nat} {Z : Int} {T : List Nd} {x : Nd}
theorem map_look (c : Bool) (h : w.ownsMap Try.prog 61 stepElem b T.length (mapN T)) (hT : Tidy Z n T) (hZ : Z ≤ 6) (hn : n ≤ 4) (hx : x ∈ T) :
    (Instr.lookup 48 (.map (some b)) (keyV x.p) c).run Try.prog w = .ok (if c then .tuple #[.agg (ints (stepZ x)).toArray, .bool true] else .agg (ints (stepZ x)).toArray) w := by
  have hk := hT.keys hZ hn
  cases c with
  | true =>
    obtain ⟨v, ps, hrun, hv⟩ := h.look_ok law61 Try.underlying48 (zero63 w) (stepElem_mk (by rfl)) (keyOf_place (hk x hx).1)
    rw [at_mapN hk hT.1 hx] at hv
    rw [stepElem_is hv, has_mapN_mem hx] at hrun
    exact hrun
  | false =>
    obtain ⟨v, ps, hrun, hv⟩ := h.lookup law61 Try.underlying48 (zero63 w) (stepElem_mk (by rfl)) (keyOf_place (hk x hx).1)
    rw [at_mapN hk hT.1 hx] at hv
    rw [stepElem_is hv] at hrun
    exact hrun
theorem map_look_none {q : List Int} (h : w.ownsMap Try.prog 61 stepElem b T.length (mapN T)) (hT : Tidy Z n T) (hZ : Z ≤ 6) (hn : n ≤ 4) (hq : PlOk Z n q) (hx : q ∉ T.map (·.p)) :
    (Instr.lookup 48 (.map (some b)) (keyV q) true).run Try.prog w = .ok (.tuple #[.agg (ints [0, 0, 0, 0, 0, 0, 0]).toArray, .bool false]) w := by
  have hk := hT.keys hZ hn
  have hq' := hq.kok hZ hn
  obtain ⟨v, ps, hrun, hv⟩ := h.look_ok law61 Try.underlying48 (zero63 w) (stepElem_mk (by rfl)) (keyOf_place hq')
  rw [at_mapN_none hk hq' hq.1 hx] at hv
  rw [stepElem_is hv, has_mapN hk hq' hq.1, decide_eq_false hx] at hrun
  exact hrun
/-- A look-up with 'ok', whichever way. -/
theorem map_look_ok {q : List Int} (h : w.ownsMap Try.prog 61 stepElem b T.length (mapN T)) (hT : Tidy Z n T) (hZ : Z ≤ 6) (hn : n ≤ 4) (hq : PlOk Z n q) :
    ∃ a0 a1 a2 a3 m1 m2 d, (Instr.lookup 48 (.map (some b)) (keyV q) true).run Try.prog w = .ok (.tuple #[.agg #[.int .i64 a0, .int .i64 a1, .int .i64 a2, .int .i64 a3, .int .i64 m1, .int .i64 m2, .int .i64 d], .bool (nodeOf T q).isSome]) w ∧
      d = nodeD (nodeOf T q) ∧ ∀ x, nodeOf T q = some x → x.k = [a0, a1, a2, a3] ∧ x.m = (m1, m2) := by
  cases hf : nodeOf T q with
  | none =>
    have hm : q ∉ T.map (·.p) := by
      intro hm
      obtain ⟨y, hy, he⟩ := List.mem_map.1 hm
      have := List.find?_eq_none.1 hf y hy
      simp [he] at this
    exact ⟨0, 0, 0, 0, 0, 0, 0, map_look_none h hT hZ hn hq hm, rfl, fun x hx => by cases hx⟩
  | some x =>
    obtain ⟨hx, hp⟩ := nodeOf_some hf
    obtain ⟨a0, a1, a2, a3, ha⟩ := list4 (hT.2 x hx).2.1
    refine ⟨a0, a1, a2, a3, x.m.1, x.m.2, x.d, ?_, rfl, fun y hy => by injection hy with hy; subst hy; exact ⟨ha, rfl⟩⟩
    have := map_look true h hT hZ hn hx
    rw [hp, stepZ, ha] at this
    exact this
end

set_option maxRecDepth 100000 in
set_option maxHeartbeats 4000000 in
theorem pReach (Z : Int) (A A' : Option Addr) (k c k' c' : Nat) (L : List (Int × Int)) (s : List Int) (w : World) (hl : L.length ≤ 1000) (hc : k ≤ c) (hl' : s.length ≤ 1000) (hc' : k' ≤ c') (B : Nat) (hB : B ≤ w.heap.size) (hr : Rd w B 2 A k (prs L)) (hr' : Rd w B 1 A' k' (ints s)) :
    Calls Try.prog 4 #[.agg #[.int .i64 Z, .slice A k c], .slice A' k' c'] w fun e w' => e = .returned (.tuple #[.int .i64 (reachN Z L s), .int .i64 (placeE Z L s)]) ∧ Below w.heap.size w w' := by
  obtain rfl := hr'.int_len
  have HB1 := Lib.hid ((Below.refl w.heap.size w).alloc (Nat.le_refl _) (.cells #[.int .i64 Z, .slice A k c] 24))
  have HX := Lib.hid (blk_new w 24 #[.int .i64 Z, .slice A k c])
  have hr := (hr.more hB)
  have hr' := (hr'.more hB)
  have s1 : (w.alloc (.cells #[.int .i64 Z, .slice A k c] 24)).heap.size = w.heap.size + 1 := by simp
  have x0 : (w.alloc (.cells #[.int .i64 Z, .slice A k c] 24)).cell? ⟨w.heap.size, 0, none⟩ = some (.int .i64 Z) := blk_cell HX.out 0
  have x1 : (w.alloc (.cells #[.int .i64 Z, .slice A k c] 24)).cell? ⟨w.heap.size, 1, none⟩ = some (.slice A k c) := blk_cell HX.out 1
  have HP := Lib.hid (pValidatePlace Z A A' k c s.length c' L s (w.alloc (.cells #[.int .i64 Z, .slice A k c] 24)) hl hc hl' hc' w.heap.size (by simp) (hr.below HB1.out) (hr'.below HB1.out))
  by_cases h : placeE Z L s = 0
  · have HE := Lib.hid (show reachN Z L s = ((bfsL Z L s).length : Int) by rw [reachN, if_pos h])
    have HT := Lib.hid (bfsL_tidy h)
    obtain ⟨z1, z2, z3, z4⟩ := PlOk.of_place h
    have HPL := Lib.hid z4
    rw [h] at HP ⊢
    clear h z4
    go_enter Try.func4, Try.ntmps4
    go_wp2_with fail
    refine HP.out.mono ?_
    rintro e w1 ⟨rfl, hb1⟩
    have y0 := (hb1.cell (p := ⟨w.heap.size, 0, none⟩) (by simp)).trans x0
    have y1 := (hb1.cell (p := ⟨w.heap.size, 1, none⟩) (by simp)).trans x1
    have HB2 := Lib.hid (HB1.out.trans (hb1.mono (by omega)))
    have s2 := HB2.out.size
    clear hb1 x0 x1 HP
    go_wp2_with fail
    refine (preached Z A A' k c s.length c' L s w1 (by omega) z2 z3 hl HPL.out w.heap.size s2 (hr.below HB2.out) (hr'.below HB2.out)).mono ?_
    rintro e w2 ⟨b, rfl, hown, hb2⟩
    have HB3 := Lib.hid (HB2.out.trans (hb2.mono s2))
    have hlen := hown.len (t := 48) Try.underlying48 3
    rw [size_mapN (HT.out.keys z2 z3) HT.out.1, ← HE.out] at hlen
    clear hb2 hown y0 y1
    go_wp2
    refine bodyPost_ret (results_tmp2 rfl _ _ _) rfl ?_
    exact ⟨ret_pair rfl rfl, HB3.out⟩
  · have HE := Lib.hid (show reachN Z L s = 0 by rw [reachN, if_neg h])
    have hd : (placeE Z L s != 0) = true := by simpa using h
    clear h
    generalize placeE Z L s = y at *
    go_enter Try.func4, Try.ntmps4
    go_wp2_with fail
    refine HP.out.mono ?_
    rintro e w1 ⟨rfl, hb1⟩
    go_wp2
    refine bodyPost_ret (results_tmp2 rfl _ _ _) rfl ?_
    exact ⟨ret_pair (by rw [HE.out]; rfl) rfl, HB1.out.trans (hb1.mono (by omega))⟩
set_option maxRecDepth 100000 in
set_option maxHeartbeats 4000000 in
theorem pFar (Z : Int) (A A' A'' : Option Addr) (k c k' c' k'' c'' : Nat) (L : List (Int × Int)) (s t : List Int) (w : World) (hl : L.length ≤ 1000) (hc : k ≤ c) (hl' : s.length ≤ 1000) (hc' : k' ≤ c') (hl'' : t.length ≤ 1000) (hc'' : k'' ≤ c'') (B : Nat) (hB : B ≤ w.heap.size) (hr : Rd w B 2 A k (prs L)) (hr' : Rd w B 1 A' k' (ints s)) (hr'' : Rd w B 1 A'' k'' (ints t)) :
    Calls Try.prog 9 #[.agg #[.int .i64 Z, .slice A k c], .slice A' k' c', .slice A'' k'' c''] w fun e w' => e = .returned (.tuple #[.int .i64 (farN Z L s t), .bool (farB Z L s t), .int .i64 (pairZ Z L s t)]) ∧ Below w.heap.size w w' := by
  obtain rfl := hr'.int_len
  obtain rfl := hr''.int_len
  have HB1 := Lib.hid ((Below.refl w.heap.size w).alloc (Nat.le_refl _) (.cells #[.int .i64 Z, .slice A k c] 24))
  have HX := Lib.hid (blk_new w 24 #[.int .i64 Z, .slice A k c])
  have hr := (hr.more hB)
  have hr' := (hr'.more hB)
  have hr'' := (hr''.more hB)
  have s1 : (w.alloc (.cells #[.int .i64 Z, .slice A k c] 24)).heap.size = w.heap.size + 1 := by simp
  have x0 : (w.alloc (.cells #[.int .i64 Z, .slice A k c] 24)).cell? ⟨w.heap.size, 0, none⟩ = some (.int .i64 Z) := blk_cell HX.out 0
  have x1 : (w.alloc (.cells #[.int .i64 Z, .slice A k c] 24)).cell? ⟨w.heap.size, 1, none⟩ = some (.slice A k c) := blk_cell HX.out 1
  have HP := Lib.hid (ppair Z A A' A'' k c s.length c' t.length c'' L s t (w.alloc (.cells #[.int .i64 Z, .slice A k c] 24)) hl hc hl' hc' hl'' hc'' w.heap.size (by simp) (hr.below HB1.out) (hr'.below HB1.out) (hr''.below HB1.out))
  by_cases h : pairZ Z L s t = 0
  · have HE := Lib.hid (show farN Z L s t = nodeD (nodeOf (bfsL Z L s) t) by rw [farN, if_pos h])
    have HE2 := Lib.hid (show farB Z L s t = (nodeOf (bfsL Z L s) t).isSome by rw [farB, if_pos h])
    obtain ⟨p1, p2, p3⟩ := pairZ_ok h
    have HT := Lib.hid (bfsL_tidy p1)
    obtain ⟨z1, z2, z3, z4⟩ := PlOk.of_place p1
    have HPL := Lib.hid z4
    have HPT := Lib.hid (show PlOk Z s.length t by have := PlOk.of p2; rw [← p3] at this; exact this)
    have ht4 : t.length ≤ 4 := by omega
    rw [h] at HP ⊢
    clear h z4 p1 p2 p3
    go_enter Try.func9, Try.ntmps9
    go_wp2_with fail
    refine HP.out.mono ?_
    rintro e w1 ⟨rfl, hb1⟩
    have y0 := (hb1.cell (p := ⟨w.heap.size, 0, none⟩) (by simp)).trans x0
    have y1 := (hb1.cell (p := ⟨w.heap.size, 1, none⟩) (by simp)).trans x1
    have HB2 := Lib.hid (HB1.out.trans (hb1.mono (by omega)))
    have s2 := HB2.out.size
    clear hb1 x0 x1 HP
    go_wp2_with fail
    refine (preached Z A A' k c s.length c' L s w1 (by omega) z2 z3 hl HPL.out w.heap.size s2 (hr.below HB2.out) (hr'.below HB2.out)).mono ?_
    rintro e w2 ⟨b, rfl, hown, hb2⟩
    have HB3 := Lib.hid (HB2.out.trans (hb2.mono s2))
    have s3 := HB3.out.size
    have HO := Lib.hid hown
    clear hb2 hown y0 y1
    go_wp2_with fail
    refine (pkeyOf A'' t.length c'' t w2 ht4 w.heap.size s3 (hr''.below HB3.out)).mono ?_
    rintro e w3 ⟨rfl, hb3⟩
    obtain ⟨a0, a1, a2, a3, m1, m2, d, hlk, hm⟩ := map_look_ok (ownsMap_below HO.out hb3) HT.out z2 z3 HPT.out
    have HD := Lib.hid (HE.out.trans hm.1.symm)
    rw [← HE2.out] at hlk
    have HB4 := Lib.hid (HB3.out.trans (hb3.mono s3))
    clear hb3 hm HE HE2 HO
    have HB5 := Lib.hid (HB4.out.alloc HB4.out.size (.cells #[.int .i64 a0, .int .i64 a1, .int .i64 a2, .int .i64 a3, .int .i64 m1, .int .i64 m2, .int .i64 d] 63))
    go_wp2
    refine bodyPost_ret (results_tmp3 rfl _ _ _) rfl ?_
    exact ⟨ret_three (by rw [HD.out]; rfl) rfl rfl, HB5.out⟩
  · have HE := Lib.hid (show farN Z L s t = 0 by rw [farN, if_neg h])
    have HE2 := Lib.hid (show farB Z L s t = false by rw [farB, if_neg h])
    have hd : (pairZ Z L s t != 0) = true := by simpa using h
    clear h
    generalize pairZ Z L s t = y at *
    go_enter Try.func9, Try.ntmps9
    go_wp2_with fail
    refine HP.out.mono ?_
    rintro e w1 ⟨rfl, hb1⟩
    go_wp2
    refine bodyPost_ret (results_tmp3 rfl _ _ _) rfl ?_
    exact ⟨ret_three (by rw [HE.out]; rfl) (by rw [HE2.out]; rfl) rfl, HB1.out.trans (hb1.mono (by omega))⟩
end Go.Proofs.Ytlhbmfaoldajdaa
