/-
  WALK: Shortest.
-/
import Derived.Test.YtnoocdannfeidaaW13
namespace Go.Proofs.Ytnoocdannfeidaa
open Go.RowKit Pulse

/-- Some closed pulse of length n has a force. -/
def foundAt (ms : List Int) (F n : Nat) : Bool := (allP F n).any fun p => shut p ms && p.any nz
/-- The smallest length from 1 to 6 of a closed pulse with a force; 0 if there is none. -/
def firstLen (ms : List Int) (F : Nat) : Nat := ((List.range' 1 6).find? (foundAt ms F)).getD 0
def shortN (ms : List Int) (f : Int) : Int := if srchE ms 0 f = 0 then firstLen ms f.toNat else 0
def shortIs (ms : List Int) (f : Int) : Bool := decide (shortN ms f ≠ 0)

theorem firstLen_at {ms : List Int} {F q : Nat} (h1 : 1 ≤ q) (h2 : q ≤ 6) (h : foundAt ms F q = true) (hb : ∀ n, 1 ≤ n → n < q → foundAt ms F n = false) : firstLen ms F = q := by
  unfold firstLen
  have : (List.range' 1 6).find? (foundAt ms F) = some q := by
    rw [List.find?_eq_some_iff_append]
    refine ⟨h, List.range' 1 (q - 1), List.range' (q + 1) (6 - q), ?_, ?_⟩
    · rcases (show q = 1 ∨ q = 2 ∨ q = 3 ∨ q = 4 ∨ q = 5 ∨ q = 6 by omega) with rfl | rfl | rfl | rfl | rfl | rfl <;> rfl
    · intro a ha
      rw [List.mem_range'_1] at ha
      rw [hb a (by omega) (by omega)]; rfl
  rw [this]; rfl
theorem firstLen_none {ms : List Int} {F : Nat} (hb : ∀ n, 1 ≤ n → n < 7 → foundAt ms F n = false) : firstLen ms F = 0 := by
  unfold firstLen
  have : (List.range' 1 6).find? (foundAt ms F) = none := by
    rw [List.find?_eq_none]
    intro a ha
    rw [List.mem_range'_1] at ha
    rw [hb a (by omega) (by omega)]; decide
  rw [this]; rfl

/-- The state of the search for a force: none yet. -/
def ShJ (ms : List Int) (F n : Nat) (w0 : World) (b : Nat) (k : Nat) (W : World) : Prop :=
  Below w0.heap.size w0 W ∧ W.heap[b]? = some (.cells #[.bool false] 4 (0, 0)) ∧ ∀ j p, j < k → (allP F n)[j]? = some p → shut p ms = true → p.any nz = false
def ShX (ms : List Int) (F n : Nat) (w0 : World) (b : Nat) (_ : Nat) (W : World) : Prop :=
  Below w0.heap.size w0 W ∧ W.heap[b]? = some (.cells #[.bool true] 4 (0, 0)) ∧ foundAt ms F n = true

theorem ret_three {a a' b b' c c' : Value} (h : a = a') (h' : b = b') (h'' : c = c') : Ending.returned (.tuple #[a, b, c]) = .returned (.tuple #[a', b', c']) := by rw [h, h', h'']

set_option maxHeartbeats 1000000 in
/-- The search, as Shortest uses it: W0 is the world of the round, b the box. -/
theorem shSearch (ms : List Int) (A' : Option Addr) (k' c' n F : Nat) (hn : n ≤ 6) (hF : F ≤ 9) (hms : ∀ m ∈ ms, 0 ≤ m ∧ m ≤ 3) (hml : ms.length ≤ 1000) (w0 wr : World) (h0 : Below w0.heap.size w0 wr) (B : Nat) (hB : B ≤ w0.heap.size) (hr : Rd w0 B 1 A' k' (ints ms)) :
    Calls Try.prog 64 #[.slice A' k' c', .int .i64 n, .int .i64 F, .func (.func 65) #[] #[.pointer (some ⟨wr.heap.size, 0, none⟩)]] (wr.alloc (.cells #[.bool false] 4)) fun e W' =>
      (∃ v, e = .returned v) ∧ Below w0.heap.size w0 W' ∧ W'.heap[wr.heap.size]? = some (.cells #[.bool (foundAt ms F n)] 4 (0, 0)) := by
  have hs := h0.size
  refine (pSearch ms A' k' c' n F hn hF hms hml 65 Try.call65 #[.pointer (some ⟨wr.heap.size, 0, none⟩)] (wr.alloc (.cells #[.bool false] 4)) B (by simp; omega)
    (ShJ ms F n w0 wr.heap.size) (ShX ms F n w0 wr.heap.size) ?_ ?_ ?_ ?_ ?_).mono ?_
  · intro W hb
    rw [World.size_alloc] at hb
    exact ⟨(h0.alloc hs _).trans (hb.mono (by omega)), blk_below (blk_new wr 4 #[.bool false]) hb (by omega), fun j p hj => absurd hj (by omega)⟩
  · rw [World.size_alloc]
    rintro k W W' ⟨h1, h2, h4⟩ hf
    exact ⟨hf.frame h1 (fun g _ hg => by unfold But; omega) (Nat.le_refl _), hf.keep _ _ (by unfold But; omega) h2, h4⟩
  · rintro k W ⟨h1, _⟩
    exact hr.below' h1 hB
  · rintro k W p hk hsh ⟨h1, h2, h4⟩
    refine ⟨h1, h2, fun j q hj hq hs => ?_⟩
    rcases Nat.lt_or_ge j k with h | h
    · exact h4 j q h hq hs
    · obtain rfl : j = k := by omega
      rw [hk] at hq
      injection hq with hq
      rw [← hq, hsh] at hs
      cases hs
  · rintro k W p hk hsh ⟨h1, h2, h4⟩ hrow
    have hpm := mem_allP.1 (List.mem_of_getElem? hk)
    have hgs := blk_lt hrow
    have hrp : Rd W W.heap.size 1 (some ⟨(wr.alloc (.cells #[.bool false] 4)).heap.size + 1, 0, none⟩) n (ints p) := by
      have := rd_lit (sz := 1) (n := n) hrow (by simp [hpm.1])
      simpa using this.more (by omega)
    refine (shortFn (some ⟨(wr.alloc (.cells #[.bool false] 4)).heap.size + 1, 0, none⟩) n n p false wr.heap.size W (by rw [hpm.1]; omega) W.heap.size (Nat.le_refl _) hrp h2).mono ?_
    rintro e W' ⟨rfl, hb', w1, hb1, rfl⟩
    have hbel : Below w0.heap.size w0 (w1.setCell ⟨wr.heap.size, 0, none⟩ (.bool (p.any nz))) := (h1.trans (hb1.mono h1.size)).setCell (p := ⟨wr.heap.size, 0, none⟩) hs _
    refine ⟨?_, blk_far (blk_below hrow hb1 hgs) (p := ⟨wr.heap.size, 0, none⟩) (by simp; omega) _⟩
    cases hany : p.any nz with
    | false =>
      rw [hany] at hb' hbel
      refine .inl ⟨rfl, hbel, hb', fun j q hj hq hs => ?_⟩
      rcases Nat.lt_or_ge j k with h | h
      · exact h4 j q h hq hs
      · obtain rfl : j = k := by omega
        rw [hk] at hq
        injection hq with hq
        rw [← hq, hany]
    | true =>
      rw [hany] at hb' hbel
      refine .inr ⟨rfl, hbel, hb', ?_⟩
      rw [foundAt, List.any_eq_true]
      exact ⟨p, List.mem_of_getElem? hk, by rw [hsh, hany]; rfl⟩
  · rintro e W' ⟨he, ⟨h1, h2, h4⟩ | ⟨k, hk, h1, h2, h4⟩⟩
    · refine ⟨he, h1, ?_⟩
      have : foundAt ms F n = false := by
        rw [foundAt, List.any_eq_false]
        intro p hp
        obtain ⟨j, hj, rfl⟩ := List.getElem_of_mem hp
        cases hsh : shut (allP F n)[j] ms with
        | false => simp
        | true => rw [h4 j _ hj (List.getElem?_eq_getElem hj) hsh]; decide
      rw [this]; exact h2
    · exact ⟨he, h1, by rw [h4]; exact h2⟩

set_option maxHeartbeats 1000000 in
theorem pShortest (A : Option Addr) (k c : Nat) (ms : List Int) (f : Int) (w : World) (hl : ms.length ≤ 1000) (B : Nat) (hB : B ≤ w.heap.size) (hr : Rd w B 1 A k (ints ms)) :
    Calls Try.prog 26 #[.slice A k c, .int .i64 f] w fun e w' => e = .returned (.tuple #[.int .i64 (shortN ms f), .bool (shortIs ms f), .int .i64 (srchE ms 0 f)]) ∧ Below w.heap.size w w' := by
  have H := Lib.hid (pSearched A k c ms 0 f w hl B hB hr)
  have HN := Lib.hid (show shortN ms f = if srchE ms 0 f = 0 then (firstLen ms f.toNat : Int) else 0 from rfl)
  have HI := Lib.hid (show shortIs ms f = decide (shortN ms f ≠ 0) from rfl)
  by_cases h : srchE ms 0 f = 0
  · obtain ⟨h1, _, _, h2, h3⟩ := srchE_ok h
    obtain ⟨h4, h5⟩ := areModes_ok h1
    have HM := Lib.hid h
    have HMS := Lib.hid h5
    rw [h] at H
    have hN1 : shortN ms f = firstLen ms f.toNat := by rw [shortN, if_pos h]
    have HN1 := Lib.hid hN1
    obtain ⟨N, rfl⟩ := Int.eq_ofNat_of_zero_le (show 0 ≤ f by omega)
    clear h h1 h5 hN1
    go_enter Try.func26, Try.ntmps26
    go_wp2_with fail
    refine H.out.mono ?_
    rintro e w1 ⟨rfl, hb1⟩
    go_wp2
    go_loopw [8] (fun v wr => ∃ q : Nat, v = .int .i64 q ∧ 1 ≤ q ∧ q ≤ 7 ∧ Hid (∀ n, 1 ≤ n → n < q → foundAt ms N n = false) ∧ Below w.heap.size w wr) (fun v _ => 7 - (intOf v).toNat)
    case atStart => exact ⟨1, rfl, by omega, by omega, fun n h1 h2 => absurd h1 (by omega), hb1⟩
    case round =>
      clear hb1
      obtain ⟨q, rfl, hq1, hq2, hno, hb⟩ := hrel
      have hsz := hb.size
      by_cases hlt : q ≤ 6
      · have HSE := Lib.hid (shSearch ms A k c q N (by omega) (by omega) HMS.out hl w wr hb B hB hr)
        have HB := Lib.hid hb
        clear hb
        go_wp2_with fail
        refine HSE.out.mono ?_
        rintro e w2 ⟨⟨v, rfl⟩, hb2, hc2⟩
        have HB2 := Lib.hid hb2
        clear hb2 HSE
        cases hfa : foundAt ms N q with
        | true =>
          rw [hfa] at hc2
          have c1 : w2.cell? ⟨wr.heap.size, 0, none⟩ = some (.bool true) := blk_cell hc2 0
          have HFL := Lib.hid (firstLen_at hq1 hlt hfa hno.out)
          clear hc2 hfa
          go_wp2
          refine bodyPost_ret (results_tmp3 rfl _ _ _) rfl ?_
          refine ⟨ret_three (by rw [HN1.out]; show _ = Value.int .i64 ((firstLen ms N : Nat) : Int); rw [HFL.out]; rfl) (by rw [HI.out, HN1.out]; show _ = Value.bool (decide (((firstLen ms N : Nat) : Int) ≠ 0)); rw [HFL.out, decide_eq_true (by omega)]; rfl) (by rw [HM.out]; rfl), HB2.out⟩
        | false =>
          rw [hfa] at hc2
          have c1 : w2.cell? ⟨wr.heap.size, 0, none⟩ = some (.bool false) := blk_cell hc2 0
          have HNO := Lib.hid (show ∀ n, 1 ≤ n → n < q + 1 → foundAt ms N n = false from fun n h1 h2 => by
            rcases Nat.lt_or_ge n q with h | h
            · exact hno.out n h1 h
            · obtain rfl : n = q := by omega
              exact hfa)
          clear hc2 hfa
          go_wp2
          go_roundw
          case rel => exact ⟨q + 1, by go_num, by omega, by omega, HNO, HB2.out⟩
          case measure => simp [intOf]; omega
      · obtain rfl : q = 7 := by omega
        have HFL := Lib.hid (firstLen_none (fun n h1 h2 => hno.out n h1 h2))
        go_wp2
        refine bodyPost_ret (results_tmp3 rfl _ _ _) rfl ?_
        refine ⟨ret_three (by rw [HN1.out]; show _ = Value.int .i64 ((firstLen ms N : Nat) : Int); rw [HFL.out]; rfl) (by rw [HI.out, HN1.out]; show _ = Value.bool (decide (((firstLen ms N : Nat) : Int) ≠ 0)); rw [HFL.out]; rfl) (by rw [HM.out]; rfl), hb⟩
  · have hd : (srchE ms 0 f != 0) = true := by simpa using h
    have hz : shortN ms f = 0 := by rw [shortN, if_neg h]
    have HZ := Lib.hid hz
    clear h hz
    go_enter Try.func26, Try.ntmps26
    go_wp2_with fail
    refine H.out.mono ?_
    rintro e w1 ⟨rfl, hb1⟩
    go_wp2
    refine bodyPost_ret (results_tmp3 rfl _ _ _) rfl ?_
    exact ⟨ret_three (by rw [HZ.out]; rfl) (by rw [HI.out, HZ.out]; rfl) rfl, hb1⟩
end Go.Proofs.Ytnoocdannfeidaa
