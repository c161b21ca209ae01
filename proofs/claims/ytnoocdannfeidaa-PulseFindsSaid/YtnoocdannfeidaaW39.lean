/-
  WALK: the reference's Searched, Shortest.
-/
import Derived.Test.YtnoocdannfeidaaW21
import Derived.Test.YtnoocdannfeidaaW36
namespace Go.Proofs.Ytnoocdannfeidaa
open Go.RowKit Pulse

set_option maxHeartbeats 400000 in
theorem rSearched (A : Option Addr) (k c : Nat) (ms : List Int) (n f : Int) (w : World) (hl : ms.length ≤ 1000) (B : Nat) (hB : B ≤ w.heap.size) (hr : Rd w B 1 A k (ints ms)) :
    Calls Try.prog 68 #[.slice A k c, .int .i64 n, .int .i64 f] w fun e w' => e = .returned (.int .i64 (srchE ms n f)) ∧ Below w.heap.size w w' := by
  have H := Lib.hid (rareModes A k c ms w hl B hB hr)
  have HS := Lib.hid (show srchE ms n f = if areModes ms = true ∧ 0 ≤ n ∧ n ≤ 6 ∧ 1 ≤ f ∧ f ≤ 2 then 0 else 1 from rfl)
  cases ha : areModes ms with
  | false =>
    have HA := Lib.hid ha
    rw [ha] at H
    clear ha
    go_enter Try.func68, Try.ntmps68
    go_wp2_with fail
    refine H.out.mono ?_
    rintro e w1 ⟨rfl, hb1⟩
    go_wp2
    go_ret
    exact ⟨ret_int (by rw [HS.out, HA.out]; simp), hb1⟩
  | true =>
    have HA := Lib.hid ha
    rw [ha] at H
    clear ha
    have HW1 := Lib.hid (fun W => rwithin n 0 6 W)
    have HW2 := Lib.hid (fun W => rwithin f 1 2 W)
    by_cases h1 : 0 ≤ n ∧ n ≤ 6
    · have e1 : (decide (0 ≤ n) && decide (n ≤ 6)) = true := by simp [h1.1, h1.2]
      rw [e1] at HW1
      by_cases h2 : 1 ≤ f ∧ f ≤ 2
      · have e2 : (decide (1 ≤ f) && decide (f ≤ 2)) = true := by simp [h2.1, h2.2]
        rw [e2] at HW2
        rw [if_pos ⟨HA.out, h1.1, h1.2, h2.1, h2.2⟩] at HS
        clear h1 h2 e1 e2
        go_enter Try.func68, Try.ntmps68
        go_wp2_with fail
        refine H.out.mono ?_
        rintro e w1 ⟨rfl, hb1⟩
        go_wp2_with fail
        refine (HW1.out _).mono ?_
        rintro e w2 ⟨rfl, rfl⟩
        go_wp2_with fail
        refine (HW2.out _).mono ?_
        rintro e w2 ⟨rfl, rfl⟩
        go_wp2
        go_ret
        exact ⟨ret_int (by rw [HS.out]), hb1⟩
      · have e2 : (decide (1 ≤ f) && decide (f ≤ 2)) = false := by simp; omega
        rw [e2] at HW2
        rw [if_neg (fun x => h2 ⟨x.2.2.2.1, x.2.2.2.2⟩)] at HS
        clear h1 h2 e1 e2
        go_enter Try.func68, Try.ntmps68
        go_wp2_with fail
        refine H.out.mono ?_
        rintro e w1 ⟨rfl, hb1⟩
        go_wp2_with fail
        refine (HW1.out _).mono ?_
        rintro e w2 ⟨rfl, rfl⟩
        go_wp2_with fail
        refine (HW2.out _).mono ?_
        rintro e w2 ⟨rfl, rfl⟩
        go_wp2
        go_ret
        exact ⟨ret_int (by rw [HS.out]), hb1⟩
    · have e1 : (decide (0 ≤ n) && decide (n ≤ 6)) = false := by simp; omega
      rw [e1] at HW1
      rw [if_neg (fun x => h1 ⟨x.2.1, x.2.2.1⟩)] at HS
      clear h1 e1
      go_enter Try.func68, Try.ntmps68
      go_wp2_with fail
      refine H.out.mono ?_
      rintro e w1 ⟨rfl, hb1⟩
      go_wp2_with fail
      refine (HW1.out _).mono ?_
      rintro e w2 ⟨rfl, rfl⟩
      go_wp2
      go_ret
      exact ⟨ret_int (by rw [HS.out]), hb1⟩

/-! ### How many pulses are closed -/
def cl (ms : List Int) (L : List (List Int)) (j : Nat) : Nat := (L.take j).countP fun p => shut p ms
theorem cl_succ {ms : List Int} {L : List (List Int)} {j : Nat} (h : j < L.length) : cl ms L (j + 1) = cl ms L j + (if shut L[j] ms then 1 else 0) := by
  unfold cl
  rw [take_snoc _ j h, List.countP_append, List.countP_singleton]
theorem cl_le {ms : List Int} {L : List (List Int)} {j : Nat} : cl ms L j ≤ j := by
  unfold cl
  exact Nat.le_trans (List.countP_le_length ..) (by rw [List.length_take]; omega)
theorem count_but {α : Type} [DecidableEq α] {z : α} {P Q : α → Bool} : ∀ {L : List α}, L.Nodup → z ∈ L → P z = true → (∀ p ∈ L, Q p = (P p && decide (p ≠ z))) → L.countP P = L.countP Q + 1
  | a :: L, hn, hz, hP, hQ => by
    have hn' := List.nodup_cons.1 hn
    by_cases h : a = z
    · subst h
      have h1 : L.countP P = L.countP Q := List.countP_congr fun p hp => by
        rw [hQ p (by simp [hp])]
        have : p ≠ a := fun e => hn'.1 (e ▸ hp)
        simp [this]
      have h2 : Q a = false := by rw [hQ a (by simp)]; simp
      rw [List.countP_cons_of_pos hP, List.countP_cons_of_neg (by rw [h2]; decide), h1]
    · have hz' : z ∈ L := by
        rcases List.mem_cons.1 hz with e | e
        · exact absurd e.symm h
        · exact e
      have h1 := count_but hn'.2 hz' hP (fun p hp => hQ p (by simp [hp]))
      have h2 : Q a = P a := by rw [hQ a (by simp)]; simp [h]
      rw [List.countP_cons, List.countP_cons, h1, h2]
      omega
theorem shut_zeros (n : Nat) (ms : List Int) : shut (List.replicate n 0) ms = true := by
  have h : ms.any (away (List.replicate n 0)) = false := by
    rw [List.any_eq_false]
    intro m _
    unfold away
    rw [endL_zeros]
    simp [V.zero]
  rw [shut, h]; rfl
theorem any_nz {p : List Int} : p.any nz = decide (p ≠ List.replicate p.length 0) := by
  induction p with
  | nil => rfl
  | cons a p ih =>
    rw [List.any_cons, ih, List.length_cons, List.replicate_succ]
    by_cases h : a = 0
    · subst h; simp [nz]
    · simp [nz, h]
theorem found_count (ms : List Int) (F n : Nat) : cl ms (allP F n) (allP F n).length > 1 ↔ foundAt ms F n = true := by
  have hz : List.replicate n (0 : Int) ∈ allP F n := mem_allP.2 ⟨by simp, fun f hf => by rw [(List.mem_replicate.1 hf).2]; omega⟩
  have h1 := count_but (z := List.replicate n (0 : Int)) (P := fun p => shut p ms) (Q := fun p => shut p ms && p.any nz) (allP_nodup F n) hz (shut_zeros n ms) (fun p hp => by
    rw [any_nz, (mem_allP.1 hp).1])
  unfold cl foundAt
  rw [List.take_length, h1, List.any_eq_true]
  constructor
  · intro h
    obtain ⟨p, hp, hq⟩ := List.countP_pos_iff.1 (show 0 < (allP F n).countP (fun p => shut p ms && p.any nz) by omega)
    exact ⟨p, hp, hq⟩
  · rintro ⟨p, hp, hq⟩
    have := (List.countP_pos_iff (p := fun p => shut p ms && p.any nz)).2 ⟨p, hp, hq⟩
    omega

set_option maxRecDepth 100000 in
set_option maxHeartbeats 2000000 in
theorem rShortest (A : Option Addr) (k c : Nat) (ms : List Int) (f : Int) (w : World) (hl : ms.length ≤ 1000) (B : Nat) (hB : B ≤ w.heap.size) (hr : Rd w B 1 A k (ints ms)) :
    Calls Try.prog 27 #[.slice A k c, .int .i64 f] w fun e w' => e = .returned (.tuple #[.int .i64 (shortN ms f), .bool (shortIs ms f), .int .i64 (srchE ms 0 f)]) ∧ Below w.heap.size w w' := by
  have H := Lib.hid (rSearched A k c ms 0 f w hl B hB hr)
  have HI := Lib.hid (show shortIs ms f = decide (shortN ms f ≠ 0) from rfl)
  by_cases h : srchE ms 0 f = 0
  · obtain ⟨h1, _, _, h2, h3⟩ := srchE_ok h
    obtain ⟨h4, h5⟩ := areModes_ok h1
    have HM := Lib.hid h
    have HMS := Lib.hid h5
    rw [h] at H
    have hN1 : shortN ms f = firstLen ms f.toNat := by rw [shortN, if_pos h]
    have HN1 := Lib.hid hN1
    obtain ⟨N, rfl⟩ := Int.eq_ofNat_of_zero_le (show 0 ≤ f by omega)
    clear h h1 h5 hN1
    go_enter Try.func27, Try.ntmps27
    go_wp2_with fail
    refine H.out.mono ?_
    rintro e w1 ⟨rfl, hb1⟩
    go_wp2
    go_loopw [8, 9, 10, 11] (fun v _ _ _ wr => ∃ q : Nat, v = .int .i64 q ∧ 1 ≤ q ∧ q ≤ 7 ∧ Hid (∀ n, 1 ≤ n → n < q → foundAt ms N n = false) ∧ Below w.heap.size w wr) (fun v _ _ _ _ => 7 - (intOf v).toNat)
    case atStart => exact ⟨1, rfl, by omega, by omega, fun n h1 h2 => absurd h1 (by omega), hb1⟩
    case round =>
      clear hb1
      obtain ⟨q, rfl, hq1, hq2, hno, hb⟩ := hrel
      have hsz := hb.size
      by_cases hlt : q ≤ 6
      · have HAL := Lib.hid (rAll q N (by omega) (by omega) wr)
        have hbd := allP_bd (F := N) (q := q) (by omega) hlt
        have HFC := Lib.hid (found_count ms N q)
        have HMEM := Lib.hid (fun p => mem_allP (F := N) (n := q) (p := p))
        have HFL := Lib.hid (fun h hb => firstLen_at (ms := ms) (F := N) hq1 hlt h hb)
        obtain ⟨L, hL⟩ : ∃ L, L = allP N q := ⟨_, rfl⟩
        rw [← hL] at HAL HFC HMEM hbd
        clear hL
        obtain ⟨M, hM⟩ : ∃ M, M = L.length := ⟨_, rfl⟩
        rw [← hM] at HAL HFC hbd
        have HML := Lib.hid hM
        have HB := Lib.hid hb
        clear hb hM
        go_wp2_with fail
        refine HAL.out.mono ?_
        rintro e w2 ⟨Al, cl', vs, rfl, hro, _, hto, hb2⟩
        have HRO := Lib.hid hro
        have HTO := Lib.hid hto
        have HB2 := Lib.hid (HB.out.trans (hb2.mono hsz))
        have s2 := hb2.size
        have HR2 := Lib.hid (hr.below' HB2.out hB)
        clear hro hto hb2 HAL
        go_wp2
        go_loopw [10, 11] (fun n i wr => ∃ j : Nat, i = .int .i64 j ∧ j ≤ M ∧ n = .int .i64 (cl ms L j) ∧ Below w2.heap.size w2 wr) (fun _ i _ => M - (intOf i).toNat)
        case atStart => exact ⟨0, rfl, Nat.zero_le _, rfl, Below.refl _ _⟩
        case round =>
          obtain ⟨j, rfl, hj, rfl, hb⟩ := hrel
          have s3 := hb.size
          obtain ⟨wi, hwi⟩ : ∃ wi, wi = wr := ⟨_, rfl⟩
          subst hwi
          by_cases hjM : j < M
          · have hjL : j < L.length := by have := HML.out; omega
            obtain ⟨hdr, hhd, hrow⟩ := HTO.out.row hjL
            obtain ⟨Ap, cp, rfl, _, _, hrd⟩ := hrow.read
            obtain ⟨b, off, rfl, hbb, hc0⟩ := Rd.head HRO.out hhd
            have hmem := (HMEM.out L[j]).1 (List.getElem_mem hjL)
            have HCS := Lib.hid (cl_succ (ms := ms) hjL)
            have hcle := cl_le (ms := ms) (L := L) (j := j)
            have c0 := (hb.cell (p := ⟨b, off + j, none⟩) hbb).trans hc0
            have HCL := Lib.hid (rclosedIn L[j] ms Ap A cp k c (by rw [hmem.1]; omega) (fun g hg => by have := hmem.2 g hg; omega) HMS.out hl wi w2.heap.size s3 (hrd.below hb) ((HR2.out.below' hb (by have := HB2.out.size; omega)).more (by have := HB2.out.size; omega)))
            obtain ⟨p, hp⟩ : ∃ p, p = L[j] := ⟨_, rfl⟩
            rw [← hp] at c0 HCL HCS
            obtain ⟨x, hx⟩ : ∃ x, x = cl ms L j := ⟨_, rfl⟩
            rw [← hx] at HCS hcle ⊢
            clear hp hhd hrow hrd hc0 hmem hx
            have HB3 := Lib.hid hb
            clear hb
            have hj0 : (0 : Int) ≤ (j : Int) := by omega
            have hj1 : (j : Int) < (M : Int) := by omega
            cases hsh : shut p ms with
            | true =>
              rw [hsh] at HCL HCS
              clear hsh
              go_wp2_with fail
              refine HCL.out.mono ?_
              rintro e w3 ⟨rfl, hb3⟩
              have B3 := HB3.out.trans (hb3.mono s3)
              clear hb3
              go_wp2
              go_roundw
              case rel => exact ⟨j + 1, by go_num, by omega, by rw [HCS.out]; go_num, B3⟩
              case measure => simp [intOf]; omega
            | false =>
              rw [hsh] at HCL HCS
              clear hsh
              go_wp2_with fail
              refine HCL.out.mono ?_
              rintro e w3 ⟨rfl, hb3⟩
              have B3 := HB3.out.trans (hb3.mono s3)
              clear hb3
              go_wp2
              go_roundw
              case rel => exact ⟨j + 1, by go_num, by omega, by rw [HCS.out]; go_num, B3⟩
              case measure => simp [intOf]; omega
          · obtain rfl : j = M := by omega
            have B3 := HB2.out.trans (hb.mono HB2.out.size)
            clear hb
            cases hfa : foundAt ms N q with
            | true =>
              have hgt := HFC.out.2 hfa
              have HF := Lib.hid (HFL.out hfa hno.out)
              have hd : decide (1 < ((cl ms L j : Nat) : Int)) = true := by simp; omega
              clear hfa
              generalize cl ms L j = x at *
              go_wp2
              refine bodyPost_ret (results_tmp3 rfl _ _ _) rfl ?_
              refine ⟨ret_three (by rw [HN1.out]; show _ = Value.int .i64 ((firstLen ms N : Nat) : Int); rw [HF.out]; rfl) (by rw [HI.out, HN1.out]; show _ = Value.bool (decide (((firstLen ms N : Nat) : Int) ≠ 0)); rw [HF.out, decide_eq_true (by omega)]; rfl) (by rw [HM.out]; rfl), B3⟩
            | false =>
              have hgt : ¬ cl ms L j > 1 := fun h => by rw [HFC.out.1 h] at hfa; cases hfa
              have hd : decide (1 < ((cl ms L j : Nat) : Int)) = false := by simp; omega
              have HNO := Lib.hid (show ∀ n, 1 ≤ n → n < q + 1 → foundAt ms N n = false from fun n h1 h2 => by
                rcases Nat.lt_or_ge n q with h | h
                · exact hno.out n h1 h
                · obtain rfl : n = q := by omega
                  exact hfa)
              clear hfa
              generalize cl ms L j = x at *
              go_wp2
              go_roundw
              case rel => exact ⟨q + 1, by go_num, by omega, by omega, HNO, B3⟩
              case measure => simp [intOf]; omega
      · obtain rfl : q = 7 := by omega
        have HFL := Lib.hid (firstLen_none (fun n h1 h2 => hno.out n h1 h2))
        go_wp2
        refine bodyPost_ret (results_tmp3 rfl _ _ _) rfl ?_
        refine ⟨ret_three (by rw [HN1.out]; show _ = Value.int .i64 ((firstLen ms N : Nat) : Int); rw [HFL.out]; rfl) (by rw [HI.out, HN1.out]; show _ = Value.bool (decide (((firstLen ms N : Nat) : Int) ≠ 0)); rw [HFL.out]; rfl) (by rw [HM.out]; rfl), hb⟩
  · have hd : (srchE ms 0 f != 0) = true := by simpa using h
    have hz : shortN ms f = 0 := by rw [shortN, if_neg h]
    have HZ := Lib.hid hz
    clear h hz
    go_enter Try.func27, Try.ntmps27
    go_wp2_with fail
    refine H.out.mono ?_
    rintro e w1 ⟨rfl, hb1⟩
    go_wp2
    refine bodyPost_ret (results_tmp3 rfl _ _ _) rfl ?_
    exact ⟨ret_three (by rw [HZ.out]; rfl) (by rw [HI.out, HZ.out]; rfl) rfl, hb1⟩
end Go.Proofs.Ytnoocdannfeidaa
