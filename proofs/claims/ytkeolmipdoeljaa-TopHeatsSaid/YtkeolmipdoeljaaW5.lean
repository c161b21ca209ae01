/-
  WALKS: Fewest, of the program and of the reference; equal lists.
-/
import Derived.Test.YtkeolmipdoeljaaW4
namespace Go.Proofs.Ytkeolmipdoeljaa
open Go.RowKit Heat

theorem validate_ok {n : Int} {l : List HAct} (h : validate n l = 0) : 1 ≤ n ∧ n ≤ 4 ∧ l.length ≤ 20 ∧ areActs n l = true := by
  unfold validate at h
  split at h
  · rename_i h1
    split at h
    · omega
    · split at h
      · rename_i h2 h3; exact ⟨h1.1, h1.2, by omega, h3⟩
      · omega
  · omega
theorem limited_ok {n : Int} {l : List HAct} {limit : Int} (h : limited n l limit = 0) : (1 ≤ n ∧ n ≤ 4 ∧ l.length ≤ 20 ∧ areActs n l = true) ∧ 0 ≤ limit ∧ limit ≤ 100 := by
  unfold limited at h
  split at h
  · rename_i h1
    split at h
    · rename_i h2; exact ⟨validate_ok h1, h2.1, h2.2⟩
    · omega
  · rename_i h1; exact absurd h h1

/-- The fewest coolings, 0 with an error. -/
def fewestN (n : Int) (l : List HAct) (limit : Int) : Int := if limited n l limit = 0 then (cnt limit cold l : Int) else 0

theorem ret_ii {k k' : IntKind} {a b a' b' : Int} (h : a = b) (h' : a' = b') : Ending.returned (.tuple #[.int k a, .int k' a']) = .returned (.tuple #[.int k b, .int k' b']) := by rw [h, h']

theorem pfewest (n : Nat) (A : Option Addr) (k c : Nat) (limit : Int) (l : List HAct) (w : World) (hn : n ≤ 1000) (hl : l.length ≤ 1000) (hv : areActs n l = true) (B : Nat) (hB : B ≤ w.heap.size) (hr : Rd w B 3 A k (actCells l)) :
    Calls Try.prog 55 #[.int .i64 n, .slice A k c, .int .i64 limit] w fun e w' => e = .returned (.int .i64 (cnt limit cold l)) ∧ Below w.heap.size w w' := by
  obtain rfl := hr.act_len
  have H := Lib.hid (pinsert n A l.length c limit l w hn hl hv B hB hr)
  have HI := Lib.hid (putIn_length limit l cold)
  have hle := cnt_le limit l cold
  have HC := Lib.hid (show ((l.length + cnt limit cold l : Nat) : Int) - (l.length : Int) = cnt limit cold l by omega)
  have hle2 : (putIn limit cold l).length ≤ 2000 := by have := HI.out; omega
  clear hv hle
  go_enter Try.func55, Try.ntmps55
  go_wp2_with fail
  refine H.out.mono ?_
  rintro e w1 ⟨v, rfl, hown, hb⟩
  obtain ⟨A1, c1, rfl, _, _⟩ := own_cap hown
  go_wp2
  go_ret
  exact ⟨ret_int (by rw [HI.out]; exact HC.out), hb⟩

theorem pFewest (n : Int) (A : Option Addr) (k c : Nat) (limit : Int) (l : List HAct) (w : World) (hl : l.length ≤ 1000) (B : Nat) (hB : B ≤ w.heap.size) (hr : Rd w B 3 A k (actCells l)) :
    Calls Try.prog 20 #[.int .i64 n, .slice A k c, .int .i64 limit] w fun e w' => e = .returned (.tuple #[.int .i64 (fewestN n l limit), .int .i64 (limited n l limit)]) ∧ Below w.heap.size w w' := by
  have H := Lib.hid (plimited n A k c l limit w hl B hB hr)
  by_cases h : limited n l limit = 0
  · obtain ⟨⟨h1, h2, h3, h4⟩, h5, h6⟩ := limited_ok h
    obtain ⟨m, rfl⟩ := Int.eq_ofNat_of_zero_le (show 0 ≤ n by omega)
    have HL := Lib.hid h
    have HA := Lib.hid h4
    clear h h4
    go_enter Try.func20, Try.ntmps20
    go_wp2_with fail
    refine H.out.mono ?_
    rw [HL.out]
    rintro e w1 ⟨rfl, hb⟩
    go_wp2_with fail
    refine (pfewest m A k c limit l w1 (by omega) hl HA.out B (by have := hb.size; omega) (hr.below' hb hB)).mono ?_
    rintro e w2 ⟨rfl, hb2⟩
    go_wp2
    go_ret2
    exact ⟨ret_ii (by rw [fewestN, if_pos HL.out]) HL.out.symm, hb.trans (hb2.mono hb.size)⟩
  · have hd : (limited n l limit == 0) = false := by simpa using h
    have hd' : (limited n l limit != 0) = true := by simpa using h
    have HL := Lib.hid h
    clear h
    go_enter Try.func20, Try.ntmps20
    go_wp2_with fail
    refine H.out.mono ?_
    rintro e w1 ⟨rfl, hb⟩
    go_wp2
    go_ret2
    exact ⟨ret_ii (by rw [fewestN, if_neg HL.out]) rfl, hb⟩

theorem rFewest (n : Int) (A : Option Addr) (k c : Nat) (limit : Int) (l : List HAct) (w : World) (hl : l.length ≤ 1000) (hk : k ≤ c) (hc : c ≤ maxLen) (B : Nat) (hB : B ≤ w.heap.size) (hr : Rd w B 3 A k (actCells l)) :
    Calls Try.prog 21 #[.int .i64 n, .slice A k c, .int .i64 limit] w fun e w' => e = .returned (.tuple #[.int .i64 (fewestN n l limit), .int .i64 (limited n l limit)]) ∧ Below w.heap.size w w' := by
  have H := Lib.hid (rlimited n A k c l limit w hl B hB hr)
  by_cases h : limited n l limit = 0
  · obtain ⟨⟨h1, h2, h3, h4⟩, h5, h6⟩ := limited_ok h
    have HL := Lib.hid h
    have HM := Lib.hid (mild_of h4)
    clear h h4
    go_enter Try.func21, Try.ntmps21
    go_wp2_with fail
    refine H.out.mono ?_
    rw [HL.out]
    rintro e w1 ⟨rfl, hb⟩
    go_wp2_with fail
    refine (rfewest A k c limit l w1 (by omega) hk hc h5 HM.out B (by have := hb.size; omega) (hr.below' hb hB)).mono ?_
    rintro e w2 ⟨rfl, hb2⟩
    go_wp2
    go_ret2
    exact ⟨ret_ii (by rw [fewestN, if_pos HL.out]) HL.out.symm, hb.trans (hb2.mono hb.size)⟩
  · have hd : (limited n l limit == 0) = false := by simpa using h
    have hd' : (limited n l limit != 0) = true := by simpa using h
    have HL := Lib.hid h
    clear h
    go_enter Try.func21, Try.ntmps21
    go_wp2_with fail
    refine H.out.mono ?_
    rintro e w1 ⟨rfl, hb⟩
    go_wp2
    go_ret2
    exact ⟨ret_ii (by rw [fewestN, if_neg HL.out]) rfl, hb⟩

/-- The cell of number i. -/
theorem Rd.int {w : World} {B n : Nat} {A : Option Addr} {l : List Int} (h : Rd w B 1 A n (ints l)) {i : Nat} (hi : i < l.length) :
    ∃ b off, A = some ⟨b, off, none⟩ ∧ b < B ∧ w.cell? ⟨b, off + i, none⟩ = some (.int .i64 l[i]) := by
  have hl : n = l.length := by have := h.1; simp at this; omega
  obtain ⟨b, off, e, hb, hc⟩ := h.2 (by omega)
  exact ⟨b, off, e, hb, hc i _ (by simp [hi])⟩
theorem Rd.int_len {w : World} {B n : Nat} {A : Option Addr} {l : List Int} (h : Rd w B 1 A n (ints l)) : n = l.length := by have := h.1; simp at this; omega

set_option maxRecDepth 100000 in
theorem rSameInts (A A' : Option Addr) (k k' c c' : Nat) (l m : List Int) (w : World) (hl : l.length ≤ 1000) (hm : m.length ≤ 1000) (B : Nat) (hB : B ≤ w.heap.size) (hr : Rd w B 1 A k (ints l)) (hr' : Rd w B 1 A' k' (ints m)) :
    Calls Try.prog 26 #[.slice A k c, .slice A' k' c'] w fun e w' => e = .returned (.bool (decide (l = m))) ∧ Below w.heap.size w w' := by
  obtain rfl := hr.int_len
  obtain rfl := hr'.int_len
  by_cases hlm : l.length = m.length
  · have HLM := Lib.hid hlm
    have hd : ((l.length : Int) == (m.length : Int)) = true := by simp [hlm]
    have hd' : ((l.length : Int) != (m.length : Int)) = false := by simp [hlm]
    clear hlm
    go_enter Try.func26, Try.ntmps26
    go_wp2
    go_loopw [5] (fun i wr => ∃ q : Nat, q ≤ l.length ∧ i = .int .i64 q ∧ Below w.heap.size w wr ∧ Hid (l.take q = m.take q)) (fun i _ => l.length - (intOf i).toNat)
    case atStart => exact ⟨0, Nat.zero_le _, rfl, Below.refl _ _, rfl⟩
    case round =>
      obtain ⟨q, hq, rfl, hb, HT⟩ := hrel
      by_cases hlt : q < l.length
      · have hlt' : q < m.length := by have := HLM.out; omega
        obtain ⟨b, off, rfl, _, h0⟩ := (hr.below' hb hB).int hlt
        obtain ⟨b', off', rfl, _, h0'⟩ := (hr'.below' hb hB).int hlt'
        have z0 : (0 : Int) ≤ (q : Int) := Int.natCast_nonneg _
        have z1 : (q : Int) < (l.length : Int) := by omega
        have z2 : (q : Int) < (m.length : Int) := by omega
        have HS := Lib.hid (take_snoc l q hlt)
        have HS' := Lib.hid (take_snoc m q hlt')
        by_cases he : l[q] = m[q]
        · have HE := Lib.hid he
          have hd1 : (l[q] != m[q]) = false := by simpa using he
          have hd2 : (l[q] == m[q]) = true := by simpa using he
          clear he
          go_wp2
          go_quiet (fail)
          go_wp2
          go_roundw
          case rel => exact ⟨q + 1, by omega, by go_num, below_drewN hb nq, by show l.take (q + 1) = m.take (q + 1); rw [HS.out, HS'.out, HT.out, HE.out]⟩
          case measure => simp [intOf]; omega
        · have HE := Lib.hid he
          have hd1 : (l[q] != m[q]) = true := by simpa using he
          have hd2 : (l[q] == m[q]) = false := by simpa using he
          clear he
          go_wp2
          go_quiet (fail)
          go_wp2
          go_ret
          exact ⟨ret_bool (by symm; apply decide_eq_false; intro h; subst h; exact HE.out rfl), below_drewN hb nq⟩
      · obtain rfl : q = l.length := by omega
        have HE := Lib.hid (show l = m by have := HT.out; rw [List.take_length, HLM.out, List.take_length] at this; exact this)
        go_wp2
        go_ret
        exact ⟨ret_bool (decide_eq_true HE.out).symm, hb⟩
  · have hd : ((l.length : Int) == (m.length : Int)) = false := by simp; omega
    have hd' : ((l.length : Int) != (m.length : Int)) = true := by simp; omega
    have HLM := Lib.hid hlm
    clear hlm
    go_enter Try.func26, Try.ntmps26
    go_wp2
    go_ret
    exact ⟨ret_bool (by symm; apply decide_eq_false; intro h; subst h; exact HLM.out rfl), Below.refl _ _⟩
end Go.Proofs.Ytkeolmipdoeljaa
