/-
  MERGED: W1, W2, W3, W4.
-/
import Derived.Test.YtejjogpgolgdgaaProg
import Derived.Test.YtejjogpgolgdgaaK1
import Derived.Test.YtejjogpgolgdgaaK2
import Derived.Deep.QuietTactic
import Derived.BigQuiet
/-
  WALKS: lists within bounds.
-/
namespace Go.Proofs.Ytejjogpgolgdgaa
open Go.RowKit Pulse

def isIn (b n : Int) : Bool := decide (-b ≤ n) && decide (n ≤ b)
def withinB (l : List Int) (size : Int) (b : Int) : Bool := decide ((l.length : Int) = size) && l.all (isIn b)
theorem rwithin (n lo hi : Int) (w : World) :
    Calls Try.prog 67 #[.int .i64 n, .int .i64 lo, .int .i64 hi] w fun e w' => e = .returned (.bool (decide (lo ≤ n) && decide (n ≤ hi))) ∧ w = w' := by
  by_cases h : lo ≤ n
  · go_enter Try.func67, Try.ntmps67
    go_wp2
    go_ret
    exact ⟨by simp [h], rfl⟩
  · have hd : decide (lo ≤ n) = false := by simpa using h
    go_enter Try.func67, Try.ntmps67
    go_wp2
    go_ret
    exact ⟨by simp [h], rfl⟩
theorem rwithin_is (n lo hi : Int) (r : Bool) (h : (decide (lo ≤ n) && decide (n ≤ hi)) = r) (w : World) :
    Calls Try.prog 67 #[.int .i64 n, .int .i64 lo, .int .i64 hi] w fun e w' => e = .returned (.bool r) ∧ w = w' := by
  subst h; exact rwithin n lo hi w
/-- Where the first one is, -1 if there is none. -/
def placeOf {α : Type} (p : α → Bool) (l : List α) : Int := if l.any p then (l.findIdx p : Int) else -1
set_option maxHeartbeats 400000 in
/-- slices.IndexFunc at ints. -/
theorem intIndexFunc (f : FuncId) (hcf : ∀ (args : Array Value) (W : World), (callFunc f args).run Try.prog W = .ok (.enter f args) W) (cs : Array Value) (p : Int → Bool) (A : Option Addr) (k c : Nat) (l : List Int) (w : World) (hl : l.length ≤ 1000) (B : Nat) (hB : B ≤ w.heap.size) (hr : Rd w B 1 A k (ints l))
    (hf : ∀ a ∈ l, ∀ W, Below w.heap.size w W → Calls Try.prog f (#[.int .i64 a] ++ cs) W fun e W' => e = .returned (.bool (p a)) ∧ Below W.heap.size W W') :
    Calls Try.prog 97 #[.slice A k c, .func (.func f) #[] cs] w fun e w' => e = .returned (.int .i64 (placeOf p l)) ∧ Below w.heap.size w w' := by
  obtain rfl := hr.int_len
  have HF := Lib.hid hf
  clear hf
  go_enter Try.func97, Try.ntmps97
  go_wp2
  go_loopw [8] (fun i wr => ∃ q : Nat, q ≤ l.length ∧ i = .int .i64 q ∧ Below w.heap.size w wr ∧ (l.take q).any p = false) (fun i _ => l.length - (intOf i).toNat)
  case atStart => exact ⟨0, Nat.zero_le _, rfl, Below.refl _ _, rfl⟩
  case round =>
    obtain ⟨q, hq, rfl, hb, hall⟩ := hrel
    by_cases hlt : q < l.length
    · obtain ⟨b, off, rfl, hbb, h0⟩ := (hr.below' hb hB).int hlt
      have hin : l[q] ∈ l := List.getElem_mem hlt
      have ht := any_take p l q hlt
      rw [hall, Bool.false_or] at ht
      by_cases ha : p l[q] = true
      · have hx : placeOf p l = q := by
          rw [placeOf, if_pos (List.any_eq_true.2 ⟨_, hin, ha⟩)]
          congr 1
          rw [List.findIdx_eq hlt]
          refine ⟨ha, fun j hj => ?_⟩
          have hz : l[j] ∈ l.take q := List.mem_take_iff_getElem.2 ⟨j, by omega, rfl⟩
          have := List.any_eq_false.1 hall _ hz
          simpa using this
        have HX := Lib.hid hx
        have HA := Lib.hid ha
        clear hx ha ht hall
        go_wp2_with fail
        refine (HF.out _ hin _ hb).mono ?_
        rw [HA.out]
        rintro e w' ⟨rfl, hb'⟩
        go_wp2
        go_ret
        exact ⟨ret_int HX.out.symm, hb.trans (hb'.mono hb.size)⟩
      · rw [Bool.not_eq_true] at ha
        have HT := Lib.hid (ht.trans ha)
        have HA := Lib.hid ha
        clear ha ht hall
        go_wp2_with fail
        refine (HF.out _ hin _ hb).mono ?_
        rw [HA.out]
        rintro e w' ⟨rfl, hb'⟩
        go_wp2
        go_roundw
        case rel => exact ⟨q + 1, by omega, by go_num, hb.trans (hb'.mono hb.size), HT.out⟩
        case measure => simp [intOf]; omega
    · obtain rfl : q = l.length := by omega
      rw [List.take_length] at hall
      have HA := Lib.hid hall
      clear hall
      go_wp2
      go_ret
      exact ⟨ret_int (by rw [placeOf, HA.out]; rfl), hb⟩

set_option maxHeartbeats 400000 in
/-- slices.ContainsFunc at ints. -/
theorem intContainsFunc (f : FuncId) (hcf : ∀ (args : Array Value) (W : World), (callFunc f args).run Try.prog W = .ok (.enter f args) W) (cs : Array Value) (p : Int → Bool) (A : Option Addr) (k c : Nat) (l : List Int) (w : World) (hl : l.length ≤ 1000) (B : Nat) (hB : B ≤ w.heap.size) (hr : Rd w B 1 A k (ints l))
    (hf : ∀ a ∈ l, ∀ W, Below w.heap.size w W → Calls Try.prog f (#[.int .i64 a] ++ cs) W fun e W' => e = .returned (.bool (p a)) ∧ Below W.heap.size W W') :
    Calls Try.prog 91 #[.slice A k c, .func (.func f) #[] cs] w fun e w' => e = .returned (.bool (l.any p)) ∧ Below w.heap.size w w' := by
  have H := Lib.hid (intIndexFunc f hcf cs p A k c l w hl B hB hr hf)
  clear hf hcf
  by_cases ha : l.any p = true
  · have HA := Lib.hid ha
    clear ha
    go_enter Try.func91, Try.ntmps91
    go_wp2_with fail
    refine H.out.mono ?_
    rw [placeOf, if_pos HA.out]
    rintro e w' ⟨rfl, hb⟩
    go_wp2
    go_ret
    exact ⟨ret_bool HA.out.symm, hb⟩
  · rw [Bool.not_eq_true] at ha
    have HA := Lib.hid ha
    clear ha
    go_enter Try.func91, Try.ntmps91
    go_wp2_with fail
    refine H.out.mono ?_
    rw [placeOf, HA.out, if_neg (by simp)]
    rintro e w' ⟨rfl, hb⟩
    go_wp2
    go_ret
    exact ⟨ret_bool HA.out.symm, hb⟩


set_option maxHeartbeats 400000 in
theorem wFn (n b : Int) (g : Nat) (W : World) (h0 : 0 ≤ b) (h1 : b ≤ 1000) (hg : W.heap[g]? = some (.cells #[.int .i64 b] 3 (0, 0))) :
    Calls Try.prog 92 #[.int .i64 n, .pointer (some ⟨g, 0, none⟩)] W fun e W' => e = .returned (.bool (!isIn b n)) ∧ Below W.heap.size W W' := by
  have c0 : W.cell? ⟨g, 0, none⟩ = some (.int .i64 b) := blk_cell hg 0
  have HE := Lib.hid (show isIn b n = (decide (-b ≤ n) && decide (n ≤ b)) from rfl)
  clear hg
  by_cases ha : n < -b
  · have HX := Lib.hid (show isIn b n = false by rw [HE.out]; simp; omega)
    go_enter Try.func92, Try.ntmps92
    go_wp2
    go_ret
    exact ⟨ret_bool (by rw [HX.out]; rfl), Below.refl _ _⟩
  · have hd : decide (n < -b) = false := by simpa using ha
    by_cases hb : b < n
    · have HX := Lib.hid (show isIn b n = false by rw [HE.out]; simp; omega)
      go_enter Try.func92, Try.ntmps92
      go_wp2
      go_ret
      exact ⟨ret_bool (by rw [HX.out]; rfl), Below.refl _ _⟩
    · have hd' : decide (b < n) = false := by simpa using hb
      have HX := Lib.hid (show isIn b n = true by rw [HE.out]; simp; omega)
      go_enter Try.func92, Try.ntmps92
      go_wp2
      go_ret
      exact ⟨ret_bool (by rw [HX.out]; rfl), Below.refl _ _⟩

set_option maxHeartbeats 400000 in
/-- within. -/
theorem pwithin (A : Option Addr) (k c : Nat) (l : List Int) (size b : Int) (w : World) (h0 : 0 ≤ b) (h1 : b ≤ 1000) (hl : l.length ≤ 1000) (B : Nat) (hB : B ≤ w.heap.size) (hr : Rd w B 1 A k (ints l)) :
    Calls Try.prog 66 #[.slice A k c, .int .i64 size, .int .i64 b] w fun e w' => e = .returned (.bool (withinB l size b)) ∧ Below w.heap.size w w' := by
  obtain rfl := hr.int_len
  have HN := Lib.hid (blk_new w 3 #[.int .i64 b])
  have HB := Lib.hid ((Below.refl w.heap.size w).alloc (Nat.le_refl _) (.cells #[.int .i64 b] 3))
  have H := Lib.hid (intContainsFunc 92 Try.call92 #[.pointer (some ⟨w.heap.size, 0, none⟩)] (fun n => !isIn b n) A l.length c l (w.alloc (.cells #[.int .i64 b] 3)) hl B (by simp; omega) (hr.alloc hB _)
    (fun a _ W hb => wFn a b w.heap.size W h0 h1 (blk_below HN.out hb (by simp))))
  have HE := Lib.hid (show withinB l size b = (decide ((l.length : Int) = size) && !l.any fun n => !isIn b n) by simp [withinB, List.any_eq_not_all_not])
  clear hr
  by_cases hs : (l.length : Int) = size
  · have hd : ((l.length : Int) == size) = true := by simpa using hs
    rw [decide_eq_true hs] at HE
    clear hs
    go_enter Try.func66, Try.ntmps66
    go_wp2_with fail
    refine H.out.mono ?_
    rintro e w' ⟨rfl, hb⟩
    go_wp2
    go_ret
    exact ⟨ret_bool (by rw [HE.out]; rfl), HB.out.trans (hb.mono (by simp))⟩
  · have hd : ((l.length : Int) == size) = false := by simpa using hs
    rw [decide_eq_false hs] at HE
    clear hs
    go_enter Try.func66, Try.ntmps66
    go_wp2
    go_ret
    exact ⟨ret_bool (by rw [HE.out]; rfl), HB.out⟩

set_option maxHeartbeats 400000 in
/-- The reference's all. -/
theorem rall (A : Option Addr) (k c : Nat) (l : List Int) (size b : Int) (w : World) (h0 : 0 ≤ b) (h1 : b ≤ 1000) (hl : l.length ≤ 1000) (B : Nat) (hr : Rd w B 1 A k (ints l)) :
    Calls Try.prog 68 #[.slice A k c, .int .i64 size, .int .i64 b] w fun e w' => e = .returned (.bool (withinB l size b)) ∧ w' = w := by
  obtain rfl := hr.int_len
  have HE := Lib.hid (show withinB l size b = (decide ((l.length : Int) = size) && l.all (isIn b)) from rfl)
  by_cases hs : (l.length : Int) = size
  · subst hs
    have HV1 := Lib.hid (show l.all (isIn b) = true → withinB l l.length b = true from fun h => by rw [HE.out, h]; simp)
    have HV0 := Lib.hid (show l.all (isIn b) = false → withinB l l.length b = false from fun h => by rw [HE.out, h]; simp)
    go_enter Try.func68, Try.ntmps68
    go_wp2
    go_loop [7] (fun i => ∃ q : Nat, q ≤ l.length ∧ i = .int .i64 q ∧ Hid ((l.take q).all (isIn b) = true)) (fun i => l.length - (intOf i).toNat)
    case atStart => exact ⟨0, Nat.zero_le _, rfl, rfl⟩
    case round =>
      obtain ⟨q, hq, rfl, hall⟩ := hrel
      by_cases hlt : q < l.length
      · obtain ⟨b', off, rfl, hbb, h0'⟩ := hr.int hlt
        have ht := all_take (isIn b) l q hlt
        rw [hall.out, Bool.true_and] at ht
        cases ha : isIn b l[q] with
        | true =>
          have HT := Lib.hid (ht.trans ha)
          have HA := Lib.hid ha
          clear ha ht
          go_wp2_with fail
          refine (rwithin _ _ _ _).mono ?_
          rw [show (decide (-b ≤ l[q]) && decide (l[q] ≤ b)) = true from HA.out]
          rintro e w' ⟨rfl, rfl⟩
          go_wp2
          go_round
          case rel => exact ⟨q + 1, by omega, by go_num, HT⟩
          case measure => simp [intOf]; omega
        | false =>
          have HN := Lib.hid (HV0.out (by
            rw [Bool.eq_false_iff]
            intro hx
            have := List.all_eq_true.1 hx _ (List.getElem_mem hlt)
            rw [ha] at this
            cases this))
          have HA := Lib.hid ha
          clear ha ht
          go_wp2_with fail
          refine (rwithin _ _ _ _).mono ?_
          rw [show (decide (-b ≤ l[q]) && decide (l[q] ≤ b)) = false from HA.out]
          rintro e w' ⟨rfl, rfl⟩
          go_wp2
          go_ret
          exact ⟨ret_bool HN.out.symm, rfl⟩
      · obtain rfl : q = l.length := by omega
        have HN := Lib.hid (HV1.out (by have := hall.out; rwa [List.take_length] at this))
        go_wp2
        go_ret
        exact ⟨ret_bool HN.out.symm, rfl⟩
  · have hd : ((l.length : Int) != size) = true := by simpa using hs
    rw [decide_eq_false hs] at HE
    clear hs
    go_enter Try.func68, Try.ntmps68
    go_wp2
    go_ret
    exact ⟨ret_bool (by rw [HE.out]; rfl), rfl⟩
theorem rall_is (r : Bool) (A : Option Addr) (k c : Nat) (l : List Int) (size b : Int) (h : withinB l size b = r) (w : World) (h0 : 0 ≤ b) (h1 : b ≤ 1000) (hl : l.length ≤ 1000) (B : Nat) (hr : Rd w B 1 A k (ints l)) :
    Calls Try.prog 68 #[.slice A k c, .int .i64 size, .int .i64 b] w fun e w' => e = .returned (.bool r) ∧ w' = w := by
  subst h; exact rall A k c l size b w h0 h1 hl B hr
end Go.Proofs.Ytejjogpgolgdgaa

/-
  WALKS: which gains, voltages and wishes are right.
-/
namespace Go.Proofs.Ytejjogpgolgdgaa
open Go.RowKit Pulse

/-- A table that is not long. -/
def Sm (g : List (List Int)) : Prop := g.length ≤ 1000 ∧ ∀ l ∈ g, l.length ≤ 1000
/-- The number of electrodes. -/
def wid (g : List (List Int)) : Nat := (g.headD []).length
def okG (g : List (List Int)) : Bool := decide (1 ≤ g.length) && decide (g.length ≤ 3) && decide (1 ≤ wid g) && decide (wid g ≤ 3) && g.all fun l => withinB l (wid g) 9
/-- The error of gains. -/
def vldG (g : List (List Int)) : Int := if okG g then 0 else 1
theorem wid_zero {g : List (List Int)} (h : 0 < g.length) : wid g = g[0].length := by
  cases g with
  | nil => simp at h
  | cons l g => rfl
theorem okG_ok {g : List (List Int)} (h : okG g = true) : 1 ≤ g.length ∧ g.length ≤ 3 ∧ 1 ≤ wid g ∧ wid g ≤ 3 ∧ ∀ l ∈ g, l.length = wid g ∧ ∀ a ∈ l, -9 ≤ a ∧ a ≤ 9 := by
  simp only [okG, Bool.and_eq_true, decide_eq_true_eq] at h
  obtain ⟨⟨⟨⟨h1, h2⟩, h3⟩, h4⟩, h5⟩ := h
  refine ⟨h1, h2, h3, h4, fun l hl => ?_⟩
  have := List.all_eq_true.1 h5 l hl
  simp only [withinB, Bool.and_eq_true, decide_eq_true_eq, List.all_eq_true, isIn] at this
  exact ⟨by omega, fun a ha => this.2 a ha⟩
theorem vldG_ok {g : List (List Int)} (h : vldG g = 0) : 1 ≤ g.length ∧ g.length ≤ 3 ∧ 1 ≤ wid g ∧ wid g ≤ 3 ∧ ∀ l ∈ g, l.length = wid g ∧ ∀ a ∈ l, -9 ≤ a ∧ a ≤ 9 := by
  unfold vldG at h
  split at h
  · exact okG_ok ‹_›
  · omega

set_option maxRecDepth 100000 in
set_option maxHeartbeats 1000000 in
theorem pValidate (A : Option Addr) (k c : Nat) (g : List (List Int)) (w : World) (hs : Sm g) (B : Nat) (hB : B ≤ w.heap.size) (hr : TRd w B A k g) :
    Calls Try.prog 24 #[.slice A k c] w fun e w' => e = .returned (.int .i64 (vldG g)) ∧ Below w.heap.size w w' := by
  obtain rfl := hr.len
  have hg1 := hs.1
  have HSM := Lib.hid hs.2
  clear hs
  by_cases h1 : g.length < 1
  · have HV := Lib.hid (show vldG g = 1 by rw [vldG, okG, decide_eq_false (show ¬ 1 ≤ g.length by omega)]; rfl)
    have hd : decide (g.length < 1) = true := by simpa using h1
    go_enter Try.func24, Try.ntmps24
    skip
    go_wp2
    go_ret
    exact ⟨ret_int HV.out.symm, Below.refl _ _⟩
  by_cases h3 : 3 < g.length
  · have HV := Lib.hid (show vldG g = 1 by rw [vldG, okG, decide_eq_false (show ¬ g.length ≤ 3 by omega)]; simp)
    have hd : decide (3 < g.length) = true := by simpa using h3
    go_enter Try.func24, Try.ntmps24
    skip
    go_wp2
    go_ret
    exact ⟨ret_int HV.out.symm, Below.refl _ _⟩
  have hpos : 0 < g.length := by omega
  obtain ⟨b, off, A0, c0, rfl, hb0, hc0, _, _, _⟩ := hr.row hpos
  have HW := Lib.hid (wid_zero hpos)
  rw [Nat.add_zero, ← HW.out] at hc0
  obtain ⟨n, hn⟩ : ∃ n, n = wid g := ⟨_, rfl⟩
  have HN := Lib.hid hn
  rw [← hn] at hc0
  clear hn HW
  by_cases h4 : n < 1
  · have HV := Lib.hid (show vldG g = 1 by rw [vldG, okG, decide_eq_false (show ¬ 1 ≤ wid g by have := HN.out; omega)]; simp)
    have hd : decide (n < 1) = true := by simpa using h4
    go_enter Try.func24, Try.ntmps24
    skip
    skip
    go_wp2
    go_ret
    exact ⟨ret_int HV.out.symm, Below.refl _ _⟩
  by_cases h5 : 3 < n
  · have HV := Lib.hid (show vldG g = 1 by rw [vldG, okG, decide_eq_false (show ¬ wid g ≤ 3 by have := HN.out; omega)]; simp)
    have hd : decide (3 < n) = true := by simpa using h5
    go_enter Try.func24, Try.ntmps24
    skip
    skip
    go_wp2
    go_ret
    exact ⟨ret_int HV.out.symm, Below.refl _ _⟩
  have HV0 := Lib.hid (show (g.all fun l => withinB l n 9) = true → vldG g = 0 from fun h => by
    have e := HN.out
    rw [vldG, okG, decide_eq_true (show 1 ≤ g.length by omega), decide_eq_true (show g.length ≤ 3 by omega), decide_eq_true (show 1 ≤ wid g by omega), decide_eq_true (show wid g ≤ 3 by omega), ← e, h]; rfl)
  have HV1 := Lib.hid (show (g.all fun l => withinB l n 9) = false → vldG g = 1 from fun h => by
    have e := HN.out
    rw [vldG, okG, ← e, h]; simp)
  have hd1 : decide (g.length < 1) = false := decide_eq_false h1
  have hd2 : decide (3 < g.length) = false := decide_eq_false h3
  have hd3 : decide (n < 1) = false := decide_eq_false h4
  have hd4 : decide (3 < n) = false := decide_eq_false h5
  go_enter Try.func24, Try.ntmps24
  skip
  skip
  go_wp2
  clear hd1 hd2 hd3 hd4
  go_loopw [29] (fun i wr => ∃ q : Nat, q ≤ g.length ∧ i = .int .i64 q ∧ Below w.heap.size w wr ∧ Hid (((g.take q).all fun l => withinB l n 9) = true)) (fun i _ => g.length - (intOf i).toNat)
  case atStart => exact ⟨0, Nat.zero_le _, rfl, Below.refl _ _, rfl⟩
  case round =>
    obtain ⟨q, hq, rfl, hb, hall⟩ := hrel
    by_cases hlt : q < g.length
    · obtain ⟨A1, c1, _, _, hc1, _, _, hr1⟩ := (hr.below' hb hB).rowAt hlt
      have hc0' := (hb.cell (p := ⟨b, off, none⟩) (show b < w.heap.size by omega)).trans hc0
      have hl1 := HSM.out _ (List.getElem_mem hlt)
      have ht := all_take (fun l => withinB l n 9) g q hlt
      rw [hall.out, Bool.true_and] at ht
      have HF := Lib.hid (show withinB g[q] n 9 = false → (g.all fun l => withinB l n 9) = false from fun ha => by
        rw [Bool.eq_false_iff]
        intro hx
        have := List.all_eq_true.1 hx _ (List.getElem_mem hlt)
        rw [ha] at this
        cases this)
      have HT := Lib.hid ht
      clear ht
      obtain ⟨l, hl⟩ : ∃ l, l = g[q] := ⟨_, rfl⟩
      rw [← hl] at hc1 hr1 hl1 HF HT
      clear hl
      have z0 : (0 : Int) ≤ (q : Int) := by omega
      have z1 : (q : Int) < (g.length : Int) := by omega
      have z2 : (0 : Int) < (g.length : Int) := by omega
      have hsz := hb.size
      obtain ⟨r, hrr⟩ : ∃ r, r = withinB l n 9 := ⟨_, rfl⟩
      have HR := Lib.hid hrr
      rw [← hrr] at HT HF
      clear hrr
      cases r with
      | true =>
        go_wp2_with fail
        refine (pwithin A1 l.length c1 l n 9 wr (by omega) (by omega) hl1 B (by omega) hr1).mono ?_
        rw [← HR.out]
        rintro e w2 ⟨rfl, hb2⟩
        go_wp2
        go_roundw
        case rel => exact ⟨q + 1, by omega, by go_num, hb.trans (hb2.mono hsz), HT⟩
        case measure => simp [intOf]; omega
      | false =>
        go_wp2_with fail
        refine (pwithin A1 l.length c1 l n 9 wr (by omega) (by omega) hl1 B (by omega) hr1).mono ?_
        rw [← HR.out]
        rintro e w2 ⟨rfl, hb2⟩
        go_wp2
        go_ret
        exact ⟨ret_int (HV1.out (HF.out (by first | rfl | trivial))).symm, hb.trans (hb2.mono hsz)⟩
    · obtain rfl : q = g.length := by omega
      have HX := Lib.hid (HV0.out (by have := hall.out; rwa [List.take_length] at this))
      go_wp2
      go_ret
      exact ⟨ret_int HX.out.symm, hb⟩

set_option maxRecDepth 100000 in
set_option maxHeartbeats 1000000 in
theorem rValidate (A : Option Addr) (k c : Nat) (g : List (List Int)) (w : World) (hs : Sm g) (B : Nat) (hB : B ≤ w.heap.size) (hr : TRd w B A k g) :
    Calls Try.prog 25 #[.slice A k c] w fun e w' => e = .returned (.int .i64 (vldG g)) ∧ Below w.heap.size w w' := by
  obtain rfl := hr.len
  have hg1 := hs.1
  have HSM := Lib.hid hs.2
  clear hs
  by_cases h1 : g.length < 1
  · have HV := Lib.hid (show vldG g = 1 by rw [vldG, okG, decide_eq_false (show ¬ 1 ≤ g.length by omega)]; rfl)
    have hd : decide (g.length < 1) = true := by simpa using h1
    go_enter Try.func25, Try.ntmps25
    go_wp2_with fail
    refine (rwithin_is _ _ _ false (by simp; omega) _).mono ?_
    rintro e w1 ⟨rfl, rfl⟩
    go_wp2
    go_ret
    exact ⟨ret_int HV.out.symm, Below.refl _ _⟩
  by_cases h3 : 3 < g.length
  · have HV := Lib.hid (show vldG g = 1 by rw [vldG, okG, decide_eq_false (show ¬ g.length ≤ 3 by omega)]; simp)
    have hd : decide (3 < g.length) = true := by simpa using h3
    go_enter Try.func25, Try.ntmps25
    go_wp2_with fail
    refine (rwithin_is _ _ _ false (by simp; omega) _).mono ?_
    rintro e w1 ⟨rfl, rfl⟩
    go_wp2
    go_ret
    exact ⟨ret_int HV.out.symm, Below.refl _ _⟩
  have hpos : 0 < g.length := by omega
  obtain ⟨b, off, A0, c0, rfl, hb0, hc0, _, _, _⟩ := hr.row hpos
  have HW := Lib.hid (wid_zero hpos)
  rw [Nat.add_zero, ← HW.out] at hc0
  obtain ⟨n, hn⟩ : ∃ n, n = wid g := ⟨_, rfl⟩
  have HN := Lib.hid hn
  rw [← hn] at hc0
  clear hn HW
  by_cases h4 : n < 1
  · have HV := Lib.hid (show vldG g = 1 by rw [vldG, okG, decide_eq_false (show ¬ 1 ≤ wid g by have := HN.out; omega)]; simp)
    have hd : decide (n < 1) = true := by simpa using h4
    go_enter Try.func25, Try.ntmps25
    go_wp2_with fail
    refine (rwithin_is _ _ _ true (by simp; omega) _).mono ?_
    rintro e w1 ⟨rfl, rfl⟩
    go_wp2_with fail
    refine (rwithin_is _ _ _ false (by simp; omega) _).mono ?_
    rintro e w1 ⟨rfl, rfl⟩
    go_wp2
    go_ret
    exact ⟨ret_int HV.out.symm, Below.refl _ _⟩
  by_cases h5 : 3 < n
  · have HV := Lib.hid (show vldG g = 1 by rw [vldG, okG, decide_eq_false (show ¬ wid g ≤ 3 by have := HN.out; omega)]; simp)
    have hd : decide (3 < n) = true := by simpa using h5
    go_enter Try.func25, Try.ntmps25
    go_wp2_with fail
    refine (rwithin_is _ _ _ true (by simp; omega) _).mono ?_
    rintro e w1 ⟨rfl, rfl⟩
    go_wp2_with fail
    refine (rwithin_is _ _ _ false (by simp; omega) _).mono ?_
    rintro e w1 ⟨rfl, rfl⟩
    go_wp2
    go_ret
    exact ⟨ret_int HV.out.symm, Below.refl _ _⟩
  have HV0 := Lib.hid (show (g.all fun l => withinB l n 9) = true → vldG g = 0 from fun h => by
    have e := HN.out
    rw [vldG, okG, decide_eq_true (show 1 ≤ g.length by omega), decide_eq_true (show g.length ≤ 3 by omega), decide_eq_true (show 1 ≤ wid g by omega), decide_eq_true (show wid g ≤ 3 by omega), ← e, h]; rfl)
  have HV1 := Lib.hid (show (g.all fun l => withinB l n 9) = false → vldG g = 1 from fun h => by
    have e := HN.out
    rw [vldG, okG, ← e, h]; simp)
  have hd1 : decide (g.length < 1) = false := decide_eq_false h1
  have hd2 : decide (3 < g.length) = false := decide_eq_false h3
  have hd3 : decide (n < 1) = false := decide_eq_false h4
  have hd4 : decide (3 < n) = false := decide_eq_false h5
  go_enter Try.func25, Try.ntmps25
  go_wp2_with fail
  refine (rwithin_is _ _ _ true (by simp; omega) _).mono ?_
  rintro e w1 ⟨rfl, rfl⟩
  go_wp2_with fail
  refine (rwithin_is _ _ _ true (by simp; omega) _).mono ?_
  rintro e w1 ⟨rfl, rfl⟩
  go_wp2
  clear hd1 hd2 hd3 hd4
  go_loopw [3] (fun i wr => ∃ q : Nat, q ≤ g.length ∧ i = .int .i64 q ∧ Below w.heap.size w wr ∧ Hid (((g.take q).all fun l => withinB l n 9) = true)) (fun i _ => g.length - (intOf i).toNat)
  case atStart => exact ⟨0, Nat.zero_le _, rfl, Below.refl _ _, rfl⟩
  case round =>
    obtain ⟨q, hq, rfl, hb, hall⟩ := hrel
    by_cases hlt : q < g.length
    · obtain ⟨A1, c1, _, _, hc1, _, _, hr1⟩ := (hr.below' hb hB).rowAt hlt
      have hc0' := (hb.cell (p := ⟨b, off, none⟩) (show b < w.heap.size by omega)).trans hc0
      have hl1 := HSM.out _ (List.getElem_mem hlt)
      have ht := all_take (fun l => withinB l n 9) g q hlt
      rw [hall.out, Bool.true_and] at ht
      have HF := Lib.hid (show withinB g[q] n 9 = false → (g.all fun l => withinB l n 9) = false from fun ha => by
        rw [Bool.eq_false_iff]
        intro hx
        have := List.all_eq_true.1 hx _ (List.getElem_mem hlt)
        rw [ha] at this
        cases this)
      have HT := Lib.hid ht
      clear ht
      obtain ⟨l, hl⟩ : ∃ l, l = g[q] := ⟨_, rfl⟩
      rw [← hl] at hc1 hr1 hl1 HF HT
      clear hl
      have z0 : (0 : Int) ≤ (q : Int) := by omega
      have z1 : (q : Int) < (g.length : Int) := by omega
      have z2 : (0 : Int) < (g.length : Int) := by omega
      have hsz := hb.size
      obtain ⟨r, hrr⟩ : ∃ r, r = withinB l n 9 := ⟨_, rfl⟩
      have HR := Lib.hid hrr
      rw [← hrr] at HT HF
      clear hrr
      cases r with
      | true =>
        go_wp2
        go_quiet ((go_at_call 68; exact Calls.quiet_of_same (rall_is _ A1 l.length c1 l n 9 HR.out.symm _ (by omega) (by omega) hl1 B (hr1.drewN _))))
        go_wp2
        go_roundw
        case rel => exact ⟨q + 1, by omega, by go_num, below_drewN hb nq, HT⟩
        case measure => simp [intOf]; omega
      | false =>
        go_wp2
        go_quiet ((go_at_call 68; exact Calls.quiet_of_same (rall_is _ A1 l.length c1 l n 9 HR.out.symm _ (by omega) (by omega) hl1 B (hr1.drewN _))))
        go_wp2
        go_ret
        exact ⟨ret_int (HV1.out (HF.out (by first | rfl | trivial))).symm, below_drewN hb nq⟩
    · obtain rfl : q = g.length := by omega
      have HX := Lib.hid (HV0.out (by have := hall.out; rwa [List.take_length] at this))
      go_wp2
      go_ret
      exact ⟨ret_int HX.out.symm, hb⟩
end Go.Proofs.Ytejjogpgolgdgaa

/-
  WALKS: lists of ints: Equal, SameInts, Clone.
-/
namespace Go.Proofs.Ytejjogpgolgdgaa
open Go.RowKit Pulse

theorem E23 : EOk Try.prog 23 3 (.int .i64 0) 1 8 :=
  ⟨Try.underlying23, by
    obtain ⟨i, h1, h2, h3, h4⟩ := info_parts (show (Try.prog.info? 3).map (fun i => (i.zero, i.size, i.bytes)) = some (some (.int .i64 0), 1, 8) by kernel_rfl)
    exact ⟨i, h1, h2, h3, h4⟩, rfl, by decide, by decide⟩
theorem E22 : EOk Try.prog 22 23 (.slice none 0 0) 1 24 :=
  ⟨Try.underlying22, by
    obtain ⟨i, h1, h2, h3, h4⟩ := info_parts (show (Try.prog.info? 23).map (fun i => (i.zero, i.size, i.bytes)) = some (some (.slice none 0 0), 1, 24) by kernel_rfl)
    exact ⟨i, h1, h2, h3, h4⟩, rfl, by decide, by decide⟩
theorem q23 (w : World) (a : Option Addr) (n c n' c' : Nat) : (binOp .eql 23 (.slice a n c) (.slice none n' c')).run Try.prog w = .ok (.bool a.isNone) w := Lib.run_eql_slice_nil w _ _ a n c n' c' Try.underlying23
set_option maxRecDepth 100000 in
/-- slices.Clone of ints. -/
theorem pClone (A : Option Addr) (k c : Nat) (l : List Int) (w : World) (hl : l.length ≤ 1000) (B : Nat) (hB : B ≤ w.heap.size) (hr : Rd w B 1 A k (ints l)) :
    Calls Try.prog 82 #[.slice A k c] w fun e w' => ∃ v, e = .returned v ∧ w'.ownsRow w.heap.size 3 1 v k (ints l) ∧ Below w.heap.size w w' := by
  obtain rfl := hr.int_len
  have qT := q23
  cases A with
  | none =>
    have hl0 : l.length = 0 := by
      rcases Nat.eq_zero_or_pos l.length with h | h
      · exact h
      · obtain ⟨_, _, h, _⟩ := hr.2 h; cases h
    have hl1 : l = [] := List.eq_nil_of_length_eq_zero hl0
    subst hl1
    go_enter Try.func82, Try.ntmps82
    go_wp2
    go_ret
    exact ⟨_, rfl, World.ownsRow_nil _ _ _ _, Below.refl _ _⟩
  | some a =>
    have HO := Lib.hid (show (w.alloc (.cells #[] 3)).ownsRow w.heap.size 3 1 (.slice (some ⟨w.heap.size, 0, none⟩) 0 0) 0 [] from own_empty (blk_new w 3 #[]) (Nat.le_refl _))
    have HB := Lib.hid ((Below.refl w.heap.size w).alloc (Nat.le_refl _) (.cells #[] 3))
    have HR := hr.alloc hB (.cells #[] 3)
    go_enter Try.func82, Try.ntmps82
    go_wp2_with (at_builtin; go_must (refine appN rfl (.tmp 5) (.tmp 6) 23 rfl 3 _ 1 8 E23 w.heap.size _ _ _ rfl HO.out B (some a) l.length c (ints l) rfl HR (ints_one _) (by omega) (by simp) ?_); intro v4 w4 hown4 hg4)
    go_ret
    exact ⟨_, rfl, by simpa using hown4, below_own HB.out (by simp) HO.out (Nat.le_refl _) hg4⟩

set_option maxRecDepth 100000 in
theorem pEqual (A A' : Option Addr) (k k' c c' : Nat) (l m : List Int) (w : World) (hl : l.length ≤ 1000) (hm : m.length ≤ 1000) (B : Nat) (hB : B ≤ w.heap.size) (hr : Rd w B 1 A k (ints l)) (hr' : Rd w B 1 A' k' (ints m)) :
    Calls Try.prog 81 #[.slice A k c, .slice A' k' c'] w fun e w' => e = .returned (.bool (decide (l = m))) ∧ Below w.heap.size w w' := by
  obtain rfl := hr.int_len
  obtain rfl := hr'.int_len
  by_cases hlm : l.length = m.length
  · have HLM := Lib.hid hlm
    have hd : ((l.length : Int) == (m.length : Int)) = true := by simp [hlm]
    have hd' : ((l.length : Int) != (m.length : Int)) = false := by simp [hlm]
    clear hlm
    go_enter Try.func81, Try.ntmps81
    go_wp2
    go_loopw [13] (fun i wr => ∃ q : Nat, q ≤ l.length ∧ i = .int .i64 q ∧ Below w.heap.size w wr ∧ Hid (l.take q = m.take q)) (fun i _ => l.length - (intOf i).toNat)
    case atStart => exact ⟨0, Nat.zero_le _, rfl, Below.refl _ _, rfl⟩
    case round =>
      obtain ⟨q, hq, rfl, hb, HT⟩ := hrel
      by_cases hlt : q < l.length
      · have hlt' : q < m.length := by have := HLM.out; omega
        obtain ⟨b, off, rfl, _, h0⟩ := (hr.below' hb hB).int hlt
        obtain ⟨b', off', rfl, _, h0'⟩ := (hr'.below' hb hB).int hlt'
        have z0 : (0 : Int) ≤ (q : Int) := Int.natCast_nonneg _
        have z1 : (q : Int) < (l.length : Int) := by omega
        have z2 : (q : Int) < (m.length : Int) := by omega
        have HS := Lib.hid (take_snoc' l q hlt)
        have HS' := Lib.hid (take_snoc' m q hlt')
        by_cases he : l[q] = m[q]
        · have HE := Lib.hid he
          have hd1 : (l[q] != m[q]) = false := by simpa using he
          have hd2 : (l[q] == m[q]) = true := by simpa using he
          clear he
          go_wp2
          go_quiet (fail)
          go_wp2
          go_roundw
          case rel => exact ⟨q + 1, by omega, by go_num, below_drewN hb nq, by show l.take (q + 1) = m.take (q + 1); rw [HS.out, HS'.out, HT.out, HE.out]⟩
          case measure => simp [intOf]; omega
        · have HE := Lib.hid he
          have hd1 : (l[q] != m[q]) = true := by simpa using he
          have hd2 : (l[q] == m[q]) = false := by simpa using he
          clear he
          go_wp2
          go_quiet (fail)
          go_wp2
          go_ret
          exact ⟨ret_bool (by symm; apply decide_eq_false; intro h; subst h; exact HE.out rfl), below_drewN hb nq⟩
      · obtain rfl : q = l.length := by omega
        have HE := Lib.hid (show l = m by have := HT.out; rw [List.take_length, HLM.out, List.take_length] at this; exact this)
        go_wp2
        go_ret
        exact ⟨ret_bool (decide_eq_true HE.out).symm, hb⟩
  · have hd : ((l.length : Int) == (m.length : Int)) = false := by simp; omega
    have hd' : ((l.length : Int) != (m.length : Int)) = true := by simp; omega
    have HLM := Lib.hid hlm
    clear hlm
    go_enter Try.func81, Try.ntmps81
    go_wp2
    go_ret
    exact ⟨ret_bool (by symm; apply decide_eq_false; intro h; subst h; exact HLM.out rfl), Below.refl _ _⟩

theorem pEqual_is (r : Bool) (A A' : Option Addr) (k k' c c' : Nat) (l m : List Int) (h : decide (l = m) = r) (w : World) (hl : l.length ≤ 1000) (hm : m.length ≤ 1000) (B : Nat) (hB : B ≤ w.heap.size) (hr : Rd w B 1 A k (ints l)) (hr' : Rd w B 1 A' k' (ints m)) :
    Calls Try.prog 81 #[.slice A k c, .slice A' k' c'] w fun e w' => e = .returned (.bool r) ∧ Below w.heap.size w w' := by
  subst h; exact pEqual A A' k k' c c' l m w hl hm B hB hr hr'
set_option maxRecDepth 100000 in
theorem rSameInts (A A' : Option Addr) (k k' c c' : Nat) (l m : List Int) (w : World) (hl : l.length ≤ 1000) (hm : m.length ≤ 1000) (B : Nat) (hB : B ≤ w.heap.size) (hr : Rd w B 1 A k (ints l)) (hr' : Rd w B 1 A' k' (ints m)) :
    Calls Try.prog 26 #[.slice A k c, .slice A' k' c'] w fun e w' => e = .returned (.bool (decide (l = m))) ∧ Below w.heap.size w w' := by
  obtain rfl := hr.int_len
  obtain rfl := hr'.int_len
  by_cases hlm : l.length = m.length
  · have HLM := Lib.hid hlm
    have hd : ((l.length : Int) == (m.length : Int)) = true := by simp [hlm]
    have hd' : ((l.length : Int) != (m.length : Int)) = false := by simp [hlm]
    clear hlm
    go_enter Try.func26, Try.ntmps26
    go_wp2
    go_loopw [5] (fun i wr => ∃ q : Nat, q ≤ l.length ∧ i = .int .i64 q ∧ Below w.heap.size w wr ∧ Hid (l.take q = m.take q)) (fun i _ => l.length - (intOf i).toNat)
    case atStart => exact ⟨0, Nat.zero_le _, rfl, Below.refl _ _, rfl⟩
    case round =>
      obtain ⟨q, hq, rfl, hb, HT⟩ := hrel
      by_cases hlt : q < l.length
      · have hlt' : q < m.length := by have := HLM.out; omega
        obtain ⟨b, off, rfl, _, h0⟩ := (hr.below' hb hB).int hlt
        obtain ⟨b', off', rfl, _, h0'⟩ := (hr'.below' hb hB).int hlt'
        have z0 : (0 : Int) ≤ (q : Int) := Int.natCast_nonneg _
        have z1 : (q : Int) < (l.length : Int) := by omega
        have z2 : (q : Int) < (m.length : Int) := by omega
        have HS := Lib.hid (take_snoc' l q hlt)
        have HS' := Lib.hid (take_snoc' m q hlt')
        by_cases he : l[q] = m[q]
        · have HE := Lib.hid he
          have hd1 : (l[q] != m[q]) = false := by simpa using he
          have hd2 : (l[q] == m[q]) = true := by simpa using he
          clear he
          go_wp2
          go_quiet (fail)
          go_wp2
          go_roundw
          case rel => exact ⟨q + 1, by omega, by go_num, below_drewN hb nq, by show l.take (q + 1) = m.take (q + 1); rw [HS.out, HS'.out, HT.out, HE.out]⟩
          case measure => simp [intOf]; omega
        · have HE := Lib.hid he
          have hd1 : (l[q] != m[q]) = true := by simpa using he
          have hd2 : (l[q] == m[q]) = false := by simpa using he
          clear he
          go_wp2
          go_quiet (fail)
          go_wp2
          go_ret
          exact ⟨ret_bool (by symm; apply decide_eq_false; intro h; subst h; exact HE.out rfl), below_drewN hb nq⟩
      · obtain rfl : q = l.length := by omega
        have HE := Lib.hid (show l = m by have := HT.out; rw [List.take_length, HLM.out, List.take_length] at this; exact this)
        go_wp2
        go_ret
        exact ⟨ret_bool (decide_eq_true HE.out).symm, hb⟩
  · have hd : ((l.length : Int) == (m.length : Int)) = false := by simp; omega
    have hd' : ((l.length : Int) != (m.length : Int)) = true := by simp; omega
    have HLM := Lib.hid hlm
    clear hlm
    go_enter Try.func26, Try.ntmps26
    go_wp2
    go_ret
    exact ⟨ret_bool (by symm; apply decide_eq_false; intro h; subst h; exact HLM.out rfl), Below.refl _ _⟩

theorem rSameInts_is (r : Bool) (A A' : Option Addr) (k k' c c' : Nat) (l m : List Int) (h : decide (l = m) = r) (w : World) (hl : l.length ≤ 1000) (hm : m.length ≤ 1000) (B : Nat) (hB : B ≤ w.heap.size) (hr : Rd w B 1 A k (ints l)) (hr' : Rd w B 1 A' k' (ints m)) :
    Calls Try.prog 26 #[.slice A k c, .slice A' k' c'] w fun e w' => e = .returned (.bool r) ∧ Below w.heap.size w w' := by
  subst h; exact rSameInts A A' k k' c c' l m w hl hm B hB hr hr'
end Go.Proofs.Ytejjogpgolgdgaa

/-
  WALKS: what is voltages, what a wish.
-/
namespace Go.Proofs.Ytejjogpgolgdgaa
open Go.RowKit Pulse

def vOk (g : List (List Int)) (l : List Int) : Bool := withinB l (wid g) 3
def wOk (g : List (List Int)) (l : List Int) : Bool := withinB l (g.length) 1000
def wishE (g : List (List Int)) (l : List Int) : Int := if vldG g = 0 then (if wOk g l then 0 else 1) else vldG g

set_option maxHeartbeats 400000 in
theorem pisVolts (r : Bool) (A A' : Option Addr) (k c k' c' : Nat) (g : List (List Int)) (l : List Int) (hrr : withinB l (wid g) 3 = r) (w : World) (hpos : 0 < g.length) (hl : l.length ≤ 1000) (B : Nat) (hB : B ≤ w.heap.size) (hr : TRd w B A k g) (hr' : Rd w B 1 A' k' (ints l)) :
    Calls Try.prog 62 #[.slice A k c, .slice A' k' c'] w fun e w' => e = .returned (.bool r) ∧ Below w.heap.size w w' := by
  obtain rfl := hr.len
  obtain rfl := hr'.int_len
  obtain ⟨b, off, A0, c0, rfl, hb0, hc0, _, _, _⟩ := hr.row hpos
  have HW := Lib.hid (wid_zero hpos)
  rw [Nat.add_zero, ← HW.out] at hc0
  have z2 : (0 : Int) < (g.length : Int) := by omega
  have HR := Lib.hid hrr
  clear hrr
  go_enter Try.func62, Try.ntmps62
  go_wp2_with fail
  refine (pwithin A' l.length c' l (wid g) 3 w (by omega) (by omega) hl B hB hr').mono ?_
  rw [HR.out]
  rintro e w1 ⟨rfl, hb1⟩
  go_wp2
  go_ret
  exact ⟨rfl, hb1⟩

set_option maxHeartbeats 400000 in
theorem risVolts (r : Bool) (A A' : Option Addr) (k c k' c' : Nat) (g : List (List Int)) (l : List Int) (hrr : withinB l (wid g) 3 = r) (w : World) (hpos : 0 < g.length) (hl : l.length ≤ 1000) (B : Nat) (hB : B ≤ w.heap.size) (hr : TRd w B A k g) (hr' : Rd w B 1 A' k' (ints l)) :
    Calls Try.prog 64 #[.slice A k c, .slice A' k' c'] w fun e w' => e = .returned (.bool r) ∧ Below w.heap.size w w' := by
  obtain rfl := hr.len
  obtain rfl := hr'.int_len
  obtain ⟨b, off, A0, c0, rfl, hb0, hc0, _, _, _⟩ := hr.row hpos
  have HW := Lib.hid (wid_zero hpos)
  rw [Nat.add_zero, ← HW.out] at hc0
  have z2 : (0 : Int) < (g.length : Int) := by omega
  have HR := Lib.hid hrr
  clear hrr
  go_enter Try.func64, Try.ntmps64
  go_wp2_with fail
  refine (rall_is r A' l.length c' l (wid g) 3 HR.out w (by omega) (by omega) hl B hr').mono ?_
  rintro e w1 ⟨rfl, rfl⟩
  go_wp2
  go_ret
  exact ⟨rfl, Below.refl _ _⟩

set_option maxHeartbeats 400000 in
theorem pisWish (r : Bool) (A A' : Option Addr) (k c k' c' : Nat) (g : List (List Int)) (l : List Int) (hrr : withinB l (g.length) 1000 = r) (w : World) (hpos : 0 < g.length) (hl : l.length ≤ 1000) (B : Nat) (hB : B ≤ w.heap.size) (hr : TRd w B A k g) (hr' : Rd w B 1 A' k' (ints l)) :
    Calls Try.prog 88 #[.slice A k c, .slice A' k' c'] w fun e w' => e = .returned (.bool r) ∧ Below w.heap.size w w' := by
  obtain rfl := hr.len
  obtain rfl := hr'.int_len
  have HR := Lib.hid hrr
  clear hrr
  go_enter Try.func88, Try.ntmps88
  go_wp2_with fail
  refine (pwithin A' l.length c' l (g.length) 1000 w (by omega) (by omega) hl B hB hr').mono ?_
  rw [HR.out]
  rintro e w1 ⟨rfl, hb1⟩
  go_wp2
  go_ret
  exact ⟨rfl, hb1⟩

set_option maxHeartbeats 400000 in
theorem risWish (r : Bool) (A A' : Option Addr) (k c k' c' : Nat) (g : List (List Int)) (l : List Int) (hrr : withinB l (g.length) 1000 = r) (w : World) (hpos : 0 < g.length) (hl : l.length ≤ 1000) (B : Nat) (hB : B ≤ w.heap.size) (hr : TRd w B A k g) (hr' : Rd w B 1 A' k' (ints l)) :
    Calls Try.prog 89 #[.slice A k c, .slice A' k' c'] w fun e w' => e = .returned (.bool r) ∧ Below w.heap.size w w' := by
  obtain rfl := hr.len
  obtain rfl := hr'.int_len
  have HR := Lib.hid hrr
  clear hrr
  go_enter Try.func89, Try.ntmps89
  go_wp2_with fail
  refine (rall_is r A' l.length c' l (g.length) 1000 HR.out w (by omega) (by omega) hl B hr').mono ?_
  rintro e w1 ⟨rfl, rfl⟩
  go_wp2
  go_ret
  exact ⟨rfl, Below.refl _ _⟩

set_option maxHeartbeats 400000 in
theorem pwished (A A' : Option Addr) (k c k' c' : Nat) (g : List (List Int)) (l : List Int) (w : World) (hs : Sm g) (hl : l.length ≤ 1000) (B : Nat) (hB : B ≤ w.heap.size) (hr : TRd w B A k g) (hr' : Rd w B 1 A' k' (ints l)) :
    Calls Try.prog 55 #[.slice A k c, .slice A' k' c'] w fun e w' => e = .returned (.int .i64 (wishE g l)) ∧ Below w.heap.size w w' := by
  have H := Lib.hid (pValidate A k c g w hs B hB hr)
  by_cases h : vldG g = 0
  · have hpos : 0 < g.length := (vldG_ok h).1
    have HE := Lib.hid (show wishE g l = if wOk g l = true then 0 else 1 by rw [wishE, if_pos h])
    rw [h] at H
    clear h
    cases ho : wOk g l with
    | true =>
      rw [ho] at HE
      have HO := Lib.hid ho
      clear ho
      go_enter Try.func55, Try.ntmps55
      go_wp2_with fail
      refine H.out.mono ?_
      rintro e w1 ⟨rfl, hb1⟩
      have s1 := hb1.size
      go_wp2_with fail
      refine (pisWish true A A' k c k' c' g l HO.out w1 hpos hl B (by omega) (hr.below' hb1 hB) (hr'.below' hb1 hB)).mono ?_
      rintro e w2 ⟨rfl, hb2⟩
      go_wp2
      go_ret
      exact ⟨ret_int HE.out.symm, hb1.trans (hb2.mono s1)⟩
    | false =>
      rw [ho] at HE
      have HO := Lib.hid ho
      clear ho
      go_enter Try.func55, Try.ntmps55
      go_wp2_with fail
      refine H.out.mono ?_
      rintro e w1 ⟨rfl, hb1⟩
      have s1 := hb1.size
      go_wp2_with fail
      refine (pisWish false A A' k c k' c' g l HO.out w1 hpos hl B (by omega) (hr.below' hb1 hB) (hr'.below' hb1 hB)).mono ?_
      rintro e w2 ⟨rfl, hb2⟩
      go_wp2
      go_ret
      exact ⟨ret_int HE.out.symm, hb1.trans (hb2.mono s1)⟩
  · have hd : (vldG g != 0) = true := by simpa using h
    have HE := Lib.hid (show wishE g l = vldG g by rw [wishE, if_neg h])
    clear h
    generalize vldG g = x at *
    go_enter Try.func55, Try.ntmps55
    go_wp2_with fail
    refine H.out.mono ?_
    rintro e w1 ⟨rfl, hb1⟩
    go_wp2
    go_ret
    exact ⟨ret_int HE.out.symm, hb1⟩

set_option maxHeartbeats 400000 in
theorem rWished (A A' : Option Addr) (k c k' c' : Nat) (g : List (List Int)) (l : List Int) (w : World) (hs : Sm g) (hl : l.length ≤ 1000) (B : Nat) (hB : B ≤ w.heap.size) (hr : TRd w B A k g) (hr' : Rd w B 1 A' k' (ints l)) :
    Calls Try.prog 57 #[.slice A k c, .slice A' k' c'] w fun e w' => e = .returned (.int .i64 (wishE g l)) ∧ Below w.heap.size w w' := by
  have H := Lib.hid (rValidate A k c g w hs B hB hr)
  by_cases h : vldG g = 0
  · have hpos : 0 < g.length := (vldG_ok h).1
    have HE := Lib.hid (show wishE g l = if wOk g l = true then 0 else 1 by rw [wishE, if_pos h])
    rw [h] at H
    clear h
    cases ho : wOk g l with
    | true =>
      rw [ho] at HE
      have HO := Lib.hid ho
      clear ho
      go_enter Try.func57, Try.ntmps57
      go_wp2_with fail
      refine H.out.mono ?_
      rintro e w1 ⟨rfl, hb1⟩
      have s1 := hb1.size
      go_wp2_with fail
      refine (risWish true A A' k c k' c' g l HO.out w1 hpos hl B (by omega) (hr.below' hb1 hB) (hr'.below' hb1 hB)).mono ?_
      rintro e w2 ⟨rfl, hb2⟩
      go_wp2
      go_ret
      exact ⟨ret_int HE.out.symm, hb1.trans (hb2.mono s1)⟩
    | false =>
      rw [ho] at HE
      have HO := Lib.hid ho
      clear ho
      go_enter Try.func57, Try.ntmps57
      go_wp2_with fail
      refine H.out.mono ?_
      rintro e w1 ⟨rfl, hb1⟩
      have s1 := hb1.size
      go_wp2_with fail
      refine (risWish false A A' k c k' c' g l HO.out w1 hpos hl B (by omega) (hr.below' hb1 hB) (hr'.below' hb1 hB)).mono ?_
      rintro e w2 ⟨rfl, hb2⟩
      go_wp2
      go_ret
      exact ⟨ret_int HE.out.symm, hb1.trans (hb2.mono s1)⟩
  · have hd : (vldG g != 0) = true := by simpa using h
    have HE := Lib.hid (show wishE g l = vldG g by rw [wishE, if_neg h])
    clear h
    generalize vldG g = x at *
    go_enter Try.func57, Try.ntmps57
    go_wp2_with fail
    refine H.out.mono ?_
    rintro e w1 ⟨rfl, hb1⟩
    go_wp2
    go_ret
    exact ⟨ret_int HE.out.symm, hb1⟩
end Go.Proofs.Ytejjogpgolgdgaa
