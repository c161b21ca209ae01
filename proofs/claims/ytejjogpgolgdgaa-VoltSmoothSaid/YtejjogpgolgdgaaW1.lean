/-
  WALKS: lists within bounds.
-/
import Derived.Test.YtejjogpgolgdgaaProg
import Derived.Test.YtejjogpgolgdgaaTabR
import Derived.Test.YtejjogpgolgdgaaQTail
import Derived.Test.YtejjogpgolgdgaaQTail2
import Derived.Test.YtejjogpgolgdgaaPlain3
namespace Go.Proofs.Ytejjogpgolgdgaa
open Go.RowKit Pulse

def isIn (b n : Int) : Bool := decide (-b ≤ n) && decide (n ≤ b)
def withinB (l : List Int) (size : Int) (b : Int) : Bool := decide ((l.length : Int) = size) && l.all (isIn b)
theorem rwithin (n lo hi : Int) (w : World) :
    Calls Try.prog 67 #[.int .i64 n, .int .i64 lo, .int .i64 hi] w fun e w' => e = .returned (.bool (decide (lo ≤ n) && decide (n ≤ hi))) ∧ w = w' := by
  by_cases h : lo ≤ n
  · go_enter Try.func67, Try.ntmps67
    go_wp2
    go_ret
    exact ⟨by simp [h], rfl⟩
  · have hd : decide (lo ≤ n) = false := by simpa using h
    go_enter Try.func67, Try.ntmps67
    go_wp2
    go_ret
    exact ⟨by simp [h], rfl⟩
theorem rwithin_is (n lo hi : Int) (r : Bool) (h : (decide (lo ≤ n) && decide (n ≤ hi)) = r) (w : World) :
    Calls Try.prog 67 #[.int .i64 n, .int .i64 lo, .int .i64 hi] w fun e w' => e = .returned (.bool r) ∧ w = w' := by
  subst h; exact rwithin n lo hi w
/-- Where the first one is, -1 if there is none. -/
def placeOf {α : Type} (p : α → Bool) (l : List α) : Int := if l.any p then (l.findIdx p : Int) else -1
set_option maxHeartbeats 400000 in
/-- slices.IndexFunc at ints. -/
theorem intIndexFunc (f : FuncId) (hcf : ∀ (args : Array Value) (W : World), (callFunc f args).run Try.prog W = .ok (.enter f args) W) (cs : Array Value) (p : Int → Bool) (A : Option Addr) (k c : Nat) (l : List Int) (w : World) (hl : l.length ≤ 1000) (B : Nat) (hB : B ≤ w.heap.size) (hr : Rd w B 1 A k (ints l))
    (hf : ∀ a ∈ l, ∀ W, Below w.heap.size w W → Calls Try.prog f (#[.int .i64 a] ++ cs) W fun e W' => e = .returned (.bool (p a)) ∧ Below W.heap.size W W') :
    Calls Try.prog 97 #[.slice A k c, .func (.func f) #[] cs] w fun e w' => e = .returned (.int .i64 (placeOf p l)) ∧ Below w.heap.size w w' := by
  obtain rfl := hr.int_len
  have HF := Lib.hid hf
  clear hf
  go_enter Try.func97, Try.ntmps97
  go_wp2
  go_loopw [8] (fun i wr => ∃ q : Nat, q ≤ l.length ∧ i = .int .i64 q ∧ Below w.heap.size w wr ∧ (l.take q).any p = false) (fun i _ => l.length - (intOf i).toNat)
  case atStart => exact ⟨0, Nat.zero_le _, rfl, Below.refl _ _, rfl⟩
  case round =>
    obtain ⟨q, hq, rfl, hb, hall⟩ := hrel
    by_cases hlt : q < l.length
    · obtain ⟨b, off, rfl, hbb, h0⟩ := (hr.below' hb hB).int hlt
      have hin : l[q] ∈ l := List.getElem_mem hlt
      have ht := any_take p l q hlt
      rw [hall, Bool.false_or] at ht
      by_cases ha : p l[q] = true
      · have hx : placeOf p l = q := by
          rw [placeOf, if_pos (List.any_eq_true.2 ⟨_, hin, ha⟩)]
          congr 1
          rw [List.findIdx_eq hlt]
          refine ⟨ha, fun j hj => ?_⟩
          have hz : l[j] ∈ l.take q := List.mem_take_iff_getElem.2 ⟨j, by omega, rfl⟩
          have := List.any_eq_false.1 hall _ hz
          simpa using this
        have HX := Lib.hid hx
        have HA := Lib.hid ha
        clear hx ha ht hall
        go_wp2_with fail
        refine (HF.out _ hin _ hb).mono ?_
        rw [HA.out]
        rintro e w' ⟨rfl, hb'⟩
        go_wp2
        go_ret
        exact ⟨ret_int HX.out.symm, hb.trans (hb'.mono hb.size)⟩
      · rw [Bool.not_eq_true] at ha
        have HT := Lib.hid (ht.trans ha)
        have HA := Lib.hid ha
        clear ha ht hall
        go_wp2_with fail
        refine (HF.out _ hin _ hb).mono ?_
        rw [HA.out]
        rintro e w' ⟨rfl, hb'⟩
        go_wp2
        go_roundw
        case rel => exact ⟨q + 1, by omega, by go_num, hb.trans (hb'.mono hb.size), HT.out⟩
        case measure => simp [intOf]; omega
    · obtain rfl : q = l.length := by omega
      rw [List.take_length] at hall
      have HA := Lib.hid hall
      clear hall
      go_wp2
      go_ret
      exact ⟨ret_int (by rw [placeOf, HA.out]; rfl), hb⟩

set_option maxHeartbeats 400000 in
/-- slices.ContainsFunc at ints. -/
theorem intContainsFunc (f : FuncId) (hcf : ∀ (args : Array Value) (W : World), (callFunc f args).run Try.prog W = .ok (.enter f args) W) (cs : Array Value) (p : Int → Bool) (A : Option Addr) (k c : Nat) (l : List Int) (w : World) (hl : l.length ≤ 1000) (B : Nat) (hB : B ≤ w.heap.size) (hr : Rd w B 1 A k (ints l))
    (hf : ∀ a ∈ l, ∀ W, Below w.heap.size w W → Calls Try.prog f (#[.int .i64 a] ++ cs) W fun e W' => e = .returned (.bool (p a)) ∧ Below W.heap.size W W') :
    Calls Try.prog 91 #[.slice A k c, .func (.func f) #[] cs] w fun e w' => e = .returned (.bool (l.any p)) ∧ Below w.heap.size w w' := by
  have H := Lib.hid (intIndexFunc f hcf cs p A k c l w hl B hB hr hf)
  clear hf hcf
  by_cases ha : l.any p = true
  · have HA := Lib.hid ha
    clear ha
    go_enter Try.func91, Try.ntmps91
    go_wp2_with fail
    refine H.out.mono ?_
    rw [placeOf, if_pos HA.out]
    rintro e w' ⟨rfl, hb⟩
    go_wp2
    go_ret
    exact ⟨ret_bool HA.out.symm, hb⟩
  · rw [Bool.not_eq_true] at ha
    have HA := Lib.hid ha
    clear ha
    go_enter Try.func91, Try.ntmps91
    go_wp2_with fail
    refine H.out.mono ?_
    rw [placeOf, HA.out, if_neg (by simp)]
    rintro e w' ⟨rfl, hb⟩
    go_wp2
    go_ret
    exact ⟨ret_bool HA.out.symm, hb⟩


set_option maxHeartbeats 400000 in
theorem wFn (n b : Int) (g : Nat) (W : World) (h0 : 0 ≤ b) (h1 : b ≤ 1000) (hg : W.heap[g]? = some (.cells #[.int .i64 b] 3 (0, 0))) :
    Calls Try.prog 92 #[.int .i64 n, .pointer (some ⟨g, 0, none⟩)] W fun e W' => e = .returned (.bool (!isIn b n)) ∧ Below W.heap.size W W' := by
  have c0 : W.cell? ⟨g, 0, none⟩ = some (.int .i64 b) := blk_cell hg 0
  have HE := Lib.hid (show isIn b n = (decide (-b ≤ n) && decide (n ≤ b)) from rfl)
  clear hg
  by_cases ha : n < -b
  · have HX := Lib.hid (show isIn b n = false by rw [HE.out]; simp; omega)
    go_enter Try.func92, Try.ntmps92
    go_wp2
    go_ret
    exact ⟨ret_bool (by rw [HX.out]; rfl), Below.refl _ _⟩
  · have hd : decide (n < -b) = false := by simpa using ha
    by_cases hb : b < n
    · have HX := Lib.hid (show isIn b n = false by rw [HE.out]; simp; omega)
      go_enter Try.func92, Try.ntmps92
      go_wp2
      go_ret
      exact ⟨ret_bool (by rw [HX.out]; rfl), Below.refl _ _⟩
    · have hd' : decide (b < n) = false := by simpa using hb
      have HX := Lib.hid (show isIn b n = true by rw [HE.out]; simp; omega)
      go_enter Try.func92, Try.ntmps92
      go_wp2
      go_ret
      exact ⟨ret_bool (by rw [HX.out]; rfl), Below.refl _ _⟩

set_option maxHeartbeats 400000 in
/-- within. -/
theorem pwithin (A : Option Addr) (k c : Nat) (l : List Int) (size b : Int) (w : World) (h0 : 0 ≤ b) (h1 : b ≤ 1000) (hl : l.length ≤ 1000) (B : Nat) (hB : B ≤ w.heap.size) (hr : Rd w B 1 A k (ints l)) :
    Calls Try.prog 66 #[.slice A k c, .int .i64 size, .int .i64 b] w fun e w' => e = .returned (.bool (withinB l size b)) ∧ Below w.heap.size w w' := by
  obtain rfl := hr.int_len
  have HN := Lib.hid (blk_new w 3 #[.int .i64 b])
  have HB := Lib.hid ((Below.refl w.heap.size w).alloc (Nat.le_refl _) (.cells #[.int .i64 b] 3))
  have H := Lib.hid (intContainsFunc 92 Try.call92 #[.pointer (some ⟨w.heap.size, 0, none⟩)] (fun n => !isIn b n) A l.length c l (w.alloc (.cells #[.int .i64 b] 3)) hl B (by simp; omega) (hr.alloc hB _)
    (fun a _ W hb => wFn a b w.heap.size W h0 h1 (blk_below HN.out hb (by simp))))
  have HE := Lib.hid (show withinB l size b = (decide ((l.length : Int) = size) && !l.any fun n => !isIn b n) by simp [withinB, List.any_eq_not_all_not])
  clear hr
  by_cases hs : (l.length : Int) = size
  · have hd : ((l.length : Int) == size) = true := by simpa using hs
    rw [decide_eq_true hs] at HE
    clear hs
    go_enter Try.func66, Try.ntmps66
    go_wp2_with fail
    refine H.out.mono ?_
    rintro e w' ⟨rfl, hb⟩
    go_wp2
    go_ret
    exact ⟨ret_bool (by rw [HE.out]; rfl), HB.out.trans (hb.mono (by simp))⟩
  · have hd : ((l.length : Int) == size) = false := by simpa using hs
    rw [decide_eq_false hs] at HE
    clear hs
    go_enter Try.func66, Try.ntmps66
    go_wp2
    go_ret
    exact ⟨ret_bool (by rw [HE.out]; rfl), HB.out⟩

set_option maxHeartbeats 400000 in
/-- The reference's all. -/
theorem rall (A : Option Addr) (k c : Nat) (l : List Int) (size b : Int) (w : World) (h0 : 0 ≤ b) (h1 : b ≤ 1000) (hl : l.length ≤ 1000) (B : Nat) (hr : Rd w B 1 A k (ints l)) :
    Calls Try.prog 68 #[.slice A k c, .int .i64 size, .int .i64 b] w fun e w' => e = .returned (.bool (withinB l size b)) ∧ w' = w := by
  obtain rfl := hr.int_len
  have HE := Lib.hid (show withinB l size b = (decide ((l.length : Int) = size) && l.all (isIn b)) from rfl)
  by_cases hs : (l.length : Int) = size
  · subst hs
    have HV1 := Lib.hid (show l.all (isIn b) = true → withinB l l.length b = true from fun h => by rw [HE.out, h]; simp)
    have HV0 := Lib.hid (show l.all (isIn b) = false → withinB l l.length b = false from fun h => by rw [HE.out, h]; simp)
    go_enter Try.func68, Try.ntmps68
    go_wp2
    go_loop [7] (fun i => ∃ q : Nat, q ≤ l.length ∧ i = .int .i64 q ∧ Hid ((l.take q).all (isIn b) = true)) (fun i => l.length - (intOf i).toNat)
    case atStart => exact ⟨0, Nat.zero_le _, rfl, rfl⟩
    case round =>
      obtain ⟨q, hq, rfl, hall⟩ := hrel
      by_cases hlt : q < l.length
      · obtain ⟨b', off, rfl, hbb, h0'⟩ := hr.int hlt
        have ht := all_take (isIn b) l q hlt
        rw [hall.out, Bool.true_and] at ht
        cases ha : isIn b l[q] with
        | true =>
          have HT := Lib.hid (ht.trans ha)
          have HA := Lib.hid ha
          clear ha ht
          go_wp2_with fail
          refine (rwithin _ _ _ _).mono ?_
          rw [show (decide (-b ≤ l[q]) && decide (l[q] ≤ b)) = true from HA.out]
          rintro e w' ⟨rfl, rfl⟩
          go_wp2
          go_round
          case rel => exact ⟨q + 1, by omega, by go_num, HT⟩
          case measure => simp [intOf]; omega
        | false =>
          have HN := Lib.hid (HV0.out (by
            rw [Bool.eq_false_iff]
            intro hx
            have := List.all_eq_true.1 hx _ (List.getElem_mem hlt)
            rw [ha] at this
            cases this))
          have HA := Lib.hid ha
          clear ha ht
          go_wp2_with fail
          refine (rwithin _ _ _ _).mono ?_
          rw [show (decide (-b ≤ l[q]) && decide (l[q] ≤ b)) = false from HA.out]
          rintro e w' ⟨rfl, rfl⟩
          go_wp2
          go_ret
          exact ⟨ret_bool HN.out.symm, rfl⟩
      · obtain rfl : q = l.length := by omega
        have HN := Lib.hid (HV1.out (by have := hall.out; rwa [List.take_length] at this))
        go_wp2
        go_ret
        exact ⟨ret_bool HN.out.symm, rfl⟩
  · have hd : ((l.length : Int) != size) = true := by simpa using hs
    rw [decide_eq_false hs] at HE
    clear hs
    go_enter Try.func68, Try.ntmps68
    go_wp2
    go_ret
    exact ⟨ret_bool (by rw [HE.out]; rfl), rfl⟩
theorem rall_is (r : Bool) (A : Option Addr) (k c : Nat) (l : List Int) (size b : Int) (h : withinB l size b = r) (w : World) (h0 : 0 ≤ b) (h1 : b ≤ 1000) (hl : l.length ≤ 1000) (B : Nat) (hr : Rd w B 1 A k (ints l)) :
    Calls Try.prog 68 #[.slice A k c, .int .i64 size, .int .i64 b] w fun e w' => e = .returned (.bool r) ∧ w' = w := by
  subst h; exact rall A k c l size b w h0 h1 hl B hr
end Go.Proofs.Ytejjogpgolgdgaa
