/-
  MERGED: W1, W2.
-/
import Derived.Test.YtnoocdannfeidaaProg
import Derived.Test.YtnoocdannfeidaaK1
import Derived.Test.YtnoocdannfeidaaK2
import Derived.Test.YtnoocdannfeidaaK3
/-
  WALKS: which pulses and modes are right.
-/
namespace Go.Proofs.Ytnoocdannfeidaa
open Go.RowKit Pulse

def isF (n : Int) : Bool := decide (-99 ≤ n) && decide (n ≤ 99)
/-- The error of a pulse: 0, 1 (ErrArg), 3 (ErrLarge). -/
def vald (p : List Int) : Int := if 12 < p.length then 3 else if p.all isF then 0 else 1
def isMode (m : Int) : Bool := decide (0 ≤ m) && decide (m ≤ 3)
def moded (p : List Int) (m : Int) : Int := if vald p = 0 then (if isMode m then 0 else 1) else vald p
theorem vald_ok {p : List Int} (h : vald p = 0) : p.length ≤ 12 ∧ Forces 99 p := by
  unfold vald at h
  split at h
  · omega
  · split at h
    · rename_i h1 h2
      refine ⟨by omega, fun f hf => ?_⟩
      have := List.all_eq_true.1 h2 f hf
      simp only [isF, Bool.and_eq_true, decide_eq_true_eq] at this
      omega
    · omega
theorem moded_ok {p : List Int} {m : Int} (h : moded p m = 0) : vald p = 0 ∧ 0 ≤ m ∧ m ≤ 3 := by
  unfold moded at h
  split at h
  · rename_i h1
    split at h
    · rename_i h2
      simp only [isMode, Bool.and_eq_true, decide_eq_true_eq] at h2
      exact ⟨h1, h2.1, h2.2⟩
    · omega
  · contradiction

theorem pisForce (n : Int) (w : World) : Calls Try.prog 78 #[.int .i64 n] w fun e w' => e = .returned (.bool (isF n)) ∧ w = w' := by
  unfold isF
  by_cases h : -99 ≤ n
  · go_enter Try.func78, Try.ntmps78
    go_wp2
    go_ret
    exact ⟨by simp [h], rfl⟩
  · have hd : decide (-99 ≤ n) = false := by simpa using h
    go_enter Try.func78, Try.ntmps78
    go_wp2
    go_ret
    exact ⟨by simp [h], rfl⟩
theorem pisMode (n : Int) (w : World) : Calls Try.prog 91 #[.int .i64 n] w fun e w' => e = .returned (.bool (isMode n)) ∧ w = w' := by
  unfold isMode
  by_cases h : 0 ≤ n
  · go_enter Try.func91, Try.ntmps91
    go_wp2
    go_ret
    exact ⟨by simp [h], rfl⟩
  · have hd : decide (0 ≤ n) = false := by simpa using h
    go_enter Try.func91, Try.ntmps91
    go_wp2
    go_ret
    exact ⟨by simp [h], rfl⟩
theorem rwithin (n lo hi : Int) (w : World) :
    Calls Try.prog 23 #[.int .i64 n, .int .i64 lo, .int .i64 hi] w fun e w' => e = .returned (.bool (decide (lo ≤ n) && decide (n ≤ hi))) ∧ w = w' := by
  by_cases h : lo ≤ n
  · go_enter Try.func23, Try.ntmps23
    go_wp2
    go_ret
    exact ⟨by simp [h], rfl⟩
  · have hd : decide (lo ≤ n) = false := by simpa using h
    go_enter Try.func23, Try.ntmps23
    go_wp2
    go_ret
    exact ⟨by simp [h], rfl⟩
/-- Validate's closure. -/
theorem valFn (n : Int) (W : World) : Calls Try.prog 77 #[.int .i64 n] W fun e W' => e = .returned (.bool (!isF n)) ∧ Below W.heap.size W W' := by
  go_enter Try.func77, Try.ntmps77
  go_wp2_with (go_at_call 78; refine (pisForce _ _).mono ?_; rintro e w' ⟨rfl, rfl⟩)
  go_ret
  exact ⟨rfl, Below.refl _ _⟩

/-- Where the first one is, -1 if there is none. -/
def placeOf {α : Type} (p : α → Bool) (l : List α) : Int := if l.any p then (l.findIdx p : Int) else -1
set_option maxHeartbeats 400000 in
/-- slices.IndexFunc at ints. -/
theorem intIndexFunc (f : FuncId) (hcf : ∀ (args : Array Value) (W : World), (callFunc f args).run Try.prog W = .ok (.enter f args) W) (cs : Array Value) (p : Int → Bool) (A : Option Addr) (k c : Nat) (l : List Int) (w : World) (hl : l.length ≤ 1000) (B : Nat) (hB : B ≤ w.heap.size) (hr : Rd w B 1 A k (ints l))
    (hf : ∀ a ∈ l, ∀ W, Below w.heap.size w W → Calls Try.prog f (#[.int .i64 a] ++ cs) W fun e W' => e = .returned (.bool (p a)) ∧ Below W.heap.size W W') :
    Calls Try.prog 97 #[.slice A k c, .func (.func f) #[] cs] w fun e w' => e = .returned (.int .i64 (placeOf p l)) ∧ Below w.heap.size w w' := by
  obtain rfl := hr.int_len
  have HF := Lib.hid hf
  clear hf
  go_enter Try.func97, Try.ntmps97
  go_wp2
  go_loopw [8] (fun i wr => ∃ q : Nat, q ≤ l.length ∧ i = .int .i64 q ∧ Below w.heap.size w wr ∧ (l.take q).any p = false) (fun i _ => l.length - (intOf i).toNat)
  case atStart => exact ⟨0, Nat.zero_le _, rfl, Below.refl _ _, rfl⟩
  case round =>
    obtain ⟨q, hq, rfl, hb, hall⟩ := hrel
    by_cases hlt : q < l.length
    · obtain ⟨b, off, rfl, hbb, h0⟩ := (hr.below' hb hB).int hlt
      have hin : l[q] ∈ l := List.getElem_mem hlt
      have ht := any_take p l q hlt
      rw [hall, Bool.false_or] at ht
      by_cases ha : p l[q] = true
      · have hx : placeOf p l = q := by
          rw [placeOf, if_pos (List.any_eq_true.2 ⟨_, hin, ha⟩)]
          congr 1
          rw [List.findIdx_eq hlt]
          refine ⟨ha, fun j hj => ?_⟩
          have hz : l[j] ∈ l.take q := List.mem_take_iff_getElem.2 ⟨j, by omega, rfl⟩
          have := List.any_eq_false.1 hall _ hz
          simpa using this
        have HX := Lib.hid hx
        have HA := Lib.hid ha
        clear hx ha ht hall
        go_wp2_with fail
        refine (HF.out _ hin _ hb).mono ?_
        rw [HA.out]
        rintro e w' ⟨rfl, hb'⟩
        go_wp2
        go_ret
        exact ⟨ret_int HX.out.symm, hb.trans (hb'.mono hb.size)⟩
      · rw [Bool.not_eq_true] at ha
        have HT := Lib.hid (ht.trans ha)
        have HA := Lib.hid ha
        clear ha ht hall
        go_wp2_with fail
        refine (HF.out _ hin _ hb).mono ?_
        rw [HA.out]
        rintro e w' ⟨rfl, hb'⟩
        go_wp2
        go_roundw
        case rel => exact ⟨q + 1, by omega, by go_num, hb.trans (hb'.mono hb.size), HT.out⟩
        case measure => simp [intOf]; omega
    · obtain rfl : q = l.length := by omega
      rw [List.take_length] at hall
      have HA := Lib.hid hall
      clear hall
      go_wp2
      go_ret
      exact ⟨ret_int (by rw [placeOf, HA.out]; rfl), hb⟩

set_option maxHeartbeats 400000 in
/-- slices.ContainsFunc at ints. -/
theorem intContainsFunc (f : FuncId) (hcf : ∀ (args : Array Value) (W : World), (callFunc f args).run Try.prog W = .ok (.enter f args) W) (cs : Array Value) (p : Int → Bool) (A : Option Addr) (k c : Nat) (l : List Int) (w : World) (hl : l.length ≤ 1000) (B : Nat) (hB : B ≤ w.heap.size) (hr : Rd w B 1 A k (ints l))
    (hf : ∀ a ∈ l, ∀ W, Below w.heap.size w W → Calls Try.prog f (#[.int .i64 a] ++ cs) W fun e W' => e = .returned (.bool (p a)) ∧ Below W.heap.size W W') :
    Calls Try.prog 66 #[.slice A k c, .func (.func f) #[] cs] w fun e w' => e = .returned (.bool (l.any p)) ∧ Below w.heap.size w w' := by
  have H := Lib.hid (intIndexFunc f hcf cs p A k c l w hl B hB hr hf)
  clear hf hcf
  by_cases ha : l.any p = true
  · have HA := Lib.hid ha
    clear ha
    go_enter Try.func66, Try.ntmps66
    go_wp2_with fail
    refine H.out.mono ?_
    rw [placeOf, if_pos HA.out]
    rintro e w' ⟨rfl, hb⟩
    go_wp2
    go_ret
    exact ⟨ret_bool HA.out.symm, hb⟩
  · rw [Bool.not_eq_true] at ha
    have HA := Lib.hid ha
    clear ha
    go_enter Try.func66, Try.ntmps66
    go_wp2_with fail
    refine H.out.mono ?_
    rw [placeOf, HA.out, if_neg (by simp)]
    rintro e w' ⟨rfl, hb⟩
    go_wp2
    go_ret
    exact ⟨ret_bool HA.out.symm, hb⟩

set_option maxHeartbeats 400000 in
theorem pValidate (A : Option Addr) (k c : Nat) (l : List Int) (w : World) (hl : l.length ≤ 1000) (B : Nat) (hB : B ≤ w.heap.size) (hr : Rd w B 1 A k (ints l)) :
    Calls Try.prog 34 #[.slice A k c] w fun e w' => e = .returned (.int .i64 (vald l)) ∧ Below w.heap.size w w' := by
  obtain rfl := hr.int_len
  have H := Lib.hid (intContainsFunc 77 Try.call77 #[] (fun n => !isF n) A l.length c l w hl B hB hr (fun a _ W _ => valFn a W))
  by_cases h : 12 < l.length
  · have hd : decide (12 < l.length) = true := by simpa using h
    have HV := Lib.hid (show vald l = 3 by rw [vald, if_pos h])
    go_enter Try.func34, Try.ntmps34
    go_wp2
    go_ret
    exact ⟨ret_int HV.out.symm, Below.refl _ _⟩
  · have hd : decide (12 < l.length) = false := by simpa using h
    have hany : (l.any fun n => !isF n) = !l.all isF := by simp [List.any_eq_not_all_not]
    rw [hany] at H
    cases ha : l.all isF with
    | true =>
      have HV := Lib.hid (show vald l = 0 by rw [vald, if_neg h, if_pos ha])
      rw [ha] at H
      clear ha hany
      go_enter Try.func34, Try.ntmps34
      go_wp2_with fail
      refine H.out.mono ?_
      rintro e w' ⟨rfl, hb⟩
      go_wp2
      go_ret
      exact ⟨ret_int HV.out.symm, hb⟩
    | false =>
      have HV := Lib.hid (show vald l = 1 by rw [vald, if_neg h, if_neg (by rw [ha]; decide)])
      rw [ha] at H
      clear ha hany
      go_enter Try.func34, Try.ntmps34
      go_wp2_with fail
      refine H.out.mono ?_
      rintro e w' ⟨rfl, hb⟩
      go_wp2
      go_ret
      exact ⟨ret_int HV.out.symm, hb⟩

set_option maxHeartbeats 400000 in
theorem rValidate (A : Option Addr) (k c : Nat) (l : List Int) (w : World) (hl : l.length ≤ 1000) (B : Nat) (hB : B ≤ w.heap.size) (hr : Rd w B 1 A k (ints l)) :
    Calls Try.prog 35 #[.slice A k c] w fun e w' => e = .returned (.int .i64 (vald l)) ∧ Below w.heap.size w w' := by
  obtain rfl := hr.int_len
  by_cases h : 12 < l.length
  · have hd : decide (12 < l.length) = true := by simpa using h
    have HV := Lib.hid (show vald l = 3 by rw [vald, if_pos h])
    go_enter Try.func35, Try.ntmps35
    go_wp2
    go_ret
    exact ⟨ret_int HV.out.symm, Below.refl _ _⟩
  · have hd : decide (12 < l.length) = false := by simpa using h
    have HV0 := Lib.hid (show l.all isF = true → vald l = 0 from fun ha => by rw [vald, if_neg h, if_pos ha])
    have HV1 := Lib.hid (show l.all isF = false → vald l = 1 from fun ha => by rw [vald, if_neg h, if_neg (by rw [ha]; decide)])
    go_enter Try.func35, Try.ntmps35
    go_wp2
    go_loopw [3] (fun i wr => ∃ q : Nat, q ≤ l.length ∧ i = .int .i64 q ∧ Below w.heap.size w wr ∧ Hid ((l.take q).all isF = true)) (fun i _ => l.length - (intOf i).toNat)
    case atStart => exact ⟨0, Nat.zero_le _, rfl, Below.refl _ _, rfl⟩
    case round =>
      obtain ⟨q, hq, rfl, hb, hall⟩ := hrel
      by_cases hlt : q < l.length
      · obtain ⟨b, off, rfl, hbb, h0⟩ := (hr.below' hb hB).int hlt
        have ht := all_take isF l q hlt
        rw [hall.out, Bool.true_and] at ht
        cases ha : isF l[q] with
        | true =>
          have HT := Lib.hid (ht.trans ha)
          have HA := Lib.hid ha
          clear ha ht
          go_wp2_with fail
          refine (rwithin _ _ _ _).mono ?_
          rw [show (decide (-99 ≤ l[q]) && decide (l[q] ≤ 99)) = true from HA.out]
          rintro e w' ⟨rfl, rfl⟩
          go_wp2
          go_roundw
          case rel => exact ⟨q + 1, by omega, by go_num, hb, HT⟩
          case measure => simp [intOf]; omega
        | false =>
          have HN := Lib.hid (HV1.out (by
            rw [Bool.eq_false_iff]
            intro hx
            have := List.all_eq_true.1 hx _ (List.getElem_mem hlt)
            rw [ha] at this
            cases this))
          have HA := Lib.hid ha
          clear ha ht
          go_wp2_with fail
          refine (rwithin _ _ _ _).mono ?_
          rw [show (decide (-99 ≤ l[q]) && decide (l[q] ≤ 99)) = false from HA.out]
          rintro e w' ⟨rfl, rfl⟩
          go_wp2
          go_ret
          exact ⟨ret_int HN.out.symm, hb⟩
      · obtain rfl : q = l.length := by omega
        have HN := Lib.hid (HV0.out (by have := hall.out; rwa [List.take_length] at this))
        go_wp2
        go_ret
        exact ⟨ret_int HN.out.symm, hb⟩
end Go.Proofs.Ytnoocdannfeidaa

/-
  WALKS: points turned, crosses, sums of points.
-/
namespace Go.Proofs.Ytnoocdannfeidaa
open Go.RowKit Pulse

abbrev vV (v : V) : Value := .agg #[.int .i64 v.x, .int .i64 v.y]
theorem ret_vV {a b : V} (h : a = b) : Ending.returned (vV a) = .returned (vV b) := by rw [h]
theorem pleft (v : V) (h : Wi 1000000 v) (w : World) : Calls Try.prog 62 #[vV v] w fun e w' => e = .returned (vV v.rot) ∧ Below w.heap.size w w' := by
  obtain ⟨x, y⟩ := v
  obtain ⟨h1, h2, h3, h4⟩ := h
  dsimp only at h1 h2 h3 h4
  go_enter Try.func62, Try.ntmps62
  go_wp2
  exact bodyPost_ret (v := .agg #[.int .i64 (-y), .int .i64 x]) (by simp [results, Try.results62, go_sem]) rfl ⟨rfl, ((Below.refl _ _).alloc (Nat.le_refl _) _).alloc (by simp) _⟩
theorem pcross (a b : V) (ha : Wi 1000000 a) (hb : Wi 1000000 b) (w : World) : Calls Try.prog 92 #[vV a, vV b] w fun e w' => e = .returned (.int .i64 (cross a b)) ∧ Below w.heap.size w w' := by
  have b1 := mul_bd (a := a.x) (b := b.y) (A := 1000000) (B := 1000000) (by decide) ⟨ha.1, ha.2.1⟩ ⟨hb.2.2.1, hb.2.2.2⟩
  have b2 := mul_bd (a := a.y) (b := b.x) (A := 1000000) (B := 1000000) (by decide) ⟨ha.2.2.1, ha.2.2.2⟩ ⟨hb.1, hb.2.1⟩
  obtain ⟨ax, ay⟩ := a
  obtain ⟨bx, _by⟩ := b
  have hc : cross ⟨ax, ay⟩ ⟨bx, _by⟩ = ax * _by - ay * bx := rfl
  have HC := Lib.hid hc
  clear hc
  dsimp only at b1 b2
  go_enter Try.func92, Try.ntmps92
  go_wp2
  go_ret
  exact ⟨ret_int HC.out.symm, ((Below.refl _ _).alloc (Nat.le_refl _) _).alloc (by simp) _⟩
theorem rcross (a b : V) (ha : Wi 1000000 a) (hb : Wi 1000000 b) (w : World) : Calls Try.prog 94 #[vV a, vV b] w fun e w' => e = .returned (.int .i64 (cross a b)) ∧ Below w.heap.size w w' := by
  have b1 := mul_bd (a := a.x) (b := b.y) (A := 1000000) (B := 1000000) (by decide) ⟨ha.1, ha.2.1⟩ ⟨hb.2.2.1, hb.2.2.2⟩
  have b2 := mul_bd (a := a.y) (b := b.x) (A := 1000000) (B := 1000000) (by decide) ⟨ha.2.2.1, ha.2.2.2⟩ ⟨hb.1, hb.2.1⟩
  obtain ⟨ax, ay⟩ := a
  obtain ⟨bx, _by⟩ := b
  have hc : cross ⟨ax, ay⟩ ⟨bx, _by⟩ = ax * _by - ay * bx := rfl
  have HC := Lib.hid hc
  clear hc
  dsimp only at b1 b2
  go_enter Try.func94, Try.ntmps94
  go_wp2
  go_ret
  exact ⟨ret_int HC.out.symm, ((Below.refl _ _).alloc (Nat.le_refl _) _).alloc (by simp) _⟩
theorem rplus (a b : V) (ha : Wi 1000000 a) (hb : Wi 1000000 b) (w : World) : Calls Try.prog 95 #[vV a, vV b] w fun e w' => e = .returned (vV (a.add b)) ∧ Below w.heap.size w w' := by
  obtain ⟨ax, ay⟩ := a
  obtain ⟨bx, _by⟩ := b
  obtain ⟨h1, h2, h3, h4⟩ := ha
  obtain ⟨k1, k2, k3, k4⟩ := hb
  dsimp only at h1 h2 h3 h4 k1 k2 k3 k4
  go_enter Try.func95, Try.ntmps95
  go_wp2
  exact bodyPost_ret (v := .agg #[.int .i64 (ax + bx), .int .i64 (ay + _by)]) (by simp [results, Try.results95, go_sem]) rfl ⟨rfl, (((Below.refl _ _).alloc (Nat.le_refl _) _).alloc (by simp) _).alloc (by simp; omega) _⟩

theorem tm4 (q : Int) : -3 ≤ q.tmod 4 ∧ q.tmod 4 ≤ 3 ∧ (q.tmod 4 + 4) % 4 = q % 4 := by
  rcases Int.le_total 0 q with h | h
  · rw [Int.tmod_eq_emod_of_nonneg h]; omega
  · have e : q.tmod 4 = -((-q) % 4) := by
      have := Int.neg_tmod (-q) 4
      rw [Int.neg_neg] at this
      rw [this, Int.tmod_eq_emod_of_nonneg (by omega)]
    rw [e]; omega
set_option maxHeartbeats 1000000 in
theorem pTurn (v : V) (h : Wi 1000000 v) (q : Int) (hq : -9223372036854775808 ≤ q) (hq' : q ≤ 9223372036854775807) (w : World) : Calls Try.prog 24 #[vV v, .int .i64 q] w fun e w' => e = .returned (vV (rotN (q % 4).toNat v)) ∧ Below w.heap.size w w' := by
  obtain ⟨t1, t2, t3⟩ := tm4 q
  have HT := Lib.hid t3
  clear t3
  obtain ⟨N, hN⟩ := Int.eq_ofNat_of_zero_le (show 0 ≤ (q.tmod 4 + 4) % 4 by omega)
  have hN4 : N < 4 := by omega
  have HNN := Lib.hid hN
  have HQ := Lib.hid (show (q % 4).toNat = N by have := HT.out; omega)
  have HI := Lib.hid h
  clear hN
  have hb0 := (((Below.refl w.heap.size w).alloc (Nat.le_refl _) (.cells #[.int .i64 v.x, .int .i64 v.y] 29)).alloc (by simp) (.cells #[.int .i64 0, .int .i64 0] 29)).alloc (by simp; omega) (.cells #[.int .i64 v.x, .int .i64 v.y] 63)
  have HB0 := Lib.hid hb0
  have HX := Lib.hid (show (((w.alloc (.cells #[.int .i64 v.x, .int .i64 v.y] 29)).alloc (.cells #[.int .i64 0, .int .i64 0] 29)).alloc (.cells #[.int .i64 v.x, .int .i64 v.y] 63)).heap[w.heap.size + 1]? = some (.cells #[.int .i64 0, .int .i64 0] 29 (0, 0)) by
    have := blk_new (w.alloc (.cells #[.int .i64 v.x, .int .i64 v.y] 29)) 29 #[.int .i64 0, .int .i64 0]
    rw [World.size_alloc] at this
    exact blk_alloc this _)
  have HY := Lib.hid (show (((w.alloc (.cells #[.int .i64 v.x, .int .i64 v.y] 29)).alloc (.cells #[.int .i64 0, .int .i64 0] 29)).alloc (.cells #[.int .i64 v.x, .int .i64 v.y] 63)).heap[w.heap.size + 1 + 1]? = some (.cells #[.int .i64 v.x, .int .i64 v.y] 63 (0, 0)) by
    have := blk_new ((w.alloc (.cells #[.int .i64 v.x, .int .i64 v.y] 29)).alloc (.cells #[.int .i64 0, .int .i64 0] 29)) 63 #[.int .i64 v.x, .int .i64 v.y]
    rw [World.size_alloc, World.size_alloc] at this
    exact this)
  clear hb0
  go_enter Try.func24, Try.ntmps24
  go_wp2
  rw [HNN.out]
  go_loopw [12] (fun i wr => ∃ k : Nat, i = .int .i64 k ∧ k ≤ N ∧ wr.heap[w.heap.size + 1]? = some (.cells #[.int .i64 0, .int .i64 0] 29 (0, 0)) ∧ wr.heap[w.heap.size + 1 + 1]? = some (.cells #[.int .i64 (rotN k v).x, .int .i64 (rotN k v).y] 63 (0, 0)) ∧ Below w.heap.size w wr) (fun i _ => N - (intOf i).toNat)
  case atStart => exact ⟨0, rfl, Nat.zero_le _, HX.out, HY.out, HB0.out⟩
  case round =>
    obtain ⟨k, rfl, hk, hx, hy, hb⟩ := hrel
    have hwi := HI.out.rotN k
    have HR := Lib.hid (show rotN (k + 1) v = (rotN k v).rot from rfl)
    have c0 : wr.cell? ⟨w.heap.size + 1 + 1, 0, none⟩ = some (.int .i64 (rotN k v).x) := blk_cell hy 0
    have c1 : wr.cell? ⟨w.heap.size + 1 + 1, 1, none⟩ = some (.int .i64 (rotN k v).y) := blk_cell hy 1
    have d0 : wr.cell? ⟨w.heap.size + 1, 0, none⟩ = some (.int .i64 0) := blk_cell hx 0
    have d1 : wr.cell? ⟨w.heap.size + 1, 1, none⟩ = some (.int .i64 0) := blk_cell hx 1
    have f0 := blk_frozen hy 0
    have f1 := blk_frozen hy 1
    have e0 := blk_frozen hx 0
    have e1 := blk_frozen hx 1
    have HXX := Lib.hid hx
    have HYY := Lib.hid hy
    clear hx hy
    have sz := blk_lt HYY.out
    by_cases hlt : k < N
    · obtain ⟨u, hu⟩ : ∃ u, u = rotN k v := ⟨_, rfl⟩
      rw [← hu] at hwi HR c0 c1
      rw [← hu] at HYY
      clear hu
      go_wp2_with fail
      refine (pleft u hwi _).mono ?_
      rintro e w2 ⟨rfl, hb2⟩
      have L1 : w.heap.size + 1 < wr.heap.size := blk_lt HXX.out
      have x2 := Lib.hid (blk_below HXX.out hb2 L1)
      have y2 := blk_below HYY.out hb2 sz
      have g0 : w2.cell? ⟨w.heap.size + 1 + 1, 0, none⟩ = some (.int .i64 u.x) := blk_cell y2 0
      have g1 : w2.cell? ⟨w.heap.size + 1 + 1, 1, none⟩ = some (.int .i64 u.y) := blk_cell y2 1
      have k0 := blk_frozen y2 0
      have k1 := blk_frozen y2 1
      have Y2 := Lib.hid y2
      have HB2 := Lib.hid (hb.trans (hb2.mono hb.size))
      clear y2 c0 c1 d0 d1 f0 f1 e0 e1 hb2 hb
      have n1 : ¬ w.heap.size + 1 = w.heap.size + 1 + 1 := by omega
      go_wp2
      go_roundw
      case rel => exact ⟨k + 1, by go_num, by omega, blk_far (blk_far x2.out (p := ⟨w.heap.size + 1 + 1, 0, none⟩) n1 _) (p := ⟨w.heap.size + 1 + 1, 1, none⟩) n1 _, by rw [HR.out]; exact blk_set (blk_set Y2.out 0 _) 1 _, (HB2.out.setCell (p := ⟨w.heap.size + 1 + 1, 0, none⟩) (by dsimp only; omega) _).setCell (p := ⟨w.heap.size + 1 + 1, 1, none⟩) (by dsimp only; omega) _⟩
      case measure => simp [intOf]; omega
    · obtain rfl : k = N := by omega
      have hz := blk_set (blk_set HXX.out 0 (.int .i64 (rotN k v).x)) 1 (.int .i64 (rotN k v).y)
      have r0 : ((wr.setCell ⟨w.heap.size + 1, 0, none⟩ (.int .i64 (rotN k v).x)).setCell ⟨w.heap.size + 1, 1, none⟩ (.int .i64 (rotN k v).y)).cell? ⟨w.heap.size + 1, 0, none⟩ = some (.int .i64 (rotN k v).x) := blk_cell hz 0
      have r1 : ((wr.setCell ⟨w.heap.size + 1, 0, none⟩ (.int .i64 (rotN k v).x)).setCell ⟨w.heap.size + 1, 1, none⟩ (.int .i64 (rotN k v).y)).cell? ⟨w.heap.size + 1, 1, none⟩ = some (.int .i64 (rotN k v).y) := blk_cell hz 1
      clear hz
      go_wp2
      exact bodyPost_ret (v := vV (rotN k v)) (by simp [results, Try.results24, go_sem, r0, r1]) rfl ⟨by rw [HQ.out], (hb.setCell (p := ⟨w.heap.size + 1, 0, none⟩) (by dsimp only; omega) _).setCell (p := ⟨w.heap.size + 1, 1, none⟩) (by dsimp only; omega) _⟩
theorem and3 (q : Int) : Go.bits .and .i64 q 3 = q % 4 := by
  have h2 : (BitVec.ofInt 64 (3 : Int)).toNat = 3 := by decide
  have h1 : ((BitVec.ofInt 64 q).toNat : Int) = q % 18446744073709551616 := by
    rw [BitVec.toNat_ofInt]; omega
  show IntKind.i64.wrap ((BitVec.ofInt 64 q &&& BitVec.ofInt 64 3).toNat : Int) = _
  rw [BitVec.toNat_and, h2]
  have h3 : (BitVec.ofInt 64 q).toNat &&& 3 = (BitVec.ofInt 64 q).toNat % 4 := Nat.and_two_pow_sub_one_eq_mod _ 2
  rw [h3, IntWalk.i64_in _ (by omega)]
  omega
set_option maxHeartbeats 1000000 in
theorem rTurn (v : V) (h : Wi 1000000 v) (q : Int) (w : World) : Calls Try.prog 25 #[vV v, .int .i64 q] w fun e w' => e = .returned (vV (rotN (q % 4).toNat v)) ∧ Below w.heap.size w w' := by
  have ha := and3 q
  obtain ⟨x, y⟩ := v
  obtain ⟨h1, h2, h3, h4⟩ := h
  dsimp only at h1 h2 h3 h4
  rcases (show q % 4 = 0 ∨ q % 4 = 1 ∨ q % 4 = 2 ∨ q % 4 = 3 by omega) with e | e | e | e
  all_goals
    rw [e] at ha ⊢
    have HE := Lib.hid e
    clear e
    go_enter Try.func25, Try.ntmps25
    go_wp2
  · exact bodyPost_ret (v := .agg #[.int .i64 x, .int .i64 y]) (by simp [results, Try.results25, go_sem]) rfl ⟨rfl, ((Below.refl _ _).alloc (Nat.le_refl _) _).alloc (by simp) _⟩
  · exact bodyPost_ret (v := .agg #[.int .i64 (-y), .int .i64 x]) (by simp [results, Try.results25, go_sem]) rfl ⟨rfl, ((Below.refl _ _).alloc (Nat.le_refl _) _).alloc (by simp) _⟩
  · exact bodyPost_ret (v := .agg #[.int .i64 (-x), .int .i64 (-y)]) (by simp [results, Try.results25, go_sem]) rfl ⟨rfl, ((Below.refl _ _).alloc (Nat.le_refl _) _).alloc (by simp) _⟩
  · exact bodyPost_ret (v := .agg #[.int .i64 y, .int .i64 (-x)]) (by simp [results, Try.results25, go_sem]) rfl ⟨by simp [rotN, V.rot], ((Below.refl _ _).alloc (Nat.le_refl _) _).alloc (by simp) _⟩
end Go.Proofs.Ytnoocdannfeidaa
