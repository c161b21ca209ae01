/-
  WALK: searched, the closures of Shortest.
-/
import Derived.Test.YtnoocdannfeidaaW12
namespace Go.Proofs.Ytnoocdannfeidaa
open Go.RowKit Pulse

def srchE (ms : List Int) (n f : Int) : Int := if areModes ms = true ∧ 0 ≤ n ∧ n ≤ 6 ∧ 1 ≤ f ∧ f ≤ 2 then 0 else 1
theorem srchE_ok {ms : List Int} {n f : Int} (h : srchE ms n f = 0) : areModes ms = true ∧ 0 ≤ n ∧ n ≤ 6 ∧ 1 ≤ f ∧ f ≤ 2 := by
  unfold srchE at h
  split at h
  · assumption
  · omega
set_option maxHeartbeats 400000 in
theorem pSearched (A : Option Addr) (k c : Nat) (ms : List Int) (n f : Int) (w : World) (hl : ms.length ≤ 1000) (B : Nat) (hB : B ≤ w.heap.size) (hr : Rd w B 1 A k (ints ms)) :
    Calls Try.prog 63 #[.slice A k c, .int .i64 n, .int .i64 f] w fun e w' => e = .returned (.int .i64 (srchE ms n f)) ∧ Below w.heap.size w w' := by
  have H := Lib.hid (pisModes A k c ms w hl B hB hr)
  have HE : srchE ms n f = if areModes ms = true ∧ 0 ≤ n ∧ n ≤ 6 ∧ 1 ≤ f ∧ f ≤ 2 then 0 else 1 := rfl
  have HS := Lib.hid HE
  clear HE
  cases ha : areModes ms with
  | false =>
    have HA := Lib.hid ha
    rw [ha] at H
    clear ha
    go_enter Try.func63, Try.ntmps63
    go_wp2_with fail
    refine H.out.mono ?_
    rintro e w1 ⟨rfl, hb1⟩
    go_wp2
    go_ret
    exact ⟨ret_int (by rw [HS.out, HA.out]; simp), hb1⟩
  | true =>
    have HA := Lib.hid ha
    rw [ha] at H
    clear ha
    by_cases h1 : n < 0
    · go_enter Try.func63, Try.ntmps63
      go_wp2_with fail
      refine H.out.mono ?_
      rintro e w1 ⟨rfl, hb1⟩
      go_wp2
      go_ret
      exact ⟨ret_int (by rw [HS.out, if_neg (by omega)]), hb1⟩
    · by_cases h2 : 6 < n
      · go_enter Try.func63, Try.ntmps63
        go_wp2_with fail
        refine H.out.mono ?_
        rintro e w1 ⟨rfl, hb1⟩
        go_wp2
        go_ret
        exact ⟨ret_int (by rw [HS.out, if_neg (by omega)]), hb1⟩
      · by_cases h3 : f < 1
        · go_enter Try.func63, Try.ntmps63
          go_wp2_with fail
          refine H.out.mono ?_
          rintro e w1 ⟨rfl, hb1⟩
          go_wp2
          go_ret
          exact ⟨ret_int (by rw [HS.out, if_neg (by omega)]), hb1⟩
        · by_cases h4 : 2 < f
          · go_enter Try.func63, Try.ntmps63
            go_wp2_with fail
            refine H.out.mono ?_
            rintro e w1 ⟨rfl, hb1⟩
            go_wp2
            go_ret
            exact ⟨ret_int (by rw [HS.out, if_neg (by omega)]), hb1⟩
          · go_enter Try.func63, Try.ntmps63
            go_wp2_with fail
            refine H.out.mono ?_
            rintro e w1 ⟨rfl, hb1⟩
            go_wp2
            go_ret
            exact ⟨ret_int (by rw [HS.out, if_pos ⟨HA.out, by omega, by omega, by omega, by omega⟩]), hb1⟩

def nz (x : Int) : Bool := !(x == 0)
theorem nzFn (n : Int) (W : World) : Calls Try.prog 67 #[.int .i64 n] W fun e W' => e = .returned (.bool (nz n)) ∧ Below W.heap.size W W' := by
  have HN := Lib.hid (show nz n = !(n == 0) from rfl)
  by_cases h : n = 0
  · have hd : (n != 0) = false := by simpa using h
    have HX := Lib.hid h
    clear h
    go_enter Try.func67, Try.ntmps67
    go_wp2
    go_ret
    exact ⟨ret_bool (by rw [HN.out, HX.out]; rfl), Below.refl _ _⟩
  · have hd : (n != 0) = true := by simpa using h
    have HX := Lib.hid h
    clear h
    go_enter Try.func67, Try.ntmps67
    go_wp2
    go_ret
    exact ⟨ret_bool (by rw [HN.out]; simp [HX.out]), Below.refl _ _⟩

set_option maxHeartbeats 400000 in
/-- The closure of Shortest: it writes whether a force is there. -/
theorem shortFn (A : Option Addr) (k c : Nat) (p : List Int) (x : Bool) (b : Nat) (w : World) (hl : p.length ≤ 1000) (B : Nat) (hB : B ≤ w.heap.size) (hr : Rd w B 1 A k (ints p)) (hb : w.heap[b]? = some (.cells #[.bool x] 4 (0, 0))) :
    Calls Try.prog 65 #[.slice A k c, .pointer (some ⟨b, 0, none⟩)] w fun e w' => e = .returned (.bool (!p.any nz)) ∧ w'.heap[b]? = some (.cells #[.bool (p.any nz)] 4 (0, 0)) ∧ ∃ w1, Below w.heap.size w w1 ∧ w' = w1.setCell ⟨b, 0, none⟩ (.bool (p.any nz)) := by
  have H := Lib.hid (intContainsFunc 67 Try.call67 #[] nz A k c p w hl B hB hr (fun a _ W _ => nzFn a W))
  have HB := Lib.hid hb
  have hlt := blk_lt hb
  clear hb
  generalize p.any nz = y at *
  go_enter Try.func65, Try.ntmps65
  go_wp2_with fail
  refine H.out.mono ?_
  rintro e w1 ⟨rfl, hb1⟩
  have b1 := blk_below HB.out hb1 hlt
  have c1 : w1.cell? ⟨b, 0, none⟩ = some (.bool x) := blk_cell b1 0
  have f1 := blk_frozen b1 0
  have b2 := blk_set b1 0 (.bool y)
  have HB2 := Lib.hid b2
  have HBB := Lib.hid hb1
  clear b1 b2 hb1
  go_wp2
  go_ret
  exact ⟨rfl, HB2.out, w1, HBB.out, rfl⟩
end Go.Proofs.Ytnoocdannfeidaa
