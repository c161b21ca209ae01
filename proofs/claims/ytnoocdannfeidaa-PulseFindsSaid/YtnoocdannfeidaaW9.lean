/-
  WALK: Area, Sum, End; which modes close a pulse.
-/
import Derived.Test.YtnoocdannfeidaaW8
namespace Go.Proofs.Ytnoocdannfeidaa
open Go.RowKit Pulse

def areaN (p : List Int) (m : Int) : Int := if moded p m = 0 then areaL m.toNat p else 0
def sumV (p : List Int) (m : Int) : V := if moded p m = 0 then sumL m.toNat p else V.zero
def endV (p : List Int) (m : Int) : V := if moded p m = 0 then endL m.toNat p else V.zero

theorem ret_two {a a' b b' : Value} (h : a = a') (h' : b = b') : Ending.returned (.tuple #[a, b]) = .returned (.tuple #[a', b']) := by rw [h, h']
theorem pAreaF (A : Option Addr) (k c : Nat) (p : List Int) (m : Int) (w : World) (hl : p.length ≤ 1000) (B : Nat) (hB : B ≤ w.heap.size) (hr : Rd w B 1 A k (ints p)) :
    Calls Try.prog 19 #[.slice A k c, .int .i64 m] w fun e w' => e = .returned (.tuple #[.int .i64 (areaN p m), .int .i64 (moded p m)]) ∧ Below w.heap.size w w' := by
  obtain rfl := hr.int_len
  have H := Lib.hid (pmoded A p.length c p m w hl B hB hr)
  by_cases h : moded p m = 0
  · obtain ⟨h1, h2, h3⟩ := moded_ok h
    obtain ⟨h4, h5⟩ := vald_ok h1
    have HA := Lib.hid (show areaN p m = areaL m.toNat p by rw [areaN, if_pos h])
    have HM := Lib.hid h
    clear h
    go_enter Try.func19, Try.ntmps19
    go_wp2_with fail
    refine H.out.mono ?_
    rw [HM.out]
    rintro e w1 ⟨rfl, hb1⟩
    go_wp2_with fail
    refine (pArea p m h4 h5 h2 h3 A c w1 B (by have := hb1.size; omega) (hr.below' hb1 hB)).mono ?_
    rintro e w2 ⟨rfl, hb2⟩
    go_wp2
    go_ret2
    exact ⟨ret_two (by rw [HA.out]; rfl) (by rw [HM.out]; rfl), hb1.trans (hb2.mono hb1.size)⟩
  · have HA := Lib.hid (show areaN p m = 0 by rw [areaN, if_neg h])
    have hd : (moded p m != 0) = true := by simpa using h
    clear h
    go_enter Try.func19, Try.ntmps19
    go_wp2_with fail
    refine H.out.mono ?_
    rintro e w1 ⟨rfl, hb1⟩
    go_wp2
    go_ret2
    exact ⟨ret_two (by rw [HA.out]; rfl) rfl, hb1⟩

/-- The path does not come back. -/
def away (p : List Int) (m : Int) : Bool := !(decide ((endL m.toNat p).x = 0) && decide ((endL m.toNat p).y = 0))
set_option maxHeartbeats 400000 in
theorem closFn (p : List Int) (A : Option Addr) (c g : Nat) (m : Int) (hl : p.length ≤ 12) (hF : Forces 99 p) (hm : 0 ≤ m) (hm' : m ≤ 3) (w : World) (B : Nat) (hB : B ≤ w.heap.size) (hr : Rd w B 1 A p.length (ints p)) (hg : w.heap[g]? = some (.cells #[.slice A p.length c] 22 (0, 0))) :
    Calls Try.prog 98 #[.int .i64 m, .pointer (some ⟨g, 0, none⟩)] w fun e w' => e = .returned (.bool (away p m)) ∧ Below w.heap.size w w' := by
  have c1 : w.cell? ⟨g, 0, none⟩ = some (.slice A p.length c) := blk_cell hg 0
  have H := Lib.hid (pEnd p m hl hF hm hm' A c w B hB hr)
  clear hg
  have HA : away p m = !(decide ((endL m.toNat p).x = 0) && decide ((endL m.toNat p).y = 0)) := rfl
  obtain ⟨u, hu⟩ : ∃ u, u = endL m.toNat p := ⟨_, rfl⟩
  rw [← hu] at HA
  have HH := Lib.hid HA
  have HU := Lib.hid hu
  clear HA hu
  go_enter Try.func98, Try.ntmps98
  go_wp2_with fail
  refine H.out.mono ?_
  rw [← HU.out]
  rintro e w1 ⟨rfl, hb1⟩
  go_wp2
  all_goals
    go_ret
    exact ⟨ret_bool (by rw [HH.out]; simp [*]), hb1⟩

theorem retc {w w' : World} {e : Ending} {v v' : Value} {X : Nat} (h : e = .returned v ∧ Below X w w') (hv : v = v') : e = .returned v' ∧ Below X w w' := by rw [← hv]; exact h
/-- Closed in all modes of a list. -/
def shut (p ms : List Int) : Bool := !(ms.any (away p))
set_option maxHeartbeats 400000 in
theorem pisClosed (p ms : List Int) (A A' : Option Addr) (c k' c' : Nat) (hl : p.length ≤ 12) (hF : Forces 99 p) (hms : ∀ m ∈ ms, 0 ≤ m ∧ m ≤ 3) (hl' : ms.length ≤ 1000) (w : World) (B : Nat) (hB : B ≤ w.heap.size) (hr : Rd w B 1 A p.length (ints p)) (hr' : Rd w B 1 A' k' (ints ms)) :
    Calls Try.prog 72 #[.slice A p.length c, .slice A' k' c'] w fun e w' => e = .returned (.bool (shut p ms)) ∧ Below w.heap.size w w' := by
  have hn := blk_new w 22 #[.slice A p.length c]
  have hs : (w.alloc (.cells #[.slice A p.length c] 22)).heap.size = w.heap.size + 1 := by simp
  have H := Lib.hid (intContainsFunc 98 Try.call98 #[.pointer (some ⟨w.heap.size, 0, none⟩)] (away p) A' k' c' ms (w.alloc (.cells #[.slice A p.length c] 22)) hl' (w.heap.size + 1) (by omega) ((hr'.alloc hB _).more (by omega))
    (fun m hm W hb => closFn p A c w.heap.size m hl hF (hms m hm).1 (hms m hm).2 W B (by have := hb.size; omega) ((hr.alloc hB _).below' hb (by omega)) (blk_below hn hb (by omega))))
  have HB := Lib.hid ((Below.refl w.heap.size w).alloc (Nat.le_refl _) (.cells #[.slice A p.length c] 22))
  have HN := Lib.hid (show shut p ms = !(ms.any (away p)) from rfl)
  clear hn hs hms
  generalize ms.any (away p) = b at H HN
  cases b
  all_goals
    go_enter Try.func72, Try.ntmps72
    go_wp2_with fail
    refine H.out.mono ?_
    rintro e w1 ⟨rfl, hb1⟩
    go_wp2
    go_ret
    exact ⟨ret_bool (by rw [HN.out]; rfl), HB.out.trans (hb1.mono (by simp))⟩
end Go.Proofs.Ytnoocdannfeidaa
