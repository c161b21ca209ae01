/-
  WALK: Calm of both. (Printed by gen_calm.py.)
-/
import Derived.Test.YtnoocdannfeidaaW31
namespace Go.Proofs.Ytnoocdannfeidaa
open Go.RowKit Pulse

/-- The points of the path do not add up to nothing. -/
def busy (p : List Int) (m : Int) : Bool := !(decide ((sumL m.toNat p).x = 0) && decide ((sumL m.toNat p).y = 0))
set_option maxHeartbeats 400000 in
theorem calmFn (p : List Int) (A : Option Addr) (c g : Nat) (m : Int) (hl : p.length ≤ 12) (hF : Forces 99 p) (hm : 0 ≤ m) (hm' : m ≤ 3) (w : World) (B : Nat) (hB : B ≤ w.heap.size) (hr : Rd w B 1 A p.length (ints p)) (hg : w.heap[g]? = some (.cells #[.slice A p.length c] 22 (0, 0))) :
    Calls Try.prog 84 #[.int .i64 m, .pointer (some ⟨g, 0, none⟩)] w fun e w' => e = .returned (.bool (busy p m)) ∧ Below w.heap.size w w' := by
  have c1 : w.cell? ⟨g, 0, none⟩ = some (.slice A p.length c) := blk_cell hg 0
  have H := Lib.hid (pTotal p m hl hF hm hm' A c w B hB hr)
  clear hg
  have HA : busy p m = !(decide ((sumL m.toNat p).x = 0) && decide ((sumL m.toNat p).y = 0)) := rfl
  obtain ⟨u, hu⟩ : ∃ u, u = sumL m.toNat p := ⟨_, rfl⟩
  rw [← hu] at HA
  have HH := Lib.hid HA
  have HU := Lib.hid hu
  clear HA hu
  go_enter Try.func84, Try.ntmps84
  go_wp2_with fail
  refine H.out.mono ?_
  rw [← HU.out]
  rintro e w1 ⟨rfl, hb1⟩
  go_wp2
  all_goals
    go_ret
    exact ⟨ret_bool (by rw [HH.out]; simp [*]), hb1⟩

/-- The modes below q in which a pulse is calm. -/
def calmTo (p : List Int) : Nat → List Int
  | 0 => []
  | q + 1 => calmTo p q ++ (if away p q then [] else if busy p q then [] else [(q : Int)])
def calmN (p : List Int) : List Int := if vald p = 0 then calmTo p 4 else []
theorem calmTo_len (p : List Int) (q : Nat) : (calmTo p q).length ≤ q := by
  induction q with
  | zero => exact Nat.le_refl _
  | succ q ih => rw [calmTo, List.length_append]; split <;> (try split) <;> simp <;> omega
theorem keep_calm (p : List Int) (q : Nat) : keepL (busy p) (clTo p q) = calmTo p q := by
  induction q with
  | zero => rfl
  | succ q ih =>
    rw [clTo, calmTo, ← ih, keepL, keepL, List.filter_append]
    congr 1
    split
    · rfl
    · split
      · rename_i h; simp [h]
      · rename_i h; simp [h]
theorem clTo_mem {p : List Int} {q : Nat} {m : Int} (h : m ∈ clTo p q) : 0 ≤ m ∧ m < q := by
  induction q with
  | zero => cases h
  | succ q ih =>
    rw [clTo, List.mem_append] at h
    rcases h with h | h
    · have := ih h; omega
    · split at h
      · cases h
      · rw [List.mem_singleton.1 h]; omega

set_option maxHeartbeats 1000000 in
theorem pCalm (A : Option Addr) (k c : Nat) (p : List Int) (w : World) (hl : p.length ≤ 1000) (B : Nat) (hB : B ≤ w.heap.size) (hr : Rd w B 1 A k (ints p)) :
    Calls Try.prog 47 #[.slice A k c] w fun e w' => ∃ v, e = .returned (.tuple #[v, .int .i64 (vald p)]) ∧ w'.ownsRow w.heap.size 3 1 v (calmN p).length (ints (calmN p)) ∧ Below w.heap.size w w' := by
  obtain rfl := hr.int_len
  have HN := Lib.hid (blk_new w 22 #[.slice A p.length c])
  have HB := Lib.hid ((Below.refl w.heap.size w).alloc (Nat.le_refl _) (.cells #[.slice A p.length c] 22))
  have HR := Lib.hid (hr.alloc hB (.cells #[.slice A p.length c] 22))
  have H := Lib.hid (pClosed A p.length c p (w.alloc (.cells #[.slice A p.length c] 22)) hl B (by simp; omega) HR.out)
  have HC := Lib.hid (show calmN p = if vald p = 0 then calmTo p 4 else [] from rfl)
  have HD := Lib.hid (show closedN p = if vald p = 0 then clTo p 4 else [] from rfl)
  by_cases h : vald p = 0
  · obtain ⟨h4, h5⟩ := vald_ok h
    have HV := Lib.hid h
    rw [if_pos h] at HC HD
    have HF := Lib.hid h5
    have HK := Lib.hid (keep_calm p 4)
    have hlc := clTo_len p 4
    clear h h5
    go_enter Try.func47, Try.ntmps47
    go_wp2_with fail
    refine H.out.mono ?_
    rw [HV.out, HD.out]
    rintro e w1 ⟨v1, rfl, hown1, hb1⟩
    rw [World.size_alloc] at hb1 hown1
    obtain ⟨A1, c1, rfl, _, _⟩ := own_cap hown1
    have s1 := hb1.size
    rw [World.size_alloc] at s1
    have HO := Lib.hid hown1
    have HBN := Lib.hid (blk_below HN.out hb1 (by omega))
    have HR1 := Lib.hid (HR.out.below' hb1 (by omega))
    have HB1 := Lib.hid (HB.out.trans (hb1.mono (by omega)))
    clear hown1 hb1
    go_wp2_with fail
    refine (pDeleteFunc 84 Try.call84 #[.pointer (some ⟨w.heap.size, 0, none⟩)] (busy p) A1 c1 (clTo p 4) w1 (by omega) (w.heap.size + 1) s1 HO.out
      (fun m hm W hb => calmFn p A c w.heap.size m h4 HF.out (clTo_mem hm).1 (by have := (clTo_mem hm).2; omega) W B (by have := hb.size; omega) (HR1.out.below' hb (by omega)) (blk_below HBN.out hb (by omega)))).mono ?_
    rw [HK.out]
    rintro e w2 ⟨v2, rfl, hown2, hb2⟩
    go_wp2
    go_ret2
    exact ⟨_, ret_two rfl (by rw [HV.out]; rfl), by rw [HC.out]; exact own_base hown2 (by omega), HB1.out.trans (hb2.mono (by omega))⟩
  · have hd : (vald p != 0) = true := by simpa using h
    rw [if_neg h] at HC
    clear h
    go_enter Try.func47, Try.ntmps47
    go_wp2_with fail
    refine H.out.mono ?_
    rintro e w1 ⟨v1, rfl, hown1, hb1⟩
    rw [World.size_alloc] at hb1
    go_wp2
    go_ret2
    exact ⟨_, ret_two rfl rfl, by rw [HC.out]; exact World.ownsRow_nil .., HB.out.trans (hb1.mono (by omega))⟩

set_option maxHeartbeats 2000000 in
theorem rCalm (A : Option Addr) (k c : Nat) (p : List Int) (w : World) (hl : p.length ≤ 1000) (B : Nat) (hB : B ≤ w.heap.size) (hr : Rd w B 1 A k (ints p)) :
    Calls Try.prog 48 #[.slice A k c] w fun e w' => ∃ v, e = .returned (.tuple #[v, .int .i64 (vald p)]) ∧ w'.ownsRow w.heap.size 3 1 v (calmN p).length (ints (calmN p)) ∧ Below w.heap.size w w' := by
  obtain rfl := hr.int_len
  have H := Lib.hid (rValidate A p.length c p w hl B hB hr)
  have HC := Lib.hid (show calmN p = if vald p = 0 then calmTo p 4 else [] from rfl)
  by_cases h : vald p = 0
  · obtain ⟨h4, h5⟩ := vald_ok h
    have HV := Lib.hid h
    rw [h] at H
    rw [if_pos h] at HC
    have HF := Lib.hid h5
    clear h h5
    go_enter Try.func48, Try.ntmps48
    go_wp2_with fail
    refine H.out.mono ?_
    rintro e w1 ⟨rfl, hb1⟩
    go_wp2
    go_loopw [5, 6] (fun v i wr => ∃ q : Nat, i = .int .i64 q ∧ q ≤ 4 ∧ wr.ownsRow w.heap.size 3 1 v (calmTo p q).length (ints (calmTo p q)) ∧ Below w.heap.size w wr) (fun _ i _ => 4 - (intOf i).toNat)
    case atStart => exact ⟨0, rfl, Nat.zero_le _, World.ownsRow_nil .., hb1⟩
    case round =>
      clear hb1
      obtain ⟨q, rfl, hq, hown, hb⟩ := hrel
      have hsz := hb.size
      by_cases hlt : q < 4
      · have HSQ := Lib.hid (show calmTo p (q + 1) = calmTo p q ++ (if away p q then [] else if busy p q then [] else [(q : Int)]) from rfl)
        have hlen := calmTo_len p q
        have HE := Lib.hid (rend p (q : Int) h4 HF.out (by omega) (by omega) A c wr B (by omega) (hr.below' hb hB))
        have HS2 := Lib.hid (fun (w2 : World) (hx : Below w.heap.size w w2) => rsum p (q : Int) h4 HF.out (by omega) (by omega) A c w2 B (by have := hx.size; omega) (hr.below' hx hB))
        have HAW := Lib.hid (show away p (q : Int) = !(decide ((endL ((q : Int)).toNat p).x = 0) && decide ((endL ((q : Int)).toNat p).y = 0)) from rfl)
        have HBW := Lib.hid (show busy p (q : Int) = !(decide ((sumL ((q : Int)).toNat p).x = 0) && decide ((sumL ((q : Int)).toNat p).y = 0)) from rfl)
        obtain ⟨u, hu⟩ : ∃ u, u = endL ((q : Int)).toNat p := ⟨_, rfl⟩
        rw [← hu] at HE HAW
        clear hu
        obtain ⟨t, ht⟩ : ∃ t, t = sumL ((q : Int)).toNat p := ⟨_, rfl⟩
        rw [← ht] at HS2 HBW
        clear ht
        have HOW := Lib.hid (And.intro hown hb)
        clear hown hb
        by_cases hx : u.x = 0
        · by_cases hy : u.y = 0
          · by_cases hx' : t.x = 0
            · by_cases hy' : t.y = 0
              · have HSR := Lib.hid (show calmTo p (q + 1) = calmTo p q ++ [(q : Int)] by rw [HSQ.out, HAW.out, HBW.out, hx, hy, hx', hy']; rfl)
                go_wp2_with fail
                refine HE.out.mono ?_
                rintro e w2 ⟨rfl, hb2⟩
                have hown2 := own_below HOW.out.1 hb2
                have B2 := HOW.out.2.trans (hb2.mono hsz)
                have s2 := B2.size
                clear hb2
                go_wp2_with fail
                refine (HS2.out w2 B2).mono ?_
                rintro e w3 ⟨rfl, hb3⟩
                have hown3 := own_below hown2 hb3
                have B3 := B2.trans (hb3.mono s2)
                have s3 := B3.size
                clear hb3 hown2 B2
                have V := Lib.hid (fun (w' : World) => below_own (w' := w') B3 s3 hown3 (Nat.le_refl _))
                clear B3
                go_wp2_with (at_builtin; go_must (refine app1 rfl (.tmp 28) (.tmp 30) 22 rfl 3 _ 1 8 E22 w.heap.size _ _ _ _ rfl hown3 _ rfl ?_ ?_ ?_ ?_ ?_ ?_); rfl; rfl; rfl; omega; omega; intro v4 w4 hown4 hg4)
                go_roundw
                case rel => exact ⟨q + 1, by go_num, by omega, by rw [HSR.out]; simpa using hown4, V.out _ hg4⟩
                case measure => simp [intOf]; omega
              · have HSR := Lib.hid (show calmTo p (q + 1) = calmTo p q by rw [HSQ.out, HBW.out, decide_eq_false hy', Bool.and_false]; simp)
                go_wp2_with fail
                refine HE.out.mono ?_
                rintro e w2 ⟨rfl, hb2⟩
                have hown2 := own_below HOW.out.1 hb2
                have B2 := HOW.out.2.trans (hb2.mono hsz)
                have s2 := B2.size
                clear hb2
                go_wp2_with fail
                refine (HS2.out w2 B2).mono ?_
                rintro e w3 ⟨rfl, hb3⟩
                have hown3 := own_below hown2 hb3
                have B3 := B2.trans (hb3.mono s2)
                have s3 := B3.size
                clear hb3 hown2 B2
                go_wp2
                go_roundw
                case rel => exact ⟨q + 1, by go_num, by omega, by rw [HSR.out]; exact hown3, B3⟩
                case measure => simp [intOf]; omega
            · have HSR := Lib.hid (show calmTo p (q + 1) = calmTo p q by rw [HSQ.out, HBW.out, decide_eq_false hx', Bool.false_and]; simp)
              go_wp2_with fail
              refine HE.out.mono ?_
              rintro e w2 ⟨rfl, hb2⟩
              have hown2 := own_below HOW.out.1 hb2
              have B2 := HOW.out.2.trans (hb2.mono hsz)
              have s2 := B2.size
              clear hb2
              go_wp2_with fail
              refine (HS2.out w2 B2).mono ?_
              rintro e w3 ⟨rfl, hb3⟩
              have hown3 := own_below hown2 hb3
              have B3 := B2.trans (hb3.mono s2)
              have s3 := B3.size
              clear hb3 hown2 B2
              go_wp2
              go_roundw
              case rel => exact ⟨q + 1, by go_num, by omega, by rw [HSR.out]; exact hown3, B3⟩
              case measure => simp [intOf]; omega
          · have HSR := Lib.hid (show calmTo p (q + 1) = calmTo p q by rw [HSQ.out, HAW.out, decide_eq_false hy, Bool.and_false]; simp)
            go_wp2_with fail
            refine HE.out.mono ?_
            rintro e w2 ⟨rfl, hb2⟩
            have V := Lib.hid (And.intro (own_below HOW.out.1 hb2) (HOW.out.2.trans (hb2.mono hsz)))
            clear hb2
            go_wp2
            go_roundw
            case rel => exact ⟨q + 1, by go_num, by omega, by rw [HSR.out]; exact V.out.1, V.out.2⟩
            case measure => simp [intOf]; omega
        · have HSR := Lib.hid (show calmTo p (q + 1) = calmTo p q by rw [HSQ.out, HAW.out, decide_eq_false hx, Bool.false_and]; simp)
          go_wp2_with fail
          refine HE.out.mono ?_
          rintro e w2 ⟨rfl, hb2⟩
          have V := Lib.hid (And.intro (own_below HOW.out.1 hb2) (HOW.out.2.trans (hb2.mono hsz)))
          clear hb2
          go_wp2
          go_roundw
          case rel => exact ⟨q + 1, by go_num, by omega, by rw [HSR.out]; exact V.out.1, V.out.2⟩
          case measure => simp [intOf]; omega
      · obtain rfl : q = 4 := by omega
        go_wp2
        go_ret2
        exact ⟨_, ret_two rfl (by rw [HV.out]; rfl), by rw [HC.out]; exact hown, hb⟩
  · have hd : (vald p != 0) = true := by simpa using h
    rw [if_neg h] at HC
    clear h
    go_enter Try.func48, Try.ntmps48
    go_wp2_with fail
    refine H.out.mono ?_
    rintro e w1 ⟨rfl, hb1⟩
    go_wp2
    go_ret2
    exact ⟨_, ret_two rfl rfl, by rw [HC.out]; exact World.ownsRow_nil .., hb1⟩
end Go.Proofs.Ytnoocdannfeidaa
