/-
  MERGED: Plain4, W5, W6.
-/
import Derived.Test.YtejjogpgolgdgaaK2
import Derived.Test.YtejjogpgolgdgaaK3
import Derived.IntWalk
/-
  PLAIN LAWS OF FIELDS. No program is named.
-/
namespace Go.Proofs.Ytejjogpgolgdgaa
namespace Pulse

/-- The sum of the products. -/
def dot : List Int → List Int → Int
  | a :: l, b :: v => a * b + dot l v
  | _, _ => 0
/-- The field of voltages. -/
def fieldL (g : List (List Int)) (v : List Int) : List Int := g.map fun l => dot l v
theorem fieldL_len (g : List (List Int)) (v : List Int) : (fieldL g v).length = g.length := by simp [fieldL]
theorem dot_nil_right (l : List Int) : dot l [] = 0 := by cases l <;> rfl
theorem dot_snoc {l v : List Int} (a b : Int) (h : l.length = v.length) : dot (l ++ [a]) (v ++ [b]) = dot l v + a * b := by
  induction l generalizing v with
  | nil =>
    cases v with
    | nil => simp [dot]
    | cons _ _ => simp at h
  | cons x l ih =>
    cases v with
    | nil => simp at h
    | cons y v =>
      have := ih (v := v) (by simpa using h)
      simp only [List.cons_append, dot, this]
      omega
theorem dot_take {l v : List Int} {q : Nat} (h : q < l.length) (h' : q < v.length) : dot (l.take (q + 1)) (v.take (q + 1)) = dot (l.take q) (v.take q) + l[q] * v[q] := by
  rw [take_snoc' l q h, take_snoc' v q h', dot_snoc _ _ (by simp; omega)]
theorem mul_bd {a b A B : Int} (hA : 0 ≤ A) (ha : -A ≤ a ∧ a ≤ A) (hb : -B ≤ b ∧ b ≤ B) : -(A * B) ≤ a * b ∧ a * b ≤ A * B := by
  have hB : 0 ≤ B := by omega
  have h1 : (A - a) * (B - b) ≥ 0 := Int.mul_nonneg (by omega) (by omega)
  have h2 : (A + a) * (B + b) ≥ 0 := Int.mul_nonneg (by omega) (by omega)
  have h3 : (A - a) * (B + b) ≥ 0 := Int.mul_nonneg (by omega) (by omega)
  have h4 : (A + a) * (B - b) ≥ 0 := Int.mul_nonneg (by omega) (by omega)
  simp only [Int.sub_mul, Int.add_mul, Int.mul_sub, Int.mul_add] at h1 h2 h3 h4
  omega
theorem dot_bd : ∀ {l v : List Int}, Forces 9 l → Forces 3 v → -(27 * (l.length : Int)) ≤ dot l v ∧ dot l v ≤ 27 * (l.length : Int)
  | [], v, _, _ => by simp [dot]
  | a :: l, [], _, _ => by simp [dot]; omega
  | a :: l, b :: v, h, h' => by
    have h1 := dot_bd (l := l) (v := v) h.tail h'.tail
    have h2 := mul_bd (A := 9) (B := 3) (by decide) (h a (by simp)) (h' b (by simp))
    simp only [dot, List.length_cons]
    omega
theorem dot_bd3 {l v : List Int} (h : Forces 9 l) (h' : Forces 3 v) (hl : l.length ≤ 3) : -81 ≤ dot l v ∧ dot l v ≤ 81 := by
  have := dot_bd h h'; omega
theorem fieldL_take (g : List (List Int)) (v : List Int) (q : Nat) : fieldL (g.take q) v = (fieldL g v).take q := by simp [fieldL]
theorem fieldL_succ (g : List (List Int)) (v : List Int) {q : Nat} (h : q < g.length) : fieldL (g.take (q + 1)) v = fieldL (g.take q) v ++ [dot g[q] v] := by
  rw [take_snoc' g q h, fieldL, List.map_append]; rfl
end Pulse
end Go.Proofs.Ytejjogpgolgdgaa

/-
  WALKS: the field of voltages.
-/
namespace Go.Proofs.Ytejjogpgolgdgaa
open Go.RowKit Pulse

set_option maxRecDepth 100000 in
set_option maxHeartbeats 2000000 in
theorem pfield (A A' : Option Addr) (k c k' c' : Nat) (g : List (List Int)) (v : List Int) (w : World) (hgl : g.length ≤ 3) (hvl : v.length ≤ 3) (hg : ∀ l ∈ g, l.length = v.length ∧ Forces 9 l) (hv : Forces 3 v) (B : Nat) (hB : B ≤ w.heap.size) (hr : TRd w B A k g) (hr' : Rd w B 1 A' k' (ints v)) :
    Calls Try.prog 63 #[.slice A k c, .slice A' k' c'] w fun e w' => ∃ u, e = .returned u ∧ w'.ownsRow w.heap.size 3 1 u (fieldL g v).length (ints (fieldL g v)) ∧ Below w.heap.size w w' := by
  obtain rfl := hr.len
  obtain rfl := hr'.int_len
  have HG := Lib.hid hg
  have HF := Lib.hid hv
  clear hg hv
  go_enter Try.func63, Try.ntmps63
  go_wp2
  go_loopw [13, 5] (fun i u wr => ∃ q : Nat, i = .int .i64 q ∧ q ≤ g.length ∧ wr.ownsRow w.heap.size 3 1 u q (ints (fieldL (g.take q) v)) ∧ Below w.heap.size w wr) (fun i _ _ => g.length - (intOf i).toNat)
  case atStart => exact ⟨0, rfl, Nat.zero_le _, World.ownsRow_nil .., Below.refl _ _⟩
  case round =>
    obtain ⟨q, rfl, hq, hown, hb⟩ := hrel
    have hsz := hb.size
    by_cases hlt : q < g.length
    · obtain ⟨b, off, A1, c1, rfl, hb1, hc1, _, _, hr1⟩ := (hr.below' hb hB).row hlt
      obtain ⟨hl1, hf1⟩ := HG.out _ (List.getElem_mem hlt)
      have HSU := Lib.hid (fieldL_succ g v hlt)
      obtain ⟨l, hl⟩ : ∃ l, l = g[q] := ⟨_, rfl⟩
      rw [← hl] at hc1 hr1 hl1 hf1 HSU
      clear hl
      have HO := Lib.hid (And.intro hown hb)
      have HL := Lib.hid hl1
      have HF1 := Lib.hid hf1
      have z0 : (0 : Int) ≤ (q : Int) := by omega
      have z1 : (q : Int) < (g.length : Int) := by omega
      have hrv := hr'.below' hb hB
      rw [hl1] at hc1 hr1
      have hl3 : l.length ≤ 3 := by omega
      have hdb := fun j => dot_bd3 (l := l.take j) (v := v.take j) (HF1.out.take j) (HF.out.take j) (by rw [List.length_take]; omega)
      have HDB := Lib.hid hdb
      clear hl1 hf1 hdb hown hb
      go_wp2
      go_loop [19, 8] (fun i s => ∃ j : Nat, i = .int .i64 j ∧ j ≤ v.length ∧ s = .int .i64 (dot (l.take j) (v.take j))) (fun i _ => v.length - (intOf i).toNat)
      case atStart => exact ⟨0, rfl, Nat.zero_le _, rfl⟩
      case round =>
        obtain ⟨j, rfl, hj, rfl⟩ := hrel
        by_cases hlt2 : j < v.length
        · have hj1 : j < l.length := by have := HL.out; omega
          obtain ⟨b1, off1, rfl, _, g1⟩ := hr1.int hj1
          obtain ⟨b2, off2, rfl, _, g2⟩ := hrv.int hlt2
          have HT := Lib.hid (dot_take hj1 hlt2)
          have e1 := HDB.out j
          have e2 := HDB.out (j + 1)
          rw [HT.out] at e2
          have e3 := mul_bd (A := 9) (B := 3) (by decide) (HF1.out _ (List.getElem_mem hj1)) (HF.out _ (List.getElem_mem hlt2))
          obtain ⟨x, hx⟩ : ∃ x, x = l[j] := ⟨_, rfl⟩
          obtain ⟨y, hy⟩ : ∃ y, y = v[j] := ⟨_, rfl⟩
          obtain ⟨d, hd⟩ : ∃ d, d = dot (l.take j) (v.take j) := ⟨_, rfl⟩
          have e4 := HF1.out _ (List.getElem_mem hj1)
          have e5 := HF.out _ (List.getElem_mem hlt2)
          rw [← hx] at g1 e2 e3 e4 HT
          rw [← hy] at g2 e2 e3 e5 HT
          rw [← hd] at e1 e2 HT
          rw [← hd]
          clear hx hy hd
          have y0 : (0 : Int) ≤ (j : Int) := by omega
          have y1 : (j : Int) < (v.length : Int) := by omega
          go_wp2
          go_round
          case rel => exact ⟨j + 1, by go_num, by omega, by rw [HT.out]⟩
          case measure => simp [intOf]; omega
        · obtain rfl : j = v.length := by omega
          have HE := Lib.hid (show dot (l.take v.length) (v.take v.length) = dot l v by rw [List.take_length, List.take_of_length_le (by have := HL.out; omega)])
          rw [HE.out]
          obtain ⟨hown, hb⟩ := HO.out
          go_wp2_with (at_builtin; go_must (refine app1 rfl (.tmp 33) (.tmp 35) 23 rfl 3 _ 1 8 E23 w.heap.size _ _ _ _ rfl hown _ rfl ?_ ?_ ?_ ?_ ?_ ?_); rfl; rfl; rfl; omega; omega; intro v3 w3 hown3 hg3)
          have B3 := below_own hb hsz hown (Nat.le_refl _) hg3
          go_roundw
          case rel => exact ⟨q + 1, by go_num, by omega, by rw [HSU.out, ints_snoc]; exact hown3, B3⟩
          case measure => simp [intOf]; omega
    · obtain rfl : q = g.length := by omega
      rw [List.take_length] at hown
      have HO := Lib.hid (And.intro hown hb)
      obtain ⟨A2, c2, rfl, _, _⟩ := own_cap hown
      clear hown hb
      go_wp2
      go_ret
      exact ⟨_, rfl, by rw [fieldL_len]; exact HO.out.1, HO.out.2⟩

set_option maxRecDepth 100000 in
set_option maxHeartbeats 2000000 in
theorem rfield (A A' : Option Addr) (k c k' c' : Nat) (g : List (List Int)) (v : List Int) (w : World) (hgl : g.length ≤ 3) (hvl : v.length ≤ 3) (hg : ∀ l ∈ g, l.length = v.length ∧ Forces 9 l) (hv : Forces 3 v) (B : Nat) (hB : B ≤ w.heap.size) (hr : TRd w B A k g) (hr' : Rd w B 1 A' k' (ints v)) :
    Calls Try.prog 65 #[.slice A k c, .slice A' k' c'] w fun e w' => ∃ u, e = .returned u ∧ w'.ownsRow w.heap.size 3 1 u (fieldL g v).length (ints (fieldL g v)) ∧ Below w.heap.size w w' := by
  obtain rfl := hr.len
  obtain rfl := hr'.int_len
  have HG := Lib.hid hg
  have HF := Lib.hid hv
  clear hg hv
  go_enter Try.func65, Try.ntmps65
  go_wp2
  go_loopw [6, 5] (fun i u wr => ∃ q : Nat, i = .int .i64 q ∧ q ≤ g.length ∧ wr.ownsRow w.heap.size 3 1 u q (ints (fieldL (g.take q) v)) ∧ Below w.heap.size w wr) (fun i _ _ => g.length - (intOf i).toNat)
  case atStart => exact ⟨0, rfl, Nat.zero_le _, World.ownsRow_nil .., Below.refl _ _⟩
  case round =>
    obtain ⟨q, rfl, hq, hown, hb⟩ := hrel
    have hsz := hb.size
    by_cases hlt : q < g.length
    · obtain ⟨b, off, A1, c1, rfl, hb1, hc1, _, _, hr1⟩ := (hr.below' hb hB).row hlt
      obtain ⟨hl1, hf1⟩ := HG.out _ (List.getElem_mem hlt)
      have HSU := Lib.hid (fieldL_succ g v hlt)
      obtain ⟨l, hl⟩ : ∃ l, l = g[q] := ⟨_, rfl⟩
      rw [← hl] at hc1 hr1 hl1 hf1 HSU
      clear hl
      have HO := Lib.hid (And.intro hown hb)
      have HL := Lib.hid hl1
      have HF1 := Lib.hid hf1
      have z0 : (0 : Int) ≤ (q : Int) := by omega
      have z1 : (q : Int) < (g.length : Int) := by omega
      have hrv := hr'.below' hb hB
      rw [hl1] at hc1 hr1
      have hl3 : l.length ≤ 3 := by omega
      have hdb := fun j => dot_bd3 (l := l.take j) (v := v.take j) (HF1.out.take j) (HF.out.take j) (by rw [List.length_take]; omega)
      have HDB := Lib.hid hdb
      clear hl1 hf1 hdb hown hb
      go_wp2
      go_loopw [8, 7] (fun i s wx => ∃ j m : Nat, i = .int .i64 j ∧ j ≤ v.length ∧ s = .int .i64 (dot (l.take j) (v.take j)) ∧ wx = wr.drewN m) (fun i _ _ => v.length - (intOf i).toNat)
      case atStart => exact ⟨0, 0, rfl, Nat.zero_le _, rfl, rfl⟩
      case round =>
        obtain ⟨j, m, rfl, hj, rfl, rfl⟩ := hrel
        by_cases hlt2 : j < v.length
        · have hj1 : j < l.length := by have := HL.out; omega
          have hj2 : j < v.length := hlt2
          obtain ⟨b1, off1, rfl, _, g1⟩ := hr1.int hj1
          obtain ⟨b2, off2, rfl, _, g2⟩ := hrv.int hlt2
          have HT := Lib.hid (dot_take hj1 hlt2)
          have e1 := HDB.out j
          have e2 := HDB.out (j + 1)
          rw [HT.out] at e2
          have e3 := mul_bd (A := 9) (B := 3) (by decide) (HF1.out _ (List.getElem_mem hj1)) (HF.out _ (List.getElem_mem hlt2))
          obtain ⟨x, hx⟩ : ∃ x, x = l[j] := ⟨_, rfl⟩
          obtain ⟨y, hy⟩ : ∃ y, y = v[j] := ⟨_, rfl⟩
          obtain ⟨d, hd⟩ : ∃ d, d = dot (l.take j) (v.take j) := ⟨_, rfl⟩
          have e4 := HF1.out _ (List.getElem_mem hj1)
          have e5 := HF.out _ (List.getElem_mem hlt2)
          rw [← hx] at g1 e2 e3 e4 HT
          rw [← hy] at g2 e2 e3 e5 HT
          rw [← hd] at e1 e2 HT
          rw [← hd]
          clear hx hy hd
          have y0 : (0 : Int) ≤ (j : Int) := by omega
          have y1 : (j : Int) < (v.length : Int) := by omega
          have y2 := IntWalk.i64_in (x * y) (by omega)
          have y3 := IntWalk.i64_in (d + x * y) (by omega)
          go_wp2
          go_quiet (fail)
          clear y2 y3
          go_wp2
          go_roundw
          case rel => exact ⟨j + 1, m + nq, by go_num, by omega, by rw [HT.out], rfl⟩
          case measure => simp [intOf]; omega
        · obtain rfl : j = v.length := by omega
          have HE := Lib.hid (show dot (l.take v.length) (v.take v.length) = dot l v by rw [List.take_length, List.take_of_length_le (by have := HL.out; omega)])
          rw [HE.out]
          obtain ⟨hown0, hb0⟩ := HO.out
          have hb := below_drewN hb0 m
          have hown : (wr.drewN m).ownsRow w.heap.size 3 1 _ q (ints (fieldL (g.take q) v)) := own_keep hown0 (fun g _ => rfl)
          have hsz2 : w.heap.size ≤ (wr.drewN m).heap.size := hb.size
          clear hown0 hb0
          go_wp2_with (at_builtin; go_must (refine app1 rfl (.tmp 35) (.tmp 37) 23 rfl 3 _ 1 8 E23 w.heap.size _ _ _ _ rfl hown _ rfl ?_ ?_ ?_ ?_ ?_ ?_); rfl; rfl; rfl; omega; omega; intro v3 w3 hown3 hg3)
          have B3 := below_own hb hsz2 hown (Nat.le_refl _) hg3
          go_roundw
          case rel => exact ⟨q + 1, by go_num, by omega, by rw [HSU.out, ints_snoc]; exact hown3, B3⟩
          case measure => simp [intOf]; omega
    · obtain rfl : q = g.length := by omega
      rw [List.take_length] at hown
      have HO := Lib.hid (And.intro hown hb)
      obtain ⟨A2, c2, rfl, _, _⟩ := own_cap hown
      clear hown hb
      go_wp2
      go_ret
      exact ⟨_, rfl, by rw [fieldL_len]; exact HO.out.1, HO.out.2⟩
end Go.Proofs.Ytejjogpgolgdgaa

/-
  WALKS: Field, CheckVolts of both. (Printed by gen_w6.py.)
-/
namespace Go.Proofs.Ytejjogpgolgdgaa
open Go.RowKit Pulse

def fieldE (g : List (List Int)) (v : List Int) : Int := if vldG g = 0 then (if vOk g v then 0 else 1) else vldG g
def fieldR (g : List (List Int)) (v : List Int) : List Int := if fieldE g v = 0 then fieldL g v else []
def checkE (g : List (List Int)) (l v : List Int) : Int := if wishE g l = 0 then (if vOk g v then (if fieldL g v = l then 0 else 7) else 1) else wishE g l
theorem vOk_ok {g : List (List Int)} {v : List Int} (h : vOk g v = true) : v.length = wid g ∧ Forces 3 v := by
  simp only [vOk, withinB, Bool.and_eq_true, decide_eq_true_eq, List.all_eq_true, isIn] at h
  exact ⟨by omega, fun f hf => h.2 f hf⟩
theorem wOk_ok {g : List (List Int)} {l : List Int} (h : wOk g l = true) : l.length = g.length ∧ Forces 1000 l := by
  simp only [wOk, withinB, Bool.and_eq_true, decide_eq_true_eq, List.all_eq_true, isIn] at h
  exact ⟨by omega, fun f hf => h.2 f hf⟩
theorem wishE_ok {g : List (List Int)} {l : List Int} (h : wishE g l = 0) : vldG g = 0 ∧ wOk g l = true := by
  unfold wishE at h
  split at h
  · rename_i h0
    split at h
    · exact ⟨h0, ‹_›⟩
    · omega
  · exact absurd h ‹_›
/-- What the walk of a field asks. -/
def FitG (g : List (List Int)) (v : List Int) : Prop := g.length ≤ 3 ∧ v.length ≤ 3 ∧ (∀ l ∈ g, l.length = v.length ∧ Forces 9 l) ∧ Forces 3 v
theorem fitG {g : List (List Int)} {v : List Int} (h : vldG g = 0) (hv : v.length = wid g) (hf : Forces 3 v) : FitG g v := by
  obtain ⟨h1, h2, h3, h4, h5⟩ := vldG_ok h
  exact ⟨h2, by omega, fun l hl => ⟨by rw [(h5 l hl).1, hv], (h5 l hl).2⟩, hf⟩
theorem ret_pair {a a' b b' : Value} (h : a = a') (h' : b = b') : Ending.returned (.tuple #[a, b]) = .returned (.tuple #[a', b']) := by rw [h, h']
theorem ret_three {a a' b b' c c' : Value} (h : a = a') (h' : b = b') (h'' : c = c') : Ending.returned (.tuple #[a, b, c]) = .returned (.tuple #[a', b', c']) := by rw [h, h', h'']

set_option maxRecDepth 100000 in
set_option maxHeartbeats 1000000 in
theorem pField (A A' : Option Addr) (k c k' c' : Nat) (g : List (List Int)) (v : List Int) (w : World) (hs : Sm g) (hl : v.length ≤ 1000) (B : Nat) (hB : B ≤ w.heap.size) (hr : TRd w B A k g) (hr' : Rd w B 1 A' k' (ints v)) :
    Calls Try.prog 22 #[.slice A k c, .slice A' k' c'] w fun e w' => ∃ u, e = .returned (.tuple #[u, .int .i64 (fieldE g v)]) ∧ w'.ownsRow w.heap.size 3 1 u (fieldR g v).length (ints (fieldR g v)) ∧ Below w.heap.size w w' := by
  have hr := hr.more hB
  have hr' := hr'.more hB
  by_cases h : vldG g = 0
  · have hpos : 0 < g.length := (vldG_ok h).1
    have HV := Lib.hid h
    clear h
    cases ho : vOk g v with
    | true =>
      have HE := Lib.hid (show fieldE g v = 0 by rw [fieldE, if_pos HV.out, ho]; rfl)
      have HR := Lib.hid (show fieldR g v = fieldL g v by rw [fieldR, if_pos HE.out])
      have HGF := Lib.hid (fitG HV.out (vOk_ok ho).1 (vOk_ok ho).2)
      have HO := Lib.hid ho
      clear ho
      go_enter Try.func22, Try.ntmps22
      go_wp2_with fail
      refine (pValidate _ _ _ g w hs w.heap.size (Nat.le_refl _) hr).mono ?_
      rw [HV.out]
      rintro e w1 ⟨rfl, hb1⟩
      have s1 := hb1.size
      have HB1 := Lib.hid hb1
      have hr := (hr.below hb1).more s1
      have hr' := (hr'.below hb1).more s1
      clear hb1
      go_wp2_with fail
      refine (pisVolts true _ _ _ _ _ _ g v HO.out w1 hpos hl w1.heap.size (Nat.le_refl _) hr hr').mono ?_
      rintro e w2 ⟨rfl, hb2⟩
      have s2 := hb2.size
      have HB2 := Lib.hid (HB1.out.trans (hb2.mono (by have := HB1.out.size; omega)))
      have hr := (hr.below hb2).more s2
      have hr' := (hr'.below hb2).more s2
      clear hb2
      go_wp2_with fail
      refine (pfield _ _ _ _ _ _ g v w2 HGF.out.1 HGF.out.2.1 HGF.out.2.2.1 HGF.out.2.2.2 w2.heap.size (Nat.le_refl _) hr hr').mono ?_
      rintro e w3 ⟨v3, rfl, hown, hb⟩
      have HBF := Lib.hid (HB2.out.trans (hb.mono (by have := HB2.out.size; omega)))
      have HOW := Lib.hid (own_base hown (HB2.out.size))
      clear hown hb
      go_wp2
      go_ret2
      exact ⟨_, ret_pair rfl (by rw [HE.out]; rfl), by rw [HR.out]; exact HOW.out, HBF.out⟩
    | false =>
      have HE := Lib.hid (show fieldE g v = 1 by rw [fieldE, if_pos HV.out, ho]; rfl)
      have HR := Lib.hid (show fieldR g v = [] by rw [fieldR, if_neg (by rw [HE.out]; decide)])
      have HO := Lib.hid ho
      clear ho
      go_enter Try.func22, Try.ntmps22
      go_wp2_with fail
      refine (pValidate _ _ _ g w hs w.heap.size (Nat.le_refl _) hr).mono ?_
      rw [HV.out]
      rintro e w1 ⟨rfl, hb1⟩
      have s1 := hb1.size
      have HB1 := Lib.hid hb1
      have hr := (hr.below hb1).more s1
      have hr' := (hr'.below hb1).more s1
      clear hb1
      go_wp2_with fail
      refine (pisVolts false _ _ _ _ _ _ g v HO.out w1 hpos hl w1.heap.size (Nat.le_refl _) hr hr').mono ?_
      rintro e w2 ⟨rfl, hb2⟩
      have s2 := hb2.size
      have HB2 := Lib.hid (HB1.out.trans (hb2.mono (by have := HB1.out.size; omega)))
      have hr := (hr.below hb2).more s2
      have hr' := (hr'.below hb2).more s2
      clear hb2
      go_wp2
      go_ret2
      exact ⟨_, ret_pair rfl (by rw [HE.out]; rfl), by rw [HR.out]; exact World.ownsRow_nil .., HB2.out⟩
  · have hd : (vldG g != 0) = true := by simpa using h
    have HE := Lib.hid (show fieldE g v = vldG g by rw [fieldE, if_neg h])
    have HR := Lib.hid (show fieldR g v = [] by rw [fieldR, HE.out, if_neg h])
    clear h
    have H := Lib.hid (pValidate _ _ c g w hs w.heap.size (Nat.le_refl _) hr)
    generalize vldG g = x at *
    go_enter Try.func22, Try.ntmps22
    go_wp2_with fail
    refine (H.out).mono ?_
    rintro e w1 ⟨rfl, hb1⟩
    have s1 := hb1.size
    have HB1 := Lib.hid hb1
    have hr := (hr.below hb1).more s1
    have hr' := (hr'.below hb1).more s1
    clear hb1
    go_wp2
    go_ret2
    exact ⟨_, ret_pair rfl (by rw [HE.out]; rfl), by rw [HR.out]; exact World.ownsRow_nil .., HB1.out⟩

set_option maxRecDepth 100000 in
set_option maxHeartbeats 1000000 in
theorem rField (A A' : Option Addr) (k c k' c' : Nat) (g : List (List Int)) (v : List Int) (w : World) (hs : Sm g) (hl : v.length ≤ 1000) (B : Nat) (hB : B ≤ w.heap.size) (hr : TRd w B A k g) (hr' : Rd w B 1 A' k' (ints v)) :
    Calls Try.prog 23 #[.slice A k c, .slice A' k' c'] w fun e w' => ∃ u, e = .returned (.tuple #[u, .int .i64 (fieldE g v)]) ∧ w'.ownsRow w.heap.size 3 1 u (fieldR g v).length (ints (fieldR g v)) ∧ Below w.heap.size w w' := by
  have hr := hr.more hB
  have hr' := hr'.more hB
  by_cases h : vldG g = 0
  · have hpos : 0 < g.length := (vldG_ok h).1
    have HV := Lib.hid h
    clear h
    cases ho : vOk g v with
    | true =>
      have HE := Lib.hid (show fieldE g v = 0 by rw [fieldE, if_pos HV.out, ho]; rfl)
      have HR := Lib.hid (show fieldR g v = fieldL g v by rw [fieldR, if_pos HE.out])
      have HGF := Lib.hid (fitG HV.out (vOk_ok ho).1 (vOk_ok ho).2)
      have HO := Lib.hid ho
      clear ho
      go_enter Try.func23, Try.ntmps23
      go_wp2_with fail
      refine (rValidate _ _ _ g w hs w.heap.size (Nat.le_refl _) hr).mono ?_
      rw [HV.out]
      rintro e w1 ⟨rfl, hb1⟩
      have s1 := hb1.size
      have HB1 := Lib.hid hb1
      have hr := (hr.below hb1).more s1
      have hr' := (hr'.below hb1).more s1
      clear hb1
      go_wp2_with fail
      refine (risVolts true _ _ _ _ _ _ g v HO.out w1 hpos hl w1.heap.size (Nat.le_refl _) hr hr').mono ?_
      rintro e w2 ⟨rfl, hb2⟩
      have s2 := hb2.size
      have HB2 := Lib.hid (HB1.out.trans (hb2.mono (by have := HB1.out.size; omega)))
      have hr := (hr.below hb2).more s2
      have hr' := (hr'.below hb2).more s2
      clear hb2
      go_wp2_with fail
      refine (rfield _ _ _ _ _ _ g v w2 HGF.out.1 HGF.out.2.1 HGF.out.2.2.1 HGF.out.2.2.2 w2.heap.size (Nat.le_refl _) hr hr').mono ?_
      rintro e w3 ⟨v3, rfl, hown, hb⟩
      have HBF := Lib.hid (HB2.out.trans (hb.mono (by have := HB2.out.size; omega)))
      have HOW := Lib.hid (own_base hown (HB2.out.size))
      clear hown hb
      go_wp2
      go_ret2
      exact ⟨_, ret_pair rfl (by rw [HE.out]; rfl), by rw [HR.out]; exact HOW.out, HBF.out⟩
    | false =>
      have HE := Lib.hid (show fieldE g v = 1 by rw [fieldE, if_pos HV.out, ho]; rfl)
      have HR := Lib.hid (show fieldR g v = [] by rw [fieldR, if_neg (by rw [HE.out]; decide)])
      have HO := Lib.hid ho
      clear ho
      go_enter Try.func23, Try.ntmps23
      go_wp2_with fail
      refine (rValidate _ _ _ g w hs w.heap.size (Nat.le_refl _) hr).mono ?_
      rw [HV.out]
      rintro e w1 ⟨rfl, hb1⟩
      have s1 := hb1.size
      have HB1 := Lib.hid hb1
      have hr := (hr.below hb1).more s1
      have hr' := (hr'.below hb1).more s1
      clear hb1
      go_wp2_with fail
      refine (risVolts false _ _ _ _ _ _ g v HO.out w1 hpos hl w1.heap.size (Nat.le_refl _) hr hr').mono ?_
      rintro e w2 ⟨rfl, hb2⟩
      have s2 := hb2.size
      have HB2 := Lib.hid (HB1.out.trans (hb2.mono (by have := HB1.out.size; omega)))
      have hr := (hr.below hb2).more s2
      have hr' := (hr'.below hb2).more s2
      clear hb2
      go_wp2
      go_ret2
      exact ⟨_, ret_pair rfl (by rw [HE.out]; rfl), by rw [HR.out]; exact World.ownsRow_nil .., HB2.out⟩
  · have hd : (vldG g != 0) = true := by simpa using h
    have HE := Lib.hid (show fieldE g v = vldG g by rw [fieldE, if_neg h])
    have HR := Lib.hid (show fieldR g v = [] by rw [fieldR, HE.out, if_neg h])
    clear h
    have H := Lib.hid (rValidate _ _ c g w hs w.heap.size (Nat.le_refl _) hr)
    generalize vldG g = x at *
    go_enter Try.func23, Try.ntmps23
    go_wp2_with fail
    refine (H.out).mono ?_
    rintro e w1 ⟨rfl, hb1⟩
    have s1 := hb1.size
    have HB1 := Lib.hid hb1
    have hr := (hr.below hb1).more s1
    have hr' := (hr'.below hb1).more s1
    clear hb1
    go_wp2
    go_ret2
    exact ⟨_, ret_pair rfl (by rw [HE.out]; rfl), by rw [HR.out]; exact World.ownsRow_nil .., HB1.out⟩

set_option maxRecDepth 100000 in
set_option maxHeartbeats 1000000 in
theorem pCheckVolts (A A' A'' : Option Addr) (k c k' c' k'' c'' : Nat) (g : List (List Int)) (l v : List Int) (w : World) (hs : Sm g) (hl : l.length ≤ 1000) (hv : v.length ≤ 1000) (B : Nat) (hB : B ≤ w.heap.size) (hr : TRd w B A k g) (hr' : Rd w B 1 A' k' (ints l)) (hr'' : Rd w B 1 A'' k'' (ints v)) :
    Calls Try.prog 39 #[.slice A k c, .slice A' k' c', .slice A'' k'' c''] w fun e w' => e = .returned (.int .i64 (checkE g l v)) ∧ Below w.heap.size w w' := by
  have hr := hr.more hB
  have hr' := hr'.more hB
  have hr'' := hr''.more hB
  by_cases h : wishE g l = 0
  · have hpos : 0 < g.length := (vldG_ok (wishE_ok h).1).1
    have HV := Lib.hid h
    clear h
    cases ho : vOk g v with
    | true =>
      have HGF := Lib.hid (fitG (wishE_ok HV.out).1 (vOk_ok ho).1 (vOk_ok ho).2)
      have HO := Lib.hid ho
      have HE := Lib.hid (show checkE g l v = if fieldL g v = l then 0 else 7 by rw [checkE, if_pos HV.out, ho]; rfl)
      have hfl : (fieldL g v).length ≤ 3 := by rw [fieldL_len]; exact HGF.out.1
      clear ho
      obtain ⟨d, hd⟩ : ∃ d, d = decide (fieldL g v = l) := ⟨_, rfl⟩
      have HD := Lib.hid hd
      clear hd
      go_enter Try.func39, Try.ntmps39
      go_wp2_with fail
      refine (pwished _ _ _ _ _ _ g l w hs hl w.heap.size (Nat.le_refl _) hr hr').mono ?_
      rw [HV.out]
      rintro e w1 ⟨rfl, hb1⟩
      have s1 := hb1.size
      have HB1 := Lib.hid hb1
      have hr := (hr.below hb1).more s1
      have hr' := (hr'.below hb1).more s1
      have hr'' := (hr''.below hb1).more s1
      clear hb1
      go_wp2_with fail
      refine (pisVolts true _ _ _ _ _ _ g v HO.out w1 hpos hv w1.heap.size (Nat.le_refl _) hr hr'').mono ?_
      rintro e w2 ⟨rfl, hb2⟩
      have s2 := hb2.size
      have HB2 := Lib.hid (HB1.out.trans (hb2.mono (by have := HB1.out.size; omega)))
      have hr := (hr.below hb2).more s2
      have hr' := (hr'.below hb2).more s2
      have hr'' := (hr''.below hb2).more s2
      clear hb2
      go_wp2_with fail
      refine (pfield _ _ _ _ _ _ g v w2 HGF.out.1 HGF.out.2.1 HGF.out.2.2.1 HGF.out.2.2.2 w2.heap.size (Nat.le_refl _) hr hr'').mono ?_
      rintro e w3 ⟨v3, rfl, hown3, hb3⟩
      have s3 := hb3.size
      have HB3 := Lib.hid (HB2.out.trans (hb3.mono (by have := HB2.out.size; omega)))
      have hr := (hr.below hb3).more s3
      have hr' := (hr'.below hb3).more s3
      have hr'' := (hr''.below hb3).more s3
      obtain ⟨A3, c3, rfl, _, _⟩ := own_cap hown3
      have r3 := Rd.of_own hown3
      clear hb3 hown3
      go_wp2_with fail
      refine (pEqual_is d _ _ _ _ _ _ (fieldL g v) l HD.out.symm w3 (by omega) (by omega) w3.heap.size (Nat.le_refl _) r3 hr').mono ?_
      rintro e w4 ⟨rfl, hb4⟩
      have s4 := hb4.size
      have HB4 := Lib.hid (HB3.out.trans (hb4.mono (by have := HB3.out.size; omega)))
      have hr := (hr.below hb4).more s4
      have hr' := (hr'.below hb4).more s4
      have hr'' := (hr''.below hb4).more s4
      have r3 := (r3.below hb4).more s4
      clear hb4
      cases d
      case false =>
        go_wp2
        go_ret
        exact ⟨ret_int (by rw [HE.out, if_neg (of_decide_eq_false HD.out.symm)]), HB4.out⟩
      case true =>
        go_wp2
        go_ret
        exact ⟨ret_int (by rw [HE.out, if_pos (of_decide_eq_true HD.out.symm)]), HB4.out⟩
    | false =>
      have HO := Lib.hid ho
      have HE := Lib.hid (show checkE g l v = 1 by rw [checkE, if_pos HV.out, ho]; rfl)
      clear ho
      go_enter Try.func39, Try.ntmps39
      go_wp2_with fail
      refine (pwished _ _ _ _ _ _ g l w hs hl w.heap.size (Nat.le_refl _) hr hr').mono ?_
      rw [HV.out]
      rintro e w1 ⟨rfl, hb1⟩
      have s1 := hb1.size
      have HB1 := Lib.hid hb1
      have hr := (hr.below hb1).more s1
      have hr' := (hr'.below hb1).more s1
      have hr'' := (hr''.below hb1).more s1
      clear hb1
      go_wp2_with fail
      refine (pisVolts false _ _ _ _ _ _ g v HO.out w1 hpos hv w1.heap.size (Nat.le_refl _) hr hr'').mono ?_
      rintro e w2 ⟨rfl, hb2⟩
      have s2 := hb2.size
      have HB2 := Lib.hid (HB1.out.trans (hb2.mono (by have := HB1.out.size; omega)))
      have hr := (hr.below hb2).more s2
      have hr' := (hr'.below hb2).more s2
      have hr'' := (hr''.below hb2).more s2
      clear hb2
      go_wp2
      go_ret
      exact ⟨ret_int (by rw [HE.out]), HB2.out⟩
  · have hd : (wishE g l != 0) = true := by simpa using h
    have HE := Lib.hid (show checkE g l v = wishE g l by rw [checkE, if_neg h])
    clear h
    have H := Lib.hid (pwished _ _ _ c _ c' g l w hs hl w.heap.size (Nat.le_refl _) hr hr')
    generalize wishE g l = x at *
    go_enter Try.func39, Try.ntmps39
    go_wp2_with fail
    refine (H.out).mono ?_
    rintro e w1 ⟨rfl, hb1⟩
    have s1 := hb1.size
    have HB1 := Lib.hid hb1
    have hr := (hr.below hb1).more s1
    have hr' := (hr'.below hb1).more s1
    have hr'' := (hr''.below hb1).more s1
    clear hb1
    go_wp2
    go_ret
    exact ⟨ret_int (by rw [HE.out]), HB1.out⟩

set_option maxRecDepth 100000 in
set_option maxHeartbeats 1000000 in
theorem rCheckVolts (A A' A'' : Option Addr) (k c k' c' k'' c'' : Nat) (g : List (List Int)) (l v : List Int) (w : World) (hs : Sm g) (hl : l.length ≤ 1000) (hv : v.length ≤ 1000) (B : Nat) (hB : B ≤ w.heap.size) (hr : TRd w B A k g) (hr' : Rd w B 1 A' k' (ints l)) (hr'' : Rd w B 1 A'' k'' (ints v)) :
    Calls Try.prog 40 #[.slice A k c, .slice A' k' c', .slice A'' k'' c''] w fun e w' => e = .returned (.int .i64 (checkE g l v)) ∧ Below w.heap.size w w' := by
  have hr := hr.more hB
  have hr' := hr'.more hB
  have hr'' := hr''.more hB
  by_cases h : wishE g l = 0
  · have hpos : 0 < g.length := (vldG_ok (wishE_ok h).1).1
    have HV := Lib.hid h
    clear h
    cases ho : vOk g v with
    | true =>
      have HGF := Lib.hid (fitG (wishE_ok HV.out).1 (vOk_ok ho).1 (vOk_ok ho).2)
      have HO := Lib.hid ho
      have HE := Lib.hid (show checkE g l v = if fieldL g v = l then 0 else 7 by rw [checkE, if_pos HV.out, ho]; rfl)
      have hfl : (fieldL g v).length ≤ 3 := by rw [fieldL_len]; exact HGF.out.1
      clear ho
      obtain ⟨d, hd⟩ : ∃ d, d = decide (fieldL g v = l) := ⟨_, rfl⟩
      have HD := Lib.hid hd
      clear hd
      go_enter Try.func40, Try.ntmps40
      go_wp2_with fail
      refine (rWished _ _ _ _ _ _ g l w hs hl w.heap.size (Nat.le_refl _) hr hr').mono ?_
      rw [HV.out]
      rintro e w1 ⟨rfl, hb1⟩
      have s1 := hb1.size
      have HB1 := Lib.hid hb1
      have hr := (hr.below hb1).more s1
      have hr' := (hr'.below hb1).more s1
      have hr'' := (hr''.below hb1).more s1
      clear hb1
      go_wp2_with fail
      refine (risVolts true _ _ _ _ _ _ g v HO.out w1 hpos hv w1.heap.size (Nat.le_refl _) hr hr'').mono ?_
      rintro e w2 ⟨rfl, hb2⟩
      have s2 := hb2.size
      have HB2 := Lib.hid (HB1.out.trans (hb2.mono (by have := HB1.out.size; omega)))
      have hr := (hr.below hb2).more s2
      have hr' := (hr'.below hb2).more s2
      have hr'' := (hr''.below hb2).more s2
      clear hb2
      go_wp2_with fail
      refine (rfield _ _ _ _ _ _ g v w2 HGF.out.1 HGF.out.2.1 HGF.out.2.2.1 HGF.out.2.2.2 w2.heap.size (Nat.le_refl _) hr hr'').mono ?_
      rintro e w3 ⟨v3, rfl, hown3, hb3⟩
      have s3 := hb3.size
      have HB3 := Lib.hid (HB2.out.trans (hb3.mono (by have := HB2.out.size; omega)))
      have hr := (hr.below hb3).more s3
      have hr' := (hr'.below hb3).more s3
      have hr'' := (hr''.below hb3).more s3
      obtain ⟨A3, c3, rfl, _, _⟩ := own_cap hown3
      have r3 := Rd.of_own hown3
      clear hb3 hown3
      go_wp2_with fail
      refine (rSameInts_is d _ _ _ _ _ _ (fieldL g v) l HD.out.symm w3 (by omega) (by omega) w3.heap.size (Nat.le_refl _) r3 hr').mono ?_
      rintro e w4 ⟨rfl, hb4⟩
      have s4 := hb4.size
      have HB4 := Lib.hid (HB3.out.trans (hb4.mono (by have := HB3.out.size; omega)))
      have hr := (hr.below hb4).more s4
      have hr' := (hr'.below hb4).more s4
      have hr'' := (hr''.below hb4).more s4
      have r3 := (r3.below hb4).more s4
      clear hb4
      cases d
      case false =>
        go_wp2
        go_ret
        exact ⟨ret_int (by rw [HE.out, if_neg (of_decide_eq_false HD.out.symm)]), HB4.out⟩
      case true =>
        go_wp2
        go_ret
        exact ⟨ret_int (by rw [HE.out, if_pos (of_decide_eq_true HD.out.symm)]), HB4.out⟩
    | false =>
      have HO := Lib.hid ho
      have HE := Lib.hid (show checkE g l v = 1 by rw [checkE, if_pos HV.out, ho]; rfl)
      clear ho
      go_enter Try.func40, Try.ntmps40
      go_wp2_with fail
      refine (rWished _ _ _ _ _ _ g l w hs hl w.heap.size (Nat.le_refl _) hr hr').mono ?_
      rw [HV.out]
      rintro e w1 ⟨rfl, hb1⟩
      have s1 := hb1.size
      have HB1 := Lib.hid hb1
      have hr := (hr.below hb1).more s1
      have hr' := (hr'.below hb1).more s1
      have hr'' := (hr''.below hb1).more s1
      clear hb1
      go_wp2_with fail
      refine (risVolts false _ _ _ _ _ _ g v HO.out w1 hpos hv w1.heap.size (Nat.le_refl _) hr hr'').mono ?_
      rintro e w2 ⟨rfl, hb2⟩
      have s2 := hb2.size
      have HB2 := Lib.hid (HB1.out.trans (hb2.mono (by have := HB1.out.size; omega)))
      have hr := (hr.below hb2).more s2
      have hr' := (hr'.below hb2).more s2
      have hr'' := (hr''.below hb2).more s2
      clear hb2
      go_wp2
      go_ret
      exact ⟨ret_int (by rw [HE.out]), HB2.out⟩
  · have hd : (wishE g l != 0) = true := by simpa using h
    have HE := Lib.hid (show checkE g l v = wishE g l by rw [checkE, if_neg h])
    clear h
    have H := Lib.hid (rWished _ _ _ c _ c' g l w hs hl w.heap.size (Nat.le_refl _) hr hr')
    generalize wishE g l = x at *
    go_enter Try.func40, Try.ntmps40
    go_wp2_with fail
    refine (H.out).mono ?_
    rintro e w1 ⟨rfl, hb1⟩
    have s1 := hb1.size
    have HB1 := Lib.hid hb1
    have hr := (hr.below hb1).more s1
    have hr' := (hr'.below hb1).more s1
    have hr'' := (hr''.below hb1).more s1
    clear hb1
    go_wp2
    go_ret
    exact ⟨ret_int (by rw [HE.out]), HB1.out⟩
end Go.Proofs.Ytejjogpgolgdgaa
