/-
  WALKS: pairs of ints in memory; Index and Contains of links, isZone, linked.
-/
import Derived.Test.YtlhbmfaoldajdaaW1
namespace Go.Proofs.Ytlhbmfaoldajdaa
open Go.RowKit

theorem cell_lt {w : World} {a : Addr} {v : Value} (h : w.cell? a = some v) : a.block < w.heap.size ∧ a.spot = none := by
  unfold World.cell? at h
  split at h
  · rename_i hb
    refine ⟨(Array.getElem?_eq_some_iff.1 hb).1, ?_⟩
    split at h
    · cases h
    · rename_i hs
      cases hsp : a.spot with
      | none => rfl
      | some _ => simp [hsp] at hs
  · cases h

/-- The cells of pairs. -/
def prs (l : List (Int × Int)) : List Value := l.flatMap fun p => [.int .i64 p.1, .int .i64 p.2]
theorem prs_nil : prs [] = [] := rfl
theorem prs_cons (p : Int × Int) (l : List (Int × Int)) : prs (p :: l) = .int .i64 p.1 :: .int .i64 p.2 :: prs l := rfl
theorem prs_len : ∀ l : List (Int × Int), (prs l).length = l.length * 2
  | [] => rfl
  | p :: l => by rw [prs_cons, List.length_cons, List.length_cons, prs_len l, List.length_cons]; omega
theorem prs_append (l m : List (Int × Int)) : prs (l ++ m) = prs l ++ prs m := by simp [prs]
theorem prs_get : ∀ {l : List (Int × Int)} {i : Nat} (h : i < l.length), (prs l)[i * 2]? = some (.int .i64 l[i].1) ∧ (prs l)[i * 2 + 1]? = some (.int .i64 l[i].2)
  | [], i, h => absurd h (by simp)
  | p :: l, 0, _ => ⟨rfl, rfl⟩
  | p :: l, i + 1, h => by
    have := prs_get (l := l) (i := i) (by simpa using h)
    rw [prs_cons, show (i + 1) * 2 = i * 2 + 1 + 1 by omega]
    simpa using this
theorem prs_take : ∀ (l : List (Int × Int)) (q : Nat), (prs l).take (q * 2) = prs (l.take q)
  | [], q => by simp [prs]
  | p :: l, 0 => by simp [prs]
  | p :: l, q + 1 => by
    rw [prs_cons, show (q + 1) * 2 = q * 2 + 1 + 1 by omega, List.take_succ_cons, List.take_succ_cons, List.take_succ_cons, prs_cons, prs_take l q]
theorem prs_one (l : List (Int × Int)) : ((prs l).all fun u => u.oneCell') = true := by
  rw [List.all_eq_true]
  intro u hu
  obtain ⟨p, _, hp⟩ := List.mem_flatMap.1 hu
  simp at hp
  rcases hp with rfl | rfl <;> rfl
theorem Rd.pr {w : World} {B n : Nat} {A : Option Addr} {l : List (Int × Int)} (h : Rd w B 2 A n (prs l)) {i : Nat} (hi : i < l.length) :
    ∃ b off, A = some ⟨b, off, none⟩ ∧ b < B ∧ w.cell? ⟨b, off + i * 2, none⟩ = some (.int .i64 l[i].1) ∧ w.cell? ⟨b, off + i * 2 + 1, none⟩ = some (.int .i64 l[i].2) := by
  have hl : n = l.length := by have := h.1; rw [prs_len] at this; omega
  obtain ⟨b, off, e, hb, hc⟩ := h.2 (by omega)
  obtain ⟨g1, g2⟩ := prs_get hi
  exact ⟨b, off, e, hb, hc _ _ g1, by rw [Nat.add_assoc]; exact hc _ _ g2⟩
theorem Rd.pr_len {w : World} {B n : Nat} {A : Option Addr} {l : List (Int × Int)} (h : Rd w B 2 A n (prs l)) : n = l.length := by have := h.1; rw [prs_len] at this; omega

set_option maxRecDepth 100000 in
set_option maxHeartbeats 1000000 in
/-- slices.Index of links. -/
theorem pIndexL (A : Option Addr) (k c : Nat) (l : List (Int × Int)) (x1 x2 : Int) (w : World) (hl : l.length ≤ 1000) (B : Nat) (hB : B ≤ w.heap.size) (hr : Rd w B 2 A k (prs l)) :
    Calls Try.prog 37 #[.slice A k c, .agg #[.int .i64 x1, .int .i64 x2]] w fun e w' => e = .returned (.int .i64 (idxI l (x1, x2))) ∧ Below w.heap.size w w' := by
  obtain rfl := hr.pr_len
  have HI := Lib.hid (fun q h hx hn => idxI_at (l := l) (x := (x1, x2)) (q := q) h hx hn)
  have HN := Lib.hid (fun h => idxI_none (l := l) (x := (x1, x2)) h)
  have HB1 := Lib.hid ((Below.refl w.heap.size w).alloc (Nat.le_refl _) (.cells #[.int .i64 x1, .int .i64 x2] 33))
  have HX := Lib.hid (blk_new w 33 #[.int .i64 x1, .int .i64 x2])
  have hr := hr.more hB
  have s1 : (w.alloc (.cells #[.int .i64 x1, .int .i64 x2] 33)).heap.size = w.heap.size + 1 := by simp
  go_enter Try.func37, Try.ntmps37
  go_wp2
  go_loopw [8] (fun i wr => ∃ q : Nat, i = .int .i64 q ∧ q ≤ l.length ∧ Hid ((x1, x2) ∉ l.take q) ∧ Below w.heap.size w wr ∧ wr.heap[w.heap.size]? = some (.cells #[.int .i64 x1, .int .i64 x2] 33 (0, 0))) (fun i _ => l.length - (intOf i).toNat)
  case atStart => exact ⟨0, rfl, Nat.zero_le _, by show (x1, x2) ∉ l.take 0; simp, HB1.out, HX.out⟩
  case round =>
    obtain ⟨q, rfl, hq, hn, hb, hx⟩ := hrel
    by_cases hlt : q < l.length
    · obtain ⟨b, off, rfl, _, h0, h1⟩ := (hr.below hb).pr hlt
      have z0 : (0 : Int) ≤ (q : Int) := by omega
      have z1 : (q : Int) < (l.length : Int) := by omega
      have HM := Lib.hid (mem_take_succ (x := (x1, x2)) hlt)
      have HXI := Lib.hid (fun h => HI.out q hlt h hn.out)
      obtain ⟨y, hy⟩ : ∃ y, y = l[q] := ⟨_, rfl⟩
      rw [← hy] at h0 h1 HM HXI
      clear hy
      obtain ⟨y1, y2⟩ := y
      have x0c : wr.cell? ⟨w.heap.size, 0, none⟩ = some (.int .i64 x1) := blk_cell hx 0
      have x1c : wr.cell? ⟨w.heap.size, 1, none⟩ = some (.int .i64 x2) := blk_cell hx 1
      have HBX := Lib.hid (And.intro hb hx)
      clear hb hx
      by_cases he : (y1, y2) = (x1, x2)
      · have HE := Lib.hid (HXI.out he)
        simp only [Prod.mk.injEq] at he
        obtain ⟨rfl, rfl⟩ := he
        clear HXI HM
        go_wp2
        refine wp_region_quiet_lit (by kernel_rfl) (by kernel_rfl) ?_
        repeat (go_big_quiet_step (fail))
        refine wpQuiet_nil ?_
        intro _ hw'
        obtain ⟨nq, hw''⟩ := hw'
        subst hw''
        go_wp2
        go_ret
        exact ⟨ret_int HE.out.symm, below_drewN HBX.out.1 nq⟩
      · have HE := Lib.hid (show (x1, x2) ∉ l.take (q + 1) by rw [HM.out]; exact fun h => h.elim hn.out (fun e => he e.symm))
        have HNE := Lib.hid he
        clear he HXI HM
        go_wp2
        refine wp_region_quiet_lit (by kernel_rfl) (by kernel_rfl) ?_
        repeat (go_big_quiet_step (fail))
        go_big_quiet_want
        go_big_quiet_op
        refine ⟨.bool false, ?_, ?_⟩
        · by_cases h1 : x1 = y1
          · by_cases h2 : x2 = y2
            · subst h1 h2; exact absurd rfl HNE.out
            · simp [h1, h2]
          · simp [h1]
        go_big_quiet_on
        refine wpQuiet_nil ?_
        intro _ hw'
        obtain ⟨nq, hw''⟩ := hw'
        subst hw''
        go_wp2
        go_roundw
        case rel => exact ⟨q + 1, by go_num, by omega, HE.out, below_drewN HBX.out.1 nq, HBX.out.2⟩
        case measure => simp [intOf]; omega
    · obtain rfl : q = l.length := by omega
      have HE := Lib.hid (HN.out (by have := hn.out; rwa [List.take_length] at this))
      go_wp2
      go_ret
      exact ⟨ret_int HE.out.symm, hb⟩
set_option maxHeartbeats 400000 in
/-- slices.Contains of links. -/
theorem pContainsL (r : Bool) (A : Option Addr) (k c : Nat) (l : List (Int × Int)) (x1 x2 : Int) (hrr : decide ((x1, x2) ∈ l) = r) (w : World) (hl : l.length ≤ 1000) (B : Nat) (hB : B ≤ w.heap.size) (hr : Rd w B 2 A k (prs l)) :
    Calls Try.prog 28 #[.slice A k c, .agg #[.int .i64 x1, .int .i64 x2]] w fun e w' => e = .returned (.bool r) ∧ Below w.heap.size w w' := by
  subst hrr
  have HB1 := Lib.hid ((Below.refl w.heap.size w).alloc (Nat.le_refl _) (.cells #[.int .i64 x1, .int .i64 x2] 33))
  have hr := (hr.more hB).below HB1.out
  have H := Lib.hid (pIndexL A k c l x1 x2 (w.alloc (.cells #[.int .i64 x1, .int .i64 x2] 33)) hl w.heap.size (by simp) hr)
  have HD := Lib.hid (show decide (0 ≤ idxI l (x1, x2)) = decide ((x1, x2) ∈ l) from decide_eq_decide.2 (idxI_ge l (x1, x2)).2.2)
  have hb := idxI_ge l (x1, x2)
  have b1 := hb.1
  have b2 := hb.2.1
  have x0c : (w.alloc (.cells #[.int .i64 x1, .int .i64 x2] 33)).cell? ⟨w.heap.size, 0, none⟩ = some (.int .i64 x1) := blk_cell (blk_new w 33 #[.int .i64 x1, .int .i64 x2]) 0
  have x1c : (w.alloc (.cells #[.int .i64 x1, .int .i64 x2] 33)).cell? ⟨w.heap.size, 1, none⟩ = some (.int .i64 x2) := blk_cell (blk_new w 33 #[.int .i64 x1, .int .i64 x2]) 1
  generalize idxI l (x1, x2) = y at *
  clear hb
  go_enter Try.func28, Try.ntmps28
  go_wp2_with fail
  refine H.out.mono ?_
  rintro e w' ⟨rfl, hb⟩
  go_wp2
  go_ret
  exact ⟨ret_bool HD.out, HB1.out.trans (hb.mono (by simp))⟩
end Go.Proofs.Ytlhbmfaoldajdaa
