/-
  WALKS: best, Smooth.
-/
import Derived.Test.YtejjogpgolgdgaaW25
namespace Go.Proofs.Ytejjogpgolgdgaa
open Go.RowKit Pulse

/-- The place of the end with the smallest jump among the first k, -1 for none. -/
def bestTo (es : List End) : Nat → Int
  | 0 => -1
  | k + 1 => match es[k]? with
    | none => bestTo es k
    | some e => if bestTo es k < 0 ∨ e.j < ((es.map (·.j)).getD (bestTo es k).toNat 0) then (k : Int) else bestTo es k
def bestI (es : List End) : Int := bestTo es es.length
theorem bestTo_succ {es : List End} {k : Nat} {e : End} (h : es[k]? = some e) : bestTo es (k + 1) = if bestTo es k < 0 ∨ e.j < ((es.map (·.j)).getD (bestTo es k).toNat 0) then (k : Int) else bestTo es k := by
  rw [bestTo, h]
theorem bestTo_bd (es : List End) : ∀ k, k ≤ es.length → -1 ≤ bestTo es k ∧ bestTo es k < k
  | 0, _ => by simp [bestTo]
  | k + 1, h => by
    have ih := bestTo_bd es k (by omega)
    rw [bestTo_succ (List.getElem?_eq_getElem (show k < es.length by omega))]
    split
    · omega
    · omega
theorem bestTo_pos (es : List End) : ∀ k, k ≤ es.length → 0 < k → 0 ≤ bestTo es k
  | 0, _, h => absurd h (by omega)
  | k + 1, h, _ => by
    rw [bestTo_succ (List.getElem?_eq_getElem (show k < es.length by omega))]
    split
    · omega
    · rename_i hc
      have : ¬ bestTo es k < 0 := fun h => hc (.inl h)
      omega

set_option maxRecDepth 100000 in
set_option maxHeartbeats 4000000 in
theorem pbest (H : Value) (es : List End) (w : World) (hl : es.length ≤ 1000) (hj : ∀ e ∈ es, 0 ≤ e.j ∧ e.j ≤ 6) (X : Nat → Prop) (B : Nat) (hB : B ≤ w.heap.size) (hr : ERow w B X H es) :
    Calls Try.prog 61 #[H] w fun e w' => e = .returned (.int .i64 (bestI es)) ∧ Below w.heap.size w w' := by
  obtain ⟨A, c, rfl, _, _⟩ := hr.cap
  have HR := Lib.hid hr
  have HJ := Lib.hid hj
  have HBI := Lib.hid (show bestI es = bestTo es es.length from rfl)
  have HBD := Lib.hid (fun k h => bestTo_bd es k h)
  clear hr hj
  go_enter Try.func61, Try.ntmps61
  go_wp2
  go_loopw [8, 3] (fun i o wr => ∃ (k : Nat) (b : Int), i = .int .i64 k ∧ o = .int .i64 b ∧ k ≤ es.length ∧ Hid (b = bestTo es k) ∧ Below w.heap.size w wr) (fun i _ _ => es.length - (intOf i).toNat)
  case atStart => exact ⟨0, -1, rfl, rfl, Nat.zero_le _, rfl, Below.refl _ _⟩
  case round =>
    obtain ⟨k, b, rfl, rfl, hk, HB, hbw⟩ := hrel
    have sb := hbw.size
    have hbd := HBD.out k hk
    rw [← HB.out] at hbd
    by_cases hlt : k < es.length
    · obtain ⟨bp, offp, cp, A', c', he, hbp, _, k0, k1, k2, _⟩ := (HR.out.below hbw hB).get hlt
      injection he with e1 e2 e3
      subst e1 e3
      have HS := Lib.hid (bestTo_succ (show es[k]? = some es[k] from List.getElem?_eq_getElem hlt))
      rw [← HB.out] at HS
      have hjk := HJ.out _ (List.getElem_mem hlt)
      obtain ⟨y, hy⟩ : ∃ y, y = es[k] := ⟨_, rfl⟩
      rw [← hy] at k0 k1 k2 HS hjk
      obtain ⟨yj, hyj⟩ : ∃ yj, yj = y.j := ⟨_, rfl⟩
      obtain ⟨yb, hyb⟩ : ∃ yb, yb = y.b := ⟨_, rfl⟩
      rw [← hyj] at k1 HS hjk
      rw [← hyb] at k2
      clear hy hyj hyb
      have z0 : (0 : Int) ≤ (k : Int) := by omega
      have z1 : (k : Int) < (es.length : Int) := by omega
      have hx := blk_new wr 72 #[.slice A' y.v.length c', .int .i64 yj, .int .i64 yb]
      have hb1 := (Below.refl wr.heap.size wr).alloc (Nat.le_refl _) (.cells #[.slice A' y.v.length c', .int .i64 yj, .int .i64 yb] 72)
      have f1 : (wr.alloc (.cells #[.slice A' y.v.length c', .int .i64 yj, .int .i64 yb] 72)).cell? ⟨wr.heap.size, 1, none⟩ = some (.int .i64 yj) := blk_cell hx 1
      have HBW := Lib.hid (hbw.trans (hb1.mono sb))
      by_cases hb0 : b < 0
      · have hd0 : decide (b < 0) = true := decide_eq_true hb0
        have HE := Lib.hid (show bestTo es (k + 1) = k by rw [HS.out, if_pos (.inl hb0)])
        clear hx hb1
        go_wp2
        go_quiet (fail)
        go_wp2
        go_roundw
        case rel => exact ⟨k + 1, k, by go_num, rfl, by omega, HE.out.symm, below_drewN HBW.out nq⟩
        case measure => simp [intOf]; omega
      · have hd0 : decide (b < 0) = false := decide_eq_false hb0
        obtain ⟨m, rfl⟩ := Int.eq_ofNat_of_zero_le (show 0 ≤ b by omega)
        have hmk : m < es.length := by omega
        obtain ⟨bp2, offp2, cp2, A2, c2, he2, _, _, m0, m1, m2, _⟩ := (HR.out.below hbw hB).get hmk
        injection he2 with e1 e2 e3
        injection e1 with e1
        injection e1 with e1 e4 e5
        subst e1 e3 e4
        have m1 := (hb1.cell (p := ⟨bp, offp + m * 3 + 1, none⟩) (show bp < wr.heap.size by omega)).trans m1
        have HG := Lib.hid (show ((es.map (·.j)).getD ((m : Int)).toNat 0) = es[m].j by simp [List.getD, List.getElem?_eq_getElem hmk])
        have hjm := HJ.out _ (List.getElem_mem hmk)
        obtain ⟨t, ht⟩ : ∃ t, t = es[m].j := ⟨_, rfl⟩
        rw [← ht] at m1 HG hjm
        rw [HG.out] at HS
        have z3 : (0 : Int) ≤ (m : Int) := by omega
        have z4 : (m : Int) < (es.length : Int) := by omega
        clear ht hx hb1 m0 m2
        by_cases hc : yj < t
        · have hd1 : decide (yj < t) = true := decide_eq_true hc
          have HE := Lib.hid (show bestTo es (k + 1) = k by rw [HS.out, if_pos (.inr hc)])
          go_wp2
          go_quiet (fail)
          go_wp2
          go_roundw
          case rel => exact ⟨k + 1, k, by go_num, rfl, by omega, HE.out.symm, below_drewN HBW.out nq⟩
          case measure => simp [intOf]; omega
        · have hd1 : decide (yj < t) = false := decide_eq_false hc
          have HE := Lib.hid (show bestTo es (k + 1) = m by rw [HS.out, if_neg (fun h => h.elim (fun h => by omega) (fun h => hc h))])
          go_wp2
          go_quiet (fail)
          go_wp2
          go_roundw
          case rel => exact ⟨k + 1, m, by go_num, rfl, by omega, HE.out.symm, below_drewN HBW.out nq⟩
          case measure => simp [intOf]; omega
    · obtain rfl : k = es.length := by omega
      go_wp2
      go_ret
      exact ⟨ret_int (by rw [HBI.out, ← HB.out]), hbw⟩
end Go.Proofs.Ytejjogpgolgdgaa
