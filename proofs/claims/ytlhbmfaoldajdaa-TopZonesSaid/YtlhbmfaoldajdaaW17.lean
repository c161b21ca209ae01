/-
  WALK: reached's visit.
-/
import Derived.Test.YtlhbmfaoldajdaaW16
namespace Go.Proofs.Ytlhbmfaoldajdaa
open Go.RowKit Go.Maps

theorem list4 {l : List Int} (h : l.length = 4) : ∃ a b c d, l = [a, b, c, d] := by
  match l, h with
  | [a, b, c, d], _ => exact ⟨a, b, c, d, rfl⟩
abbrev z63 : Obj := .cells #[.int .i64 0, .int .i64 0, .int .i64 0, .int .i64 0, .int .i64 0, .int .i64 0, .int .i64 0] 63
set_option maxRecDepth 100000 in
set_option maxHeartbeats 4000000 in
theorem pVisit (Z : Int) (A A' : Option Addr) (k c c' : Nat) (L : List (Int × Int)) (now : List Int) (d : Int) (n : Nat) (T : List Nd) (w : World) (X tb fb ob mb : Nat) (u : Value) (vs : List Value)
    (hZ0 : 0 ≤ Z) (hZ6 : Z ≤ 6) (hn : n ≤ 4) (hl : L.length ≤ 1000) (B : Nat) (hB : B ≤ X) (hXo : X ≤ ob) (hXm : X ≤ mb) (hX : X ≤ w.heap.size) (hr : Rd w B 2 A k (prs L))
    (hst : St w X tb fb ob mb #[.int .i64 Z, .slice A k c] u vs T) (hrow : RowAt w w.heap.size (XF u ob mb) (.slice A' now.length c') now)
    (hT : Tidy Z n T) (hD : Deep T) (x0 : Nd) (hx0 : x0 ∈ T) (hxp : x0.p = now) (hxd : x0.d = d) (hdl : d < T.length) :
    Calls Try.prog 26 #[.slice A' now.length c', .pointer (some ⟨tb, 0, none⟩), .pointer (some ⟨fb, 0, none⟩), .pointer (some ⟨ob, 0, none⟩)] w fun e w' => e = .returned (.tuple #[]) ∧ ∃ u' vs', St w' X tb fb ob mb #[.int .i64 Z, .slice A k c] u' (vs ++ vs') (visit Z L now d T) ∧ Below X w w' := by
  subst hxp hxd
  obtain ⟨hpl, hk4, hd0⟩ := hT.2 x0 hx0
  obtain ⟨now, kk, ⟨m1, m2⟩, d⟩ := x0
  simp only at hpl hk4 hd0 hdl hrow ⊢
  have hd6 : d ≤ 1296 := by have := hT.len hZ6 hn; omega
  have hnl : now.length ≤ 4 := by rw [hpl.1]; exact hn
  obtain ⟨k0, k1, k2, k3, hk0⟩ := key4_cells hnl
  have HKV := Lib.hid (show keyV now = .agg #[.int .i64 k0, .int .i64 k1, .int .i64 k2, .int .i64 k3] by rw [keyV, hk0]; rfl)
  have HK4 := Lib.hid hk0
  have HPL := Lib.hid hpl
  have HX0 := Lib.hid hx0
  clear hk0
  obtain ⟨A2, c2, e2, _, _, rnow⟩ := hrow.read
  injection e2 with e2 _ e3
  subst e2 e3
  obtain ⟨q1, q2, q3, q4, q5, q6⟩ := hst.ne
  have HNE := Lib.hid (And.intro q1 (And.intro q2 (And.intro q3 (And.intro q4 (And.intro q5 q6)))))
  have lt := blk_lt hst.t
  have lf := blk_lt hst.f
  have lo := blk_lt hst.o
  have lm := hst.m.lt
  have HST := Lib.hid (And.intro hst (And.intro hrow (And.intro hT hD)))
  clear q1 q2 q3 q4 q5 q6 hst hrow hpl hx0 hT hD
  go_enter Try.func26, Try.ntmps26
  go_wp2_with fail
  refine (pkeyOf A' now.length c' now w hnl w.heap.size (Nat.le_refl _) rnow).mono ?_
  rintro e w1 ⟨he, hb1⟩
  rw [HKV.out] at he
  subst he
  have s1 := hb1.size
  obtain ⟨hst, hrow, hT, hD⟩ := HST.out
  have st1 := hst.below hb1
  have x0 : (w1.alloc (.cells #[.int .i64 k0, .int .i64 k1, .int .i64 k2, .int .i64 k3] 61)).cell? ⟨tb, 0, none⟩ = some (.int .i64 Z) := blk_cell (blk_alloc st1.t _) 0
  have x1 : (w1.alloc (.cells #[.int .i64 k0, .int .i64 k1, .int .i64 k2, .int .i64 k3] 61)).cell? ⟨tb, 1, none⟩ = some (.slice A k c) := blk_cell (blk_alloc st1.t _) 1
  have hbA := hb1.trans ((((Below.refl w1.heap.size w1).alloc (Nat.le_refl _) (.cells #[.int .i64 k0, .int .i64 k1, .int .i64 k2, .int .i64 k3] 61))).mono s1)
  have HK := Lib.hid (blk_new w1 61 #[.int .i64 k0, .int .i64 k1, .int .i64 k2, .int .i64 k3])
  have sA : (w1.alloc (.cells #[.int .i64 k0, .int .i64 k1, .int .i64 k2, .int .i64 k3] 61)).heap.size = w1.heap.size + 1 := by simp
  have HBA := Lib.hid hbA
  clear hst hrow hT hD st1 hbA hb1
  go_wp2_with fail
  refine (pmoves Z A A' k c now.length c' L now (w1.alloc (.cells #[.int .i64 k0, .int .i64 k1, .int .i64 k2, .int .i64 k3] 61)) hZ0 hZ6 hl (by omega) w.heap.size (by omega) ((hr.more (by omega)).below HBA.out) (rnow.below HBA.out)).mono ?_
  rintro e w2 ⟨vM, rfl, hown2, hb2⟩
  have s2 := hb2.size
  obtain ⟨AM, cM, rfl, _, _⟩ := own_cap hown2
  have HKB := Lib.hid (blk_below HK.out hb2 (by omega))
  have HB2 := Lib.hid (HBA.out.trans (hb2.mono (by omega)))
  obtain ⟨M, hM⟩ : ∃ M, M = movesL Z L now := ⟨_, rfl⟩
  have HM := Lib.hid hM
  have HSU := Lib.hid (fun (T : List Nd) (j : Nat) (h : j < M.length) => show visTo Z L now d T (j + 1) = visM now d (visTo Z L now d T j) M[j] by subst hM; exact visTo_succ h)
  rw [← hM] at hown2 ⊢
  have HOM := Lib.hid hown2
  have HOL := Lib.hid (fun g h => hown2.lt g h)
  have hM24 : M.length ≤ 1000 := by
    have h1 := movesTo_len Z L now now.length
    have h2 : now.length * Z.toNat ≤ 4 * 6 := Nat.mul_le_mul hnl (by omega)
    have h3 : movesL Z L now = movesTo Z L now now.length := rfl
    rw [hM, h3]; omega
  clear hM hown2 x0 x1 hb2
  have HB2W := Lib.hid (show w2.heap.size ≤ w2.heap.size from Nat.le_refl _)
  go_wp2
  go_loopw [17] (fun i wr => ∃ (j : Nat) (u1 : Value) (vs1 : List Value), i = .int .i64 j ∧ j ≤ M.length ∧ St wr X tb fb ob mb #[.int .i64 Z, .slice A k c] u1 (vs ++ vs1) (visTo Z L now d T j) ∧ RowAt wr wr.heap.size (XF u1 ob mb) (.slice A' now.length c') now ∧ wr.ownsRow (w1.heap.size + 1) 57 2 (.slice AM M.length cM) M.length (prs M) ∧ wr.heap[w1.heap.size]? = some (.cells #[.int .i64 k0, .int .i64 k1, .int .i64 k2, .int .i64 k3] 61 (0, 0)) ∧ (∀ g, u1.ownBlock = some g → g < w.heap.size ∨ w2.heap.size ≤ g) ∧ Below X w wr ∧ w2.heap.size ≤ wr.heap.size) (fun i _ => M.length - (intOf i).toNat)
  case atStart =>
    obtain ⟨hst, hrow, hT, hD⟩ := HST.out
    have st2 := hst.below HB2.out
    exact ⟨0, u, [], rfl, Nat.zero_le _, by rw [visTo_zero, List.append_nil]; exact st2, (hrow.below HB2.out (Nat.le_refl _)).more HB2.out.size, by rw [sA] at HOM; exact HOM.out, HKB.out, fun g hg => .inl (hst.ne.2.2.2.2.2 g hg).2.1, HB2.out.mono hX, Nat.le_refl _⟩
  case round =>
    obtain ⟨j, u1, vs1, rfl, hj, hst, hrow, hown, hk, hU, hb, hs2⟩ := hrel
    have lk := blk_lt hk
    have sb := hb.size
    by_cases hlt : j < M.length
    · obtain ⟨b, off, rfl, lb, g0, g1⟩ := (Rd.of_own hown).pr hlt
      obtain ⟨T1, hT1⟩ : ∃ T1, T1 = visTo Z L now d T j := ⟨_, rfl⟩
      have hjM : j ≤ (movesL Z L now).length := by rw [← HM.out]; exact hj
      have hTj := HST.out.2.2.1.visTo (L := L) HPL.out hn hd0 j hjM
      have hDj := HST.out.2.2.2.visTo (Z := Z) (L := L) (now := now) hdl j hjM
      obtain ⟨rr, hpre⟩ := visTo_pre Z L now d T j hjM
      have hx1 : (⟨now, kk, (m1, m2), d⟩ : Nd) ∈ visTo Z L now d T j := by rw [hpre]; exact List.mem_append_left _ HX0.out
      have HS1 := Lib.hid (HSU.out T j hlt)
      have hrf : refuseE Z L now M[j] = 0 := mem_movesL.1 (by rw [← HM.out]; exact List.getElem_mem hlt)
      rw [← hT1] at hst hTj hDj hx1 HS1
      clear hpre hT1 hjM
      obtain ⟨y, hy⟩ : ∃ y, y = M[j] := ⟨_, rfl⟩
      rw [← hy] at g0 g1 HS1 hrf
      clear hy
      obtain ⟨y1, y2⟩ := y
      have hlen1 : T1.length ≤ 1296 := hTj.len hZ6 hn
      have HPN := Lib.hid (HPL.out.move hrf)
      obtain ⟨i, hi, hil, _, _, _⟩ := refuseE_ok hrf
      have hi : y1 = (i : Int) := hi
      subst hi
      clear hrf
      obtain ⟨a0, a1, a2, a3, ha⟩ := list4 hk4
      have HL0 := Lib.hid (fun (W : World) (h : St W X tb fb ob mb #[.int .i64 Z, .slice A k c] u1 (vs ++ vs1) T1) => h.look (c := false) hTj hZ6 hn hx1)
      subst ha
      have zi0 : (0 : Int) ≤ (i : Int) := by omega
      have zi1 : (i : Int) < (now.length : Int) := by omega
      have zj0 : (0 : Int) ≤ (j : Int) := by omega
      have zj1 : (j : Int) < (M.length : Int) := by omega
      have rn := hrow.read
      obtain ⟨A9, c9, e9, _, _, rn⟩ := rn
      injection e9 with e9 _ e10
      subst e9 e10
      have hba : Below wr.heap.size wr (wr.alloc (.cells #[.int .i64 i, .int .i64 y2] 57)) := (Below.refl wr.heap.size wr).alloc (Nat.le_refl _) _
      have HBox := Lib.hid (blk_new wr 57 #[.int .i64 i, .int .i64 y2])
      have HBA1 := Lib.hid hba
      have HCL := Lib.hid (pClone A' now.length c' now (wr.alloc (.cells #[.int .i64 i, .int .i64 y2] 57)) (by omega) wr.heap.size (by simp) (rn.below hba))
      have sa : (wr.alloc (.cells #[.int .i64 i, .int .i64 y2] 57)).heap.size = wr.heap.size + 1 := by simp
      have HR := Lib.hid (And.intro hst (And.intro hrow (And.intro hown (And.intro hk (And.intro hU (And.intro hb (And.intro hTj hDj)))))))
      clear hst hrow hown hk hU hb hTj hDj rn hba hx1
      go_wp2_with fail
      refine HCL.out.mono ?_
      rintro e w3 ⟨v3, rfl, hown3, hb3⟩
      clear HCL
      obtain ⟨g3, cap, hv, hg1, hg2⟩ := hown3.form (by omega)
      subst hv
      have s3 := hb3.size
      have cb : w3.heap[wr.heap.size]? = some (.cells #[.int .i64 i, .int .i64 y2] 57 (0, 0)) := blk_below HBox.out hb3 (by omega)
      have v0 : w3.cell? ⟨wr.heap.size, 0, none⟩ = some (.int .i64 i) := blk_cell cb 0
      have v1 : w3.cell? ⟨wr.heap.size, 1, none⟩ = some (.int .i64 y2) := blk_cell cb 1
      have c1 := own_int hown3 (i := i) (by omega)
      have f1 := own_frozen hown3 i
      have HB3 := Lib.hid (HBA1.out.trans (hb3.mono (by omega)))
      have HOX := Lib.hid (own_seti (i := i) hown3 y2)
      have HCB := Lib.hid cb
      clear hown3 hb3 cb
      go_upto_region 6 with fail
      obtain ⟨w4, hw4⟩ : ∃ w4, w4 = w3.setCell ⟨g3, i, none⟩ (.int .i64 y2) := ⟨_, rfl⟩
      rw [← hw4] at HOX ⊢
      obtain ⟨p, hp⟩ : ∃ p, p = doM now ((i : Int), y2) := ⟨_, rfl⟩
      have HOX := Lib.hid (show w4.ownsRow (wr.alloc (.cells #[.int .i64 i, .int .i64 y2] 57)).heap.size 3 1 (.slice (some ⟨g3, 0, none⟩) now.length cap) now.length (ints p) from by rw [hp]; exact HOX.out)
      rw [← hp] at HPN
      have HP := Lib.hid hp
      have hb4 : Below wr.heap.size wr w4 := by rw [hw4]; exact HB3.out.setCell (p := ⟨g3, i, none⟩) (by show wr.heap.size ≤ g3; omega) _
      have s4 := hb4.size
      have cb4 : w4.heap[wr.heap.size]? = some (.cells #[.int .i64 i, .int .i64 y2] 57 (0, 0)) := by rw [hw4]; exact blk_far HCB.out (p := ⟨g3, i, none⟩) (by show wr.heap.size ≠ g3; omega) _
      have ls4 : wr.heap.size + 1 ≤ w4.heap.size := by rw [hw4, World.size_setCell]; omega
      have st4 := HR.out.1.below hb4
      have cf4 : w4.cell? ⟨fb, 0, none⟩ = some (.map (some mb)) := blk_cell st4.f 0
      obtain ⟨found, b0, b1, b2, b3, b4, b5, b6, hfd, hlk⟩ : ∃ found b0 b1 b2 b3 b4 b5 b6, found = decide (p ∈ T1.map (·.p)) ∧ ∀ W, St W X tb fb ob mb #[.int .i64 Z, .slice A k c] u1 (vs ++ vs1) T1 → (Instr.lookup 48 (.map (some mb)) (keyV p) true).run Try.prog W = .ok (.tuple #[.agg #[.int .i64 b0, .int .i64 b1, .int .i64 b2, .int .i64 b3, .int .i64 b4, .int .i64 b5, .int .i64 b6], .bool found]) W := by
        obtain ⟨hst, hrow, hown, hk, hU, hb, hTj, hDj⟩ := HR.out
        by_cases hm : p ∈ T1.map (·.p)
        · obtain ⟨x, hx, rfl⟩ := List.mem_map.1 hm
          obtain ⟨e0, e1, e2, e3, he⟩ := list4 (hTj.2 x hx).2.1
          refine ⟨true, e0, e1, e2, e3, x.m.1, x.m.2, x.d, (decide_eq_true hm).symm, fun W hW => ?_⟩
          have := hW.look (c := true) hTj hZ6 hn hx
          rw [this, stepZ, he]; rfl
        · exact ⟨false, 0, 0, 0, 0, 0, 0, 0, (decide_eq_false hm).symm, fun W hW => hW.look_none hTj hZ6 hn HPN.out hm⟩
      have HFD := Lib.hid hfd
      have lfw : fb < w4.heap.size := blk_lt st4.f
      have HKC := Lib.hid (fun (W : World) (hW : Below w4.heap.size w4 W) => show Calls Try.prog 24 #[.slice (some ⟨g3, 0, none⟩) now.length cap] W (fun e w' => e = .returned (keyV p) ∧ Below w4.heap.size w4 w' ∧ Below W.heap.size W w' ∧ w'.cell? ⟨fb, 0, none⟩ = some (.map (some mb)) ∧ (w'.alloc z63).cell? ⟨fb, 0, none⟩ = some (.map (some mb)) ∧ (Instr.lookup 48 (.map (some mb)) (keyV p) true).run Try.prog w' = .ok (.tuple #[.agg #[.int .i64 b0, .int .i64 b1, .int .i64 b2, .int .i64 b3, .int .i64 b4, .int .i64 b5, .int .i64 b6], .bool found]) w' ∧ (Instr.lookup 48 (.map (some mb)) (keyV p) true).run Try.prog (w'.alloc z63) = .ok (.tuple #[.agg #[.int .i64 b0, .int .i64 b1, .int .i64 b2, .int .i64 b3, .int .i64 b4, .int .i64 b5, .int .i64 b6], .bool found]) (w'.alloc z63)) from by
        have hpl : p.length = now.length := by rw [HPN.out.1, HPL.out.1]
        refine (pkeyOf _ now.length cap p W (by omega) w4.heap.size hW.size ((Rd.of_own HOX.out).below hW)).mono ?_
        rintro e w' ⟨rfl, hb'⟩
        have hB' := hW.trans (hb'.mono hW.size)
        have hA' : Below w4.heap.size w4 (w'.alloc z63) := hB'.trans ((Below.refl w4.heap.size w').alloc hB'.size _)
        exact ⟨rfl, hB', hb', (hB'.cell (p := ⟨fb, 0, none⟩) lfw).trans cf4, (hA'.cell (p := ⟨fb, 0, none⟩) lfw).trans cf4, hlk _ (st4.below hB'), hlk _ (st4.below hA')⟩)
      have HB4 := Lib.hid (And.intro hb4 (And.intro cb4 (And.intro st4 hfd)))
      have nb0 : Below w4.heap.size w4 w4.drew := (Below.refl _ _).drew
      have nb1 : Below w4.heap.size w4 (w4.drew.alloc z63) := nb0.trans ((Below.refl w4.heap.size w4.drew).alloc (Nat.le_refl _) _)
      clear hw4 hp hb4 cb4 st4 hfd hlk v0 v1 c1 f1
      go_cut [9, 10] from 18 to 53 (fun s9 s10 wx => s10 = .bool found ∧ Below w4.heap.size w4 wx)
      case first =>
        have zb := Lib.hid (show (w4.drew.alloc z63).heap[w4.heap.size]? = some (.cells #[.int .i64 0, .int .i64 0, .int .i64 0, .int .i64 0, .int .i64 0, .int .i64 0, .int .i64 0] 63 (0, 0)) from blk_new w4.drew 63 #[.int .i64 0, .int .i64 0, .int .i64 0, .int .i64 0, .int .i64 0, .int .i64 0, .int .i64 0])
        go_region_with (first
          | (go_at_call 24; refine (HKC.out _ nb1).mono ?_; rintro e w5 ⟨rfl, hb5, hbW, cf5, cf5a, lk5, lk5a⟩; have s5 := hb5.size; have hz := blk_below zb.out hbW (by simp); have y0 := blk_cell hz 0; have y1 := blk_cell hz 1; have y2' := blk_cell hz 2; have y3 := blk_cell hz 3; have y4 := blk_cell hz 4; have y5 := blk_cell hz 5; have y6 := blk_cell hz 6; have f0 := blk_frozen hz 0; have f1 := blk_frozen hz 1; have f2 := blk_frozen hz 2; have f3 := blk_frozen hz 3; have f4 := blk_frozen hz 4; have f5 := blk_frozen hz 5; have f6 := blk_frozen hz 6; clear hbW hz)
          | (go_at_call 24; refine (HKC.out _ nb0).mono ?_; rintro e w5 ⟨rfl, hb5, hbW, cf5, cf5a, lk5, lk5a⟩; have s5 := hb5.size; clear hbW))
        all_goals (go_wp2_with fail; go_meet)
        all_goals (refine ⟨rfl, ?_⟩)
        all_goals (repeat (first | with_reducible exact hb5 | with_reducible refine Below.setCell ?_ ?_ _ | with_reducible refine Below.alloc ?_ ?_ _ | with_reducible exact Nat.le_refl _ | with_reducible exact s5))
      case rest =>
        obtain ⟨rfl, hb5⟩ := hcut
        clear nb0 nb1 HKC cf4 lfw
        obtain ⟨hst, hrow, hown, hk, hU, hb, hTj, hDj⟩ := HR.out
        obtain ⟨hb4, cb4, st4, hfd⟩ := HB4.out
        have HR0 := Lib.hid (fun g h => (hst.ne.2.2.2.2.2 g h).2.1)
        have hbw := hb4.trans (hb5.mono s4)
        have sw := hbw.size
        have stc := hst.below hbw
        have rowc := (hrow.below hbw (Nat.le_refl _)).more sw
        have ownc := own_below hown hbw
        have kc := blk_below hk hbw lk
        have bxc := blk_below cb4 hb5 (by omega)
        have nxc := own_below HOX.out hb5
        have hpl : p.length = now.length := by rw [HPN.out.1, HPL.out.1]
        have HC := Lib.hid (And.intro stc (And.intro rowc (And.intro ownc (And.intro kc (And.intro nxc (hb.trans (hbw.mono (Nat.le_trans hX sb))))))))
        have HSZ := Lib.hid sw
        clear hst hrow hown hk hb hTj hDj hb4 cb4 st4 hb5 hbw HOX HB4 HR
        cases found with
        | true =>
          have HE := Lib.hid (show visTo Z L now d T (j + 1) = T1 by
            rw [HS1.out, visM, ← HP.out, if_pos (of_decide_eq_true hfd.symm)])
          clear hfd stc rowc ownc kc bxc nxc
          go_wp2
          go_roundw
          case rel => exact ⟨j + 1, u1, vs1, by go_num, by omega, by rw [HE.out]; exact HC.out.1, HC.out.2.1, HC.out.2.2.1, HC.out.2.2.2.1, hU, HC.out.2.2.2.2.2, Nat.le_trans hs2 HSZ.out⟩
          case measure => simp [intOf]; omega
        | false =>
          have HNM := Lib.hid (of_decide_eq_false hfd.symm)
          have HE := Lib.hid (show visTo Z L now d T (j + 1) = T1 ++ [⟨p, key4 now, ((i : Int), y2), d + 1⟩] by
            rw [HS1.out, visM, ← HP.out, if_neg HNM.out])
          clear hfd
          have HUL := Lib.hid (fun g h => (HR0.out g h))
          obtain ⟨Au, cu, rfl, _, _⟩ := own_cap stc.r
          have HKO := Lib.hid (keyOf_place (HPN.out.kok hZ6 hn))
          have HVAL := Lib.hid (show stepElem (.agg #[.int .i64 k0, .int .i64 k1, .int .i64 k2, .int .i64 k3, .int .i64 i, .int .i64 y2, .int .i64 (d + 1)]) = some (stepD (stepZ ⟨p, key4 now, ((i : Int), y2), d + 1⟩), []) from by
            rw [stepZ, HK4.out]; exact stepElem_mk (zs := [k0, k1, k2, k3, (i : Int), y2, d + 1]) rfl)
          have HNE1 := Lib.hid stc.ne
          have lfc := blk_lt stc.f
          have lkc : w1.heap.size < wc.heap.size := blk_lt kc
          have lbc := blk_lt bxc
          have k_f : wc.cell? ⟨fb, 0, none⟩ = some (.map (some mb)) := blk_cell stc.f 0
          have k_0 : wc.cell? ⟨w1.heap.size, 0, none⟩ = some (.int .i64 k0) := blk_cell kc 0
          have k_1 : wc.cell? ⟨w1.heap.size, 1, none⟩ = some (.int .i64 k1) := blk_cell kc 1
          have k_2 : wc.cell? ⟨w1.heap.size, 2, none⟩ = some (.int .i64 k2) := blk_cell kc 2
          have k_3 : wc.cell? ⟨w1.heap.size, 3, none⟩ = some (.int .i64 k3) := blk_cell kc 3
          have k_4 : wc.cell? ⟨wr.heap.size, 0, none⟩ = some (.int .i64 i) := blk_cell bxc 0
          have k_5 : wc.cell? ⟨wr.heap.size, 1, none⟩ = some (.int .i64 y2) := blk_cell bxc 1
          have lk := fun s => show (Instr.lookup 48 (.map (some mb)) (.agg #[.int .i64 k0, .int .i64 k1, .int .i64 k2, .int .i64 k3]) false).run Try.prog (mergeW wc s) = .ok (.agg #[.int .i64 a0, .int .i64 a1, .int .i64 a2, .int .i64 a3, .int .i64 m1, .int .i64 m2, .int .i64 d]) (mergeW wc s) from by
            have := HL0.out _ (HC.out.1.below (below_mergeW wc s))
            rw [show keyV (⟨now, [a0, a1, a2, a3], (m1, m2), d⟩ : Nd).p = keyV now from rfl, HKV.out] at this
            exact this
          have HA := Lib.hid (fun s => pkeyOf (some ⟨g3, 0, none⟩) now.length cap p (mergeW wc s) (by omega) wc.heap.size (below_mergeW wc s).size ((Rd.of_own nxc).below (below_mergeW wc s)))
          have hfd : ∀ w : World, (Instr.field 63 (.agg #[.int .i64 a0, .int .i64 a1, .int .i64 a2, .int .i64 a3, .int .i64 m1, .int .i64 m2, .int .i64 d]) 2).run Try.prog w = .ok (.int .i64 d) w := fun _ => by kernel_rfl
          have hbd : ∀ w : World, (Instr.build 63 #[(0, .agg #[.int .i64 k0, .int .i64 k1, .int .i64 k2, .int .i64 k3]), (1, .agg #[.int .i64 i, .int .i64 y2]), (2, .int .i64 (d + 1))]).run Try.prog w = .ok (.agg #[.int .i64 k0, .int .i64 k1, .int .i64 k2, .int .i64 k3, .int .i64 i, .int .i64 y2, .int .i64 (d + 1)]) w := fun _ => by kernel_rfl
          have mc := cell_mergeW wc
          have mf := frozen_mergeW wc
          clear stc rowc ownc kc bxc nxc HL0
          go_wp2
          refine wp_region_btail 11 (by kernel_rfl) (by kernel_rfl) ?_
          simp only [List.take_succ_cons, List.take_zero, List.drop_succ_cons, List.drop_zero]
          repeat (go_big_quiet_step (first | (go_at_call 24; refine (HA.out _).mono ?_; rintro e w6 ⟨rfl, hb6⟩; exact ⟨rfl, in_mergeW hb6⟩)))
          refine wpQuiet_nil ?_
          rintro w6 ⟨s6, hs6⟩
          have hb6 := below_mergeW wc s6
          rw [← hs6] at hb6
          clear hs6 mc mf HA k_f k_0 k_1 k_2 k_3 k_4 k_5 lk hfd hbd
          have sz6 := hb6.size
          have st6 := HC.out.1.below hb6
          have m6 := st6.m
          have r6 := st6.r
          have o6 := st6.o
          have HST6 := Lib.hid st6
          have HB6 := Lib.hid hb6
          clear st6 hb6
          have q3 := HNE1.out.2.2.1
          have q6 := HNE1.out.2.2.2.2.2
          have HQ6 := Lib.hid q6
          clear q6
          go_wp2_with (first
            | (at_mapUpdate; go_must (refine wpList_mapUpdate_own _ rfl _ _ _ 48 rfl 61 63 law61 Try.underlying48 stepElem mb T1.length (mapN T1) rfl m6 (by unfold maxLen; omega) _ _ (keyL p) rfl rfl HKO.out _ [] HVAL.out ?_); intro w7 hown7 hg7; have r7 := own_grown_far r6 hg7 (fun g h e => by injection e with e; have := (HQ6.out g h).2.2.1; omega); have o7 := blk_grown o6 hg7 (fun e => q3 (by injection e with e; exact e.symm)); have e7 : w7.cell? ⟨ob, 0, none⟩ = some (.slice Au T1.length cu) := blk_cell o7 0; have s7 := hg7.size)
            | (at_builtin; go_must (refine app1x rfl (.tmp 49) (.tmp 51) 67 rfl 25 _ 1 24 E67 X _ _ _ _ rfl r7 _ rfl ?_ ?_ ?_ ?_ ?_ ?_); rfl; rfl; rfl; omega; omega; intro v8 w8 hown8 hg8 hx8; obtain ⟨A8, c8, rfl, _, _⟩ := own_cap hown8; have o8 := blk_grown o7 hg8 (fun e => by have := (HQ6.out ob e.symm).2.2.2.1; omega); have e8 : w8.cell? ⟨ob, 0, none⟩ = some (.slice Au T1.length cu) := blk_cell o8 0; have f8 := blk_frozen o8 0))
          have sz8 := hg8.size
          have sz7 := hg7.size
          have n5 := HQ6.out
          have lob : ob < w6.heap.size := blk_lt o6
          have HRW := show RowAt w6 w6.heap.size (XF (.slice Au T1.length cu) ob mb) (.slice (some ⟨g3, 0, none⟩) now.length cap) p from by
            have h0 := own_below HC.out.2.2.2.2.1 HB6.out
            rw [← hpl] at h0 ⊢
            refine RowAt.of_own h0 (fun g hg => ?_)
            rcases hg with hg | hg | hg
            · omega
            · omega
            · rw [sa]
              rcases hU g hg with hg' | hg'
              · omega
              · exact Nat.lt_succ_of_lt (HUL.out g hg)
          have hnew := HST6.out.push (x := ⟨p, key4 now, ((i : Int), y2), d + 1⟩) (by rw [mapN_snoc]; exact hown7) hg7 HRW hown8 hg8 hx8
          have hold := HST6.out.row_push hg7 ((HC.out.2.1.below HB6.out (Nat.le_refl _)).more sz6) hg8 hx8
          have HFAR : ∀ g, g < w6.heap.size → g ≠ mb → g ≠ ob → (Value.slice Au T1.length cu).ownBlock ≠ some g → (w8.setCell ⟨ob, 0, none⟩ (.slice A8 (T1.length + 1) c8)).heap[g]? = w6.heap[g]? := fun g h1 h2 h3 h4 =>
            (Below.heap_setCell _ _ _ _ h3).trans ((hg8.block g (by omega) (fun e => h4 e.symm)).trans (hg7.block g h1 (fun e => h2 (by injection e))))
          have hmv := own_keep (own_below HC.out.2.2.1 HB6.out) (fun g hg => by
            have h1 := HOL.out g hg
            refine HFAR g (by omega) (by omega) (by omega) (fun e => ?_)
            have := hU g e
            omega)
          have hkk := (HFAR w1.heap.size (by omega) (by omega) (by omega) (fun e => by have := hU _ e; omega)).trans (blk_below HC.out.2.2.2.1 HB6.out lkc)
          have hbb := (((HC.out.2.2.2.2.2.trans (HB6.out.mono (by have := HC.out.2.2.2.2.2.size; omega))).grown hg7 (by omega) (fun g h => by injection h with h; omega)).grown hg8 (by omega) (fun g h => (n5 g h).1)).setCell (p := ⟨ob, 0, none⟩) hXo (.slice A8 (T1.length + 1) c8)
          refine ⟨⟨j + 1, .slice A8 (T1.length + 1) c8, vs1 ++ [.slice (some ⟨g3, 0, none⟩) now.length cap], by go_num, by omega, ?_, hold, hmv, hkk, fun g hg => ?_, hbb, by rw [World.size_setCell]; omega⟩, by simp [intOf]; omega⟩
          · rw [HE.out, ← List.append_assoc]; exact hnew
          · rcases hx8 with e | ⟨g', e, hge⟩
            · rw [e] at hg; exact hU g hg
            · rw [e] at hg; injection hg with hg; right; omega
    · obtain rfl : j = M.length := by omega
      have HV := Lib.hid (show visTo Z L now d T M.length = visit Z L now d T by rw [HM.out]; rfl)
      rw [HV.out] at hst
      have HF := Lib.hid (And.intro hst hb)
      clear hst hrow hown hk hb
      go_wp2
      refine bodyPost_end (results_none rfl _ _ _) rfl ?_
      exact ⟨rfl, _, _, HF.out.1, HF.out.2⟩
end Go.Proofs.Ytlhbmfaoldajdaa
