/-
  WALK: chain.
-/
import Derived.Test.YtlhbmfaoldajdaaW9
import Derived.Test.YtlhbmfaoldajdaaP2
namespace Go.Proofs.Ytlhbmfaoldajdaa
open Go.RowKit

theorem placeOf_eq {α : Type} (p : α → Bool) : ∀ l : List α, placeOf p l = plcI p l
  | [] => rfl
  | a :: l => by
    have ih := placeOf_eq p l
    have hg := plcI_ge p l
    unfold placeOf at ih ⊢
    rw [List.any_cons, List.findIdx_cons, plcI]
    cases h : p a with
    | true => simp
    | false =>
      cases h2 : l.any p with
      | true =>
        rw [h2] at ih
        simp only [Bool.or_true, if_true, Bool.false_eq_true, if_false, cond_false] at ih ⊢
        rw [if_neg (by omega)]
        omega
      | false =>
        rw [h2] at ih
        simp only [Bool.or_false, Bool.false_eq_true, if_false] at ih ⊢
        rw [if_pos (by omega)]
/-! ### the class of the worlds that have turned in one row alone -/
section
open Classical
noncomputable def mergeG (W : World) (row : Option Nat) (s : World) : World := if W.grownBy s row then s else W
theorem mergeG_of {W s : World} {row : Option Nat} (h : W.grownBy s row) : s = mergeG W row s := by
  unfold mergeG
  rw [if_pos h]
theorem grown_mergeG (W : World) (row : Option Nat) (s : World) : W.grownBy (mergeG W row s) row := by
  unfold mergeG
  split
  · assumption
  · exact World.grownBy.refl W _
theorem cell_mergeG (W : World) (row : Option Nat) (s : World) (b o : Nat) (h : b < W.heap.size) (hr : some b ≠ row) : (mergeG W row s).cell? ⟨b, o, none⟩ = W.cell? ⟨b, o, none⟩ := World.cell?_of_block ((grown_mergeG W row s).block b h hr)
end
theorem cell_mergeG' (W : World) (g : Nat) (s : World) (b o : Nat) (h : b < W.heap.size) (hr : ¬ b = g) : (mergeG W (some g) s).cell? ⟨b, o, none⟩ = W.cell? ⟨b, o, none⟩ := cell_mergeG W _ s b o h (fun e => hr (by injection e))
theorem frozen_mergeG' (W : World) (g : Nat) (s : World) (b o : Nat) (h : b < W.heap.size) (hr : ¬ b = g) : (mergeG W (some g) s).frozen? ⟨b, o, none⟩ = W.frozen? ⟨b, o, none⟩ := by
  have := (grown_mergeG W (some g) s).block b h (fun e => hr (by injection e))
  simp only [World.frozen?, this]
section
variable {P : Program} {w : World} {ops : Array Oper} {rest : List Oper} {o : Oper} {a : Act} {Q : Exit → Act → World → Prop}
/-- 'appN', with where the row then lies. -/
theorem appNx (hgd : o.guard = none) (s x : Operand) (t : TypeId) (ho : o.op = .call { callee := .builtin .append, args := #[s, x], argTypes := #[t, t] })
    (e : TypeId) (z : Value) (size bytes : Nat) (E : EOk P t e z size bytes) (base : Nat) (v : Value) (n : Nat) (xs : List Value) (hs : a.eval s = v) (hown : w.ownsRow base e size v n xs)
    (B : Nat) (A : Option Addr) (m c : Nat) (news : List Value) (hx : a.eval x = .slice A m c) (hr : Rd w B size A m news) (h1 : (news.all fun u => u.oneCell') = true) (hn : n + m ≤ 1000000) (hbase : base ≤ w.heap.size)
    (h : ∀ v' w', w'.ownsRow base e size v' (n + m) (xs ++ news) → w.grownBy w' v.ownBlock → (v'.ownBlock = v.ownBlock ∨ v'.ownBlock = some w.heap.size) → wpList P ops Q rest (a.put o.dst v') w') : wpList P ops Q (o :: rest) a w :=
  wpList_plain hgd fun _ hK => by
    obtain ⟨v', w', hrun, h2, h3, h4⟩ := run_appN (P := P) base t o.type e z size bytes E v n xs hown B A m c news hr h1 hn hbase
    unfold Oper.wp execOp
    simp only [ho, resolve, invoke, builtin, Sem.run_bind, Sem.run_pure, Result.andThen_ok, List.map_toArray, List.map_cons, List.map_nil, hs, hx, hrun]
    exact hK _ _ (h v' w' h2 h3 h4)
end
def lenAt (w : World) (b : Nat) : Nat := match w.cell? ⟨b, 0, none⟩ with
  | some (.slice _ n _) => n
  | _ => 0
theorem lenAt_of {w : World} {b n c : Nat} {A : Option Addr} (h : w.cell? ⟨b, 0, none⟩ = some (.slice A n c)) : lenAt w b = n := by unfold lenAt; rw [h]

theorem pchFn (z : Int) (x : Nat) (Au : Option Addr) (n cu : Nat) (out : List Int) (W : World) (ho : out.length ≤ 1000) (B : Nat) (hB : B ≤ W.heap.size) (hg : W.heap[x]? = some (.cells #[.slice Au n cu] 25 (0, 0))) (hr : Rd W B 1 Au n (ints out)) :
    Calls Try.prog 39 #[.int .i64 z, .pointer (some ⟨x, 0, none⟩)] W fun e W' => e = .returned (.bool (!decide (z ∈ out))) ∧ Below W.heap.size W W' := by
  have c0 : W.cell? ⟨x, 0, none⟩ = some (.slice Au n cu) := blk_cell hg 0
  obtain ⟨r, hrr⟩ : ∃ r, r = decide (z ∈ out) := ⟨_, rfl⟩
  have HR := Lib.hid hrr.symm
  rw [← hrr]
  clear hrr hg
  go_enter Try.func39, Try.ntmps39
  go_wp2_with fail
  refine (pContains r Au n cu out z HR.out W ho B hB hr).mono ?_
  rintro e w' ⟨rfl, hb⟩
  go_wp2
  go_ret
  exact ⟨rfl, hb⟩

set_option maxRecDepth 100000 in
set_option maxHeartbeats 4000000 in
theorem pchain (Z : Int) (A : Option Addr) (k c : Nat) (L : List (Int × Int)) (a : Int) (w : World) (hZ0 : 1 ≤ Z) (hZ6 : Z ≤ 6) (ha : 0 ≤ a ∧ a < Z) (hl : L.length ≤ 1000) (B : Nat) (hB : B ≤ w.heap.size) (hr : Rd w B 2 A k (prs L)) :
    Calls Try.prog 34 #[.agg #[.int .i64 Z, .slice A k c], .int .i64 a] w fun e w' => ∃ v, e = .returned v ∧ w'.ownsRow w.heap.size 3 1 v (chainL Z L a).length (ints (chainL Z L a)) ∧ Below w.heap.size w w' := by
  have hr := hr.more hB
  have HOK := Lib.hid (fun k => chSt_ok (L := L) ha k)
  have HSTEP := Lib.hid (fun k => show chSt Z L a (k + 1) = chStep Z L (chSt Z L a k) from rfl)
  have HSTAY := Lib.hid (fun k h => chSt_stay (Z := Z) (L := L) (a := a) (k := k) h)
  have HNL := Lib.hid (fun z => nearL_len Z L z)
  have HB1 := Lib.hid ((((Below.refl w.heap.size w).alloc (Nat.le_refl _) (.cells #[.int .i64 Z, .slice A k c] 24)).alloc (by simp) (.cells #[.int .i64 a] 3)).alloc (by simp; omega) (.cells #[.slice (some ⟨w.heap.size + 1, 0, none⟩) 1 1] 25))
  have HX := Lib.hid (blk_alloc (blk_alloc (blk_new w 24 #[.int .i64 Z, .slice A k c]) (.cells #[.int .i64 a] 3)) (.cells #[.slice (some ⟨w.heap.size + 1, 0, none⟩) 1 1] 25))
  have HY := Lib.hid (show (((w.alloc (.cells #[.int .i64 Z, .slice A k c] 24)).alloc (.cells #[.int .i64 a] 3)).alloc (.cells #[.slice (some ⟨w.heap.size + 1, 0, none⟩) 1 1] 25)).heap[w.heap.size + 2]? = some (.cells #[.slice (some ⟨w.heap.size + 1, 0, none⟩) 1 1] 25 (0, 0)) from by
    have := blk_new ((w.alloc (.cells #[.int .i64 Z, .slice A k c] 24)).alloc (.cells #[.int .i64 a] 3)) 25 #[.slice (some ⟨w.heap.size + 1, 0, none⟩) 1 1]
    simpa using this)
  have HO := Lib.hid (show (((w.alloc (.cells #[.int .i64 Z, .slice A k c] 24)).alloc (.cells #[.int .i64 a] 3)).alloc (.cells #[.slice (some ⟨w.heap.size + 1, 0, none⟩) 1 1] 25)).ownsRow (w.heap.size + 1) 3 1 (.slice (some ⟨w.heap.size + 1, 0, none⟩) 1 1) 1 (ints [a]) from by
    have h1 := blk_new (w.alloc (.cells #[.int .i64 Z, .slice A k c] 24)) 3 #[.int .i64 a]
    rw [World.size_alloc] at h1
    exact ⟨rfl, .inr ⟨w.heap.size + 1, 1, #[.int .i64 a], rfl, Nat.le_refl _, blk_alloc h1 _, Nat.le_refl _, by unfold maxLen; omega, rfl, rfl⟩⟩)
  have sw : (((w.alloc (.cells #[.int .i64 Z, .slice A k c] 24)).alloc (.cells #[.int .i64 a] 3)).alloc (.cells #[.slice (some ⟨w.heap.size + 1, 0, none⟩) 1 1] 25)).heap.size = w.heap.size + 3 := by simp
  go_enter Try.func34, Try.ntmps34
  go_wp2
  go_loopw [6, 7] (fun _ _ wr => ∃ (kk : Nat) (Au : Option Addr) (cu : Nat), wr.ownsRow (w.heap.size + 1) 3 1 (.slice Au (chSt Z L a kk).length cu) (chSt Z L a kk).length (ints (chSt Z L a kk)) ∧ Hid ((chSt Z L a kk).length = kk + 1) ∧ Below w.heap.size w wr ∧ wr.heap[w.heap.size]? = some (.cells #[.int .i64 Z, .slice A k c] 24 (0, 0)) ∧ wr.heap[w.heap.size + 2]? = some (.cells #[.slice Au (chSt Z L a kk).length cu] 25 (0, 0)) ∧ (∀ g, (Value.slice Au (chSt Z L a kk).length cu).ownBlock = some g → g ≠ w.heap.size + 2)) (fun _ _ wr => 7 - lenAt wr (w.heap.size + 2))
  case atStart => exact ⟨0, _, 1, HO.out, rfl, HB1.out, HX.out, HY.out, fun g h => by have h : some (w.heap.size + 1) = some g := h; injection h with h; omega⟩
  case round =>
    clear HO HX HY HB1 sw
    obtain ⟨kk, Au, cu, hown, HLEN, hb, hx, hy, hne⟩ := hrel
    have sb := hb.size
    have lx := blk_lt hx
    have ly := blk_lt hy
    obtain ⟨hok, hpos⟩ := HOK.out kk
    have hl6 : (chSt Z L a kk).length ≤ 6 := by have := zones_le hok.1 hok.2.1; omega
    obtain ⟨out, hout⟩ : ∃ out, out = chSt Z L a kk := ⟨_, rfl⟩
    have HS := Lib.hid (show chSt Z L a (kk + 1) = chStep Z L out by rw [hout]; exact HSTEP.out kk)
    have HFIN := Lib.hid (show chStep Z L out = out → chainL Z L a = out from fun h => by rw [hout] at h ⊢; exact HSTAY.out kk h 6 (by have := HLEN.out; omega))
    have HNONE := Lib.hid (fun h => chStep_none (Z := Z) (L := L) (out := out) h)
    have HSOME := Lib.hid (fun h => chStep_some (Z := Z) (L := L) (out := out) h)
    have HOUT := Lib.hid hout
    rw [← hout] at hown hy hne hl6 hpos HLEN
    have HLK := HLEN
    clear hok hout
    have hlast : out.getLastD 0 = out[out.length - 1] := getLastD_last hpos
    obtain ⟨g9, cap, hv, hg1, hg2⟩ := hown.form (by omega)
    simp only [Value.slice.injEq, true_and] at hv
    obtain ⟨rfl, rfl⟩ := hv
    have hgn : g9 ≠ w.heap.size + 2 := hne g9 rfl
    have c1 := own_int hown (i := out.length - 1) (by omega)
    rw [← hlast] at c1
    obtain ⟨y, hyl⟩ : ∃ y, y = out.getLastD 0 := ⟨_, rfl⟩
    rw [← hyl] at c1 HSOME
    have HNEW := Lib.hid (show newI Z L out = plcI (fun z => !decide (z ∈ out)) (nearL Z L y) by rw [newI, ← hyl])
    clear hyl hlast
    have x0 : wr.cell? ⟨w.heap.size, 0, none⟩ = some (.int .i64 Z) := blk_cell hx 0
    have x1 : wr.cell? ⟨w.heap.size, 1, none⟩ = some (.slice A k c) := blk_cell hx 1
    have y0 : wr.cell? ⟨w.heap.size + 2, 0, none⟩ = some (.slice (some ⟨g9, 0, none⟩) out.length cu) := blk_cell hy 0
    have HLA := Lib.hid (lenAt_of y0)
    have HO := Lib.hid (And.intro hown (And.intro hb (And.intro hx hy)))
    have HN := Lib.hid (pnear Z A k c L y wr.drew (by omega) hZ6 hl w.heap.size sb (Rd.drew (hr.below hb)))
    have HNN := Lib.hid (HNL.out y)
    obtain ⟨N, hN⟩ : ∃ N, N = nearL Z L y := ⟨_, rfl⟩
    rw [← hN] at HN HNN HSOME HNEW
    have zi0 : (0 : Int) ≤ (out.length : Int) - 1 := by omega
    have zi1 : (out.length : Int) - 1 < (out.length : Int) := by omega
    have zi2 : ((out.length : Int) - 1).toNat = out.length - 1 := by omega
    clear hown hb hx hy hN
    go_wp2
    refine wp_region_qtail 7 (by kernel_rfl) (by kernel_rfl) ?_
    simp only [List.take_succ_cons, List.take_zero, List.drop_succ_cons, List.drop_zero]
    repeat (go_big_quiet_step (fail))
    refine wpQuiet_nil ?_
    go_wp2_with fail
    refine HN.out.mono ?_
    rintro e w1 ⟨v1, rfl, hown1, hb1⟩
    obtain ⟨A1, c1', rfl, _, _⟩ := own_cap hown1
    have hb1 := (Below.refl wr.heap.size wr).drew.trans hb1
    have s1 := hb1.size
    have hu1 := own_below HO.out.1 hb1
    have hy1 := blk_below HO.out.2.2.2 hb1 ly
    have HF := Lib.hid (intIndexFunc 39 Try.call39 #[.pointer (some ⟨w.heap.size + 2, 0, none⟩)] (fun z => !decide (z ∈ out)) A1 N.length c1' N w1 (by have := HNN.out; omega) w1.heap.size (Nat.le_refl _) (Rd.of_own hown1) (fun z hz W hb => pchFn z (w.heap.size + 2) (some ⟨g9, 0, none⟩) out.length cu out W (by omega) w1.heap.size hb.size (blk_below hy1 hb (blk_lt hy1)) ((Rd.of_own hu1).below hb)))
    rw [placeOf_eq, ← HNEW.out] at HF
    have HN1 := Lib.hid hown1
    have hnl6 : N.length ≤ 6 := by have := HNN.out; omega
    have hnge := plcI_ge (fun z => !decide (z ∈ out)) N
    rw [← HNEW.out] at hnge
    have hn1 := hnge.1
    have hn2 := hnge.2.1
    obtain ⟨ni, hni⟩ : ∃ ni, ni = newI Z L out := ⟨_, rfl⟩
    rw [← hni] at HF HNONE HSOME hn1 hn2
    have HB1 := Lib.hid hb1
    clear hnge hown1 hu1 hy1 hni hb1
    go_wp2_with fail
    refine HF.out.mono ?_
    rintro e w2 ⟨rfl, hb2⟩
    have hn2' := own_below HN1.out hb2
    have hb2 := HB1.out.trans (hb2.mono s1)
    have s2 := hb2.size
    have hx2 := blk_below HO.out.2.2.1 hb2 lx
    have hy2 := blk_below HO.out.2.2.2 hb2 ly
    have hu2 := own_below HO.out.1 hb2
    have y2 : w2.cell? ⟨w.heap.size + 2, 0, none⟩ = some (.slice (some ⟨g9, 0, none⟩) out.length cu) := blk_cell hy2 0
    have HB2 := Lib.hid (HO.out.2.1.trans (hb2.mono sb))
    have lx2 := blk_lt hx2
    have ly2 := blk_lt hy2
    by_cases hneg : ni < 0
    · have hd : decide (ni < 0) = true := decide_eq_true hneg
      have HRES := Lib.hid (HFIN.out (HNONE.out hneg))
      have HOW := Lib.hid hu2
      clear hu2 hn2' hb2 hx2 hy2
      go_wp2
      go_ret
      exact ⟨_, rfl, by rw [HRES.out]; exact own_base HOW.out (Nat.le_succ _), HB2.out⟩
    · have hd : decide (ni < 0) = false := decide_eq_false hneg
      obtain ⟨i, hi, hie, hst, hno⟩ := HSOME.out (by omega)
      subst hie
      have hrN := Rd.of_own hn2'
      obtain ⟨b1, o1, rfl, lb1, g1⟩ := hrN.int hi
      have hb1g : ¬ b1 = g9 := by
        obtain ⟨gg, cc, hvv, hgg, _⟩ := hn2'.form (by omega)
        injection hvv with e1
        injection e1 with e1
        injection e1 with e1
        have hgg : wr.heap.size ≤ gg := hgg
        omega
      obtain ⟨z, hz⟩ : ∃ z, z = N[i] := ⟨_, rfl⟩
      rw [← hz] at g1 hst hno
      have HST := Lib.hid (show chSt Z L a (kk + 1) = out ++ [z] by rw [HS.out, hst])
      have zi3 : (0 : Int) ≤ (i : Int) := by omega
      have zi4 : (i : Int) < (N.length : Int) := by omega
      have hgw : ¬ w.heap.size + 2 = g9 := fun e => hgn e.symm
      have hgw2 : ¬ w.heap.size + 1 + 1 = g9 := hgw
      have mc := cell_mergeG' w2.drew g9
      have mf := frozen_mergeG' w2.drew g9
      have sdr : w2.drew.heap.size = w2.heap.size := rfl
      have ld1 : b1 < w2.drew.heap.size := lb1
      have ld2 : w.heap.size + 2 < w2.drew.heap.size := ly2
      have ld3 : w.heap.size + 1 + 1 < w2.drew.heap.size := ly2
      have y2d : w2.drew.cell? ⟨w.heap.size + 2, 0, none⟩ = some (.slice (some ⟨g9, 0, none⟩) out.length cu) := y2
      have g1d : w2.drew.cell? ⟨b1, o1 + i, none⟩ = some (.int .i64 z) := g1
      have HU2 := Lib.hid (show w2.drew.ownsRow (w.heap.size + 1) 3 1 (.slice (some ⟨g9, 0, none⟩) out.length cu) out.length (ints out) from hu2)
      have HY2 := Lib.hid (show w2.drew.heap[w.heap.size + 2]? = some (.cells #[.slice (some ⟨g9, 0, none⟩) out.length cu] 25 (0, 0)) from hy2)
      have HX2 := Lib.hid (show w2.drew.heap[w.heap.size]? = some (.cells #[.int .i64 Z, .slice A k c] 24 (0, 0)) from hx2)
      clear hz hst hno hu2 hn2' hb2 hx2 hy2
      go_wp2
      refine wp_region_pick (fun w' => ∃ s, w' = mergeG w2.drew (some g9) s) 7 [0, 1, 2, 3, 4] [5, 6, 7] (by kernel_rfl) rfl (by kernel_rfl) (fun _ _ _ _ _ h => h) ⟨_, mergeG_of (World.grownBy.refl _ _)⟩ ?_
      simp only [List.map_cons, List.map_nil, List.getD_cons_zero, List.getD_cons_succ]
      repeat (go_big_quiet_step (fail))
      refine wpQuiet_nil ?_
      clear mc mf
      refine seqS_cons rfl ?_
      go_wp2
      refine thenS_normal (.inr ⟨_, mergeG_of (World.grownBy_alloc w2.drew _ _)⟩) ?_
      refine seqS_cons rfl ?_
      have HOA := Lib.hid (show ((w2.alloc (.cells #[.int .i64 z] 3)).drew).ownsRow (w.heap.size + 1) 3 1 (.slice (some ⟨g9, 0, none⟩) out.length cu) out.length (ints out) from HU2.out.alloc _)
      have HRD := Lib.hid (show Rd ((w2.alloc (.cells #[.int .i64 z] 3)).drew) (w2.heap.size + 1) 1 (some ⟨w2.heap.size, 0, none⟩) 1 [.int .i64 z] from Rd.one w2 #[.int .i64 z] 3 1 rfl)
      refine appNx rfl (.tmp 24) (.tmp 29) 25 rfl 3 _ 1 8 E25 (w.heap.size + 1) _ _ _ rfl HOA.out (w2.heap.size + 1) (some ⟨w2.heap.size, 0, none⟩) 1 1 [.int .i64 z] rfl HRD.out rfl (by omega) (by simp; omega) ?_
      intro v7 w7 hown7 hg7 hx7
      have hg7 := (show w2.drew.grownBy w7 (some g9) from grownBy_alloc_trans (w := w2.drew) hg7)
      have HG7 := Lib.hid hg7
      have hx7 : v7.ownBlock = some g9 ∨ v7.ownBlock = some (w2.heap.size + 1) := hx7.elim (fun h => .inl h) (fun h => .inr (h.trans (by simp)))
      have hy7 := blk_grown HY2.out hg7 (fun e => hgw (by injection e))
      have hx7b := blk_grown HX2.out hg7 (fun e => by injection e with e; omega)
      have HB7 := Lib.hid (below_own (HB2.out.drew) (by show w.heap.size ≤ w2.heap.size; omega) HU2.out (Nat.le_succ _) hg7)
      have hne7 : ∀ g, v7.ownBlock = some g → g ≠ w.heap.size + 2 := by
        intro g h
        rcases hx7 with h3 | h3
        · rw [h3] at h; injection h with h; omega
        · rw [h3] at h; injection h with h; omega
      obtain ⟨A7, c7, rfl, _, _⟩ := own_cap hown7
      have y7 : w7.cell? ⟨w.heap.size + 2, 0, none⟩ = some (.slice (some ⟨g9, 0, none⟩) out.length cu) := blk_cell hy7 0
      have f7 := blk_frozen hy7 0
      have HFIN7 := Lib.hid (show (w7.setCell ⟨w.heap.size + 2, 0, none⟩ (.slice A7 (out.length + 1) c7)).ownsRow (w.heap.size + 1) 3 1 (.slice A7 (out.length + 1) c7) (out.length + 1) (ints out ++ [.int .i64 z]) ∧ Below w.heap.size w (w7.setCell ⟨w.heap.size + 2, 0, none⟩ (.slice A7 (out.length + 1) c7)) ∧ (w7.setCell ⟨w.heap.size + 2, 0, none⟩ (.slice A7 (out.length + 1) c7)).heap[w.heap.size]? = some (.cells #[.int .i64 Z, .slice A k c] 24 (0, 0)) ∧ (w7.setCell ⟨w.heap.size + 2, 0, none⟩ (.slice A7 (out.length + 1) c7)).heap[w.heap.size + 2]? = some (.cells #[.slice A7 (out.length + 1) c7] 25 (0, 0)) from by
        refine ⟨own_keep hown7 (fun g hg => Below.heap_setCell w7 _ _ g (hne7 g hg)), HB7.out.setCell (p := ⟨w.heap.size + 2, 0, none⟩) (by show w.heap.size ≤ w.heap.size + 2; omega) _, blk_far hx7b (p := ⟨w.heap.size + 2, 0, none⟩) (by show w.heap.size ≠ w.heap.size + 2; omega) _, ?_⟩
        have := blk_set hy7 0 (.slice A7 (out.length + 1) c7)
        simpa using this)
      have HNE := Lib.hid hne7
      clear hown7 hg7 hx7 hy7 hx7b hne7
      refine thenS_normal (.inr ⟨_, mergeG_of HG7.out⟩) ?_
      refine seqS_cons rfl ?_
      go_wp2
      refine thenS_normal (by first | exact .inl rfl | trivial) ?_
      refine seqS_nil ?_
      go_roundw
      case rel =>
        refine ⟨_, _, _, _, _, _, _, _, _, _, _, _, _, _, _, _, _, _, _, _, _, _, _, _, ?_, rfl⟩
        exact ⟨kk + 1, A7, c7, by rw [HST.out, List.length_append]; simpa using HFIN7.out.1, by show _ = _; rw [HST.out, List.length_append, HLK.out]; rfl, HFIN7.out.2.1, HFIN7.out.2.2.1, by rw [HST.out, List.length_append]; exact HFIN7.out.2.2.2, by rw [HST.out, List.length_append]; exact HNE.out⟩
      case measure =>
        rw [HLA.out, lenAt_of (blk_cell HFIN7.out.2.2.2 0)]
        omega
end Go.Proofs.Ytlhbmfaoldajdaa
