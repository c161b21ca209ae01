/-
  WALKS: Ramp of both, the reference's Steps. (Printed by gen_w34.py.)
-/
import Derived.Test.YtejjogpgolgdgaaP3
import Derived.Test.YtejjogpgolgdgaaW33
namespace Go.Proofs.Ytejjogpgolgdgaa
open Go.RowKit Pulse

def rampT (a b : List Int) (s : Int) : List (List Int) := if slewE a b s = 0 then rampTo a b s ((rampN a b s).toNat + 1) else []
def lenOf : Value → Nat
  | .slice _ n _ => n
  | _ => 0
theorem own_one {w : World} {g : Nat} {v : Value} {e : TypeId} {base : Nat} (hb : w.heap[g]? = some (.cells #[v] e (0, 0))) (h : base ≤ g) : w.ownsRow base e 1 (.slice (some ⟨g, 0, none⟩) 1 1) 1 [v] :=
  ⟨rfl, .inr ⟨g, 1, #[v], rfl, h, hb, Nat.le_refl _, by unfold maxLen; omega, rfl, rfl⟩⟩
/-- A table of one row of the call's own. -/
theorem ownT_one {w : World} {g base : Nat} {v : Value} {p : List Int} (hb : w.heap[g]? = some (.cells #[v] 23 (0, 0))) (h : base ≤ g) (hr : w.ownsRow base 3 1 v p.length (ints p)) (hg : ∀ x, v.ownBlock = some x → x ≠ g) : OwnT w base (.slice (some ⟨g, 0, none⟩) 1 1) [p] :=
  ⟨[v], own_one hb h, Tab.nil.snoc (rowAt_own hr (fun x hx hX => by
    rcases hX with h1 | h1
    · have := (hr.lt x hx).1; omega
    · injection h1 with h1; exact hg x hx h1.symm))⟩
/-- 'out = append(out, row)', the row of the call's own. -/
theorem OwnT.push {w4 w5 : World} {base n n' base' : Nat} {e : TypeId} {u u5 v : Value} {vs : List Value} {ps : List (List Int)} {p : List Int}
    (ht : Tab w4 w4.heap.size (fun x => x < base ∨ u.ownBlock = some x) vs ps)
    (hv : w4.ownsRow base' e 1 v p.length (ints p)) (hb : base ≤ base') (hu : ∀ g, u.ownBlock = some g → g < base')
    (h5 : w5.ownsRow base 23 1 u5 n' (vs ++ [v])) (hn : n = ps.length) (hn' : n' = n + 1) (hg : w4.grownBy w5 u.ownBlock) (hx : u5.ownBlock = u.ownBlock ∨ ∃ g, u5.ownBlock = some g ∧ w4.heap.size ≤ g) : OwnT w5 base u5 (ps ++ [p]) := by
  subst hn hn'
  refine ⟨vs ++ [v], by rw [List.length_append]; exact h5, tab_push ht (rowAt_own hv (fun g hg' hx' => ?_)) hg hx⟩
  have := (hv.lt g hg').1
  rcases hx' with h | h
  · omega
  · have := hu g h; omega
theorem own_grown_far {w w' : World} {base n sz : Nat} {e : TypeId} {v : Value} {xs : List Value} {row : Option Nat} (h : w.ownsRow base e sz v n xs) (hg : w.grownBy w' row) (hr : ∀ g, v.ownBlock = some g → row = some g → False) : w'.ownsRow base e sz v n xs :=
  own_keep h fun g hb => hg.block g (h.lt g hb).2 (fun e => hr g hb e.symm)
theorem OwnT.setCell {w : World} {base : Nat} {u : Value} {ps : List (List Int)} (h : OwnT w base u ps) {p : Addr} (hp : p.block < base) (y : Value) : OwnT (w.setCell p y) base u ps := by
  obtain ⟨vs, h1, h2⟩ := h
  refine ⟨vs, own_set_far h1 hp y, ?_⟩
  rw [World.size_setCell]
  exact h2.setCell (.inl hp) y

set_option maxRecDepth 100000 in
set_option maxHeartbeats 4000000 in
theorem pRamp (A A' : Option Addr) (k c k' c' : Nat) (a b : List Int) (s : Int) (w : World) (hl : a.length ≤ 1000) (hl' : b.length ≤ 1000) (B : Nat) (hB : B ≤ w.heap.size) (hr : Rd w B 1 A k (ints a)) (hr' : Rd w B 1 A' k' (ints b)) :
    Calls Try.prog 48 #[.slice A k c, .slice A' k' c', .int .i64 s] w fun e w' => ∃ u, e = .returned (.tuple #[u, .int .i64 (slewE a b s)]) ∧ OwnT w' w.heap.size u (rampT a b s) ∧ Below w.heap.size w w' := by
  have hr := hr.more hB
  have hr' := hr'.more hB
  by_cases h : slewE a b s = 0
  · obtain ⟨hp, hs1, hs6⟩ := slewE_ok h
    obtain ⟨hp1, hp2, hp3, hp4, hp5⟩ := pairE_ok hp
    have HV := Lib.hid h
    have HT := Lib.hid (show rampT a b s = rampTo a b s ((rampN a b s).toNat + 1) by rw [rampT, if_pos h])
    clear h hp
    obtain rfl := hr.int_len
    obtain rfl := hr'.int_len
    obtain ⟨n, hn⟩ : ∃ n, n = a.length := ⟨_, rfl⟩
    have HLN := Lib.hid (show a.length = b.length by omega)
    have HN := Lib.hid hn
    have hbn : b.length = n := by omega
    rw [← hn] at hr hl hp1 hp2
    rw [hbn] at hr' hl'
    rw [← hn, hbn]
    clear hn hbn hp4
    have HFA := Lib.hid hp3
    have HFB := Lib.hid hp5
    clear hp3 hp5
    have hj6 := jumpL_le (x := 3) (y := 3) (by decide) (by decide) HFA.out HFB.out
    have hN0 := rampN_nn (a := a) (b := b) hs1
    have hN6 := rampN_le hs1 hj6
    obtain ⟨N, hNe⟩ : ∃ N : Nat, rampN a b s = (N : Int) := ⟨(rampN a b s).toNat, by omega⟩
    rw [hNe] at hN0 hN6
    have HNE := Lib.hid hNe
    clear hNe hj6 hN0
    have HAL := Lib.hid (fun k => rampAt_len (a := a) (b := b) (s := s) HLN.out k)
    have HAF := Lib.hid (fun k => rampAt_forces (s := s) hs1 HFA.out HFB.out k)
    have HEND := Lib.hid (fun k => rampAt_end (a := a) (b := b) hs1 HLN.out k)
    go_enter Try.func48, Try.ntmps48
    go_wp2_with fail
    refine (pramped A A' n c n c' a b s w (by have := HN.out; omega) (by have := HN.out; have := HLN.out; omega) w.heap.size (Nat.le_refl _) hr hr').mono ?_
    rw [HV.out]
    rintro e w1 ⟨rfl, hb1⟩
    have s1 := hb1.size
    have HB1 := Lib.hid hb1
    have hr := (hr.below hb1).more s1
    have hr' := (hr'.below hb1).more s1
    clear hb1
    have hrb1 := hr'
    go_wp2_with fail
    refine (pClone A n c a w1 (by have := HN.out; omega) w1.heap.size (Nat.le_refl _) hr).mono ?_
    rintro e w2 ⟨v2, rfl, hown2, hb2⟩
    have s2 := hb2.size
    have HB2 := Lib.hid (HB1.out.trans (hb2.mono (by have := HB1.out.size; omega)))
    have hr := (hr.below hb2).more s2
    have hr' := (hr'.below hb2).more s2
    have HBC := Lib.hid hb2; clear hb2
    obtain ⟨A9, c9, rfl, hc91, hc92⟩ := own_cap hown2
    have HO9 := Lib.hid hown2
    have HG9 := Lib.hid (fun g => hown2.lt g)
    clear hown2
    go_wp2_with fail
    refine (pClone A9 n c9 a w2 (by have := HN.out; omega) w2.heap.size (Nat.le_refl _) (Rd.of_own HO9.out)).mono ?_
    rintro e w3 ⟨v3, rfl, hown3, hb3⟩
    have s3 := hb3.size
    have HB3 := Lib.hid (HB2.out.trans (hb3.mono (by have := HB2.out.size; omega)))
    have hr := (hr.below hb3).more s3
    have hr' := (hr'.below hb3).more s3
    have HBD := Lib.hid hb3; clear hb3
    obtain ⟨A10, c10, rfl, hc101, hc102⟩ := own_cap hown3
    have HB3 := Lib.hid (HBD.out.alloc HBD.out.size (.cells #[.slice A10 n c10] 23))
    have HOT := Lib.hid (show OwnT (w3.alloc (.cells #[.slice A10 n c10] 23)) w2.heap.size (.slice (some ⟨w3.heap.size, 0, none⟩) 1 1) (rampTo a b s 1) from by
      have h1 := hown3.alloc (.cells #[.slice A10 n c10] 23)
      have h2 := ownT_one (base := w2.heap.size) (p := a) (blk_new w3 23 #[.slice A10 n c10]) (by have := HBD.out.size; omega) (by rw [← HN.out]; exact h1) (fun x hx e => by have := (hown3.lt x hx).2; omega)
      have h3 : rampTo a b s 1 = [a] := by rw [rampTo_succ, rampAt_zero HLN.out]; rfl
      rw [h3]
      exact h2)
    have HO9a := Lib.hid (show (w3.alloc (.cells #[.slice A10 n c10] 23)).ownsRow w1.heap.size 3 1 (.slice A9 n c9) n (ints (rampAt a b s 0)) by rw [rampAt_zero HLN.out]; exact own_below HO9.out HB3.out)
    have HBa := Lib.hid (HBC.out.trans (HB3.out.mono HBC.out.size))
    have szA : w2.heap.size ≤ (w3.alloc (.cells #[.slice A10 n c10] 23)).heap.size := HB3.out.size
    clear hown3
    have hs21 := HBC.out.size
    clear HBD HBC HO9 HB3
    go_wp2
    go_loopw [10] (fun u wr => ∃ k : Nat, k ≤ N ∧ lenOf u = k + 1 ∧ OwnT wr w2.heap.size u (rampTo a b s (k + 1)) ∧ wr.ownsRow w1.heap.size 3 1 (.slice A9 n c9) n (ints (rampAt a b s k)) ∧ Below w1.heap.size w1 wr ∧ w2.heap.size ≤ wr.heap.size) (fun u _ => N + 2 - lenOf u)
    case atStart => exact ⟨0, Nat.zero_le _, rfl, HOT.out, HO9a.out, HBa.out, szA⟩
    case round =>
      clear HOT HO9a HBa szA
      obtain ⟨k, hk, hlu, hot, hown, hb, hsz⟩ := hrel
      have hsz1 := hb.size
      obtain ⟨wo, hwo⟩ : ∃ z, z = wr := ⟨_, rfl⟩
      rw [← hwo] at hot hown hb hsz hsz1 ⊢
      clear hwo
      have r9 := Rd.of_own hown
      have rb := (hrb1.below' hb (Nat.le_refl _)).more hsz1
      have hak := HAL.out k
      have haf := HAF.out k
      have HE := Lib.hid (HEND.out k)
      have HOB := Lib.hid (And.intro hot (And.intro hown hb))
      clear hot hown hb
      have e1 : (rampAt a b s k).length ≤ 1000 := by have := HN.out; omega
      have e2 : b.length ≤ 1000 := by have := HN.out; have := HLN.out; omega
      obtain ⟨d, hd⟩ : ∃ d, d = decide (rampAt a b s k = b) := ⟨_, rfl⟩
      have HD := Lib.hid hd.symm
      clear hd
      go_wp2_with fail
      refine (pEqual_is d A9 A' n n c9 c' (rampAt a b s k) b HD.out wo e1 e2 wo.heap.size (Nat.le_refl _) r9 rb).mono ?_
      rintro e w5 ⟨rfl, hb5⟩
      have s5 := hb5.size
      have hot := HOB.out.1.below hb5
      have hown := own_below HOB.out.2.1 hb5
      have hb := HOB.out.2.2.trans (hb5.mono hsz1)
      clear r9 rb hb5 HOB e1 e2
      cases d with
      | true =>
        have hkn : k = N := by have h1 := HD.out; have h2 := HE.out.1 (by simpa using h1); rw [HNE.out] at h2; omega
        subst hkn
        have HRT := Lib.hid (show rampT a b s = rampTo a b s (k + 1) by rw [HT.out, HNE.out]; rfl)
        have HO := Lib.hid (And.intro (hot.base (show w.heap.size ≤ w2.heap.size by omega)) hb)
        obtain ⟨Au, cu, rfl, _⟩ := hot.cap
        clear hot hown hb
        go_wp2
        go_ret2
        exact ⟨_, ret_pair rfl (by rw [HV.out]; rfl), by rw [HRT.out]; exact HO.out.1, HB1.out.trans (HO.out.2.mono (by have := HB1.out.size; omega))⟩
      | false =>
        have hkN : k + 1 ≤ N := by
          rcases Nat.lt_or_ge k N with h | h
          · exact h
          · exfalso
            have h1 := HE.out.2 (by rw [HNE.out]; omega)
            have h2 := HD.out
            rw [decide_eq_true h1] at h2
            cases h2
        have HBL := Lib.hid (fun q hq => between_len (a := a) (b := b) (s := s) HLN.out k (q := q) hq)
        clear HE HD hak haf
        have HOT5 := Lib.hid hot
        clear hot
        have hown : w5.ownsRow w1.heap.size 3 1 (.slice A9 n c9) n (ints (between a b s k 0)) := by rw [between_zero HLN.out]; exact hown
        go_wp2
        go_loopw [31] (fun i wr => ∃ q : Nat, i = .int .i64 q ∧ q ≤ n ∧ OwnT wr w2.heap.size u10 (rampTo a b s (k + 1)) ∧ wr.ownsRow w1.heap.size 3 1 (.slice A9 n c9) n (ints (between a b s k q)) ∧ Below w1.heap.size w1 wr ∧ w2.heap.size ≤ wr.heap.size) (fun i _ => n - (intOf i).toNat)
        case atStart => exact ⟨0, rfl, Nat.zero_le _, HOT5.out, hown, hb, by omega⟩
        case round =>
          clear hown hb
          obtain ⟨q, rfl, hq, hot, hown, hb, hsz6⟩ := hrel
          have hsz7 := hb.size
          by_cases hlt : q < n
          · have hqa : q < a.length := by have := HN.out; omega
            have hqb : q < b.length := by have := HN.out; have := HLN.out; omega
            obtain ⟨b1, o1, rfl, lb1, g1⟩ := (hrb1.below' hb (Nat.le_refl _)).int hqb
            obtain ⟨g9, cap, hv, hg1, hg2⟩ := hown.form (by omega)
            simp only [Value.slice.injEq, true_and] at hv
            obtain ⟨rfl, rfl⟩ := hv
            have hbl := HBL.out q (by omega)
            have c1 := own_int hown (i := q) (by omega)
            rw [between_get HLN.out k hqa] at c1
            have hqr : q < (rampAt a b s k).length := by rw [HAL.out]; exact hqa
            have hfx := HAF.out k _ (List.getElem_mem hqr)
            have hfy := HFB.out _ (List.getElem_mem hqb)
            have HS := Lib.hid (between_set (s := s) hs1 HLN.out k hqa)
            obtain ⟨x, hx⟩ : ∃ x, x = (rampAt a b s k)[q] := ⟨_, rfl⟩
            obtain ⟨y, hy⟩ : ∃ y, y = b[q] := ⟨_, rfl⟩
            rw [← hx] at c1 hfx HS
            rw [← hy] at g1 hfy HS
            clear hx hy hqa hqb hqr hbl
            have hmv := mv_bd (m := s) (b := 3) (by omega) hfx hfy
            have lg9 : g9 < w2.heap.size := (HG9.out g9 rfl).2
            have z0 : (0 : Int) ≤ (q : Int) := by omega
            have z1 : (q : Int) < (n : Int) := by omega
            have f1 := own_frozen hown q
            have HOX := Lib.hid (show ∀ v : Int, v = mv s x y → OwnT (wr.drew.setCell ⟨g9, q, none⟩ (.int .i64 v)) w2.heap.size u10 (rampTo a b s (k + 1)) ∧ (wr.drew.setCell ⟨g9, q, none⟩ (.int .i64 v)).ownsRow w1.heap.size 3 1 (.slice (some ⟨g9, 0, none⟩) n c9) n (ints (between a b s k (q + 1))) ∧ Below w1.heap.size w1 (wr.drew.setCell ⟨g9, q, none⟩ (.int .i64 v)) ∧ w2.heap.size ≤ (wr.drew.setCell ⟨g9, q, none⟩ (.int .i64 v)).heap.size from fun v hv => by
              subst hv
              refine ⟨(hot.below (w' := wr.drew) (Below.refl _ _).drew).setCell lg9 _, ?_, hb.drew.setCell hg1 _, by rw [World.size_setCell]; exact hsz6⟩
              have h1 := own_seti (i := q) (own_below hown (w' := wr.drew) (Below.refl _ _).drew) (mv s x y)
              rwa [HS.out] at h1)
            clear hot hown hb HS
            go_wp2
            refine wp_region_pick (fun w' => w' = wr.drew) 17 [0, 1, 2, 3, 4, 5, 6, 7, 8, 9, 10, 11, 12] [13, 14, 15, 16, 17] (by kernel_rfl) rfl (by kernel_rfl) (fun _ _ _ _ _ h => h) rfl ?_
            simp only [List.map_cons, List.map_nil, List.getD_cons_zero, List.getD_cons_succ]
            repeat (go_big_quiet_step (fail))
            refine wpQuiet_nil ?_
            refine seqS_cons rfl ?_
            go_wp2
            all_goals (refine thenS_normal (by first | trivial | rfl | exact .inr rfl) ?_; refine seqS_cons rfl ?_; go_wp2)
            all_goals (refine thenS_normal (by first | trivial | rfl | exact .inr rfl) ?_; refine seqS_cons rfl ?_; go_wp2)
            all_goals (refine thenS_normal (by first | trivial | rfl | exact .inr rfl) ?_; refine seqS_cons rfl ?_; go_wp2)
            all_goals (refine thenS_normal (by first | trivial | rfl | exact .inr rfl) ?_; refine seqS_cons rfl ?_; go_wp2)
            all_goals (refine thenS_normal (by first | trivial | exact .inl rfl) ?_; refine seqS_nil ?_; go_wp2)
            all_goals
              go_roundw
              case rel => exact ⟨q + 1, by go_num, by omega, HOX.out _ (by unfold mv; omega)⟩
              case measure => simp [intOf]; omega
          · obtain rfl : q = n := by omega
            have hbn := between_all (s := s) HLN.out k
            rw [← HN.out] at hbn
            rw [hbn] at hown
            clear hbn
            obtain ⟨vs, ho, ht⟩ := hot
            rw [rampTo_len] at ho
            obtain ⟨Au, cu, rfl, hcu1, hcu2⟩ := own_cap ho
            have hal := HAL.out (k + 1)
            rw [← HN.out] at hal
            have HRL := Lib.hid hal
            have HOA := Lib.hid (And.intro ho (And.intro ht (And.intro hown hb)))
            have HCL := Lib.hid (pClone A9 q c9 (rampAt a b s (k + 1)) wr (by omega) wr.heap.size (Nat.le_refl _) (Rd.of_own hown))
            clear ho ht hown hb hal
            go_wp2_with fail
            refine HCL.out.mono ?_
            rintro e w6 ⟨v6, rfl, hown6, hb6⟩
            have s6 := hb6.size
            obtain ⟨A6, c6, rfl, hc61, hc62⟩ := own_cap hown6
            have u1 := own_below HOA.out.1 hb6
            have HB6 := Lib.hid hb6
            clear hb6 HCL
            go_wp2_with (at_builtin; go_must (refine app1x rfl (.tmp 54) (.tmp 57) 22 rfl 23 _ 1 24 E22 w2.heap.size _ _ _ _ rfl u1 _ rfl ?_ ?_ ?_ ?_ ?_ ?_); rfl; rfl; rfl; omega; omega; intro v7 w7 hown7 hg7 hx7)
            have HOT7 := Lib.hid (OwnT.push (base' := wr.heap.size) ((HOA.out.2.1.below HB6.out (Nat.le_refl _)).more HB6.out.size) (by rw [HRL.out]; exact hown6) hsz6 (fun g hg => (HOA.out.1.lt g hg).2) (by exact hown7) (rampTo_len a b s (k + 1)).symm rfl hg7 hx7)
            have HB7 := Lib.hid (below_own (HOA.out.2.2.2.trans (HB6.out.mono hsz7)) (by have := HB6.out.size; omega) u1 (by omega) hg7)
            have HO97 := Lib.hid (own_grown_far (own_below HOA.out.2.2.1 HB6.out) hg7 (fun g hg hg2 => by have h1 := (HG9.out g hg).2; have h2 := (u1.lt g hg2).1; omega))
            obtain ⟨A7, c7, rfl, _, _⟩ := own_cap hown7
            have sz7 := hg7.size
            clear hown7 hg7 hx7 u1
            go_roundw
            case rel => exact ⟨k + 1, by omega, rfl, by rw [rampTo_succ]; exact HOT7.out, HO97.out, HB7.out, by have := HB6.out.size; omega⟩
            case measure => simp [lenOf]; omega
  · have hd : (slewE a b s != 0) = true := by simpa using h
    have HT := Lib.hid (show rampT a b s = [] by rw [rampT, if_neg h])
    clear h
    have H := Lib.hid (pramped A A' k c k' c' a b s w hl hl' w.heap.size (Nat.le_refl _) hr hr')
    generalize slewE a b s = y at *
    go_enter Try.func48, Try.ntmps48
    go_wp2_with fail
    refine (H.out).mono ?_
    rintro e w1 ⟨rfl, hb1⟩
    have s1 := hb1.size
    have HB1 := Lib.hid hb1
    have hr := (hr.below hb1).more s1
    have hr' := (hr'.below hb1).more s1
    clear hb1
    go_wp2
    go_ret2
    exact ⟨_, ret_pair rfl rfl, by rw [HT.out]; exact OwnT.nil, HB1.out⟩

set_option maxRecDepth 100000 in
set_option maxHeartbeats 4000000 in
theorem rRamp (A A' : Option Addr) (k c k' c' : Nat) (a b : List Int) (s : Int) (w : World) (hl : a.length ≤ 1000) (hl' : b.length ≤ 1000) (B : Nat) (hB : B ≤ w.heap.size) (hr : Rd w B 1 A k (ints a)) (hr' : Rd w B 1 A' k' (ints b)) :
    Calls Try.prog 49 #[.slice A k c, .slice A' k' c', .int .i64 s] w fun e w' => ∃ u, e = .returned (.tuple #[u, .int .i64 (slewE a b s)]) ∧ OwnT w' w.heap.size u (rampT a b s) ∧ Below w.heap.size w w' := by
  have hr := hr.more hB
  have hr' := hr'.more hB
  by_cases h : slewE a b s = 0
  · obtain ⟨hp, hs1, hs6⟩ := slewE_ok h
    obtain ⟨hp1, hp2, hp3, hp4, hp5⟩ := pairE_ok hp
    have HV := Lib.hid h
    have HT := Lib.hid (show rampT a b s = rampTo a b s ((rampN a b s).toNat + 1) by rw [rampT, if_pos h])
    clear h hp
    obtain rfl := hr.int_len
    obtain rfl := hr'.int_len
    obtain ⟨n, hn⟩ : ∃ n, n = a.length := ⟨_, rfl⟩
    have HLN := Lib.hid (show a.length = b.length by omega)
    have HN := Lib.hid hn
    have hbn : b.length = n := by omega
    rw [← hn] at hr hl hp1 hp2
    rw [hbn] at hr' hl'
    rw [← hn, hbn]
    clear hn hbn hp4
    have HFA := Lib.hid hp3
    have HFB := Lib.hid hp5
    clear hp3 hp5
    have hj6 := jumpL_le (x := 3) (y := 3) (by decide) (by decide) HFA.out HFB.out
    have hN0 := rampN_nn (a := a) (b := b) hs1
    have hN6 := rampN_le hs1 hj6
    obtain ⟨N, hNe⟩ : ∃ N : Nat, rampN a b s = (N : Int) := ⟨(rampN a b s).toNat, by omega⟩
    rw [hNe] at hN0 hN6
    have HNE := Lib.hid hNe
    clear hNe hj6 hN0
    have HAL := Lib.hid (fun k => rampAt_len (a := a) (b := b) (s := s) HLN.out k)
    have HAF := Lib.hid (fun k => rampAt_forces (s := s) hs1 HFA.out HFB.out k)
    have HEND := Lib.hid (fun k => rampAt_end (a := a) (b := b) hs1 HLN.out k)
    go_enter Try.func49, Try.ntmps49
    go_wp2_with fail
    refine (rslewed A A' n c n c' a b s w (by have := HN.out; omega) (by have := HN.out; have := HLN.out; omega) w.heap.size (Nat.le_refl _) hr hr').mono ?_
    rw [HV.out]
    rintro e w1 ⟨rfl, hb1⟩
    have s1 := hb1.size
    have HB1 := Lib.hid hb1
    have hr := (hr.below hb1).more s1
    have hr' := (hr'.below hb1).more s1
    clear hb1
    have hrb1 := hr'
    have HRA := Lib.hid (hr.alloc (Nat.le_refl _) (.cells #[] 3))
    have HO1 := Lib.hid (show (w1.alloc (.cells #[] 3)).ownsRow w1.heap.size 3 1 (.slice (some ⟨w1.heap.size, 0, none⟩) 0 0) 0 [] from own_empty (blk_new w1 3 #[]) (Nat.le_refl _))
    have HB1a := Lib.hid ((Below.refl w1.heap.size w1).alloc (Nat.le_refl _) (.cells #[] 3))
    go_wp2_with (at_builtin; first
      | ((refine appN rfl (.tmp 22) (.tmp 23) 23 rfl 3 _ 1 8 E23 w2.heap.size _ _ _ rfl HO2.out w2.heap.size A9 n c9 (ints a) rfl HR9.out (ints_one _) (by omega) (by simp) ?_); intro v3 w3 hown3 hg3; rw [Nat.zero_add, List.nil_append] at hown3; have HBD := Lib.hid (below_own HB2a.out (by simp) HO2.out (Nat.le_refl _) hg3); obtain ⟨A10, c10, rfl, hc101, hc102⟩ := own_cap hown3; have HG10 := Lib.hid hown3; clear hown3)
      | ((refine appN rfl (.tmp 19) (.tmp 20) 23 rfl 3 _ 1 8 E23 w1.heap.size _ _ _ rfl HO1.out w1.heap.size A n c (ints a) rfl HRA.out (ints_one _) (by omega) (by simp) ?_); intro v2 w2 hown2 hg2; rw [Nat.zero_add, List.nil_append] at hown2; have HBC := Lib.hid (below_own HB1a.out (by simp) HO1.out (Nat.le_refl _) hg2); obtain ⟨A9, c9, rfl, hc91, hc92⟩ := own_cap hown2; have HO9 := Lib.hid hown2; have HG9 := Lib.hid (fun g => hown2.lt g); have HR9 := Lib.hid ((Rd.of_own hown2).alloc (Nat.le_refl _) (.cells #[] 3)); have HO2 := Lib.hid (show (w2.alloc (.cells #[] 3)).ownsRow w2.heap.size 3 1 (.slice (some ⟨w2.heap.size, 0, none⟩) 0 0) 0 [] from own_empty (blk_new w2 3 #[]) (Nat.le_refl _)); have HB2a := Lib.hid ((Below.refl w2.heap.size w2).alloc (Nat.le_refl _) (.cells #[] 3)); clear hown2))
    have HB3 := Lib.hid (HBD.out.alloc HBD.out.size (.cells #[.slice A10 n c10] 23))
    have HOT := Lib.hid (show OwnT (w3.alloc (.cells #[.slice A10 n c10] 23)) w2.heap.size (.slice (some ⟨w3.heap.size, 0, none⟩) 1 1) (rampTo a b s 1) from by
      have h1 := HG10.out.alloc (.cells #[.slice A10 n c10] 23)
      have h2 := ownT_one (base := w2.heap.size) (p := a) (blk_new w3 23 #[.slice A10 n c10]) (by have := HBD.out.size; omega) (by rw [← HN.out]; exact h1) (fun x hx e => by have := (HG10.out.lt x hx).2; omega)
      have h3 : rampTo a b s 1 = [a] := by rw [rampTo_succ, rampAt_zero HLN.out]; rfl
      rw [h3]
      exact h2)
    have HO9a := Lib.hid (show (w3.alloc (.cells #[.slice A10 n c10] 23)).ownsRow w1.heap.size 3 1 (.slice A9 n c9) n (ints (rampAt a b s 0)) by rw [rampAt_zero HLN.out]; exact own_below HO9.out HB3.out)
    have HBa := Lib.hid (HBC.out.trans (HB3.out.mono HBC.out.size))
    have szA : w2.heap.size ≤ (w3.alloc (.cells #[.slice A10 n c10] 23)).heap.size := HB3.out.size
    have hs21 := HBC.out.size
    clear hg2 hg3 HR9 HO2 HB2a HO1 HB1a HRA HG10
    clear HBD HBC HO9 HB3
    go_wp2
    go_loopw [10] (fun u wr => ∃ k : Nat, k ≤ N ∧ lenOf u = k + 1 ∧ OwnT wr w2.heap.size u (rampTo a b s (k + 1)) ∧ wr.ownsRow w1.heap.size 3 1 (.slice A9 n c9) n (ints (rampAt a b s k)) ∧ Below w1.heap.size w1 wr ∧ w2.heap.size ≤ wr.heap.size) (fun u _ => N + 2 - lenOf u)
    case atStart => exact ⟨0, Nat.zero_le _, rfl, HOT.out, HO9a.out, HBa.out, szA⟩
    case round =>
      clear HOT HO9a HBa szA
      obtain ⟨k, hk, hlu, hot, hown, hb, hsz⟩ := hrel
      have hsz1 := hb.size
      obtain ⟨wo, hwo⟩ : ∃ z, z = wr := ⟨_, rfl⟩
      rw [← hwo] at hot hown hb hsz hsz1 ⊢
      clear hwo
      have r9 := Rd.of_own hown
      have rb := (hrb1.below' hb (Nat.le_refl _)).more hsz1
      have hak := HAL.out k
      have haf := HAF.out k
      have HE := Lib.hid (HEND.out k)
      have HOB := Lib.hid (And.intro hot (And.intro hown hb))
      clear hot hown hb
      have e1 : (rampAt a b s k).length ≤ 1000 := by have := HN.out; omega
      have e2 : b.length ≤ 1000 := by have := HN.out; have := HLN.out; omega
      obtain ⟨d, hd⟩ : ∃ d, d = decide (rampAt a b s k = b) := ⟨_, rfl⟩
      have HD := Lib.hid hd.symm
      clear hd
      go_wp2_with fail
      refine (rSameInts_is d A9 A' n n c9 c' (rampAt a b s k) b HD.out wo e1 e2 wo.heap.size (Nat.le_refl _) r9 rb).mono ?_
      rintro e w5 ⟨rfl, hb5⟩
      have s5 := hb5.size
      have hot := HOB.out.1.below hb5
      have hown := own_below HOB.out.2.1 hb5
      have hb := HOB.out.2.2.trans (hb5.mono hsz1)
      clear r9 rb hb5 HOB e1 e2
      cases d with
      | true =>
        have hkn : k = N := by have h1 := HD.out; have h2 := HE.out.1 (by simpa using h1); rw [HNE.out] at h2; omega
        subst hkn
        have HRT := Lib.hid (show rampT a b s = rampTo a b s (k + 1) by rw [HT.out, HNE.out]; rfl)
        have HO := Lib.hid (And.intro (hot.base (show w.heap.size ≤ w2.heap.size by omega)) hb)
        obtain ⟨Au, cu, rfl, _⟩ := hot.cap
        clear hot hown hb
        go_wp2
        go_ret2
        exact ⟨_, ret_pair rfl (by rw [HV.out]; rfl), by rw [HRT.out]; exact HO.out.1, HB1.out.trans (HO.out.2.mono (by have := HB1.out.size; omega))⟩
      | false =>
        have hkN : k + 1 ≤ N := by
          rcases Nat.lt_or_ge k N with h | h
          · exact h
          · exfalso
            have h1 := HE.out.2 (by rw [HNE.out]; omega)
            have h2 := HD.out
            rw [decide_eq_true h1] at h2
            cases h2
        have HBL := Lib.hid (fun q hq => between_len (a := a) (b := b) (s := s) HLN.out k (q := q) hq)
        clear HE HD hak haf
        have HOT5 := Lib.hid hot
        clear hot
        have hown : w5.ownsRow w1.heap.size 3 1 (.slice A9 n c9) n (ints (between a b s k 0)) := by rw [between_zero HLN.out]; exact hown
        go_wp2
        go_loopw [11] (fun i wr => ∃ q : Nat, i = .int .i64 q ∧ q ≤ n ∧ OwnT wr w2.heap.size u10 (rampTo a b s (k + 1)) ∧ wr.ownsRow w1.heap.size 3 1 (.slice A9 n c9) n (ints (between a b s k q)) ∧ Below w1.heap.size w1 wr ∧ w2.heap.size ≤ wr.heap.size) (fun i _ => n - (intOf i).toNat)
        case atStart => exact ⟨0, rfl, Nat.zero_le _, HOT5.out, hown, hb, by omega⟩
        case round =>
          clear hown hb
          obtain ⟨q, rfl, hq, hot, hown, hb, hsz6⟩ := hrel
          have hsz7 := hb.size
          by_cases hlt : q < n
          · have hqa : q < a.length := by have := HN.out; omega
            have hqb : q < b.length := by have := HN.out; have := HLN.out; omega
            obtain ⟨b1, o1, rfl, lb1, g1⟩ := (hrb1.below' hb (Nat.le_refl _)).int hqb
            obtain ⟨g9, cap, hv, hg1, hg2⟩ := hown.form (by omega)
            simp only [Value.slice.injEq, true_and] at hv
            obtain ⟨rfl, rfl⟩ := hv
            have hbl := HBL.out q (by omega)
            have c1 := own_int hown (i := q) (by omega)
            rw [between_get HLN.out k hqa] at c1
            have hqr : q < (rampAt a b s k).length := by rw [HAL.out]; exact hqa
            have hfx := HAF.out k _ (List.getElem_mem hqr)
            have hfy := HFB.out _ (List.getElem_mem hqb)
            have HS := Lib.hid (between_set (s := s) hs1 HLN.out k hqa)
            obtain ⟨x, hx⟩ : ∃ x, x = (rampAt a b s k)[q] := ⟨_, rfl⟩
            obtain ⟨y, hy⟩ : ∃ y, y = b[q] := ⟨_, rfl⟩
            rw [← hx] at c1 hfx HS
            rw [← hy] at g1 hfy HS
            clear hx hy hqa hqb hqr hbl
            have hmv := mv_bd (m := s) (b := 3) (by omega) hfx hfy
            have lg9 : g9 < w2.heap.size := (HG9.out g9 rfl).2
            have z0 : (0 : Int) ≤ (q : Int) := by omega
            have z1 : (q : Int) < (n : Int) := by omega
            have HKE := Lib.hid (And.intro hot (And.intro hown (And.intro hb (And.intro c1 g1))))
            have f1 := own_frozen hown q
            clear hot hown hb
            by_cases hxy : x < y
            · go_wp2
              go_quiet (fail)
              go_wp2
              obtain ⟨wq, hwq⟩ : ∃ z, z = wr.drewN nq := ⟨_, rfl⟩
              have HWQ := Lib.hid hwq
              rw [← hwq]
              clear hwq
              have hbq : Below wr.heap.size wr wq := by rw [HWQ.out]; exact below_drewN (Below.refl _ _) nq
              clear c1 g1 f1
              have hot := HKE.out.1.below hbq
              have hown := own_below HKE.out.2.1 hbq
              have hb := HKE.out.2.2.1.trans (hbq.mono hsz7)
              have c1 : wq.cell? ⟨g9, q, none⟩ = some (.int .i64 x) := by rw [HWQ.out]; exact HKE.out.2.2.2.1
              have g1 : wq.cell? ⟨b1, o1 + q, none⟩ = some (.int .i64 y) := by rw [HWQ.out]; exact HKE.out.2.2.2.2
              have hsz6 : w2.heap.size ≤ wq.heap.size := Nat.le_trans hsz6 hbq.size
              clear hbq HKE
              have f1 := own_frozen hown q
              have HOX := Lib.hid (show ∀ v : Int, v = mv s x y → OwnT (wq.drew.setCell ⟨g9, q, none⟩ (.int .i64 v)) w2.heap.size u10 (rampTo a b s (k + 1)) ∧ (wq.drew.setCell ⟨g9, q, none⟩ (.int .i64 v)).ownsRow w1.heap.size 3 1 (.slice (some ⟨g9, 0, none⟩) n c9) n (ints (between a b s k (q + 1))) ∧ Below w1.heap.size w1 (wq.drew.setCell ⟨g9, q, none⟩ (.int .i64 v)) ∧ w2.heap.size ≤ (wq.drew.setCell ⟨g9, q, none⟩ (.int .i64 v)).heap.size from fun v hv => by
                subst hv
                refine ⟨(hot.below (w' := wq.drew) (Below.refl _ _).drew).setCell lg9 _, ?_, hb.drew.setCell hg1 _, by rw [World.size_setCell]; exact hsz6⟩
                have h1 := own_seti (i := q) (own_below hown (w' := wq.drew) (Below.refl _ _).drew) (mv s x y)
                rwa [HS.out] at h1)
              clear hot hown hb HS
              go_wp2
              refine wp_region_pick (fun w' => w' = wq.drew) 14 [0, 1, 2, 3, 4, 5, 6, 7, 8, 9, 10, 11] [12, 13, 14] (by kernel_rfl) rfl (by kernel_rfl) (fun _ _ _ _ _ h => h) rfl ?_
              simp only [List.map_cons, List.map_nil, List.getD_cons_zero, List.getD_cons_succ]
              repeat (go_big_quiet_step (fail))
              refine wpQuiet_nil ?_
              refine seqS_cons rfl ?_
              go_wp2
              all_goals (refine thenS_normal (by first | trivial | rfl | exact .inr rfl) ?_; refine seqS_cons rfl ?_; go_wp2)
              all_goals (refine thenS_normal (by first | trivial | rfl | exact .inr rfl) ?_; refine seqS_cons rfl ?_; go_wp2)
              all_goals (refine thenS_normal (by first | trivial | exact .inl rfl) ?_; refine seqS_nil ?_; go_wp2)
              all_goals
                go_roundw
                case rel => exact ⟨q + 1, by go_num, by omega, HOX.out _ (by unfold mv; omega)⟩
                case measure => simp [intOf]; omega
            · go_wp2
              go_quiet (fail)
              go_wp2
              obtain ⟨wq, hwq⟩ : ∃ z, z = wr.drewN nq := ⟨_, rfl⟩
              have HWQ := Lib.hid hwq
              rw [← hwq]
              clear hwq
              have hbq : Below wr.heap.size wr wq := by rw [HWQ.out]; exact below_drewN (Below.refl _ _) nq
              clear c1 g1 f1
              have hot := HKE.out.1.below hbq
              have hown := own_below HKE.out.2.1 hbq
              have hb := HKE.out.2.2.1.trans (hbq.mono hsz7)
              have c1 : wq.cell? ⟨g9, q, none⟩ = some (.int .i64 x) := by rw [HWQ.out]; exact HKE.out.2.2.2.1
              have g1 : wq.cell? ⟨b1, o1 + q, none⟩ = some (.int .i64 y) := by rw [HWQ.out]; exact HKE.out.2.2.2.2
              have hsz6 : w2.heap.size ≤ wq.heap.size := Nat.le_trans hsz6 hbq.size
              clear hbq HKE
              have f1 := own_frozen hown q
              have HOX := Lib.hid (show ∀ v : Int, v = mv s x y → OwnT (wq.drew.setCell ⟨g9, q, none⟩ (.int .i64 v)) w2.heap.size u10 (rampTo a b s (k + 1)) ∧ (wq.drew.setCell ⟨g9, q, none⟩ (.int .i64 v)).ownsRow w1.heap.size 3 1 (.slice (some ⟨g9, 0, none⟩) n c9) n (ints (between a b s k (q + 1))) ∧ Below w1.heap.size w1 (wq.drew.setCell ⟨g9, q, none⟩ (.int .i64 v)) ∧ w2.heap.size ≤ (wq.drew.setCell ⟨g9, q, none⟩ (.int .i64 v)).heap.size from fun v hv => by
                subst hv
                refine ⟨(hot.below (w' := wq.drew) (Below.refl _ _).drew).setCell lg9 _, ?_, hb.drew.setCell hg1 _, by rw [World.size_setCell]; exact hsz6⟩
                have h1 := own_seti (i := q) (own_below hown (w' := wq.drew) (Below.refl _ _).drew) (mv s x y)
                rwa [HS.out] at h1)
              clear hot hown hb HS
              go_wp2
              refine wp_region_pick (fun w' => w' = wq.drew) 14 [0, 1, 2, 3, 4, 5, 6, 7, 8, 9, 10, 11] [12, 13, 14] (by kernel_rfl) rfl (by kernel_rfl) (fun _ _ _ _ _ h => h) rfl ?_
              simp only [List.map_cons, List.map_nil, List.getD_cons_zero, List.getD_cons_succ]
              repeat (go_big_quiet_step (fail))
              refine wpQuiet_nil ?_
              refine seqS_cons rfl ?_
              go_wp2
              all_goals (refine thenS_normal (by first | trivial | rfl | exact .inr rfl) ?_; refine seqS_cons rfl ?_; go_wp2)
              all_goals (refine thenS_normal (by first | trivial | rfl | exact .inr rfl) ?_; refine seqS_cons rfl ?_; go_wp2)
              all_goals (refine thenS_normal (by first | trivial | exact .inl rfl) ?_; refine seqS_nil ?_; go_wp2)
              all_goals
                go_roundw
                case rel => exact ⟨q + 1, by go_num, by omega, HOX.out _ (by unfold mv; omega)⟩
                case measure => simp [intOf]; omega
          · obtain rfl : q = n := by omega
            have hbn := between_all (s := s) HLN.out k
            rw [← HN.out] at hbn
            rw [hbn] at hown
            clear hbn
            obtain ⟨vs, ho, ht⟩ := hot
            rw [rampTo_len] at ho
            obtain ⟨Au, cu, rfl, hcu1, hcu2⟩ := own_cap ho
            have hal := HAL.out (k + 1)
            rw [← HN.out] at hal
            have HRL := Lib.hid hal
            have HOA := Lib.hid (And.intro ho (And.intro ht (And.intro hown hb)))
            have HRR := Lib.hid ((Rd.of_own hown).alloc (Nat.le_refl _) (.cells #[] 3))
            have HO := Lib.hid (show (wr.alloc (.cells #[] 3)).ownsRow wr.heap.size 3 1 (.slice (some ⟨wr.heap.size, 0, none⟩) 0 0) 0 [] from own_empty (blk_new wr 3 #[]) (Nat.le_refl _))
            have HB1 := Lib.hid ((Below.refl wr.heap.size wr).alloc (Nat.le_refl _) (.cells #[] 3))
            clear ho ht hown hb hal
            go_wp2_with (at_builtin; first
              | ((refine app1x rfl (.tmp 73) (.tmp 77) 22 rfl 23 _ 1 24 E22 w2.heap.size _ _ _ _ rfl u1 _ rfl ?_ ?_ ?_ ?_ ?_ ?_); rfl; rfl; rfl; omega; omega; intro v7 w7 hown7 hg7 hx7)
              | ((refine appN rfl (.tmp 74) (.tmp 75) 23 rfl 3 _ 1 8 E23 wr.heap.size _ _ _ rfl HO.out wr.heap.size A9 q c9 (ints (rampAt a b s (k + 1))) rfl HRR.out (ints_one _) (by omega) (by simp) ?_); intro v6 w6 hown6 hg6; rw [Nat.zero_add, List.nil_append] at hown6; have HB6 := Lib.hid (below_own HB1.out (by simp) HO.out (Nat.le_refl _) hg6); have s6 := HB6.out.size; have u1 := own_below HOA.out.1 HB6.out; obtain ⟨A6, c6, rfl, hc61, hc62⟩ := own_cap hown6; clear hg6))
            have HOT7 := Lib.hid (OwnT.push (base' := wr.heap.size) ((HOA.out.2.1.below HB6.out (Nat.le_refl _)).more HB6.out.size) (by rw [HRL.out]; exact hown6) hsz6 (fun g hg => (HOA.out.1.lt g hg).2) (by exact hown7) (rampTo_len a b s (k + 1)).symm rfl hg7 hx7)
            have HB7 := Lib.hid (below_own (HOA.out.2.2.2.trans (HB6.out.mono hsz7)) (by have := HB6.out.size; omega) u1 (by omega) hg7)
            have HO97 := Lib.hid (own_grown_far (own_below HOA.out.2.2.1 HB6.out) hg7 (fun g hg hg2 => by have h1 := (HG9.out g hg).2; have h2 := (u1.lt g hg2).1; omega))
            obtain ⟨A7, c7, rfl, _, _⟩ := own_cap hown7
            have sz7 := hg7.size
            clear hown7 hg7 hx7 u1
            go_roundw
            case rel => exact ⟨k + 1, by omega, rfl, by rw [rampTo_succ]; exact HOT7.out, HO97.out, HB7.out, by have := HB6.out.size; omega⟩
            case measure => simp [lenOf]; omega
  · have hd : (slewE a b s != 0) = true := by simpa using h
    have HT := Lib.hid (show rampT a b s = [] by rw [rampT, if_neg h])
    clear h
    have H := Lib.hid (rslewed A A' k c k' c' a b s w hl hl' w.heap.size (Nat.le_refl _) hr hr')
    generalize slewE a b s = y at *
    go_enter Try.func49, Try.ntmps49
    go_wp2_with fail
    refine (H.out).mono ?_
    rintro e w1 ⟨rfl, hb1⟩
    have s1 := hb1.size
    have HB1 := Lib.hid hb1
    have hr := (hr.below hb1).more s1
    have hr' := (hr'.below hb1).more s1
    clear hb1
    go_wp2
    go_ret2
    exact ⟨_, ret_pair rfl rfl, by rw [HT.out]; exact OwnT.nil, HB1.out⟩

set_option maxRecDepth 100000 in
set_option maxHeartbeats 1000000 in
theorem rSteps (A A' : Option Addr) (k c k' c' : Nat) (a b : List Int) (s : Int) (w : World) (hl : a.length ≤ 1000) (hl' : b.length ≤ 1000) (B : Nat) (hB : B ≤ w.heap.size) (hr : Rd w B 1 A k (ints a)) (hr' : Rd w B 1 A' k' (ints b)) :
    Calls Try.prog 47 #[.slice A k c, .slice A' k' c', .int .i64 s] w fun e w' => e = .returned (.tuple #[.int .i64 (stepsN a b s), .int .i64 (slewE a b s)]) ∧ Below w.heap.size w w' := by
  have H := Lib.hid (rRamp A A' k c k' c' a b s w hl hl' B hB hr hr')
  by_cases h : slewE a b s = 0
  · obtain ⟨hp, hs1, hs6⟩ := slewE_ok h
    obtain ⟨hp1, hp2, hp3, hp4, hp5⟩ := pairE_ok hp
    have hj6 := jumpL_le (x := 3) (y := 3) (by decide) (by decide) hp3 hp5
    have hN0 := rampN_nn (a := a) (b := b) hs1
    have hN6 := rampN_le hs1 hj6
    have HS := Lib.hid (show stepsN a b s = rampN a b s by rw [stepsN, if_pos h]; rfl)
    have HV := Lib.hid h
    have HR := Lib.hid (show ((rampT a b s).length : Int) = rampN a b s + 1 by rw [rampT, if_pos h, rampTo_len]; omega)
    clear h hp hp1 hp2 hp3 hp4 hp5 hj6
    generalize rampN a b s = N at *
    go_enter Try.func47, Try.ntmps47
    go_wp2_with fail
    refine H.out.mono ?_
    rw [HV.out]
    rintro e w1 ⟨u, rfl, hot, hb1⟩
    obtain ⟨A1, c1, rfl, _⟩ := hot.cap
    have hr9 := HR.out
    clear hot H
    generalize (rampT a b s).length = m at *
    have HM := Lib.hid hr9
    clear HR
    go_wp2
    go_ret2
    exact ⟨ret_pair (by rw [HS.out]; exact int_eq (by omega)) (by rw [HV.out]; rfl), hb1⟩
  · have hd : (slewE a b s != 0) = true := by simpa using h
    have HS := Lib.hid (show stepsN a b s = 0 by rw [stepsN, if_neg h])
    have HR := Lib.hid (show rampT a b s = [] by rw [rampT, if_neg h])
    clear h
    rw [HR.out] at H
    generalize slewE a b s = y at *
    go_enter Try.func47, Try.ntmps47
    go_wp2_with fail
    refine H.out.mono ?_
    rintro e w1 ⟨u, rfl, hot, hb1⟩
    obtain ⟨A1, c1, rfl, _⟩ := hot.cap
    clear hot H
    go_wp2
    go_ret2
    exact ⟨ret_pair (by rw [HS.out]; rfl) rfl, hb1⟩
end Go.Proofs.Ytejjogpgolgdgaa
