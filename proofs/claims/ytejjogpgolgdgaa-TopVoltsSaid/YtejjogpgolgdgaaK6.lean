/-
  MERGED: W10, W11, W12.
-/
import Derived.Test.YtejjogpgolgdgaaK5
/-
  WALK: making.
-/
namespace Go.Proofs.Ytejjogpgolgdgaa
open Go.RowKit Go.Shelf Pulse
attribute [local go_sem] Oper.semAt_some

/-- All voltages whose field is a wish. -/
def makeL (g : List (List Int)) (l : List Int) : List (List Int) := (allV (wid g)).filter fun v => decide (fieldL g v = l)
/-- .. of the first q ones. -/
def makeTo (g : List (List Int)) (l : List Int) (q : Nat) : List (List Int) := ((allV (wid g)).take q).filter fun v => decide (fieldL g v = l)
theorem makeTo_all (g : List (List Int)) (l : List Int) : makeTo g l (allV (wid g)).length = makeL g l := by rw [makeTo, List.take_length]; rfl
theorem makeTo_succ {g : List (List Int)} {l : List Int} {q : Nat} {p : List Int} (h : (allV (wid g))[q]? = some p) : makeTo g l (q + 1) = makeTo g l q ++ (if decide (fieldL g p = l) then [p] else []) := by
  obtain ⟨h1, h2⟩ := List.getElem?_eq_some_iff.1 h
  unfold makeTo
  rw [take_snoc' _ q h1, h2, List.filter_append]
  congr 1
  by_cases e : fieldL g p = l <;> simp [e]
theorem allV_len (n : Nat) (h : n ≤ 3) : (allV n).length ≤ 343 := by
  rw [allP_len]
  calc (2 * 3 + 1) ^ n ≤ 7 ^ 3 := Nat.pow_le_pow_right (by omega) h
    _ = 343 := by decide
theorem makeTo_len (g : List (List Int)) (l : List Int) (q : Nat) (h : wid g ≤ 3) : (makeTo g l q).length ≤ 343 := by
  refine Nat.le_trans (List.length_filter_le _ _) ?_
  rw [List.length_take]
  have := allV_len (wid g) h
  omega
/-- What the caller lays ahead of a loop over all voltages. -/
theorem allIn (n : Nat) (hn : 2 ≤ n) (m : Nat) (hm : m ≤ 3) (n₁ : Nat) (w : World) (hb1 : w.heap[n₁]? = some (.cells #[.int .i64 m] 3 (0, 0))) :
    AllIn Fence.wide n Try.prog 93 #[.pointer (some ⟨n₁, 0, none⟩)] n₁ (allV m).length (Told m) w := by
  intro l J W hb hJ hY h0
  have hl := blk_lt hb1
  exact all_in n hn m hm n₁ l J W (by have := hb.size; omega) hJ hY h0 (blk_below hb1 hb hl)

/-- What holds ahead of round q. -/
def MkI (g : List (List Int)) (l : List Int) (w : World) (x0 x1 : Value) (G q : Nat) (W : World) : Prop := ∃ u vs,
  W.heap[w.heap.size]? = some (.cells #[x0] 22 (0, 0)) ∧ W.heap[w.heap.size + 1]? = some (.cells #[x1] 23 (0, 0)) ∧ W.heap[w.heap.size + 1 + 1]? = some (.cells #[u] 22 (0, 0)) ∧
  W.ownsRow (w.heap.size + 4) 23 1 u (makeTo g l q).length vs ∧ Tab W W.heap.size (fun x => (x = G ∨ x < w.heap.size + 4) ∨ u.ownBlock = some x) vs (makeTo g l q) ∧
  Below w.heap.size w W ∧ (∀ x, u.ownBlock = some x → x ≠ G) ∧ w.heap.size + 4 ≤ G ∧ w.heap.size + 4 ≤ W.heap.size

theorem mkI_fix {g : List (List Int)} {l : List Int} {w : World} {x0 x1 : Value} {G q B : Nat} {X Y : World} (hB : w.heap.size ≤ B) (h : MkI g l w x0 x1 G q X) (hf : Fix (KI G B) X Y) : MkI g l w x0 x1 G q Y := by
  obtain ⟨u, vs, h1, h2, h3, h4, h5, h6, h7, h8, h9⟩ := h
  exact ⟨u, vs, hf.keep _ _ ⟨by omega, .inr rfl⟩ h1, hf.keep _ _ ⟨by omega, .inr rfl⟩ h2, hf.keep _ _ ⟨by omega, .inr rfl⟩ h3, own_fix h4 hf (fun g cs hg => ⟨h7 g hg, .inr rfl⟩), (h5.fix hf (fun g o hg hx ho => ⟨fun e => hx (.inl (.inl e)), .inr ho⟩)).more hf.size, hf.frame h6 (fun g o hg => ⟨by omega, .inl (by omega)⟩) (Nat.le_refl _), h7, h8, Nat.le_trans h9 hf.size⟩

theorem mkI_eq {g : List (List Int)} {l : List Int} {w : World} {x0 x1 : Value} {G q : Nat} {X : World} (he : makeTo g l (q + 1) = makeTo g l q) (h : MkI g l w x0 x1 G q X) : MkI g l w x0 x1 G (q + 1) X := by
  unfold MkI at h ⊢
  rw [he]; exact h

set_option maxRecDepth 100000 in
set_option maxHeartbeats 4000000 in
theorem pmaking (A A' : Option Addr) (k c k' c' : Nat) (g : List (List Int)) (l : List Int) (w : World) (hv : vldG g = 0) (hl : l.length ≤ 1000) (B : Nat) (hB : B ≤ w.heap.size) (hr : TRd w B A k g) (hr' : Rd w B 1 A' k' (ints l)) :
    Calls Try.prog 56 #[.slice A k c, .slice A' k' c'] w fun e w' => ∃ u, e = .returned u ∧ OwnT w' w.heap.size u (makeL g l) ∧ Below w.heap.size w w' := by
  obtain rfl := hr.len
  obtain rfl := hr'.int_len
  obtain ⟨v1, v2, v3, v4, v5⟩ := vldG_ok hv
  have HV := Lib.hid hv
  have hpos : 0 < g.length := by omega
  obtain ⟨b, off, A0, c0, rfl, hb0, hc0, _, _, _⟩ := hr.row hpos
  have HW := Lib.hid (wid_zero hpos)
  rw [Nat.add_zero, ← HW.out] at hc0
  have z2 : (0 : Int) < (g.length : Int) := by omega
  have hr := hr.more hB
  have hr' := hr'.more hB
  obtain ⟨n, hn⟩ : ∃ n, n = wid g := ⟨_, rfl⟩
  have HN := Lib.hid hn
  rw [← hn] at hc0 v3 v4
  clear hn hv v5
  have a0 := blk_alloc (blk_alloc (blk_alloc (blk_new w 22 #[.slice (some ⟨b, off, none⟩) g.length c]) (.cells #[.slice A' l.length c'] 23)) (.cells #[.slice none 0 0] 22)) (.cells #[.int .i64 n] 3)
  have a1 := blk_alloc (blk_alloc (blk_new (w.alloc (.cells #[.slice (some ⟨b, off, none⟩) g.length c] 22)) 23 #[.slice A' l.length c']) (.cells #[.slice none 0 0] 22)) (.cells #[.int .i64 n] 3)
  have a2 := blk_alloc (blk_new ((w.alloc (.cells #[.slice (some ⟨b, off, none⟩) g.length c] 22)).alloc (.cells #[.slice A' l.length c'] 23)) 22 #[.slice none 0 0]) (.cells #[.int .i64 n] 3)
  have a3 := blk_new (((w.alloc (.cells #[.slice (some ⟨b, off, none⟩) g.length c] 22)).alloc (.cells #[.slice A' l.length c'] 23)).alloc (.cells #[.slice none 0 0] 22)) 3 #[.int .i64 n]
  have hB0 : Below w.heap.size w ((((w.alloc (.cells #[.slice (some ⟨b, off, none⟩) g.length c] 22)).alloc (.cells #[.slice A' l.length c'] 23)).alloc (.cells #[.slice none 0 0] 22)).alloc (.cells #[.int .i64 n] 3)) :=
    ((((Below.refl _ w).alloc (Nat.le_refl _) _).alloc (by simp) _).alloc (by simp; omega) _).alloc (by simp; omega) _
  have hsz : w.heap.size + 4 = ((((w.alloc (.cells #[.slice (some ⟨b, off, none⟩) g.length c] 22)).alloc (.cells #[.slice A' l.length c'] 23)).alloc (.cells #[.slice none 0 0] 22)).alloc (.cells #[.int .i64 n] 3)).heap.size := by simp
  simp only [World.size_alloc] at a1 a2 a3
  have HA := Lib.hid (And.intro a0 (And.intro a1 (And.intro a2 (And.intro a3 (And.intro hB0 hsz)))))
  have hc3 : (((w.alloc (.cells #[.slice (some ⟨b, off, none⟩) g.length c] 22)).alloc (.cells #[.slice A' l.length c'] 23)).alloc (.cells #[.slice none 0 0] 22)).cell? ⟨b, off, none⟩ = some (.slice A0 n c0) :=
    ((((Below.refl w.heap.size w).alloc (Nat.le_refl _) _).alloc (by simp) _).alloc (by simp; omega) _).cell (p := ⟨b, off, none⟩) (show b < w.heap.size by omega) |>.trans hc0
  clear a0 a1 a2 a3 hB0 hsz
  refine (callsIn_wide (n := 9)).1 ?_
  refine callsIn_of_wp_marks Try.func56 rfl trivial ?_ rfl
  simp only [Try.ntmps56, List.size_toArray, List.length_cons, List.length_nil, Nat.reduceAdd, Nat.reduceSub, Array.replicate_succ, Array.replicate_zero, List.push_toArray, List.append_toArray, List.nil_append, List.cons_append]
  gi_wp2
  refine ⟨trivial, (callsIn_wide.2 (pAll _ _)).mono ?_⟩
  rintro e w' ⟨rfl, rfl⟩
  gi_wp2
  obtain ⟨a0, a1, a2, a3, hB0, hsz⟩ := HA.out
  obtain ⟨W0, hW0⟩ : ∃ W0, (((w.alloc (.cells #[.slice (some ⟨b, off, none⟩) g.length c] 22)).alloc (.cells #[.slice A' l.length c'] 23)).alloc (.cells #[.slice none 0 0] 22)).alloc (.cells #[.int .i64 n] 3) = W0 := ⟨_, rfl⟩
  rw [hW0] at a0 a1 a2 a3 hB0 hsz ⊢
  clear hW0 HA hc3 hc0
  have HB0 := Lib.hid (And.intro a0 (And.intro a1 (And.intro a2 hB0)))
  refine wpIn_all (n₁ := w.heap.size + 1 + 1 + 1) (N := (allV n).length) rfl (by omega) (gf := 93) (lb := #[.pointer (some ⟨w.heap.size + 1 + 1 + 1, 0, none⟩)]) rfl trivial (enters_of Try.func93 (by kernel_rfl) rfl)
    (allIn 8 (by omega) n v4 (w.heap.size + 1 + 1 + 1) W0 a3) rfl
    (MkI g l w (.slice (some ⟨b, off, none⟩) g.length c) (.slice A' l.length c'))
    ?hI ?h0
    (fun G q a' W => ∃ v p, (allV n)[q]? = some p ∧ W.ownsRow (G + 1) 3 1 v n (ints p) ∧ G < W.heap.size ∧ a' = { tmps := #[.slice (some ⟨b, off, none⟩) g.length c, .slice A' l.length c', .pointer (some ⟨w.heap.size, 0, none⟩), .pointer (some ⟨w.heap.size + 1, 0, none⟩), .slice none 0 0, .pointer (some ⟨w.heap.size + 1 + 1, 0, none⟩), v, .slice (some ⟨b, off, none⟩) g.length c, .pointer (some ⟨b, off, none⟩), .slice A0 n c0, .int .i64 n, .func (.func 93) #[] #[.pointer (some ⟨w.heap.size + 1 + 1 + 1, 0, none⟩)], v, undef, undef, undef, undef, undef, undef, undef, undef, undef, undef], defers := [] })
    ?hAx ?assign ?body ?done
  case hI =>
    exact fun G q X Y h hf => mkI_fix (by omega) h hf
  case h0 =>
    intro G hG
    obtain ⟨a0, a1, a2, hB0⟩ := HB0.out
    exact ⟨.slice none 0 0, [], a0, a1, a2, World.ownsRow_nil .., Tab.nil, hB0, (fun x hx => by cases hx), by omega, by omega⟩
  case hAx =>
    rintro G q a' X l' o o' ⟨v, p, h1, h2, h3, h4⟩ ho hc
    exact ⟨v, p, h1, own_keep h2 (fun g hg => World.putObj_heap_other (fun e => by
      obtain ⟨_, cs, hcs⟩ := own_obj h2 hg
      subst e
      rw [ho] at hcs
      cases hcs
      cases hc)), by rw [World.putObj_size]; exact h3, h4⟩
  case assign =>
    rintro l' G q W v K hI hq ⟨p, hp, hown, hGs⟩ hK
    gi_wp2
    exact hK _ _ (KeepsFrom.refl _ _) (Fix.refl _ _) hI ⟨v, p, hp, hown, hGs, rfl⟩
  case body =>
    rintro l' G q a' W hI ⟨v, p, hp, hown, hGs, rfl⟩ hq
    have HII := Lib.hid hI
    obtain ⟨u, vs, h1, h2, h3, h4, h5, h6, h7, h8, h9⟩ := hI
    obtain ⟨Av, cv, rfl, _, _⟩ := own_cap hown
    have hpm := mem_allP.1 (List.mem_of_getElem? hp)
    have HFG := Lib.hid (fitG HV.out (by rw [hpm.1, HN.out]) (fun f hf => by have := hpm.2 f hf; omega))
    have hfl : (fieldL g p).length ≤ 3 := by rw [fieldL_len]; exact v2
    have HMS := Lib.hid (makeTo_succ (g := g) (l := l) (by rw [← HN.out]; exact hp))
    have hMl := makeTo_len g l q (by rw [← HN.out]; exact v4)
    have HPL := Lib.hid hpm.1
    obtain ⟨d, hd⟩ : ∃ d, d = decide (fieldL g p = l) := ⟨_, rfl⟩
    have HD := Lib.hid hd.symm
    rw [← hd] at HMS
    obtain ⟨M, hM⟩ : ∃ M, M = makeTo g l q := ⟨_, rfl⟩
    rw [← hM] at h4 h5 HMS hMl
    have HM := Lib.hid hM
    have hs6 := h6.size
    have c0 : W.cell? ⟨w.heap.size, 0, none⟩ = some (.slice (some ⟨b, off, none⟩) g.length c) := blk_cell h1 0
    have c1 : W.cell? ⟨w.heap.size + 1, 0, none⟩ = some (.slice A' l.length c') := blk_cell h2 0
    have rg := (hr.below h6).more hs6
    have rl := (hr'.below h6).more hs6
    have rv := Rd.of_own hown
    have HF := Lib.hid (pfield _ _ _ c _ cv g p W.drew HFG.out.1 HFG.out.2.1 HFG.out.2.2.1 HFG.out.2.2.2 W.heap.size (Nat.le_refl _) rg rv)
    have HO := Lib.hid (And.intro h1 (And.intro h2 (And.intro h3 (And.intro h4 (And.intro h5 (And.intro h6 (And.intro h7 hown)))))))
    have l1 : w.heap.size + 1 < W.heap.size := blk_lt h2
    clear h1 h2 h3 h4 h5 h6 h7 hd hM hpm rg rv hown hp
    have hmix : Try.prog.follows .mixedOrders = true := by kernel_rfl
    cases d
    case false =>
      gi_wp2
      gi_region_with_o (first
        | (refine ⟨trivial, ?_⟩; gi_at_call 63; refine (CallsIn.inRound l' (callsIn_wide.2 HF.out)).mono ?_; rintro e w3 ⟨u3, rfl, hown3, hb3⟩; obtain ⟨A3, c3, rfl, _, _⟩ := own_cap hown3; have r3 := Rd.of_own hown3; have s3 := hb3.size; have rl3 := (rl.drew.below hb3).more s3; have d1 : w3.cell? ⟨w.heap.size + 1, 0, none⟩ = some (.slice A' l.length c') := (hb3.cell (p := ⟨w.heap.size + 1, 0, none⟩) l1).trans c1; clear hown3)
        | (refine ⟨trivial, ?_⟩; gi_at_call 81; refine (CallsIn.inRound l' (callsIn_wide.2 (pEqual_is false _ _ _ _ _ _ (fieldL g p) l HD.out w3 (by omega) hl w3.heap.size (Nat.le_refl _) r3 rl3))).mono ?_; rintro e w4 ⟨rfl, hb4⟩))
      all_goals
        have hB4 : Below W.heap.size W w4 := ((Below.refl W.heap.size W).drew.trans hb3).trans (hb4.mono s3)
        have hK1 : KeepsFrom W0.heap.size W w4 := keepsFrom_below hB4
        have hK2 : Fix (KQ (w.heap.size + 1 + 1 + 1) G) W w4 := Fix.of_below hB4 (Nat.le_refl _)
        have hK3 := mkI_eq (by rw [HMS.out, HM.out]; simp) (mkI_fix (B := w.heap.size) (Nat.le_refl _) HII.out (Fix.of_below hB4 (Nat.le_refl _)))
        have HK := Lib.hid (And.intro hK1 (And.intro hK2 hK3))
        clear hB4 hK1 hK2 hK3 hb3 hb4 r3 rl3 d1 c0 c1
        gi_wp2
        exact HK.out
    case true =>
      gi_wp2
      gi_region_with_o (first
        | (refine ⟨trivial, ?_⟩; gi_at_call 63; refine (CallsIn.inRound l' (callsIn_wide.2 HF.out)).mono ?_; rintro e w3 ⟨u3, rfl, hown3, hb3⟩; obtain ⟨A3, c3, rfl, _, _⟩ := own_cap hown3; have r3 := Rd.of_own hown3; have s3 := hb3.size; have rl3 := (rl.drew.below hb3).more s3; have d1 : w3.cell? ⟨w.heap.size + 1, 0, none⟩ = some (.slice A' l.length c') := (hb3.cell (p := ⟨w.heap.size + 1, 0, none⟩) l1).trans c1; clear hown3)
        | (refine ⟨trivial, ?_⟩; gi_at_call 81; refine (CallsIn.inRound l' (callsIn_wide.2 (pEqual_is true _ _ _ _ _ _ (fieldL g p) l HD.out w3 (by omega) hl w3.heap.size (Nat.le_refl _) r3 rl3))).mono ?_; rintro e w4 ⟨rfl, hb4⟩))
      all_goals
        have hB4 : Below W.heap.size W w4 := ((Below.refl W.heap.size W).drew.trans hb3).trans (hb4.mono s3)
        have s4 := hB4.size
        obtain ⟨h1, h2, h3, h4, h5, h6, h7, hown⟩ := HO.out
        obtain ⟨Au, cu, rfl, _, _⟩ := own_cap h4
        have g3 := blk_below h3 hB4 (blk_lt h3)
        have g4 := own_below h4 hB4
        have g5 := (h5.below hB4 (Nat.le_refl _)).more s4
        have g6 := h6.trans (hB4.mono h6.size)
        have gown := own_below hown hB4
        have HOB := Lib.hid (fun g (hg : (Value.slice Au M.length cu).ownBlock = some g) => own_obj g4 hg)
        have HOV := Lib.hid (fun g (hg : (Value.slice Av n cv).ownBlock = some g) => own_obj gown hg)
        have HRW := Lib.hid (show RowAt w4 w4.heap.size (fun x => (x = G ∨ x < w.heap.size + 4) ∨ (Value.slice Au M.length cu).ownBlock = some x) (.slice Av n cv) p from rowAt_own (by rw [HPL.out]; exact gown) (fun x hx he => by
          obtain ⟨e1, cs, e2⟩ := HOV.out x hx
          rcases he with (he | he) | he
          · omega
          · omega
          · obtain ⟨_, cs', e3⟩ := HOB.out x he
            rw [e2] at e3
            cases e3))
        have HNE := Lib.hid (show some (w.heap.size + 1 + 1) ≠ (Value.slice Au M.length cu).ownBlock from fun e => by have := (HOB.out _ e.symm).1; omega)
        have c2 : w4.cell? ⟨w.heap.size + 1 + 1, 0, none⟩ = some (.slice Au M.length cu) := blk_cell g3 0
        have HK := Lib.hid (And.intro g3 (And.intro g5 (And.intro g6 (And.intro h7 (And.intro hB4 (And.intro h1 h2))))))
        have l3 := blk_lt g3
        clear h1 h2 h3 h4 h5 h6 h7 hown g3 g5 g6 gown hB4 hb3 hb4 r3 rl3 d1 c0 c1 HII HF HO
        gi_wp2_with (gi_at_builtin; go_must (refine app1In rfl (.tmp 18) (.tmp 20) 22 rfl 23 _ 1 24 E22 (w.heap.size + 4) _ _ _ _ rfl g4 _ rfl ?_ ?_ ?_ ?_ ?_ ?_); rfl; rfl; rfl; omega; omega; intro v5 w5 hown5 hg5 hx5; obtain ⟨A5, c5, rfl, _, _⟩ := own_cap hown5; have x5 := blk_grown HK.out.1 hg5 HNE.out; have e1 : w5.cell? ⟨w.heap.size + 1 + 1, 0, none⟩ = some (.slice Au M.length cu) := blk_cell x5 0; have e2 := blk_frozen x5 0)
        have s5 := hg5.size
        obtain ⟨g3, g5, g6, h7, hB4, h1, h2⟩ := HK.out
        have z1 := blk_set x5 0 (.slice A5 (M.length + 1) c5)
        have z2 := own_set_far hown5 (p := ⟨w.heap.size + 1 + 1, 0, none⟩) (by simp only []; omega) (.slice A5 (M.length + 1) c5)
        have z3 := (tab_push (L := fun x => x = G ∨ x < w.heap.size + 4) g5 HRW.out hg5 hx5).setCell (a := ⟨w.heap.size + 1 + 1, 0, none⟩) (.inl (.inr (by simp only []; omega))) (.slice A5 (M.length + 1) c5)
        have y1 := blk_far (blk_grown (blk_below h1 hB4 (by omega)) hg5 (fun e => by have := (HOB.out _ e.symm).1; omega)) (p := ⟨w.heap.size + 1 + 1, 0, none⟩) (by simp only []; omega) (.slice A5 (M.length + 1) c5)
        have y2 := blk_far (blk_grown (blk_below h2 hB4 (by omega)) hg5 (fun e => by have := (HOB.out _ e.symm).1; omega)) (p := ⟨w.heap.size + 1 + 1, 0, none⟩) (by simp only []; omega) (.slice A5 (M.length + 1) c5)
        have z4 := (g6.grown hg5 (by omega) (fun g h => by have := (HOB.out g h).1; omega)).setCell (p := ⟨w.heap.size + 1 + 1, 0, none⟩) (by simp only []; omega) (.slice A5 (M.length + 1) c5)
        have z5 : KeepsFrom W0.heap.size W (w5.setCell ⟨w.heap.size + 1 + 1, 0, none⟩ (.slice A5 (M.length + 1) c5)) :=
          ((keepsFrom_below hB4).trans ((KeepsOthers.of_grownBy hg5 (fun g o hr ho => by
            obtain ⟨_, cs, h2⟩ := HOB.out g hr
            rw [ho] at h2
            injection h2 with h2
            subst h2
            rfl)).from _)).trans ((KeepsOthers.setCell _ _ _).from _)
        have z6 : Fix (KQ (w.heap.size + 1 + 1 + 1) G) W (w5.setCell ⟨w.heap.size + 1 + 1, 0, none⟩ (.slice A5 (M.length + 1) c5)) :=
          ((Fix.of_below hB4 (Nat.le_refl _)).trans (Fix.grown hg5 (fun g o hr ho hk => by
            have e1 := (HOB.out g hr).1
            have e2 := h7 g hr
            rcases hk.2 with e | e
            · omega
            · exact e2 e))).trans (Fix.setCell (p := ⟨w.heap.size + 1 + 1, 0, none⟩) _ x5 (fun hk => by
              rcases hk.2 with e | e
              · simp only [] at e; omega
              · simp only [] at e; omega))
        have HL : (makeTo g l (q + 1)).length = M.length + 1 := by rw [HMS.out]; simp
        refine ⟨z5, z6, .slice A5 (M.length + 1) c5, vs ++ [.slice Av n cv], y1, y2, by simpa using z1, ?_, ?_, z4, ?_, h8, by simp; omega⟩
        · rw [HL]; exact z2
        · rw [HMS.out]; exact z3.more (by simp)
        · intro x hx
          rcases hx5 with e | ⟨g', e, hg'⟩
          · rw [e] at hx; exact h7 x hx
          · rw [e] at hx; injection hx with hx; omega
  case done =>
    rintro D G W hD ⟨u, vs, h1, h2, h3, h4, h5, h6, h7, h8, h9⟩ hK
    obtain ⟨Au, cu, rfl, _, _⟩ := own_cap h4
    have c2 : W.cell? ⟨w.heap.size + 1 + 1, 0, none⟩ = some (.slice Au (makeTo g l (allV n).length).length cu) := blk_cell h3 0
    have X := Lib.hid (And.intro h4 (And.intro h5 (And.intro h6 (And.intro hK hsz))))
    have HM := Lib.hid (show makeTo g l (allV n).length = makeL g l by rw [HN.out]; exact makeTo_all g l)
    obtain ⟨M, hM⟩ : ∃ M, M = makeTo g l (allV n).length := ⟨_, rfl⟩
    rw [← hM] at c2 X HM
    clear h1 h2 h3 h4 h5 h6 hK hM a3 hsz
    gi_wp2
    obtain ⟨h4, h5, h6, hK, hsz⟩ := X.out
    refine ⟨by simp, .inl ⟨_, _, rfl, run_takeDeferred hK, ?_⟩⟩
    have hbk := belowK_b (w := w) (n₀ := w.heap.size) (Nat.le_refl _) W D (.deferred (some [])) (.deferred none) (by omega) hK rfl rfl
    refine ⟨.slice Au M.length cu, by simp [results, Try.results56, go_sem], _, rfl, ?_, h6.trans hbk⟩
    rw [← HM.out]
    have hf : Fix (fun g o => o.isCells = true) W (W.putObj D (.deferred none)) := Fix.putObj _ hK (fun h => by cases h)
    refine ⟨vs, own_base (own_fix h4 hf (fun _ _ _ => rfl)) (by omega), ((h5.fix hf (fun _ _ _ _ h => h)).at (fun x hx => ?_)).more hf.size⟩
    rcases hx with hx | hx
    · exact .inl (.inl (.inr (by omega)))
    · exact .inl (.inr hx)
end Go.Proofs.Ytejjogpgolgdgaa

/-
  WALK: the reference's 'every'.
-/
namespace Go.Proofs.Ytejjogpgolgdgaa
open Go.RowKit Pulse

/-- The blocks that a growing row and what lies below lo take. -/
def Taken (lo : Nat) (v : Value) (g : Nat) : Prop := g < lo ∨ v.ownBlock = some g
theorem tab_step {wr w6 w8 : World} {base n lo : Nat} {v v6 v8 : Value} {vs : List Value} {ps : List (List Int)} {p : List Int} (hlo : lo ≤ wr.heap.size) (hown : wr.ownsRow base 23 1 v n vs) (ht : Tab wr wr.heap.size (Taken lo v) vs ps) (hb : Below wr.heap.size wr w6)
    (hown6 : w6.ownsRow wr.heap.size 3 1 v6 p.length (ints p)) (hg8 : w6.grownBy w8 v.ownBlock) (hx : v8.ownBlock = v.ownBlock ∨ ∃ g, v8.ownBlock = some g ∧ w6.heap.size ≤ g) :
    Tab w8 w8.heap.size (Taken lo v8) (vs ++ [v6]) (ps ++ [p]) := by
  have hs := hb.size
  have h1 : Tab w6 w6.heap.size (Taken lo v) vs ps := (ht.below hb (Nat.le_refl _)).more hs
  have h2 : RowAt w6 w6.heap.size (Taken lo v) v6 p := RowAt.of_own hown6 (fun g hg => by
    rcases hg with hg | hg
    · omega
    · exact (hown.lt g hg).2)
  have h3 := (h1.snoc h2).grown hg8 (fun g hg => .inr hg) (Nat.le_refl _)
  exact (h3.at (fun g hg => by
    rcases hg with hg | hg
    · exact .inl (.inl hg)
    · rcases hx with h | ⟨g', h, hg'⟩
      · rw [h] at hg; exact .inl (.inr hg)
      · rw [h] at hg; injection hg with hg; exact .inr (by omega))).more hg8.size

/-- A pulse with each force behind it. -/
def ext (F : Nat) (p : List Int) (d : Nat) : List (List Int) := ((digs F).take d).map fun f => p ++ [f]
def part (F : Nat) (ps : List (List Int)) (j : Nat) : List (List Int) := (ps.take j).flatMap fun p => (digs F).map fun f => p ++ [f]
theorem ext_succ {F : Nat} {p : List Int} {d : Nat} (h : d < 2 * F + 1) : ext F p (d + 1) = ext F p d ++ [p ++ [(d : Int) - F]] := by
  have h' : d < (digs F).length := by rw [digs_len]; exact h
  unfold ext
  rw [take_snoc _ d h', digs_get, List.map_append]; rfl
theorem ext_all {F : Nat} {p : List Int} : ext F p (2 * F + 1) = (digs F).map fun f => p ++ [f] := by
  unfold ext
  rw [List.take_of_length_le (by rw [digs_len]; exact Nat.le_refl _)]
theorem part_succ {F : Nat} {ps : List (List Int)} {j : Nat} (h : j < ps.length) : part F ps (j + 1) = part F ps j ++ ext F ps[j] (2 * F + 1) := by
  unfold part
  rw [take_snoc _ j h, List.flatMap_append, ext_all]; simp
theorem part_len {F : Nat} {ps : List (List Int)} {j : Nat} (h : j ≤ ps.length) : (part F ps j).length = j * (2 * F + 1) := by
  induction j with
  | zero => simp [part]
  | succ j ih => rw [part_succ (by omega), List.length_append, ih (by omega), ext_all, List.length_map, digs_len, Nat.add_mul]; omega
theorem part_all {F : Nat} {q : Nat} : part F (allP F q) (allP F q).length = allP F (q + 1) := by
  unfold part
  rw [List.take_length]; rfl
set_option maxRecDepth 100000 in
set_option maxHeartbeats 4000000 in
theorem revery (A : Option Addr) (k c : Nat) (g : List (List Int)) (w : World) (hpos : 0 < g.length) (hwd : wid g ≤ 3) (B : Nat) (hB : B ≤ w.heap.size) (hr : TRd w B A k g) :
    Calls Try.prog 70 #[.slice A k c] w fun e w' => ∃ A c vs, e = .returned (.slice A (allV (wid g)).length c) ∧ Rd w' w'.heap.size 1 A (allV (wid g)).length vs ∧ (∀ b off f, A = some ⟨b, off, f⟩ → w.heap.size ≤ b) ∧ Tab w' w'.heap.size (fun g => g < w.heap.size) vs (allV (wid g)) ∧ Below w.heap.size w w' := by
  obtain rfl := hr.len
  obtain ⟨b0, off0, Ag, cg, rfl, hb0, hc0, _, _, _⟩ := hr.row hpos
  have HW := Lib.hid (wid_zero hpos)
  rw [Nat.add_zero, ← HW.out] at hc0
  have zg : (0 : Int) < (g.length : Int) := by omega
  obtain ⟨n, hn0⟩ : ∃ n, n = wid g := ⟨_, rfl⟩
  rw [← hn0] at hc0 hwd ⊢
  have hn : n ≤ 3 := hwd
  have HC0G := Lib.hid hc0
  have hb0w : b0 < w.heap.size := by omega
  clear hn0 hwd hc0 hr
  have hn0 := blk_new w 23 #[.slice none 0 0]
  have HR0 := Lib.hid (show Rd (w.alloc (.cells #[.slice none 0 0] 23)) (w.alloc (.cells #[.slice none 0 0] 23)).heap.size 1 (some ⟨w.heap.size, 0, none⟩) 1 [.slice none 0 0] by simpa using rd_lit (sz := 1) (n := 1) hn0 rfl)
  have HB0 := Lib.hid ((Below.refl w.heap.size w).alloc (Nat.le_refl _) (.cells #[.slice none 0 0] 23))
  have HT0 := Lib.hid (show Tab (w.alloc (.cells #[.slice none 0 0] 23)) (w.alloc (.cells #[.slice none 0 0] 23)).heap.size (fun g => g < w.heap.size) [.slice none 0 0] (allP 3 0) from Tab.nil.snoc RowAt.nil)
  clear hn0
  go_enter Try.func70, Try.ntmps70
  go_wp2
  go_loopw [3, 4, 5, 6, 7] (fun v i _ _ _ wr => ∃ (q N : Nat) (A : Option Addr) (c : Nat) (vs : List Value) (ps : List (List Int)), v = .slice A N c ∧ i = .int .i64 q ∧ q ≤ n ∧ Hid (ps = allP 3 q) ∧ N ≤ 343 ∧ Hid (N = ps.length) ∧ Rd wr wr.heap.size 1 A N vs ∧ Hid (∀ b off f, A = some ⟨b, off, f⟩ → w.heap.size ≤ b) ∧ Tab wr wr.heap.size (fun g => g < w.heap.size) vs ps ∧ Below w.heap.size w wr) (fun _ i _ _ _ _ => n - (intOf i).toNat)
  case atStart => exact ⟨0, 1, _, _, _, _, rfl, rfl, Nat.zero_le _, rfl, by omega, rfl, HR0.out, (fun b off f h => by injection h with h; injection h with h; omega), HT0.out, HB0.out⟩
  case round =>
    clear HR0 HT0 HB0
    obtain ⟨q, N, A, c, vs, ps, rfl, rfl, hq, HPS, hN, HN, hro, HLO, hto, hbo⟩ := hrel
    have hcg := (hbo.cell (p := ⟨b0, off0, none⟩) hb0w).trans HC0G.out
    by_cases hlt : q < n
    · have HRO := Lib.hid hro
      have HTO := Lib.hid hto
      have HBO := Lib.hid hbo
      have hso := hbo.size
      clear hro hto hbo
      obtain ⟨wo, hwo⟩ : ∃ wo, wo = wr := ⟨_, rfl⟩
      subst hwo
      go_wp2
      go_loopw [5, 6, 7] (fun v k _ wm => ∃ (j m : Nat) (vs' : List Value), k = .int .i64 j ∧ j ≤ N ∧ m ≤ 100000 ∧ Hid (m = (part 3 ps j).length) ∧ wm.ownsRow wo.heap.size 23 1 v m vs' ∧ Tab wm wm.heap.size (Taken w.heap.size v) vs' (part 3 ps j) ∧ Below wo.heap.size wo wm) (fun _ k _ _ => N - (intOf k).toNat)
      case atStart => exact ⟨0, 0, [], rfl, Nat.zero_le _, by omega, rfl, World.ownsRow_nil .., Tab.nil, Below.refl _ _⟩
      case round =>
        obtain ⟨j, m, vs', rfl, hj, hm, HM, hown, ht, hb⟩ := hrel
        have hsm := hb.size
        obtain ⟨wm, hwm⟩ : ∃ wm, wm = wr := ⟨_, rfl⟩
        subst hwm
        by_cases hjN : j < N
        · have hjp : j < ps.length := by have := HN.out; omega
          obtain ⟨hdr, hhd, hrow⟩ := HTO.out.row hjp
          obtain ⟨Ap, cp, rfl, _, _, _⟩ := hrow.read
          have HROW := Lib.hid hrow
          obtain ⟨b, off, rfl, hbb, hc0⟩ := Rd.head HRO.out hhd
          have hpl : ps[j].length ≤ 3 := by
            have h1 := HPS.out
            have h2 : ps[j] ∈ allP 3 q := by rw [← h1]; exact List.getElem_mem hjp
            rw [(mem_allP.1 h2).1]; omega
          have HPA := Lib.hid (show part 3 ps (j + 1) = part 3 ps j ++ ext 3 ps[j] 7 from part_succ (F := 3) hjp)
          have hpj : (part 3 ps j).length = j * (7) := part_len (Nat.le_of_lt hjp)
          have hpj2 : j * (7) ≤ 343 * 7 := Nat.mul_le_mul (by omega) (by omega)
          have HPL := Lib.hid (show (part 3 ps j).length ≤ 2401 by omega)
          obtain ⟨p, hp⟩ : ∃ p, p = ps[j] := ⟨_, rfl⟩
          rw [← hp] at HROW HPA hpl
          have hlp : ps[j].length = p.length := by rw [hp]
          rw [hlp] at hc0
          have HC0 := Lib.hid hc0
          have HE0 := Lib.hid (show part 3 ps j ++ ext 3 p 0 = part 3 ps j by simp [ext])
          have OWN := Lib.hid (And.intro hown (And.intro ht hb))
          clear hp hhd hrow hpj hpj2 hlp hc0 hown ht hb
          go_wp2
          go_loopw [5, 7] (fun v x wi => ∃ (d m2 : Nat) (vs2 : List Value), x = .int .i64 ((d : Int) - 3) ∧ d ≤ 7 ∧ m2 ≤ 100000 ∧ Hid (m2 = (part 3 ps j ++ ext 3 p d).length) ∧ wi.ownsRow wo.heap.size 23 1 v m2 vs2 ∧ Tab wi wi.heap.size (Taken w.heap.size v) vs2 (part 3 ps j ++ ext 3 p d) ∧ Below wo.heap.size wo wi) (fun _ x _ => 7 - (intOf x + 3).toNat)
          case atStart => exact ⟨0, m, vs', by simp, Nat.zero_le _, hm, by rw [HE0.out]; exact HM.out, OWN.out.1, by rw [HE0.out]; exact OWN.out.2.1, OWN.out.2.2⟩
          case round =>
            clear OWN
            obtain ⟨d, m2, vs2, rfl, hd, hm2, HM2, hown, ht, hb⟩ := hrel
            have hsi := hb.size
            obtain ⟨wi, hwi⟩ : ∃ wi, wi = wr := ⟨_, rfl⟩
            subst hwi
            by_cases hdF : d < 7
            · have HES := Lib.hid (show ext 3 p (d + 1) = ext 3 p d ++ [p ++ [(d : Int) - 3]] from ext_succ (F := 3) (p := p) hdF)
              have HT := Lib.hid ht
              have c0 := (hb.cell (p := ⟨b, off + j, none⟩) hbb).trans HC0.out
              have c1 := (World.cell?_alloc_lt wi (.cells #[] 3) ⟨b, off + j, none⟩ (show b < wi.heap.size by omega)).trans c0
              obtain ⟨f, hf⟩ : ∃ f, f = (d : Int) - 3 := ⟨_, rfl⟩
              have f1 : -3 ≤ f := by omega
              have f2 : f ≤ 3 := by omega
              have HF1 := Lib.hid hf
              rw [← hf]
              have HOW := Lib.hid hown
              have HBI := Lib.hid hb
              have HRR := Lib.hid (show Rd (wi.alloc (.cells #[] 3)) wi.heap.size 1 Ap p.length (ints p) by
                obtain ⟨A', c', e, _, _, h3⟩ := HROW.out.read
                injection e with e1 e2 e3
                subst e1
                exact ((h3.below hb).more hsi).alloc (Nat.le_refl _) _)
              have HO := Lib.hid (show (wi.alloc (.cells #[] 3)).ownsRow wi.heap.size 3 1 (.slice (some ⟨wi.heap.size, 0, none⟩) 0 0) 0 [] from own_empty (blk_new wi 3 #[]) (Nat.le_refl _))
              have HB1 := Lib.hid ((Below.refl wi.heap.size wi).alloc (Nat.le_refl _) (.cells #[] 3))
              clear hf hown ht hb hd
              go_wp2_with (at_builtin; first
                | ((refine app1x rfl (.tmp 27) (.tmp 37) 22 rfl 23 _ 1 24 E22 wo.heap.size _ _ _ _ rfl hown7 _ rfl ?_ ?_ ?_ ?_ ?_ ?_); rfl; rfl; rfl; omega; omega; intro v8 w8 hown8 hg8 hx8)
                | ((refine app1 rfl (.tmp 33) (.tmp 35) 23 rfl 3 _ 1 8 E23 wi.heap.size _ _ _ _ rfl hown5 _ rfl ?_ ?_ ?_ ?_ ?_ ?_); rfl; rfl; rfl; omega; omega; intro v6 w6 hown6 hg6; obtain ⟨A6, c6, rfl, _, _⟩ := own_cap hown6; have hb6 := below_own (below_own HB1.out (by simp) HO.out (Nat.le_refl _) hg5) b5 hown5 (Nat.le_refl _) hg6; have b6 := hb6.size; have hown7 := own_below HOW.out hb6)
                | ((refine appN rfl (.tmp 28) (.tmp 32) 23 rfl 3 _ 1 8 E23 wi.heap.size _ _ _ rfl HO.out wi.heap.size Ap p.length cp (ints p) rfl HRR.out (ints_one _) (by omega) (by simp) ?_); intro v5 w5 hown5 hg5; rw [Nat.zero_add, List.nil_append] at hown5; have b5 := (below_own HB1.out (by simp) HO.out (Nat.le_refl _) hg5).size))
              have hown6' : w6.ownsRow wi.heap.size 3 1 (.slice A6 (p.length + 1) c6) (p ++ [f]).length (ints (p ++ [f])) := by
                rw [List.length_append, ints_snoc]; exact hown6
              have HT2 := Lib.hid (tab_step (by omega) HOW.out HT.out hb6 hown6' hg8 hx8)
              have HB2 := Lib.hid (below_own (HBI.out.trans (hb6.mono hsi)) (by omega) hown7 (Nat.le_refl _) hg8)
              clear hown6' hown6 hown5 hg5 hg6 hg8 hx8
              go_roundw
              case rel =>
                refine ⟨d + 1, m2 + 1, _, by have := HF1.out; go_num, by omega, ?_, ?_, hown8, ?_, HB2.out⟩
                · have h1 := HM2.out
                  have h2 := HPL.out
                  rw [List.length_append] at h1
                  have h3 : (ext 3 p d).length ≤ 7 := by unfold ext; rw [List.length_map, List.length_take, digs_len]; omega
                  omega
                · rw [HES.out, ← List.append_assoc, List.length_append, ← HM2.out]; rfl
                · rw [HES.out, ← List.append_assoc, ← HF1.out]; exact HT2.out
              case measure => have := HF1.out; simp [intOf]; omega
            · obtain rfl : d = 7 := by omega
              have HFIN := Lib.hid (And.intro hown (And.intro ht hb))
              clear hown ht hb
              go_wp2
              go_roundw
              case rel =>
                refine ⟨j + 1, m2, vs2, by go_num, by omega, hm2, ?_, HFIN.out.1, ?_, HFIN.out.2.2⟩
                · rw [HPA.out]; exact HM2.out
                · rw [HPA.out]; exact HFIN.out.2.1
              case measure => simp [intOf]; omega
        · obtain rfl : j = N := by omega
          have HEQ := Lib.hid (show part 3 ps j = allP 3 (q + 1) by
            have h1 := HN.out
            have h2 := HPS.out
            rw [h1, h2]; exact part_all)
          obtain ⟨A2, c2, rfl, _, _⟩ := own_cap hown
          have HR2 := Lib.hid (Rd.of_own hown)
          have HT2 := Lib.hid (ht.at (X' := fun g => g < w.heap.size) (fun g hg => .inl (.inl hg)))
          have HLO2 := Lib.hid (show ∀ b off f, A2 = some ⟨b, off, f⟩ → w.heap.size ≤ b from fun b off f h => by subst h; have := (hown.lt b rfl).1; omega)
          have HB2 := Lib.hid (HBO.out.trans (hb.mono hso))
          have HM2 := Lib.hid (show m ≤ 343 by
            have h1 := HM.out
            rw [HEQ.out] at h1
            have : (allP 3 (q + 1)).length ≤ 343 := allV_len (q + 1) (by omega)
            omega)
          clear hown ht hb
          go_wp2
          go_roundw
          case rel =>
            refine ⟨q + 1, m, A2, c2, vs', allP 3 (q + 1), rfl, by go_num, by omega, rfl, HM2.out, ?_, HR2.out, HLO2.out, ?_, HB2.out⟩
            · have h1 := HM.out
              rw [HEQ.out] at h1; exact h1
            · rw [← HEQ.out]; exact HT2.out
          case measure => simp [intOf]; omega
    · obtain rfl : q = n := by omega
      have HFIN := Lib.hid (And.intro hro (And.intro hto hbo))
      clear hro hto hbo
      go_wp2
      go_ret
      have h1 := HPS.out
      have h2 := HN.out
      rw [h1] at h2
      obtain ⟨x1, x2, x3⟩ := HFIN.out
      rw [h1] at x2
      exact ⟨A, c, vs, by rw [h2]; rfl, by rw [← h2]; exact x1, HLO.out, x2, x3⟩
end Go.Proofs.Ytejjogpgolgdgaa

/-
  WALK: the reference's 'meeting'.
-/
namespace Go.Proofs.Ytejjogpgolgdgaa
open Go.RowKit Pulse

set_option maxRecDepth 100000 in
set_option maxHeartbeats 4000000 in
theorem rmeeting (A A' : Option Addr) (k c k' c' : Nat) (g : List (List Int)) (l : List Int) (w : World) (hv : vldG g = 0) (hl : l.length ≤ 1000) (B : Nat) (hB : B ≤ w.heap.size) (hr : TRd w B A k g) (hr' : Rd w B 1 A' k' (ints l)) :
    Calls Try.prog 58 #[.slice A k c, .slice A' k' c'] w fun e w' => ∃ u, e = .returned u ∧ OwnT w' w.heap.size u (makeL g l) ∧ Below w.heap.size w w' := by
  obtain rfl := hr.len
  obtain rfl := hr'.int_len
  obtain ⟨v1, v2, v3, v4, v5⟩ := vldG_ok hv
  have HV := Lib.hid hv
  have hpos : 0 < g.length := by omega
  have H := Lib.hid (revery A g.length c g w hpos v4 B hB hr)
  have hr := hr.more hB
  have hr' := hr'.more hB
  have HMA := Lib.hid (makeTo_all g l)
  have HML := Lib.hid (fun q => makeTo_len g l q v4)
  have HMS := Lib.hid (fun q p (hp : (allV (wid g))[q]? = some p) => makeTo_succ (g := g) (l := l) hp)
  have HM0 := Lib.hid (show makeTo g l 0 = [] by simp [makeTo])
  obtain ⟨n, hn⟩ : ∃ n, n = wid g := ⟨_, rfl⟩
  have HN := Lib.hid hn
  have hN := allV_len n (by omega)
  rw [← hn] at H v3 v4 HMA HMS
  clear hn hv v5
  obtain ⟨L, hL⟩ : ∃ L, L = allV n := ⟨_, rfl⟩
  have HL := Lib.hid hL
  rw [← hL] at H HMA HMS hN
  clear hL
  go_enter Try.func58, Try.ntmps58
  go_wp2_with fail
  refine H.out.mono ?_
  rintro e w1 ⟨AL, cL, vs, rfl, hrl, hlo, hta, hb1⟩
  have s1 := hb1.size
  have rg := (hr.below hb1).more s1
  have rl := (hr'.below hb1).more s1
  have HT := Lib.hid (And.intro hrl hta)
  have HB1 := Lib.hid hb1
  clear hrl hta hb1 hlo H
  go_wp2
  go_loopw [7, 5] (fun i u wr => ∃ (q m : Nat) (vs' : List Value), i = .int .i64 q ∧ q ≤ L.length ∧ Hid (m = (makeTo g l q).length) ∧ m ≤ 343 ∧ wr.ownsRow w1.heap.size 23 1 u m vs' ∧ Tab wr wr.heap.size (fun x => x < w.heap.size ∨ u.ownBlock = some x) vs' (makeTo g l q) ∧ Below w1.heap.size w1 wr) (fun i _ _ => L.length - (intOf i).toNat)
  case atStart => exact ⟨0, 0, [], rfl, Nat.zero_le _, by rw [HM0.out]; rfl, by omega, World.ownsRow_nil .., by rw [HM0.out]; exact Tab.nil, Below.refl _ _⟩
  case round =>
    obtain ⟨q, m, vs', rfl, hq, HM, hm, hown, ht, hb⟩ := hrel
    have hsz := hb.size
    by_cases hlt : q < L.length
    · obtain ⟨hdr, hhd, hrow⟩ := HT.out.2.row hlt
      obtain ⟨Ap, cp, rfl, _, _, hrp⟩ := hrow.read
      obtain ⟨b, off, rfl, hbb, hc0⟩ := Rd.head HT.out.1 hhd
      have hrw := (hrow.below hb (Nat.le_refl _)).more hsz
      have hpl : L[q] ∈ allV n := by have := HL.out; rw [← this]; exact List.getElem_mem hlt
      have hpm := mem_allP.1 hpl
      have hgq : L[q]? = some L[q] := List.getElem?_eq_getElem hlt
      have HSU := Lib.hid (HMS.out q L[q] hgq)
      have HFG := Lib.hid (fitG HV.out (by rw [hpm.1, HN.out]) (fun f hf => by have := hpm.2 f hf; omega))
      obtain ⟨p, hp⟩ : ∃ p, p = L[q] := ⟨_, rfl⟩
      rw [← hp] at hrow hrw hrp hc0 HSU HFG hpm
      have hpn : p.length = n := hpm.1
      rw [hpn] at hc0 hrp
      have HPN := Lib.hid hpn
      obtain ⟨Au, cu, rfl, _, _⟩ := own_cap hown
      have HRW := Lib.hid (show RowAt wr wr.heap.size (fun x => x < w.heap.size ∨ (Value.slice Au m cu).ownBlock = some x) (.slice Ap n cp) p from by
        have h1 := hrow.at (X' := fun x => x < w.heap.size ∨ (Value.slice Au m cu).ownBlock = some x) (fun x hx => by
          rcases hx with hx | hx
          · exact .inl hx
          · exact .inr (hown.lt x hx).1)
        have h2 := (h1.below hb (Nat.le_refl _)).more hsz
        rw [hpn] at h2
        exact h2)
      clear hrow hrw hp hgq hpl hpn hhd
      have c0 := (hb.cell (p := ⟨b, off + q, none⟩) hbb).trans hc0
      have rgw := (rg.below hb).more hsz
      have rlw := (rl.below hb).more hsz
      have rpw := (hrp.below hb).more hsz
      have z0 : (0 : Int) ≤ (q : Int) := by omega
      have z1 : (q : Int) < (L.length : Int) := by omega
      have hfl : (fieldL g p).length ≤ 3 := by rw [fieldL_len]; exact v2
      obtain ⟨d, hd⟩ : ∃ d, d = decide (fieldL g p = l) := ⟨_, rfl⟩
      have HD := Lib.hid hd.symm
      rw [← hd] at HSU
      have HO := Lib.hid (And.intro hown (And.intro ht hb))
      clear hd hown ht hc0 hrp hpm hb
      go_wp2_with fail
      refine (rfield _ _ _ _ _ _ g p wr HFG.out.1 HFG.out.2.1 HFG.out.2.2.1 HFG.out.2.2.2 wr.heap.size (Nat.le_refl _) rgw rpw).mono ?_
      rintro e w2 ⟨u2, rfl, hown2, hb2⟩
      obtain ⟨A2, c2, rfl, _, _⟩ := own_cap hown2
      have s2 := hb2.size
      have r2 := Rd.of_own hown2
      have rl2 := (rlw.below hb2).more s2
      clear hown2
      go_wp2_with fail
      refine (rSameInts_is d _ _ _ _ _ _ (fieldL g p) l HD.out w2 (by omega) hl w2.heap.size (Nat.le_refl _) r2 rl2).mono ?_
      rintro e w3 ⟨rfl, hb3⟩
      have hb4 := hb2.trans (hb3.mono s2)
      have s4 := hb4.size
      obtain ⟨hown, ht, hb⟩ := HO.out
      have hown4 := own_below hown hb4
      have ht4 := (ht.below hb4 (Nat.le_refl _)).more s4
      have hB4 := Lib.hid (hb.trans (hb4.mono hsz))
      have hrw4 := (HRW.out.below hb4 (Nat.le_refl _)).more s4
      have c4 := (hb4.cell (p := ⟨b, off + q, none⟩) (show b < wr.heap.size by omega)).trans c0
      have HT4 := Lib.hid (And.intro ht4 hrw4)
      clear hown ht hb hb2 hb3 hb4 ht4 hrw4 r2 rl2 c0
      cases d with
      | false =>
        go_wp2
        go_roundw
        case rel => exact ⟨q + 1, m, vs', by go_num, by omega, by show m = _; rw [HSU.out, HM.out]; simp, hm, hown4, by rw [HSU.out]; simpa using HT4.out.1, hB4.out⟩
        case measure => simp [intOf]; omega
      | true =>
        go_wp2_with (at_builtin; go_must (refine app1x rfl (.tmp 24) (.tmp 29) 22 rfl 23 _ 1 24 E22 w1.heap.size _ _ _ _ rfl hown4 _ rfl ?_ ?_ ?_ ?_ ?_ ?_); rfl; rfl; rfl; omega; omega; intro v5 w5 hown5 hg5 hx5)
        have HT5 := Lib.hid (tab_push (L := fun x => x < w.heap.size) HT4.out.1 HT4.out.2 hg5 hx5)
        have HB5 := Lib.hid (below_own hB4.out (by omega) hown4 (Nat.le_refl _) hg5)
        have hm5 : m + 1 ≤ 343 := by have h1 := HML.out (q + 1); have h2 := HM.out; rw [HSU.out] at h1; simp at h1; omega
        have HO5 := Lib.hid hown5
        clear hown5 hg5 hx5
        go_roundw
        case rel => exact ⟨q + 1, m + 1, _, by go_num, by omega, by show m + 1 = _; rw [HSU.out, HM.out]; simp, hm5, HO5.out, by rw [HSU.out]; exact HT5.out, HB5.out⟩
        case measure => simp [intOf]; omega
    · obtain rfl : q = L.length := by omega
      obtain ⟨Au, cu, rfl, _, _⟩ := own_cap hown
      rw [HMA.out] at HM ht
      have HO := Lib.hid (And.intro hown (And.intro ht hb))
      clear hown ht hb
      go_wp2
      go_ret
      obtain ⟨h1, h2, h3⟩ := HO.out
      have e := HM.out
      exact ⟨_, rfl, ⟨vs', by rw [← e]; exact own_base h1 s1, h2⟩, HB1.out.trans (h3.mono s1)⟩
end Go.Proofs.Ytejjogpgolgdgaa
