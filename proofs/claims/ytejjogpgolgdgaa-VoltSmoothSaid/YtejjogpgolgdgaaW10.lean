/-
  WALK: making.
-/
import Derived.Test.YtejjogpgolgdgaaW9
namespace Go.Proofs.Ytejjogpgolgdgaa
open Go.RowKit Go.Shelf Pulse
attribute [local go_sem] Oper.semAt_some

/-- All voltages whose field is a wish. -/
def makeL (g : List (List Int)) (l : List Int) : List (List Int) := (allV (wid g)).filter fun v => decide (fieldL g v = l)
/-- .. of the first q ones. -/
def makeTo (g : List (List Int)) (l : List Int) (q : Nat) : List (List Int) := ((allV (wid g)).take q).filter fun v => decide (fieldL g v = l)
theorem makeTo_all (g : List (List Int)) (l : List Int) : makeTo g l (allV (wid g)).length = makeL g l := by rw [makeTo, List.take_length]; rfl
theorem makeTo_succ {g : List (List Int)} {l : List Int} {q : Nat} {p : List Int} (h : (allV (wid g))[q]? = some p) : makeTo g l (q + 1) = makeTo g l q ++ (if decide (fieldL g p = l) then [p] else []) := by
  obtain ⟨h1, h2⟩ := List.getElem?_eq_some_iff.1 h
  unfold makeTo
  rw [take_snoc' _ q h1, h2, List.filter_append]
  congr 1
  by_cases e : fieldL g p = l <;> simp [e]
theorem allV_len (n : Nat) (h : n ≤ 3) : (allV n).length ≤ 343 := by
  rw [allP_len]
  calc (2 * 3 + 1) ^ n ≤ 7 ^ 3 := Nat.pow_le_pow_right (by omega) h
    _ = 343 := by decide
theorem makeTo_len (g : List (List Int)) (l : List Int) (q : Nat) (h : wid g ≤ 3) : (makeTo g l q).length ≤ 343 := by
  refine Nat.le_trans (List.length_filter_le _ _) ?_
  rw [List.length_take]
  have := allV_len (wid g) h
  omega
/-- What the caller lays ahead of a loop over all voltages. -/
theorem allIn (n : Nat) (hn : 2 ≤ n) (m : Nat) (hm : m ≤ 3) (n₁ : Nat) (w : World) (hb1 : w.heap[n₁]? = some (.cells #[.int .i64 m] 3 (0, 0))) :
    AllIn Fence.wide n Try.prog 93 #[.pointer (some ⟨n₁, 0, none⟩)] n₁ (allV m).length (Told m) w := by
  intro l J W hb hJ hY h0
  have hl := blk_lt hb1
  exact all_in n hn m hm n₁ l J W (by have := hb.size; omega) hJ hY h0 (blk_below hb1 hb hl)

/-- What holds ahead of round q. -/
def MkI (g : List (List Int)) (l : List Int) (w : World) (x0 x1 : Value) (G q : Nat) (W : World) : Prop := ∃ u vs,
  W.heap[w.heap.size]? = some (.cells #[x0] 22 (0, 0)) ∧ W.heap[w.heap.size + 1]? = some (.cells #[x1] 23 (0, 0)) ∧ W.heap[w.heap.size + 1 + 1]? = some (.cells #[u] 22 (0, 0)) ∧
  W.ownsRow (w.heap.size + 4) 23 1 u (makeTo g l q).length vs ∧ Tab W W.heap.size (fun x => (x = G ∨ x < w.heap.size + 4) ∨ u.ownBlock = some x) vs (makeTo g l q) ∧
  Below w.heap.size w W ∧ (∀ x, u.ownBlock = some x → x ≠ G) ∧ w.heap.size + 4 ≤ G ∧ w.heap.size + 4 ≤ W.heap.size

theorem mkI_fix {g : List (List Int)} {l : List Int} {w : World} {x0 x1 : Value} {G q B : Nat} {X Y : World} (hB : w.heap.size ≤ B) (h : MkI g l w x0 x1 G q X) (hf : Fix (KI G B) X Y) : MkI g l w x0 x1 G q Y := by
  obtain ⟨u, vs, h1, h2, h3, h4, h5, h6, h7, h8, h9⟩ := h
  exact ⟨u, vs, hf.keep _ _ ⟨by omega, .inr rfl⟩ h1, hf.keep _ _ ⟨by omega, .inr rfl⟩ h2, hf.keep _ _ ⟨by omega, .inr rfl⟩ h3, own_fix h4 hf (fun g cs hg => ⟨h7 g hg, .inr rfl⟩), (h5.fix hf (fun g o hg hx ho => ⟨fun e => hx (.inl (.inl e)), .inr ho⟩)).more hf.size, hf.frame h6 (fun g o hg => ⟨by omega, .inl (by omega)⟩) (Nat.le_refl _), h7, h8, Nat.le_trans h9 hf.size⟩

theorem mkI_eq {g : List (List Int)} {l : List Int} {w : World} {x0 x1 : Value} {G q : Nat} {X : World} (he : makeTo g l (q + 1) = makeTo g l q) (h : MkI g l w x0 x1 G q X) : MkI g l w x0 x1 G (q + 1) X := by
  unfold MkI at h ⊢
  rw [he]; exact h

set_option maxRecDepth 100000 in
set_option maxHeartbeats 4000000 in
theorem pmaking (A A' : Option Addr) (k c k' c' : Nat) (g : List (List Int)) (l : List Int) (w : World) (hv : vldG g = 0) (hl : l.length ≤ 1000) (B : Nat) (hB : B ≤ w.heap.size) (hr : TRd w B A k g) (hr' : Rd w B 1 A' k' (ints l)) :
    Calls Try.prog 56 #[.slice A k c, .slice A' k' c'] w fun e w' => ∃ u, e = .returned u ∧ OwnT w' w.heap.size u (makeL g l) ∧ Below w.heap.size w w' := by
  obtain rfl := hr.len
  obtain rfl := hr'.int_len
  obtain ⟨v1, v2, v3, v4, v5⟩ := vldG_ok hv
  have HV := Lib.hid hv
  have hpos : 0 < g.length := by omega
  obtain ⟨b, off, A0, c0, rfl, hb0, hc0, _, _, _⟩ := hr.row hpos
  have HW := Lib.hid (wid_zero hpos)
  rw [Nat.add_zero, ← HW.out] at hc0
  have z2 : (0 : Int) < (g.length : Int) := by omega
  have hr := hr.more hB
  have hr' := hr'.more hB
  obtain ⟨n, hn⟩ : ∃ n, n = wid g := ⟨_, rfl⟩
  have HN := Lib.hid hn
  rw [← hn] at hc0 v3 v4
  clear hn hv v5
  have a0 := blk_alloc (blk_alloc (blk_alloc (blk_new w 22 #[.slice (some ⟨b, off, none⟩) g.length c]) (.cells #[.slice A' l.length c'] 23)) (.cells #[.slice none 0 0] 22)) (.cells #[.int .i64 n] 3)
  have a1 := blk_alloc (blk_alloc (blk_new (w.alloc (.cells #[.slice (some ⟨b, off, none⟩) g.length c] 22)) 23 #[.slice A' l.length c']) (.cells #[.slice none 0 0] 22)) (.cells #[.int .i64 n] 3)
  have a2 := blk_alloc (blk_new ((w.alloc (.cells #[.slice (some ⟨b, off, none⟩) g.length c] 22)).alloc (.cells #[.slice A' l.length c'] 23)) 22 #[.slice none 0 0]) (.cells #[.int .i64 n] 3)
  have a3 := blk_new (((w.alloc (.cells #[.slice (some ⟨b, off, none⟩) g.length c] 22)).alloc (.cells #[.slice A' l.length c'] 23)).alloc (.cells #[.slice none 0 0] 22)) 3 #[.int .i64 n]
  have hB0 : Below w.heap.size w ((((w.alloc (.cells #[.slice (some ⟨b, off, none⟩) g.length c] 22)).alloc (.cells #[.slice A' l.length c'] 23)).alloc (.cells #[.slice none 0 0] 22)).alloc (.cells #[.int .i64 n] 3)) :=
    ((((Below.refl _ w).alloc (Nat.le_refl _) _).alloc (by simp) _).alloc (by simp; omega) _).alloc (by simp; omega) _
  have hsz : w.heap.size + 4 = ((((w.alloc (.cells #[.slice (some ⟨b, off, none⟩) g.length c] 22)).alloc (.cells #[.slice A' l.length c'] 23)).alloc (.cells #[.slice none 0 0] 22)).alloc (.cells #[.int .i64 n] 3)).heap.size := by simp
  simp only [World.size_alloc] at a1 a2 a3
  have HA := Lib.hid (And.intro a0 (And.intro a1 (And.intro a2 (And.intro a3 (And.intro hB0 hsz)))))
  have hc3 : (((w.alloc (.cells #[.slice (some ⟨b, off, none⟩) g.length c] 22)).alloc (.cells #[.slice A' l.length c'] 23)).alloc (.cells #[.slice none 0 0] 22)).cell? ⟨b, off, none⟩ = some (.slice A0 n c0) :=
    ((((Below.refl w.heap.size w).alloc (Nat.le_refl _) _).alloc (by simp) _).alloc (by simp; omega) _).cell (p := ⟨b, off, none⟩) (show b < w.heap.size by omega) |>.trans hc0
  clear a0 a1 a2 a3 hB0 hsz
  refine (callsIn_wide (n := 9)).1 ?_
  refine callsIn_of_wp_marks Try.func56 rfl trivial ?_ rfl
  simp only [Try.ntmps56, List.size_toArray, List.length_cons, List.length_nil, Nat.reduceAdd, Nat.reduceSub, Array.replicate_succ, Array.replicate_zero, List.push_toArray, List.append_toArray, List.nil_append, List.cons_append]
  gi_wp2
  refine ⟨trivial, (callsIn_wide.2 (pAll _ _)).mono ?_⟩
  rintro e w' ⟨rfl, rfl⟩
  gi_wp2
  obtain ⟨a0, a1, a2, a3, hB0, hsz⟩ := HA.out
  obtain ⟨W0, hW0⟩ : ∃ W0, (((w.alloc (.cells #[.slice (some ⟨b, off, none⟩) g.length c] 22)).alloc (.cells #[.slice A' l.length c'] 23)).alloc (.cells #[.slice none 0 0] 22)).alloc (.cells #[.int .i64 n] 3) = W0 := ⟨_, rfl⟩
  rw [hW0] at a0 a1 a2 a3 hB0 hsz ⊢
  clear hW0 HA hc3 hc0
  have HB0 := Lib.hid (And.intro a0 (And.intro a1 (And.intro a2 hB0)))
  refine wpIn_all (n₁ := w.heap.size + 1 + 1 + 1) (N := (allV n).length) rfl (by omega) (gf := 93) (lb := #[.pointer (some ⟨w.heap.size + 1 + 1 + 1, 0, none⟩)]) rfl trivial (enters_of Try.func93 (by kernel_rfl) rfl)
    (allIn 8 (by omega) n v4 (w.heap.size + 1 + 1 + 1) W0 a3) rfl
    (MkI g l w (.slice (some ⟨b, off, none⟩) g.length c) (.slice A' l.length c'))
    ?hI ?h0
    (fun G q a' W => ∃ v p, (allV n)[q]? = some p ∧ W.ownsRow (G + 1) 3 1 v n (ints p) ∧ G < W.heap.size ∧ a' = { tmps := #[.slice (some ⟨b, off, none⟩) g.length c, .slice A' l.length c', .pointer (some ⟨w.heap.size, 0, none⟩), .pointer (some ⟨w.heap.size + 1, 0, none⟩), .slice none 0 0, .pointer (some ⟨w.heap.size + 1 + 1, 0, none⟩), v, .slice (some ⟨b, off, none⟩) g.length c, .pointer (some ⟨b, off, none⟩), .slice A0 n c0, .int .i64 n, .func (.func 93) #[] #[.pointer (some ⟨w.heap.size + 1 + 1 + 1, 0, none⟩)], v, undef, undef, undef, undef, undef, undef, undef, undef, undef, undef], defers := [] })
    ?hAx ?assign ?body ?done
  case hI =>
    exact fun G q X Y h hf => mkI_fix (by omega) h hf
  case h0 =>
    intro G hG
    obtain ⟨a0, a1, a2, hB0⟩ := HB0.out
    exact ⟨.slice none 0 0, [], a0, a1, a2, World.ownsRow_nil .., Tab.nil, hB0, (fun x hx => by cases hx), by omega, by omega⟩
  case hAx =>
    rintro G q a' X l' o o' ⟨v, p, h1, h2, h3, h4⟩ ho hc
    exact ⟨v, p, h1, own_keep h2 (fun g hg => World.putObj_heap_other (fun e => by
      obtain ⟨_, cs, hcs⟩ := own_obj h2 hg
      subst e
      rw [ho] at hcs
      cases hcs
      cases hc)), by rw [World.putObj_size]; exact h3, h4⟩
  case assign =>
    rintro l' G q W v K hI hq ⟨p, hp, hown, hGs⟩ hK
    gi_wp2
    exact hK _ _ (KeepsFrom.refl _ _) (Fix.refl _ _) hI ⟨v, p, hp, hown, hGs, rfl⟩
  case body =>
    rintro l' G q a' W hI ⟨v, p, hp, hown, hGs, rfl⟩ hq
    have HII := Lib.hid hI
    obtain ⟨u, vs, h1, h2, h3, h4, h5, h6, h7, h8, h9⟩ := hI
    obtain ⟨Av, cv, rfl, _, _⟩ := own_cap hown
    have hpm := mem_allP.1 (List.mem_of_getElem? hp)
    have HFG := Lib.hid (fitG HV.out (by rw [hpm.1, HN.out]) (fun f hf => by have := hpm.2 f hf; omega))
    have hfl : (fieldL g p).length ≤ 3 := by rw [fieldL_len]; exact v2
    have HMS := Lib.hid (makeTo_succ (g := g) (l := l) (by rw [← HN.out]; exact hp))
    have hMl := makeTo_len g l q (by rw [← HN.out]; exact v4)
    have HPL := Lib.hid hpm.1
    obtain ⟨d, hd⟩ : ∃ d, d = decide (fieldL g p = l) := ⟨_, rfl⟩
    have HD := Lib.hid hd.symm
    rw [← hd] at HMS
    obtain ⟨M, hM⟩ : ∃ M, M = makeTo g l q := ⟨_, rfl⟩
    rw [← hM] at h4 h5 HMS hMl
    have HM := Lib.hid hM
    have hs6 := h6.size
    have c0 : W.cell? ⟨w.heap.size, 0, none⟩ = some (.slice (some ⟨b, off, none⟩) g.length c) := blk_cell h1 0
    have c1 : W.cell? ⟨w.heap.size + 1, 0, none⟩ = some (.slice A' l.length c') := blk_cell h2 0
    have rg := (hr.below h6).more hs6
    have rl := (hr'.below h6).more hs6
    have rv := Rd.of_own hown
    have HF := Lib.hid (pfield _ _ _ c _ cv g p W.drew HFG.out.1 HFG.out.2.1 HFG.out.2.2.1 HFG.out.2.2.2 W.heap.size (Nat.le_refl _) rg rv)
    have HO := Lib.hid (And.intro h1 (And.intro h2 (And.intro h3 (And.intro h4 (And.intro h5 (And.intro h6 (And.intro h7 hown)))))))
    have l1 : w.heap.size + 1 < W.heap.size := blk_lt h2
    clear h1 h2 h3 h4 h5 h6 h7 hd hM hpm rg rv hown hp
    have hmix : Try.prog.follows .mixedOrders = true := by kernel_rfl
    cases d
    case false =>
      gi_wp2
      gi_region_with_o (first
        | (refine ⟨trivial, ?_⟩; gi_at_call 63; refine (CallsIn.inRound l' (callsIn_wide.2 HF.out)).mono ?_; rintro e w3 ⟨u3, rfl, hown3, hb3⟩; obtain ⟨A3, c3, rfl, _, _⟩ := own_cap hown3; have r3 := Rd.of_own hown3; have s3 := hb3.size; have rl3 := (rl.drew.below hb3).more s3; have d1 : w3.cell? ⟨w.heap.size + 1, 0, none⟩ = some (.slice A' l.length c') := (hb3.cell (p := ⟨w.heap.size + 1, 0, none⟩) l1).trans c1; clear hown3)
        | (refine ⟨trivial, ?_⟩; gi_at_call 81; refine (CallsIn.inRound l' (callsIn_wide.2 (pEqual_is false _ _ _ _ _ _ (fieldL g p) l HD.out w3 (by omega) hl w3.heap.size (Nat.le_refl _) r3 rl3))).mono ?_; rintro e w4 ⟨rfl, hb4⟩))
      all_goals
        have hB4 : Below W.heap.size W w4 := ((Below.refl W.heap.size W).drew.trans hb3).trans (hb4.mono s3)
        have hK1 : KeepsFrom W0.heap.size W w4 := keepsFrom_below hB4
        have hK2 : Fix (KQ (w.heap.size + 1 + 1 + 1) G) W w4 := Fix.of_below hB4 (Nat.le_refl _)
        have hK3 := mkI_eq (by rw [HMS.out, HM.out]; simp) (mkI_fix (B := w.heap.size) (Nat.le_refl _) HII.out (Fix.of_below hB4 (Nat.le_refl _)))
        have HK := Lib.hid (And.intro hK1 (And.intro hK2 hK3))
        clear hB4 hK1 hK2 hK3 hb3 hb4 r3 rl3 d1 c0 c1
        gi_wp2
        exact HK.out
    case true =>
      gi_wp2
      gi_region_with_o (first
        | (refine ⟨trivial, ?_⟩; gi_at_call 63; refine (CallsIn.inRound l' (callsIn_wide.2 HF.out)).mono ?_; rintro e w3 ⟨u3, rfl, hown3, hb3⟩; obtain ⟨A3, c3, rfl, _, _⟩ := own_cap hown3; have r3 := Rd.of_own hown3; have s3 := hb3.size; have rl3 := (rl.drew.below hb3).more s3; have d1 : w3.cell? ⟨w.heap.size + 1, 0, none⟩ = some (.slice A' l.length c') := (hb3.cell (p := ⟨w.heap.size + 1, 0, none⟩) l1).trans c1; clear hown3)
        | (refine ⟨trivial, ?_⟩; gi_at_call 81; refine (CallsIn.inRound l' (callsIn_wide.2 (pEqual_is true _ _ _ _ _ _ (fieldL g p) l HD.out w3 (by omega) hl w3.heap.size (Nat.le_refl _) r3 rl3))).mono ?_; rintro e w4 ⟨rfl, hb4⟩))
      all_goals
        have hB4 : Below W.heap.size W w4 := ((Below.refl W.heap.size W).drew.trans hb3).trans (hb4.mono s3)
        have s4 := hB4.size
        obtain ⟨h1, h2, h3, h4, h5, h6, h7, hown⟩ := HO.out
        obtain ⟨Au, cu, rfl, _, _⟩ := own_cap h4
        have g3 := blk_below h3 hB4 (blk_lt h3)
        have g4 := own_below h4 hB4
        have g5 := (h5.below hB4 (Nat.le_refl _)).more s4
        have g6 := h6.trans (hB4.mono h6.size)
        have gown := own_below hown hB4
        have HOB := Lib.hid (fun g (hg : (Value.slice Au M.length cu).ownBlock = some g) => own_obj g4 hg)
        have HOV := Lib.hid (fun g (hg : (Value.slice Av n cv).ownBlock = some g) => own_obj gown hg)
        have HRW := Lib.hid (show RowAt w4 w4.heap.size (fun x => (x = G ∨ x < w.heap.size + 4) ∨ (Value.slice Au M.length cu).ownBlock = some x) (.slice Av n cv) p from rowAt_own (by rw [HPL.out]; exact gown) (fun x hx he => by
          obtain ⟨e1, cs, e2⟩ := HOV.out x hx
          rcases he with (he | he) | he
          · omega
          · omega
          · obtain ⟨_, cs', e3⟩ := HOB.out x he
            rw [e2] at e3
            cases e3))
        have HNE := Lib.hid (show some (w.heap.size + 1 + 1) ≠ (Value.slice Au M.length cu).ownBlock from fun e => by have := (HOB.out _ e.symm).1; omega)
        have c2 : w4.cell? ⟨w.heap.size + 1 + 1, 0, none⟩ = some (.slice Au M.length cu) := blk_cell g3 0
        have HK := Lib.hid (And.intro g3 (And.intro g5 (And.intro g6 (And.intro h7 (And.intro hB4 (And.intro h1 h2))))))
        have l3 := blk_lt g3
        clear h1 h2 h3 h4 h5 h6 h7 hown g3 g5 g6 gown hB4 hb3 hb4 r3 rl3 d1 c0 c1 HII HF HO
        gi_wp2_with (gi_at_builtin; go_must (refine app1In rfl (.tmp 18) (.tmp 20) 22 rfl 23 _ 1 24 E22 (w.heap.size + 4) _ _ _ _ rfl g4 _ rfl ?_ ?_ ?_ ?_ ?_ ?_); rfl; rfl; rfl; omega; omega; intro v5 w5 hown5 hg5 hx5; obtain ⟨A5, c5, rfl, _, _⟩ := own_cap hown5; have x5 := blk_grown HK.out.1 hg5 HNE.out; have e1 : w5.cell? ⟨w.heap.size + 1 + 1, 0, none⟩ = some (.slice Au M.length cu) := blk_cell x5 0; have e2 := blk_frozen x5 0)
        have s5 := hg5.size
        obtain ⟨g3, g5, g6, h7, hB4, h1, h2⟩ := HK.out
        have z1 := blk_set x5 0 (.slice A5 (M.length + 1) c5)
        have z2 := own_set_far hown5 (p := ⟨w.heap.size + 1 + 1, 0, none⟩) (by simp only []; omega) (.slice A5 (M.length + 1) c5)
        have z3 := (tab_push (L := fun x => x = G ∨ x < w.heap.size + 4) g5 HRW.out hg5 hx5).setCell (a := ⟨w.heap.size + 1 + 1, 0, none⟩) (.inl (.inr (by simp only []; omega))) (.slice A5 (M.length + 1) c5)
        have y1 := blk_far (blk_grown (blk_below h1 hB4 (by omega)) hg5 (fun e => by have := (HOB.out _ e.symm).1; omega)) (p := ⟨w.heap.size + 1 + 1, 0, none⟩) (by simp only []; omega) (.slice A5 (M.length + 1) c5)
        have y2 := blk_far (blk_grown (blk_below h2 hB4 (by omega)) hg5 (fun e => by have := (HOB.out _ e.symm).1; omega)) (p := ⟨w.heap.size + 1 + 1, 0, none⟩) (by simp only []; omega) (.slice A5 (M.length + 1) c5)
        have z4 := (g6.grown hg5 (by omega) (fun g h => by have := (HOB.out g h).1; omega)).setCell (p := ⟨w.heap.size + 1 + 1, 0, none⟩) (by simp only []; omega) (.slice A5 (M.length + 1) c5)
        have z5 : KeepsFrom W0.heap.size W (w5.setCell ⟨w.heap.size + 1 + 1, 0, none⟩ (.slice A5 (M.length + 1) c5)) :=
          ((keepsFrom_below hB4).trans ((KeepsOthers.of_grownBy hg5 (fun g o hr ho => by
            obtain ⟨_, cs, h2⟩ := HOB.out g hr
            rw [ho] at h2
            injection h2 with h2
            subst h2
            rfl)).from _)).trans ((KeepsOthers.setCell _ _ _).from _)
        have z6 : Fix (KQ (w.heap.size + 1 + 1 + 1) G) W (w5.setCell ⟨w.heap.size + 1 + 1, 0, none⟩ (.slice A5 (M.length + 1) c5)) :=
          ((Fix.of_below hB4 (Nat.le_refl _)).trans (Fix.grown hg5 (fun g o hr ho hk => by
            have e1 := (HOB.out g hr).1
            have e2 := h7 g hr
            rcases hk.2 with e | e
            · omega
            · exact e2 e))).trans (Fix.setCell (p := ⟨w.heap.size + 1 + 1, 0, none⟩) _ x5 (fun hk => by
              rcases hk.2 with e | e
              · simp only [] at e; omega
              · simp only [] at e; omega))
        have HL : (makeTo g l (q + 1)).length = M.length + 1 := by rw [HMS.out]; simp
        refine ⟨z5, z6, .slice A5 (M.length + 1) c5, vs ++ [.slice Av n cv], y1, y2, by simpa using z1, ?_, ?_, z4, ?_, h8, by simp; omega⟩
        · rw [HL]; exact z2
        · rw [HMS.out]; exact z3.more (by simp)
        · intro x hx
          rcases hx5 with e | ⟨g', e, hg'⟩
          · rw [e] at hx; exact h7 x hx
          · rw [e] at hx; injection hx with hx; omega
  case done =>
    rintro D G W hD ⟨u, vs, h1, h2, h3, h4, h5, h6, h7, h8, h9⟩ hK
    obtain ⟨Au, cu, rfl, _, _⟩ := own_cap h4
    have c2 : W.cell? ⟨w.heap.size + 1 + 1, 0, none⟩ = some (.slice Au (makeTo g l (allV n).length).length cu) := blk_cell h3 0
    have X := Lib.hid (And.intro h4 (And.intro h5 (And.intro h6 (And.intro hK hsz))))
    have HM := Lib.hid (show makeTo g l (allV n).length = makeL g l by rw [HN.out]; exact makeTo_all g l)
    obtain ⟨M, hM⟩ : ∃ M, M = makeTo g l (allV n).length := ⟨_, rfl⟩
    rw [← hM] at c2 X HM
    clear h1 h2 h3 h4 h5 h6 hK hM a3 hsz
    gi_wp2
    obtain ⟨h4, h5, h6, hK, hsz⟩ := X.out
    refine ⟨by simp, .inl ⟨_, _, rfl, run_takeDeferred hK, ?_⟩⟩
    have hbk := belowK_b (w := w) (n₀ := w.heap.size) (Nat.le_refl _) W D (.deferred (some [])) (.deferred none) (by omega) hK rfl rfl
    refine ⟨.slice Au M.length cu, by simp [results, Try.results56, go_sem], _, rfl, ?_, h6.trans hbk⟩
    rw [← HM.out]
    have hf : Fix (fun g o => o.isCells = true) W (W.putObj D (.deferred none)) := Fix.putObj _ hK (fun h => by cases h)
    refine ⟨vs, own_base (own_fix h4 hf (fun _ _ _ => rfl)) (by omega), ((h5.fix hf (fun _ _ _ _ h => h)).at (fun x hx => ?_)).more hf.size⟩
    rcases hx with hx | hx
    · exact .inl (.inl (.inr (by omega)))
    · exact .inl (.inr hx)
end Go.Proofs.Ytejjogpgolgdgaa
