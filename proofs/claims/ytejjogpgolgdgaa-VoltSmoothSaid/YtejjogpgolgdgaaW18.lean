/-
  WALK: Nearest.
-/
import Derived.Sort.QuietIn
import Derived.Test.YtejjogpgolgdgaaW17
namespace Go.Proofs.Ytejjogpgolgdgaa
open Go.RowKit Go.Shelf Pulse
attribute [local go_sem] Oper.semAt_some

/-- The two boxes of best and least, ahead of round q. -/
def NrV (g : List (List Int)) (l : List Int) (n G q : Nat) (lv : Int) (bv : Value) (W : World) : Prop :=
  (nearAt g l q = none ∧ lv = 0 ∧ bv = .slice none 0 0) ∨ ∃ p, nearAt g l q = some (lv, p) ∧ 0 ≤ lv ∧ lv ≤ 2000 ∧ p.length = n ∧ W.ownsRow (G + 1) 3 1 bv n (ints p)
def NrI (g : List (List Int)) (l : List Int) (n : Nat) (w : World) (x0 x1 : Value) (t G q : Nat) (W : World) : Prop := ∃ (lv : Int) (bv : Value),
  W.heap[w.heap.size]? = some (.cells #[x0] 22 (0, 0)) ∧ W.heap[w.heap.size + 1]? = some (.cells #[x1] 23 (0, 0)) ∧ W.heap[t]? = some (.cells #[bv] 23 (0, 0)) ∧ W.heap[t + 1]? = some (.cells #[.int .i64 lv] 3 (0, 0)) ∧
  NrV g l n G q lv bv W ∧ Below w.heap.size w W ∧ w.heap.size + 2 ≤ t ∧ t + 3 ≤ G ∧ t + 3 ≤ W.heap.size
theorem nrV_fix {g : List (List Int)} {l : List Int} {n G q : Nat} {lv : Int} {bv : Value} {K : Nat → Obj → Prop} {X Y : World} (h : NrV g l n G q lv bv X) (hf : Fix K X Y) (hk : ∀ x o, G < x → o.isCells = true → K x o) : NrV g l n G q lv bv Y := by
  rcases h with h | ⟨p, h1, h2, h3, h4, h5⟩
  · exact .inl h
  · exact .inr ⟨p, h1, h2, h3, h4, own_fix h5 hf (fun x cs hx => hk x _ (by have := (own_obj h5 hx).1; omega) rfl)⟩
theorem nrI_fix {g : List (List Int)} {l : List Int} {n t G q B : Nat} {w : World} {x0 x1 : Value} {X Y : World} (hB : w.heap.size ≤ B) (h : NrI g l n w x0 x1 t G q X) (hf : Fix (KI G B) X Y) : NrI g l n w x0 x1 t G q Y := by
  obtain ⟨lv, bv, h1, h2, h3, h4, h5, h6, h7, h8, h9⟩ := h
  exact ⟨lv, bv, hf.keep _ _ ⟨by omega, .inr rfl⟩ h1, hf.keep _ _ ⟨by omega, .inr rfl⟩ h2, hf.keep _ _ ⟨by omega, .inr rfl⟩ h3, hf.keep _ _ ⟨by omega, .inr rfl⟩ h4, nrV_fix h5 hf (fun x o hx ho => ⟨by omega, .inr ho⟩), hf.frame h6 (fun g o hg => ⟨by omega, .inl (by omega)⟩) (Nat.le_refl _), h7, h8, Nat.le_trans h9 hf.size⟩

theorem nrI_eq {g : List (List Int)} {l : List Int} {n t G q : Nat} {w : World} {x0 x1 : Value} {X : World} (he : nearAt g l (q + 1) = nearAt g l q) (h : NrI g l n w x0 x1 t G q X) : NrI g l n w x0 x1 t G (q + 1) X := by
  unfold NrI NrV at h ⊢
  rw [he]; exact h

set_option maxRecDepth 100000 in
set_option maxHeartbeats 4000000 in
theorem pNearest (A A' : Option Addr) (k c k' c' : Nat) (g : List (List Int)) (l : List Int) (w : World) (hs : Sm g) (hl : l.length ≤ 1000) (B : Nat) (hB : B ≤ w.heap.size) (hr : TRd w B A k g) (hr' : Rd w B 1 A' k' (ints l)) :
    Calls Try.prog 33 #[.slice A k c, .slice A' k' c'] w fun e w' => ∃ A2 c2, e = .returned (.tuple #[.int .i64 (nearN g l), .slice A2 (nearL g l).length c2, .int .i64 (wishE g l)]) ∧ Rd w' w'.heap.size 1 A2 (nearL g l).length (ints (nearL g l)) ∧ Below w.heap.size w w' := by
  obtain rfl := hr.len
  obtain rfl := hr'.int_len
  have hr := hr.more hB
  have hr' := hr'.more hB
  have HBX := Lib.hid (((Below.refl w.heap.size w).alloc (Nat.le_refl _) (.cells #[.slice A g.length c] 22)).alloc (by simp) (.cells #[.slice A' l.length c'] 23))
  have HW0 := Lib.hid (pwished A A' g.length c l.length c' g l ((w.alloc (.cells #[.slice A g.length c] 22)).alloc (.cells #[.slice A' l.length c'] 23)) hs hl w.heap.size (by simp; omega) (hr.below HBX.out) (hr'.below HBX.out))
  by_cases h : wishE g l = 0
  · have HV := Lib.hid h
    obtain ⟨hv, hw⟩ := wishE_ok h
    obtain ⟨v1, v2, v3, v4, v5⟩ := vldG_ok hv
    obtain ⟨hlg, w2⟩ := wOk_ok hw
    have HG := Lib.hid hv
    have HLG := Lib.hid hlg
    clear hlg
    have HLF := Lib.hid w2
    have hpos : 0 < g.length := by omega
    have HNN := Lib.hid (show nearN g l = ((nearAt g l (allV (wid g)).length).getD (0, [])).1 ∧ nearL g l = ((nearAt g l (allV (wid g)).length).getD (0, [])).2 from ⟨by rw [nearN, if_pos h]; rfl, by rw [nearL, if_pos h]; rfl⟩)
    have HSM := Lib.hid (nearO_some g l)
    have HNS := Lib.hid (fun q p (hp : (allV (wid g))[q]? = some p) => nearAt_succ (g := g) (l := l) hp)
    have HN0 := Lib.hid (show nearAt g l 0 = none from rfl)
    obtain ⟨b, off, A0, c0, rfl, hb0, hc0, _, _, _⟩ := hr.row hpos
    have HW := Lib.hid (wid_zero hpos)
    rw [Nat.add_zero, ← HW.out] at hc0
    have z2 : (0 : Int) < (g.length : Int) := by omega
    rw [h] at HW0
    obtain ⟨n, hn⟩ : ∃ n, n = wid g := ⟨_, rfl⟩
    have HN := Lib.hid hn
    rw [← hn] at v3 v4 HNN HNS hc0
    clear hn hv hw w2 v5 h
    have x0 := blk_alloc (blk_new w 22 #[.slice (some ⟨b, off, none⟩) g.length c]) (.cells #[.slice A' l.length c'] 23)
    have x1 := blk_new (w.alloc (.cells #[.slice (some ⟨b, off, none⟩) g.length c] 22)) 23 #[.slice A' l.length c']
    rw [World.size_alloc] at x1
    have HX := Lib.hid (And.intro x0 x1)
    clear x0 x1
    refine (callsIn_wide (n := 9)).1 ?_
    refine callsIn_of_wp_marks Try.func33 rfl trivial ?_ rfl
    simp only [Try.ntmps33, List.size_toArray, List.length_cons, List.length_nil, Nat.reduceAdd, Nat.reduceSub, Array.replicate_succ, Array.replicate_zero, List.push_toArray, List.append_toArray, List.nil_append, List.cons_append]
    gi_wp2
    refine ⟨trivial, (callsIn_wide.2 HW0.out).mono ?_⟩
    rintro e w1 ⟨rfl, hb1⟩
    simp only [World.size_alloc] at hb1
    have s1 := hb1.size
    simp only [World.size_alloc] at s1
    have x0 := blk_below HX.out.1 hb1 (by omega)
    have x1 := blk_below HX.out.2 hb1 (by omega)
    have B1 := HBX.out.trans (hb1.mono (by omega))
    have y0 := blk_alloc (blk_alloc x0 (.cells #[.slice none 0 0] 23)) (.cells #[.int .i64 0] 3)
    have y1 := blk_alloc (blk_alloc x1 (.cells #[.slice none 0 0] 23)) (.cells #[.int .i64 0] 3)
    have y2 := blk_alloc (blk_new w1 23 #[.slice none 0 0]) (.cells #[.int .i64 0] 3)
    have y3 := blk_new (w1.alloc (.cells #[.slice none 0 0] 23)) 3 #[.int .i64 0]
    rw [World.size_alloc] at y3
    have B2 := (B1.alloc B1.size (.cells #[.slice none 0 0] 23)).alloc (by simp; omega) (.cells #[.int .i64 0] 3)
    have f2 := blk_frozen y2 0
    have f3 := blk_frozen y3 0
    have HY := Lib.hid (And.intro y0 (And.intro y1 (And.intro y2 (And.intro y3 B2))))
    have ch := (B2.cell (p := ⟨b, off, none⟩) (show b < w.heap.size by omega)).trans hc0
    have c0x : ((w1.alloc (.cells #[.slice none 0 0] 23)).alloc (.cells #[.int .i64 0] 3)).cell? ⟨w.heap.size, 0, none⟩ = some (.slice (some ⟨b, off, none⟩) g.length c) := blk_cell y0 0
    clear x0 x1 B1 y0 y1 y2 y3 B2 hb1 HX
    gi_wp2
    refine ⟨trivial, (callsIn_wide.2 (pAll _ _)).mono ?_⟩
    rintro e w' ⟨rfl, rfl⟩
    gi_wp2
    obtain ⟨y0, y1, y2, y3, hB0⟩ := HY.out
    have y0 := blk_alloc y0 (.cells #[.int .i64 n] 3)
    have y1 := blk_alloc y1 (.cells #[.int .i64 n] 3)
    have y2 := blk_alloc y2 (.cells #[.int .i64 n] 3)
    have y3 := blk_alloc y3 (.cells #[.int .i64 n] 3)
    have y4 := blk_new ((w1.alloc (.cells #[.slice none 0 0] 23)).alloc (.cells #[.int .i64 0] 3)) 3 #[.int .i64 n]
    have hB0 := hB0.alloc hB0.size (.cells #[.int .i64 n] 3)
    have hsz : w1.heap.size + 3 = (((w1.alloc (.cells #[.slice none 0 0] 23)).alloc (.cells #[.int .i64 0] 3)).alloc (.cells #[.int .i64 n] 3)).heap.size := by simp
    simp only [World.size_alloc] at y4
    obtain ⟨W0, hW0⟩ : ∃ W0, ((w1.alloc (.cells #[.slice none 0 0] 23)).alloc (.cells #[.int .i64 0] 3)).alloc (.cells #[.int .i64 n] 3) = W0 := ⟨_, rfl⟩
    rw [hW0] at y0 y1 y2 y3 y4 hB0 hsz ⊢
    clear hW0 HY c0x ch f2 f3
    have HB0 := Lib.hid (And.intro y0 (And.intro y1 (And.intro y2 (And.intro y3 hB0))))
    clear y0 y1 y2 y3
    refine wpIn_all (n₁ := w1.heap.size + 1 + 1) (N := (allV n).length) rfl (by omega) (gf := 93) (lb := #[.pointer (some ⟨w1.heap.size + 1 + 1, 0, none⟩)]) rfl trivial (enters_of Try.func93 (by kernel_rfl) rfl)
      (allIn 8 (by omega) n v4 (w1.heap.size + 1 + 1) W0 y4) rfl
      (NrI g l n w (.slice (some ⟨b, off, none⟩) g.length c) (.slice A' l.length c') w1.heap.size)
      ?hI ?h0
      (fun G q a' W => ∃ v p, (allV n)[q]? = some p ∧ W.ownsRow (G + 1) 3 1 v n (ints p) ∧ G < W.heap.size ∧ a' = { tmps := #[.slice (some ⟨b, off, none⟩) g.length c, .slice A' l.length c', .pointer (some ⟨w.heap.size, 0, none⟩), .pointer (some ⟨w.heap.size + 1, 0, none⟩), .int .i64 0, .slice none 0 0, .int .i64 0, .int .i64 0, .pointer (some ⟨w1.heap.size, 0, none⟩), .pointer (some ⟨w1.heap.size + 1, 0, none⟩), v, undef, .slice (some ⟨b, off, none⟩) g.length c, .slice A' l.length c', .int .i64 0, .int .i64 0, .bool false, undef, .slice (some ⟨b, off, none⟩) g.length c, .pointer (some ⟨b, off, none⟩), .slice A0 n c0, .int .i64 n, .func (.func 93) #[] #[.pointer (some ⟨w1.heap.size + 1 + 1, 0, none⟩)], v, undef, undef, undef, undef, undef, undef, undef, undef, undef, undef, undef, undef, undef, undef, undef, undef], defers := [] })
      ?hAx ?assign ?body ?done
    case hI => exact fun G q X Y h hf => nrI_fix (by omega) h hf
    case h0 =>
      intro G hG
      obtain ⟨y0, y1, y2, y3, hB0⟩ := HB0.out
      exact ⟨0, .slice none 0 0, y0, y1, y2, y3, .inl ⟨HN0.out, rfl, rfl⟩, hB0, by omega, by omega, by omega⟩
    case hAx =>
      rintro G q a' X l' o o' ⟨v, p, h1, h2, h3, h4⟩ ho hc
      exact ⟨v, p, h1, own_keep h2 (fun g hg => World.putObj_heap_other (fun e => by
        obtain ⟨_, cs, hcs⟩ := own_obj h2 hg
        subst e
        rw [ho] at hcs
        cases hcs
        cases hc)), by rw [World.putObj_size]; exact h3, h4⟩
    case assign =>
      rintro l' G q W v K hI hq ⟨p, hp, hown, hGs⟩ hK
      gi_wp2
      exact hK _ _ (KeepsFrom.refl _ _) (Fix.refl _ _) hI ⟨v, p, hp, hown, hGs, rfl⟩
    case body =>
      rintro l' G q a' W hI ⟨v, p, hp, hown, hGs, rfl⟩ hq
      have HII := Lib.hid hI
      obtain ⟨x, bv, h1, h2, h3, h4, h5, h6, h7, h8, h9⟩ := hI
      obtain ⟨Av, cv, rfl, _, _⟩ := own_cap hown
      have hpm := mem_allP.1 (List.mem_of_getElem? hp)
      have HFG := Lib.hid (fitG HG.out (by rw [hpm.1, HN.out]) (fun f hf => by have := hpm.2 f hf; omega))
      have hfl : (fieldL g p).length ≤ 3 := by rw [fieldL_len]; exact v2
      have HSU := Lib.hid (HNS.out q p hp)
      have HPL := Lib.hid hpm.1
      have hfd := farL_bd HFG.out HLF.out
      have HFF := Lib.hid (fieldL_f HFG.out)
      have HFL := Lib.hid (show l.length = (fieldL g p).length by rw [fieldL_len]; exact HLG.out)
      obtain ⟨y, hy⟩ : ∃ y, y = farL g l p := ⟨_, rfl⟩
      have HY := Lib.hid hy
      rw [← hy] at hfd
      clear hy
      have hs6 := h6.size
      have c0x : W.cell? ⟨w.heap.size, 0, none⟩ = some (.slice (some ⟨b, off, none⟩) g.length c) := blk_cell h1 0
      have c1 : W.cell? ⟨w.heap.size + 1, 0, none⟩ = some (.slice A' l.length c') := blk_cell h2 0
      have rg := (hr.below h6).more hs6
      have rl := (hr'.below h6).more hs6
      have rv := Rd.of_own hown
      have HF := Lib.hid (pfield _ _ _ c _ cv g p W.drew HFG.out.1 HFG.out.2.1 HFG.out.2.2.1 HFG.out.2.2.2 W.heap.size (Nat.le_refl _) rg rv)
      have HJ := Lib.hid (fun (A2 : Option Addr) (c2 : Nat) (w2 : World) (h2 : Rd w2 w2.heap.size 1 A2 (fieldL g p).length (ints (fieldL g p))) (h3 : Rd w2 w2.heap.size 1 A' l.length (ints l)) => papart A2 A' (fieldL g p).length c2 l.length c' (fieldL g p) l w2 (by omega) HFL.out (fun f hf => by have := HFF.out f hf; omega) HLF.out w2.heap.size (Nat.le_refl _) h2 h3)
      rw [show jumpL (fieldL g p) l = y from HY.out.symm] at HJ
      have HO := Lib.hid (And.intro h1 (And.intro h2 (And.intro h3 (And.intro h4 (And.intro h6 hown)))))
      have l1 : w.heap.size + 1 < W.heap.size := blk_lt h2
      have l2 : w1.heap.size + 1 < W.heap.size := blk_lt h4
      have hmix : Try.prog.follows .mixedOrders = true := by kernel_rfl
      have qT := q23
      have HW := h5
      have HNV := Lib.hid HW
      clear h1 h2 h3 h4 h6 hpm rg rv hown hp HW
      rcases h5 with ⟨e1, rfl, rfl⟩ | ⟨u, e1, e2, e3, e4, e5⟩
      · have HS2 := Lib.hid (show nearAt g l (q + 1) = some (y, p) by rw [HSU.out, e1, HY.out]; rfl)
        clear e1
        gi_wp2
        gi_region_with_o (first
          | (refine ⟨trivial, ?_⟩; gi_at_call 63; refine (CallsIn.inRound l' (callsIn_wide.2 HF.out)).mono ?_; rintro e w3 ⟨u3, rfl, hown3, hb3⟩; obtain ⟨A3, c3, rfl, _, _⟩ := own_cap hown3; have r3 := Rd.of_own hown3; have s3 := hb3.size; have rl3 := (rl.drew.below hb3).more s3; have d1 : w3.cell? ⟨w.heap.size + 1, 0, none⟩ = some (.slice A' l.length c') := (hb3.cell (p := ⟨w.heap.size + 1, 0, none⟩) l1).trans c1; clear hown3)
          | (refine ⟨trivial, ?_⟩; gi_at_call 76; refine (CallsIn.inRound l' (callsIn_wide.2 (HJ.out A3 c3 w3 r3 rl3))).mono ?_; rintro e w4 ⟨rfl, hb4⟩))
        all_goals
          have hB4 : Below W.heap.size W w4 := ((Below.refl W.heap.size W).drew.trans hb3).trans (hb4.mono s3)
          have s4 := hB4.size
          obtain ⟨h1, h2, h3, h4, h6, hown⟩ := HO.out
          have g3 := blk_below h3 hB4 (blk_lt h3)
          have g4 := blk_below h4 hB4 (blk_lt h4)
          have c2 : w4.cell? ⟨w1.heap.size, 0, none⟩ = some (.slice none 0 0) := blk_cell g3 0
          have c3' : w4.cell? ⟨w1.heap.size + 1, 0, none⟩ = some (.int .i64 0) := blk_cell g4 0
          have f2 := blk_frozen g3 0
          have f3 := blk_frozen g4 0
          have g1 := blk_below h1 hB4 (by omega)
          have g2 := blk_below h2 hB4 (by omega)
          have gown := own_below hown hB4
          have t1 := blk_far (blk_far g1 (p := ⟨w1.heap.size, 0, none⟩) (by simp only []; omega) (.slice Av n cv)) (p := ⟨w1.heap.size + 1, 0, none⟩) (by simp only []; omega) (.int .i64 y)
          have t2 := blk_far (blk_far g2 (p := ⟨w1.heap.size, 0, none⟩) (by simp only []; omega) (.slice Av n cv)) (p := ⟨w1.heap.size + 1, 0, none⟩) (by simp only []; omega) (.int .i64 y)
          have t3a := blk_set g3 0 (.slice Av n cv)
          have t3 := blk_far t3a (p := ⟨w1.heap.size + 1, 0, none⟩) (by simp only []; omega) (.int .i64 y)
          have t4a := blk_far g4 (p := ⟨w1.heap.size, 0, none⟩) (by simp only []; omega) (.slice Av n cv)
          have t4 := blk_set t4a 0 (.int .i64 y)
          have t5 := own_set_far (own_set_far gown (p := ⟨w1.heap.size, 0, none⟩) (by simp only []; omega) (.slice Av n cv)) (p := ⟨w1.heap.size + 1, 0, none⟩) (by simp only []; omega) (.int .i64 y)
          have t6 := ((h6.trans (hB4.mono h6.size)).setCell (p := ⟨w1.heap.size, 0, none⟩) (by simp only []; omega) (.slice Av n cv)).setCell (p := ⟨w1.heap.size + 1, 0, none⟩) (by simp only []; omega) (.int .i64 y)
          have t7 : KeepsFrom W0.heap.size W ((w4.setCell ⟨w1.heap.size, 0, none⟩ (.slice Av n cv)).setCell ⟨w1.heap.size + 1, 0, none⟩ (.int .i64 y)) := ((keepsFrom_below hB4).trans ((KeepsOthers.setCell _ _ _).from _)).trans ((KeepsOthers.setCell _ _ _).from _)
          have t8 : Fix (KQ (w1.heap.size + 1 + 1) G) W ((w4.setCell ⟨w1.heap.size, 0, none⟩ (.slice Av n cv)).setCell ⟨w1.heap.size + 1, 0, none⟩ (.int .i64 y)) :=
            ((Fix.of_below hB4 (Nat.le_refl _)).trans (Fix.setCell (p := ⟨w1.heap.size, 0, none⟩) _ g3 (fun hk => by
              rcases hk.2 with e | e
              · simp only [] at e; omega
              · simp only [] at e; omega))).trans (Fix.setCell (p := ⟨w1.heap.size + 1, 0, none⟩) _ t4a (fun hk => by
              rcases hk.2 with e | e
              · simp only [] at e; omega
              · simp only [] at e; omega))
          have TT := Lib.hid (And.intro t7 (And.intro t8 (And.intro t1 (And.intro t2 (And.intro t3 (And.intro t4 (And.intro t5 t6)))))))
          clear t1 t2 t3 t4 t5 t6 t7 t8 t3a t4a g1 g2 g3 g4 gown hB4 hb3 hb4 r3 rl3 d1 c0x c1 h1 h2 h3 h4 h6 hown
          gi_wp2
          obtain ⟨t7, t8, t1, t2, t3, t4, t5, t6⟩ := TT.out
          exact ⟨t7, t8, y, .slice Av n cv, t1, t2, by simpa using t3, by simpa using t4, .inr ⟨p, HS2.out, by omega, by omega, HPL.out, t5⟩, t6, h7, h8, by simp; omega⟩
      · obtain ⟨A5, c5, rfl, _, _⟩ := own_cap e5
        have hA5 : A5.isNone = false := by
          obtain ⟨g5, cap5, hv5, _⟩ := e5.form (by omega)
          injection hv5 with hv5
          rw [hv5]; rfl
        have HE1 := Lib.hid e1
        clear e1 e4 e5
        by_cases hxy : y < x
        · have HS2 := Lib.hid (show nearAt g l (q + 1) = some (y, p) by
            rw [HSU.out, HE1.out]
            show (if farL g l p < x then some (farL g l p, p) else some (x, u)) = _
            rw [← HY.out, if_pos hxy])
          gi_wp2
          gi_region_with_o (first
            | (refine ⟨trivial, ?_⟩; gi_at_call 63; refine (CallsIn.inRound l' (callsIn_wide.2 HF.out)).mono ?_; rintro e w3 ⟨u3, rfl, hown3, hb3⟩; obtain ⟨A3, c3, rfl, _, _⟩ := own_cap hown3; have r3 := Rd.of_own hown3; have s3 := hb3.size; have rl3 := (rl.drew.below hb3).more s3; have d1 : w3.cell? ⟨w.heap.size + 1, 0, none⟩ = some (.slice A' l.length c') := (hb3.cell (p := ⟨w.heap.size + 1, 0, none⟩) l1).trans c1; clear hown3)
            | (refine ⟨trivial, ?_⟩; gi_at_call 76; refine (CallsIn.inRound l' (callsIn_wide.2 (HJ.out A3 c3 w3 r3 rl3))).mono ?_; rintro e w4 ⟨rfl, hb4⟩))
          all_goals
            have hB4 : Below W.heap.size W w4 := ((Below.refl W.heap.size W).drew.trans hb3).trans (hb4.mono s3)
            have s4 := hB4.size
            obtain ⟨h1, h2, h3, h4, h6, hown⟩ := HO.out
            have g3 := blk_below h3 hB4 (blk_lt h3)
            have g4 := blk_below h4 hB4 (blk_lt h4)
            have c2 : w4.cell? ⟨w1.heap.size, 0, none⟩ = some (.slice A5 n c5) := blk_cell g3 0
            have c3' : w4.cell? ⟨w1.heap.size + 1, 0, none⟩ = some (.int .i64 x) := blk_cell g4 0
            have f2 := blk_frozen g3 0
            have f3 := blk_frozen g4 0
            have g1 := blk_below h1 hB4 (by omega)
            have g2 := blk_below h2 hB4 (by omega)
            have gown := own_below hown hB4
            have t1 := blk_far (blk_far g1 (p := ⟨w1.heap.size, 0, none⟩) (by simp only []; omega) (.slice Av n cv)) (p := ⟨w1.heap.size + 1, 0, none⟩) (by simp only []; omega) (.int .i64 y)
            have t2 := blk_far (blk_far g2 (p := ⟨w1.heap.size, 0, none⟩) (by simp only []; omega) (.slice Av n cv)) (p := ⟨w1.heap.size + 1, 0, none⟩) (by simp only []; omega) (.int .i64 y)
            have t3a := blk_set g3 0 (.slice Av n cv)
            have t3 := blk_far t3a (p := ⟨w1.heap.size + 1, 0, none⟩) (by simp only []; omega) (.int .i64 y)
            have t4a := blk_far g4 (p := ⟨w1.heap.size, 0, none⟩) (by simp only []; omega) (.slice Av n cv)
            have t4 := blk_set t4a 0 (.int .i64 y)
            have t5 := own_set_far (own_set_far gown (p := ⟨w1.heap.size, 0, none⟩) (by simp only []; omega) (.slice Av n cv)) (p := ⟨w1.heap.size + 1, 0, none⟩) (by simp only []; omega) (.int .i64 y)
            have t6 := ((h6.trans (hB4.mono h6.size)).setCell (p := ⟨w1.heap.size, 0, none⟩) (by simp only []; omega) (.slice Av n cv)).setCell (p := ⟨w1.heap.size + 1, 0, none⟩) (by simp only []; omega) (.int .i64 y)
            have t7 : KeepsFrom W0.heap.size W ((w4.setCell ⟨w1.heap.size, 0, none⟩ (.slice Av n cv)).setCell ⟨w1.heap.size + 1, 0, none⟩ (.int .i64 y)) := ((keepsFrom_below hB4).trans ((KeepsOthers.setCell _ _ _).from _)).trans ((KeepsOthers.setCell _ _ _).from _)
            have t8 : Fix (KQ (w1.heap.size + 1 + 1) G) W ((w4.setCell ⟨w1.heap.size, 0, none⟩ (.slice Av n cv)).setCell ⟨w1.heap.size + 1, 0, none⟩ (.int .i64 y)) :=
              ((Fix.of_below hB4 (Nat.le_refl _)).trans (Fix.setCell (p := ⟨w1.heap.size, 0, none⟩) _ g3 (fun hk => by
                rcases hk.2 with e | e
                · simp only [] at e; omega
                · simp only [] at e; omega))).trans (Fix.setCell (p := ⟨w1.heap.size + 1, 0, none⟩) _ t4a (fun hk => by
                rcases hk.2 with e | e
                · simp only [] at e; omega
                · simp only [] at e; omega))
            have TT := Lib.hid (And.intro t7 (And.intro t8 (And.intro t1 (And.intro t2 (And.intro t3 (And.intro t4 (And.intro t5 t6)))))))
            clear t1 t2 t3 t4 t5 t6 t7 t8 t3a t4a g1 g2 g3 g4 gown hB4 hb3 hb4 r3 rl3 d1 c0x c1 h1 h2 h3 h4 h6 hown
            gi_wp2
            obtain ⟨t7, t8, t1, t2, t3, t4, t5, t6⟩ := TT.out
            exact ⟨t7, t8, y, .slice Av n cv, t1, t2, by simpa using t3, by simpa using t4, .inr ⟨p, HS2.out, by omega, by omega, HPL.out, t5⟩, t6, h7, h8, by simp; omega⟩
        · have HS2 := Lib.hid (show nearAt g l (q + 1) = nearAt g l q by
            rw [HSU.out, HE1.out]
            show (if farL g l p < x then some (farL g l p, p) else some (x, u)) = _
            rw [← HY.out, if_neg hxy])
          gi_wp2
          gi_region_with_o (first
            | (refine ⟨trivial, ?_⟩; gi_at_call 63; refine (CallsIn.inRound l' (callsIn_wide.2 HF.out)).mono ?_; rintro e w3 ⟨u3, rfl, hown3, hb3⟩; obtain ⟨A3, c3, rfl, _, _⟩ := own_cap hown3; have r3 := Rd.of_own hown3; have s3 := hb3.size; have rl3 := (rl.drew.below hb3).more s3; have d1 : w3.cell? ⟨w.heap.size + 1, 0, none⟩ = some (.slice A' l.length c') := (hb3.cell (p := ⟨w.heap.size + 1, 0, none⟩) l1).trans c1; clear hown3)
            | (refine ⟨trivial, ?_⟩; gi_at_call 76; refine (CallsIn.inRound l' (callsIn_wide.2 (HJ.out A3 c3 w3 r3 rl3))).mono ?_; rintro e w4 ⟨rfl, hb4⟩))
          all_goals
            have hB4 : Below W.heap.size W w4 := ((Below.refl W.heap.size W).drew.trans hb3).trans (hb4.mono s3)
            have s4 := hB4.size
            obtain ⟨h1, h2, h3, h4, h6, hown⟩ := HO.out
            have g3 := blk_below h3 hB4 (blk_lt h3)
            have g4 := blk_below h4 hB4 (blk_lt h4)
            have c2 : w4.cell? ⟨w1.heap.size, 0, none⟩ = some (.slice A5 n c5) := blk_cell g3 0
            have c3' : w4.cell? ⟨w1.heap.size + 1, 0, none⟩ = some (.int .i64 x) := blk_cell g4 0
            have t7 : KeepsFrom W0.heap.size W w4 := keepsFrom_below hB4
            have t8 : Fix (KQ (w1.heap.size + 1 + 1) G) W w4 := Fix.of_below hB4 (Nat.le_refl _)
            have t9 := nrI_eq HS2.out (nrI_fix (B := w.heap.size) (Nat.le_refl _) HII.out (Fix.of_below hB4 (Nat.le_refl _)))
            have TT := Lib.hid (And.intro t7 (And.intro t8 t9))
            clear t7 t8 t9 g3 g4 hB4 hb3 hb4 r3 rl3 d1 c0x c1 h1 h2 h3 h4 h6 hown
            gi_wp2
            exact TT.out
    case done =>
      rintro D G W hD ⟨x, bv, h1, h2, h3, h4, h5, h6, h7, h8, h9⟩ hK
      obtain ⟨n0, p0, hno⟩ := HSM.out
      have hno2 : nearAt g l (allV n).length = some (n0, p0) := by rw [HN.out]; exact hno
      rcases h5 with ⟨e1, _⟩ | ⟨u, e1, e2, e3, e4, e5⟩
      · rw [hno2] at e1; cases e1
      · obtain ⟨A5, c5, rfl, _, _⟩ := own_cap e5
        have c2 : W.cell? ⟨w1.heap.size, 0, none⟩ = some (.slice A5 n c5) := blk_cell h3 0
        have c3' : W.cell? ⟨w1.heap.size + 1, 0, none⟩ = some (.int .i64 x) := blk_cell h4 0
        have hx : nearN g l = x := by rw [HNN.out.1, e1]; rfl
        have hL2 : nearL g l = u := by rw [HNN.out.2, e1]; rfl
        have HX := Lib.hid (And.intro hx (And.intro hL2 e4))
        have hmix : Try.prog.follows .mixedOrders = true := by kernel_rfl
        have X := Lib.hid (And.intro e5 (And.intro h6 (And.intro hK hsz)))
        clear e1 e4 e5 h1 h2 h3 h4 h6 hK hx hL2 hno hno2 y4
        gi_wp2
        gi_quiet (fail)
        gi_wp2
        obtain ⟨e5, h6, hK, hsz⟩ := X.out
        have hK2 : (W.drewN nq).heap[D]? = some (.deferred (some [])) := hK
        have h62 := below_drewN h6 nq
        refine ⟨by simp, .inl ⟨_, _, rfl, run_takeDeferred hK2, ?_⟩⟩
        obtain ⟨x1, x2, x3⟩ := HX.out
        have e52 : (W.drewN nq).ownsRow (G + 1) 3 1 (.slice A5 n c5) n (ints u) := own_keep e5 (fun _ _ => rfl)
        have e53 : ((W.drewN nq).putObj D (.deferred none)).ownsRow (G + 1) 3 1 (.slice A5 n c5) n (ints u) := own_keep e52 (fun g hg => World.putObj_heap_other (fun e => by
          obtain ⟨_, cs, hcs⟩ := own_obj e52 hg
          subst e
          rw [hK2] at hcs
          cases hcs))
        refine ⟨.tuple #[.int .i64 x, .slice A5 n c5, .int .i64 0], by simp [results, Try.results33, go_sem], A5, c5, ret_three (by rw [x1]) (by rw [x2, x3]) (by rw [HV.out]), ?_, h62.trans (belowK_b (w := w) (Nat.le_refl _) _ D _ _ (by omega) hK2 rfl rfl)⟩
        rw [x2, x3]
        exact Rd.of_own e53
  · have hd : (wishE g l != 0) = true := by simpa using h
    have HI := Lib.hid (show nearN g l = 0 by rw [nearN, if_neg h])
    have HL := Lib.hid (show nearL g l = [] by rw [nearL, if_neg h])
    clear h
    generalize wishE g l = x at *
    go_enter Try.func33, Try.ntmps33
    go_wp2_with fail
    refine HW0.out.mono ?_
    rintro e w1 ⟨rfl, hb1⟩
    go_wp2
    refine bodyPost_ret (results_tmp3 rfl _ _ _) rfl ?_
    exact ⟨none, 0, ret_three (by rw [HI.out]; rfl) (by rw [HL.out]; rfl) rfl, by rw [HL.out]; exact Rd.nil, HBX.out.trans (hb1.mono (by simp; omega))⟩
end Go.Proofs.Ytejjogpgolgdgaa
