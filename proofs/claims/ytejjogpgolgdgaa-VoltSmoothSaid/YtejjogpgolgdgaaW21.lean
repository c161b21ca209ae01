/-
  WALK: Fields.
-/
import Derived.Laws.CopyOwn
import Derived.Test.YtejjogpgolgdgaaW20
namespace Go.Proofs.Ytejjogpgolgdgaa
open Go.RowKit Go.Shelf Pulse Go.Maps
attribute [local go_sem] Oper.semAt_some

theorem map_keep {P : Program} {k : TypeId} {H : Type} {R : Value → Option (DataW H × List MemPlace)} {b n : Nat} {D : DataW H} {w w' : World} (h : w.ownsMap P k R b n D) (hk : w'.heap[b]? = w.heap[b]?) : w'.ownsMap P k R b n D := by
  obtain ⟨es, clock, hb, F, hs, hD⟩ := h
  exact ⟨es, clock, hk.trans hb, F, hs, hD⟩
/-- What holds ahead of round q. -/
def FdI (g : List (List Int)) (w : World) (x0 : Value) (t G q : Nat) (W : World) : Prop :=
  W.heap[w.heap.size]? = some (.cells #[x0] 22 (0, 0)) ∧ W.heap[t + 1]? = some (.cells #[.map (some t)] 76 (0, 0)) ∧
  W.ownsMap Try.prog 80 (plainElem (H := Unit) Try.prog 4) t q (mapD (fieldsTo g q)) ∧ Below w.heap.size w W ∧ w.heap.size + 1 ≤ t ∧ t + 3 ≤ G ∧ t + 3 ≤ W.heap.size
theorem fdI_fix {g : List (List Int)} {w : World} {x0 : Value} {t G q B : Nat} {X Y : World} (hB : t + 3 ≤ B) (h : FdI g w x0 t G q X) (hf : Fix (KI G B) X Y) : FdI g w x0 t G q Y := by
  obtain ⟨h1, h2, h3, h6, h7, h8, h9⟩ := h
  refine ⟨hf.keep _ _ ⟨by omega, .inr rfl⟩ h1, hf.keep _ _ ⟨by omega, .inr rfl⟩ h2, ?_, hf.frame h6 (fun g o hg => ⟨by omega, .inl (by omega)⟩) (Nat.le_refl _), h7, h8, Nat.le_trans h9 hf.size⟩
  have hl := h3.lt
  have e := hf.keep t _ ⟨by omega, .inl (by omega)⟩ (Array.getElem?_eq_getElem hl)
  exact map_keep h3 (e.trans (Array.getElem?_eq_getElem hl).symm)

theorem pad3_abc {F : List Int} (h : F.length ≤ 3) : ∃ a b c, pad3 F = [a, b, c] := by
  have hl := pad3_len h
  match pad3 F, hl with
  | [a, b, c], _ => exact ⟨a, b, c, rfl⟩
set_option maxRecDepth 100000 in
theorem copy_pad {w3 : World} {X B c3 : Nat} {A3 : Option Addr} {F : List Int} (hl : F.length ≤ 3) (hp : 0 < F.length) (hX : w3.heap[X]? = some (.cells #[.int .i64 0, .int .i64 0, .int .i64 0] 80 (0, 0))) (hr : Rd w3 B 1 A3 F.length (ints F)) :
    ∃ w5, (Builtin.copy_ #[23, 23] 3 #[.slice (some ⟨X, 0, none⟩) 3 3, .slice A3 F.length c3]).run Try.prog w3 = .ok (.int .i64 F.length) w5 ∧ w5.heap[X]? = some (.cells (ints (pad3 F)).toArray 80 (0, 0)) ∧ Below X w3 w5 := by
  obtain ⟨b, off, rfl, hb, hc⟩ := hr.2 hp
  have h := run_copy_row (P := Try.prog) w3 23 23 3 3 X 0 3 3 ⟨b, off, none⟩ F.length c3 #[.int .i64 0, .int .i64 0, .int .i64 0] 80 (ints F) Try.underlying23 (by kernel_rfl) hX
    (by simp only [List.length_map]; exact (Nat.min_eq_left hl).symm) (fun j v hj => by rw [show ((⟨b, off, none⟩ : Addr).add j) = ⟨b, off + j, none⟩ from by unfold Addr.add; split <;> simp [*]]; exact hc j v hj) (by simpa using hl) (List.all_eq_true.1 (ints_one F))
  rw [List.length_map] at h
  refine ⟨_, h, ?_, below_setRow (Below.refl X w3) (Nat.le_refl _) _⟩
  have e : (ints (pad3 F)).toArray = ((#[Value.int .i64 0, .int .i64 0, .int .i64 0] : Array Value).toList.take 0 ++ ints F ++ (#[Value.int .i64 0, .int .i64 0, .int .i64 0] : Array Value).toList.drop (0 + F.length)).toArray := by
    congr 1
    unfold pad3
    match F, hl, hp with
    | [a], _, _ => rfl
    | [a, b], _, _ => rfl
    | [a, b, c], _, _ => rfl
  rw [e]
  exact setRow_heap w3 X _ _ 80 _ hX

set_option maxRecDepth 100000 in
set_option maxHeartbeats 4000000 in
theorem pFields (A : Option Addr) (k c : Nat) (g : List (List Int)) (w : World) (hs : Sm g) (B : Nat) (hB : B ≤ w.heap.size) (hr : TRd w B A k g) :
    Calls Try.prog 27 #[.slice A k c] w fun e w' => e = .returned (.tuple #[.int .i64 (fieldsN g), .int .i64 (vldG g)]) ∧ Below w.heap.size w w' := by
  obtain rfl := hr.len
  have hr := hr.more hB
  have HBX := Lib.hid ((Below.refl w.heap.size w).alloc (Nat.le_refl _) (.cells #[.slice A g.length c] 22))
  have HW0 := Lib.hid (pValidate A g.length c g (w.alloc (.cells #[.slice A g.length c] 22)) hs w.heap.size (by simp) (hr.below HBX.out))
  by_cases h : vldG g = 0
  · have HG := Lib.hid h
    obtain ⟨v1, v2, v3, v4, v5⟩ := vldG_ok h
    have hpos : 0 < g.length := by omega
    have HFN := Lib.hid (show fieldsN g = (cntTo g (allV (wid g)).length : Int) by rw [fieldsN, if_pos h])
    have HFS := Lib.hid (fun q p (hp : (allV (wid g))[q]? = some p) => fieldsTo_succ (g := g) hp)
    have HF0 := Lib.hid (show mapD (fieldsTo g 0) = .map [] by simp [fieldsTo, mapD, setOf])
    obtain ⟨b, off, A0, c0, rfl, hb0, hc0, _, _, _⟩ := hr.row hpos
    have HW := Lib.hid (wid_zero hpos)
    rw [Nat.add_zero, ← HW.out] at hc0
    have z2 : (0 : Int) < (g.length : Int) := by omega
    rw [h] at HW0
    obtain ⟨n, hn⟩ : ∃ n, n = wid g := ⟨_, rfl⟩
    have HN := Lib.hid hn
    rw [← hn] at v3 v4 HFN HFS hc0
    clear hn v5 h
    have x0 := blk_new w 22 #[.slice (some ⟨b, off, none⟩) g.length c]
    have HX := Lib.hid x0
    clear x0
    have hmm := @run_makeMap Try.prog
    refine (callsIn_wide (n := 9)).1 ?_
    refine callsIn_of_wp_marks Try.func27 rfl trivial ?_ rfl
    simp only [Try.ntmps27, List.size_toArray, List.length_cons, List.length_nil, Nat.reduceAdd, Nat.reduceSub, Array.replicate_succ, Array.replicate_zero, List.push_toArray, List.append_toArray, List.nil_append, List.cons_append]
    gi_wp2
    refine ⟨trivial, (callsIn_wide.2 HW0.out).mono ?_⟩
    rintro e w1 ⟨rfl, hb1⟩
    simp only [World.size_alloc] at hb1
    have s1 := hb1.size
    simp only [World.size_alloc] at s1
    have x0 := blk_below HX.out hb1 (by omega)
    have B1 := HBX.out.trans (hb1.mono (by omega))
    have y0 := blk_alloc (blk_alloc x0 (.map #[] 0)) (.cells #[.map (some w1.heap.size)] 76)
    have y2 := World.ownsMap_made (H := Unit) w1 Try.prog 80 (plainElem Try.prog 4)
    have y2 := y2.alloc (.cells #[.map (some w1.heap.size)] 76)
    have y3 := blk_new (w1.alloc (.map #[] 0)) 76 #[.map (some w1.heap.size)]
    rw [World.size_alloc] at y3
    have B2 := (B1.alloc B1.size (.map #[] 0)).alloc (by simp; omega) (.cells #[.map (some w1.heap.size)] 76)
    have HY := Lib.hid (And.intro y0 (And.intro y2 (And.intro y3 B2)))
    have ch := (B2.cell (p := ⟨b, off, none⟩) (show b < w.heap.size by omega)).trans hc0
    have c0x : ((w1.alloc (.map #[] 0)).alloc (.cells #[.map (some w1.heap.size)] 76)).cell? ⟨w.heap.size, 0, none⟩ = some (.slice (some ⟨b, off, none⟩) g.length c) := blk_cell y0 0
    clear x0 B1 y0 y2 y3 B2 hb1 HX
    gi_wp2
    refine ⟨trivial, (callsIn_wide.2 (pAll _ _)).mono ?_⟩
    rintro e w' ⟨rfl, rfl⟩
    gi_wp2
    obtain ⟨y0, y2, y3, hB0⟩ := HY.out
    have y0 := blk_alloc y0 (.cells #[.int .i64 n] 3)
    have y2 := y2.alloc (.cells #[.int .i64 n] 3)
    have y3 := blk_alloc y3 (.cells #[.int .i64 n] 3)
    have y4 := blk_new ((w1.alloc (.map #[] 0)).alloc (.cells #[.map (some w1.heap.size)] 76)) 3 #[.int .i64 n]
    have hB0 := hB0.alloc hB0.size (.cells #[.int .i64 n] 3)
    have hsz : w1.heap.size + 3 = (((w1.alloc (.map #[] 0)).alloc (.cells #[.map (some w1.heap.size)] 76)).alloc (.cells #[.int .i64 n] 3)).heap.size := by simp
    simp only [World.size_alloc] at y4
    obtain ⟨W0, hW0⟩ : ∃ W0, ((w1.alloc (.map #[] 0)).alloc (.cells #[.map (some w1.heap.size)] 76)).alloc (.cells #[.int .i64 n] 3) = W0 := ⟨_, rfl⟩
    rw [hW0] at y0 y2 y3 y4 hB0 hsz ⊢
    clear hW0 HY c0x ch hmm
    have HB0 := Lib.hid (And.intro y0 (And.intro y2 (And.intro y3 hB0)))
    clear y0 y2 y3
    refine wpIn_all (n₁ := w1.heap.size + 1 + 1) (N := (allV n).length) rfl (by omega) (gf := 93) (lb := #[.pointer (some ⟨w1.heap.size + 1 + 1, 0, none⟩)]) rfl trivial (enters_of Try.func93 (by kernel_rfl) rfl)
      (allIn 8 (by omega) n v4 (w1.heap.size + 1 + 1) W0 y4) rfl
      (FdI g w (.slice (some ⟨b, off, none⟩) g.length c) w1.heap.size)
      ?hI ?h0
      (fun G q a' W => ∃ v p, (allV n)[q]? = some p ∧ W.ownsRow (G + 1) 3 1 v n (ints p) ∧ G < W.heap.size ∧ a' = { tmps := #[.slice (some ⟨b, off, none⟩) g.length c, .pointer (some ⟨w.heap.size, 0, none⟩), .int .i64 0, .int .i64 0, .int .i64 0, .pointer (some ⟨w1.heap.size + 1, 0, none⟩), v, undef, .slice (some ⟨b, off, none⟩) g.length c, .int .i64 0, .int .i64 0, .bool false, undef, .map (some w1.heap.size), .slice (some ⟨b, off, none⟩) g.length c, .pointer (some ⟨b, off, none⟩), .slice A0 n c0, .int .i64 n, .func (.func 93) #[] #[.pointer (some ⟨w1.heap.size + 1 + 1, 0, none⟩)], v, undef, undef, undef, undef, undef, undef, undef, undef, undef], defers := [] })
      ?hAx ?assign ?body ?done
    case hI => exact fun G q X Y h hf => fdI_fix (by omega) h hf
    case h0 =>
      intro G hG
      obtain ⟨y0, y2, y3, hB0⟩ := HB0.out
      exact ⟨y0, y3, by rw [HF0.out]; exact y2, hB0, by omega, by omega, by omega⟩
    case hAx =>
      rintro G q a' X l' o o' ⟨v, p, h1, h2, h3, h4⟩ ho hc
      exact ⟨v, p, h1, own_keep h2 (fun g hg => World.putObj_heap_other (fun e => by
        obtain ⟨_, cs, hcs⟩ := own_obj h2 hg
        subst e
        rw [ho] at hcs
        cases hcs
        cases hc)), by rw [World.putObj_size]; exact h3, h4⟩
    case assign =>
      rintro l' G q W v K hI hq ⟨p, hp, hown, hGs⟩ hK
      gi_wp2
      exact hK _ _ (KeepsFrom.refl _ _) (Fix.refl _ _) hI ⟨v, p, hp, hown, hGs, rfl⟩
    case body =>
      rintro l' G q a' W hI ⟨v, p, hp, hown, hGs, rfl⟩ hq
      have HII := Lib.hid hI
      obtain ⟨h1, h2, h3, h6, h7, h8, h9⟩ := hI
      obtain ⟨Av, cv, rfl, _, _⟩ := own_cap hown
      have hpm := mem_allP.1 (List.mem_of_getElem? hp)
      have HFG := Lib.hid (fitG HG.out (by rw [hpm.1, HN.out]) (fun f hf => by have := hpm.2 f hf; omega))
      have hfl : (fieldL g p).length ≤ 3 := by rw [fieldL_len]; exact v2
      have HSU := Lib.hid (HFS.out q p hp)
      have HFF := Lib.hid (fieldL_f HFG.out)
      have hq343 : q < 343 := by have := allV_len n v4; omega
      have HKEY := Lib.hid (keyOf_field hfl (fun f hf => by have := HFF.out f hf; omega))
      obtain ⟨F, hF⟩ : ∃ F, F = fieldL g p := ⟨_, rfl⟩
      have HFE := Lib.hid hF
      have hs6 := h6.size
      have B1 := (Below.refl W.heap.size W).alloc (Nat.le_refl _) (.cells #[.int .i64 0, .int .i64 0, .int .i64 0] 80)
      have bx := blk_new W 80 #[.int .i64 0, .int .i64 0, .int .i64 0]
      have rg := ((hr.below h6).more hs6).below B1
      have rv := (Rd.of_own hown).below B1
      have c0x : (W.alloc (.cells #[.int .i64 0, .int .i64 0, .int .i64 0] 80)).cell? ⟨w.heap.size, 0, none⟩ = some (.slice (some ⟨b, off, none⟩) g.length c) := blk_cell (blk_alloc h1 _) 0
      have HF := Lib.hid (pfield _ _ _ c _ cv g p (W.alloc (.cells #[.int .i64 0, .int .i64 0, .int .i64 0] 80)).drew HFG.out.1 HFG.out.2.1 HFG.out.2.2.1 HFG.out.2.2.2 W.heap.size (by simp) rg rv)
      rw [← hF] at HF HSU HKEY hfl
      have hmix : Try.prog.follows .mixedOrders = true := by kernel_rfl
      have HBX2 := Lib.hid (And.intro bx B1)
      have l1 : w1.heap.size + 1 < W.heap.size := blk_lt h2
      clear hpm rg rv hown hp hF bx B1
      have hFp : 0 < F.length := by rw [HFE.out, fieldL_len]; exact hpos
      gi_wp2
      gi_region_with_o (first
        | (refine ⟨trivial, ?_⟩; gi_at_call 63; refine (CallsIn.inRound l' (callsIn_wide.2 HF.out)).mono ?_; rintro e w3 ⟨u3, rfl, hown3, hb3⟩; obtain ⟨A3, c3, rfl, _, _⟩ := own_cap hown3; obtain ⟨w5, hcp, k1, k2⟩ := copy_pad (c3 := c3) hfl hFp (blk_below (w := (W.alloc (.cells #[.int .i64 0, .int .i64 0, .int .i64 0] 80)).drew) HBX2.out.1 hb3 (by simp)) (Rd.of_own hown3); have K1 := Lib.hid k1; have K2 := Lib.hid k2; clear k1 k2 hown3))
      all_goals
        have hB5 : Below W.heap.size W w5 := ((HBX2.out.2.drew).trans (hb3.mono (by simp))).trans K2.out
        have s5 := hB5.size
        obtain ⟨pa, pb, pc, habc⟩ := pad3_abc hfl
        have hxk := K1.out
        rw [habc] at hxk
        have k0 : w5.cell? ⟨W.heap.size, 0, none⟩ = some (.int .i64 pa) := blk_cell hxk 0
        have k1 : w5.cell? ⟨W.heap.size, 1, none⟩ = some (.int .i64 pb) := blk_cell hxk 1
        have k2 : w5.cell? ⟨W.heap.size, 2, none⟩ = some (.int .i64 pc) := blk_cell hxk 2
        have HKEY2 := Lib.hid (show keyOf Try.prog 80 (.agg #[.int .i64 pa, .int .i64 pb, .int .i64 pc]) = some (keyL F) by
          have := HKEY.out
          rw [keyV, habc] at this
          exact this)
        have g1 := blk_below h1 hB5 (by omega)
        have g2 := blk_below h2 hB5 l1
        have gm := map_keep h3 (hB5.block _ (by omega))
        have cm : w5.cell? ⟨w1.heap.size + 1, 0, none⟩ = some (.map (some w1.heap.size)) := blk_cell g2 0
        have HZ := Lib.hid (And.intro g1 (And.intro g2 (And.intro hB5 h6)))
        clear g1 g2 hB5 hb3 hcp habc hxk h1 h2 h3 h6 K1 K2 c0x
        gi_wp2_with (gi_at_mapUpdate; refine wpListIn_mapUpdate_own _ rfl _ _ _ 76 rfl 80 4 law80 Try.underlying76 _ w1.heap.size q _ rfl gm (by unfold maxLen; omega) _ _ (keyL F) rfl rfl HKEY2.out (.lit (.bool true)) [] (plainElem_bool Try.underlying4 true) ?_; intro w6 hown6 hg6)
        obtain ⟨g1, g2, hB5, h6⟩ := HZ.out
        refine ⟨(keepsFrom_below hB5).trans (KeepsFrom.of_grownBy hg6 (fun j e => by injection e with e; omega)), (Fix.of_below hB5 (Nat.le_refl _)).trans (Fix.grown hg6 (fun g o hr ho hk => ?_)), ?_⟩
        · injection hr with hr
          subst hr
          obtain ⟨es, clock, hb, _⟩ := gm
          rw [hb] at ho
          injection ho with ho
          subst ho
          exact Bool.false_ne_true hk.1
        · refine ⟨blk_grown g1 hg6 (by simp; omega), blk_grown g2 hg6 (by simp), ?_, (h6.trans (hB5.mono h6.size)).grown hg6 (by omega) (fun g e => by injection e with e; omega), h7, h8, Nat.le_trans (Nat.le_trans h9 hB5.size) hg6.size⟩
          rw [HSU.out, mapD_snoc]
          exact hown6
    case done =>
      rintro D G W hD ⟨h1, h2, h3, h6, h7, h8, h9⟩ hK
      have cm : W.cell? ⟨w1.heap.size + 1, 0, none⟩ = some (.map (some w1.heap.size)) := blk_cell h2 0
      have HSZ := Lib.hid (show Maps.size (mapD (fieldsTo g (allV n).length)) = cntTo g (allV n).length from mapD_size v2 (fun f hf => by
        obtain ⟨v, hv, rfl⟩ := List.mem_map.1 hf
        have hm := mem_allP.1 (List.mem_of_mem_take hv)
        have hfg := fitG HG.out hm.1 (fun f hf => by have := hm.2 f hf; omega)
        exact ⟨fieldL_len _ _, fun f hf => by have := fieldL_f hfg f hf; omega⟩))
      have X := Lib.hid (And.intro h6 (And.intro hK hsz))
      clear h1 h2 h6 hK hsz y4
      gi_wp2_with (gi_at_len; go_loud (refine wpListIn_len_own _ rfl _ 76 rfl 80 4 Try.underlying76 _ w1.heap.size _ _ rfl h3 ?_))
      obtain ⟨h6, hK, hsz⟩ := X.out
      refine ⟨by simp, .inl ⟨_, _, rfl, run_takeDeferred hK, ?_⟩⟩
      refine ⟨.tuple #[.int .i64 (cntTo g (allV n).length : Int), .int .i64 0], ?_, ret_pair (by rw [HFN.out]) (by rw [HG.out]), h6.trans (belowK_b (w := w) (Nat.le_refl _) _ D _ _ (by omega) hK rfl rfl)⟩
      rw [HSZ.out]
      simp [results, Try.results27, go_sem]
  · have hd : (vldG g != 0) = true := by simpa using h
    have HI := Lib.hid (show fieldsN g = 0 by rw [fieldsN, if_neg h])
    clear h
    generalize vldG g = x at *
    go_enter Try.func27, Try.ntmps27
    go_wp2_with fail
    refine HW0.out.mono ?_
    rintro e w1 ⟨rfl, hb1⟩
    go_wp2
    go_ret2
    exact ⟨ret_pair (by rw [HI.out]; rfl) rfl, HBX.out.trans (hb1.mono (by simp))⟩
end Go.Proofs.Ytejjogpgolgdgaa
