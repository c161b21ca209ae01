/-
  WALK: reached.
-/
import Derived.Test.YtlhbmfaoldajdaaW17
namespace Go.Proofs.Ytlhbmfaoldajdaa
open Go.RowKit Go.Maps

/-- An entry of a map's literal. -/
theorem wpList_insert_own {H : Type} {P : Program} (w : World) {ops : Array Oper} {rest : List Oper} {o : Oper} {a : Act} {Q : Exit → Act → World → Prop}
    (hg : o.guard = none) (m x v : Operand) (t : TypeId) (hop : o.op = Op.insert t m x v)
    (k e : TypeId) (K : Keyed P k) (ht : P.underlying t = some (.map k e)) (R : Value → Option (DataW H × List MemPlace)) (b n : Nat) (D : DataW H)
    (hm : a.eval m = .map (some b)) (hown : w.ownsMap P k R b n D) (hn : n < maxLen) (key val : Value) (kl : Lit) (hx : a.eval x = key) (hv : a.eval v = val) (hkey : keyOf P k key = some kl)
    (d : DataW H) (ps : List MemPlace) (hval : R val = some (d, ps))
    (hK : ∀ w', w'.ownsMap P k R b (n + 1) (D.put kl d) → w.grownBy w' (some b) → wpList P ops Q rest (a.put o.dst undef) w') :
    wpList P ops Q (o :: rest) a w := by
  refine wpList_plain hg fun K' hK' => ?_
  obtain ⟨w', hrun, r1, r2⟩ := hown.update K ht hn hkey hval
  unfold Oper.wp
  simp [execOp, hop, hm, hx, hv, hrun, Result.andThen]
  exact hK' _ _ (hK w' r1 r2)

set_option maxRecDepth 100000 in
set_option maxHeartbeats 4000000 in
theorem preached (Z : Int) (A A' : Option Addr) (k c k' c' : Nat) (L : List (Int × Int)) (s : List Int) (w : World)
    (hZ0 : 0 ≤ Z) (hZ6 : Z ≤ 6) (hn : s.length ≤ 4) (hl : L.length ≤ 1000) (hp : PlOk Z s.length s) (B : Nat) (hB : B ≤ w.heap.size) (hr : Rd w B 2 A k (prs L)) (hr' : Rd w B 1 A' k' (ints s)) :
    Calls Try.prog 14 #[.agg #[.int .i64 Z, .slice A k c], .slice A' k' c'] w fun e w' => ∃ b, e = .returned (.map (some b)) ∧ w'.ownsMap Try.prog 61 stepElem b (bfsL Z L s).length (mapN (bfsL Z L s)) ∧ Below w.heap.size w w' := by
  obtain rfl := hr'.int_len
  have hr := hr.more hB
  have hr' := hr'.more hB
  have HP := Lib.hid hp
  have h1 : Below w.heap.size w ((w.alloc (.cells #[.int .i64 Z, .slice A k c] 24)).alloc (.map #[] 0)) := ((Below.refl _ w).alloc (Nat.le_refl _) _).alloc (by simp) _
  have HK := Lib.hid (pkeyOf A' s.length c' s ((w.alloc (.cells #[.int .i64 Z, .slice A k c] 24)).alloc (.map #[] 0)) hn w.heap.size h1.size (hr'.below h1))
  have HM := Lib.hid (World.ownsMap_made (H := Unit) (w.alloc (.cells #[.int .i64 Z, .slice A k c] 24)) Try.prog 61 stepElem)
  have HT := Lib.hid (blk_alloc (blk_new w 24 #[.int .i64 Z, .slice A k c]) (.map #[] 0))
  have sz : ((w.alloc (.cells #[.int .i64 Z, .slice A k c] 24)).alloc (.map #[] 0)).heap.size = w.heap.size + 2 := by simp
  have HB1 := Lib.hid h1
  have HKO := Lib.hid (keyOf_place (hp.kok hZ6 hn))
  have hbd : ∀ w : World, (Instr.build 63 #[]).run Try.prog w = .ok (.agg #[.int .i64 0, .int .i64 0, .int .i64 0, .int .i64 0, .int .i64 0, .int .i64 0, .int .i64 0]) w := fun _ => by kernel_rfl
  have HVAL := Lib.hid (show stepElem (.agg #[.int .i64 0, .int .i64 0, .int .i64 0, .int .i64 0, .int .i64 0, .int .i64 0, .int .i64 0]) = some (stepD (stepZ ⟨s, [0, 0, 0, 0], (0, 0), 0⟩), []) from stepElem_mk (zs := [0, 0, 0, 0, 0, 0, 0]) rfl)
  have hmk : ∀ w : World, (Instr.makeMap 48 none).run Try.prog w = .ok (.map (some w.heap.size)) (w.alloc (.map #[] 0)) := fun w => run_makeMap 48 w
  clear hp h1
  go_enter Try.func14, Try.ntmps14
  go_wp2_with fail
  refine HK.out.mono ?_
  rintro e w1 ⟨rfl, hb1⟩
  have m1 := ownsMap_below HM.out hb1
  rw [World.size_alloc] at m1
  have t1 := blk_below HT.out hb1 (by omega)
  have s1 := hb1.size
  have HB2 := Lib.hid (HB1.out.trans (hb1.mono (by omega)))
  have HTM := Lib.hid t1
  clear hb1 HK HM HT HB1 t1
  go_wp2_with ((refine wpList_insert_own _ rfl _ _ _ 48 rfl 61 63 law61 Try.underlying48 stepElem (w.heap.size + 1) 0 (.map []) rfl m1 (by unfold maxLen; omega) _ _ (keyL s) rfl rfl HKO.out _ [] HVAL.out ?_); intro w2 hown2 hg2)
  have s2 := hg2.size
  have tb2 := blk_grown HTM.out hg2 (fun e => by injection e with e; omega)
  have fb2 := blk_new w2 48 #[.map (some (w.heap.size + 1))]
  have hb2 := HB2.out.grown hg2 (by omega) (fun g h => by injection h with h; omega)
  have hb3 := hb2.alloc (by omega) (.cells #[.map (some (w.heap.size + 1))] 48)
  have sA : (w2.alloc (.cells #[.map (some (w.heap.size + 1))] 48)).heap.size = w2.heap.size + 1 := by simp
  have H2 := Lib.hid (And.intro (blk_alloc tb2 (.cells #[.map (some (w.heap.size + 1))] 48)) (And.intro fb2 (And.intro (hown2.alloc (.cells #[.map (some (w.heap.size + 1))] 48)) hb3)))
  clear tb2 fb2 hown2 hg2 hb2 hb3 HTM HB2 hmk hbd HVAL HKO
  refine (pClone A' s.length c' s (w2.alloc (.cells #[.map (some (w.heap.size + 1))] 48)) (by omega) w.heap.size (by omega) (hr'.below H2.out.2.2.2)).mono ?_
  rintro e w3 ⟨v3, rfl, hown3, hb3⟩
  have s3 := hb3.size
  obtain ⟨A3, c3, rfl, _, _⟩ := own_cap hown3
  have nx := blk_new w3 25 #[.slice A3 s.length c3]
  have no := blk_new (w3.alloc (.cells #[.slice A3 s.length c3] 25)) 67 #[.slice (some ⟨w3.heap.size, 0, none⟩) 1 1]
  rw [World.size_alloc] at no
  have hb4 : Below w.heap.size w ((w3.alloc (.cells #[.slice A3 s.length c3] 25)).alloc (.cells #[.slice (some ⟨w3.heap.size, 0, none⟩) 1 1] 67)) := ((H2.out.2.2.2.trans (hb3.mono (by omega))).alloc (by omega) _).alloc (by simp; omega) _
  have hbl : Below (w2.alloc (.cells #[.map (some (w.heap.size + 1))] 48)).heap.size (w2.alloc (.cells #[.map (some (w.heap.size + 1))] 48)) ((w3.alloc (.cells #[.slice A3 s.length c3] 25)).alloc (.cells #[.slice (some ⟨w3.heap.size, 0, none⟩) 1 1] 67)) := (hb3.alloc s3 _).alloc (by simp; omega) _
  have hlo := fun g h => hown3.lt g h
  have hrow : RowAt ((w3.alloc (.cells #[.slice A3 s.length c3] 25)).alloc (.cells #[.slice (some ⟨w3.heap.size, 0, none⟩) 1 1] 67)) ((w3.alloc (.cells #[.slice A3 s.length c3] 25)).alloc (.cells #[.slice (some ⟨w3.heap.size, 0, none⟩) 1 1] 67)).heap.size (XF (.slice (some ⟨w3.heap.size, 0, none⟩) 1 1) (w3.heap.size + 1) (w.heap.size + 1)) (.slice A3 s.length c3) s := by
    have h0 := RowAt.of_own (X := fun g => g = w.heap.size + 1) hown3 (fun g hg => by rw [sA, hg]; omega)
    refine (((h0.alloc (Nat.le_refl _) _).alloc (by simp) _).at (fun g hg => ?_)).more (by simp; omega)
    rcases hg with hg | hg | hg
    · exact .inr (by omega)
    · exact .inl hg
    · have hg : some w3.heap.size = some g := hg
      injection hg with hg
      exact .inr (by omega)
  have hst : St ((w3.alloc (.cells #[.slice A3 s.length c3] 25)).alloc (.cells #[.slice (some ⟨w3.heap.size, 0, none⟩) 1 1] 67)) w.heap.size w.heap.size w2.heap.size (w3.heap.size + 1) (w.heap.size + 1) #[.int .i64 Z, .slice A k c] (.slice (some ⟨w3.heap.size, 0, none⟩) 1 1) [.slice A3 s.length c3] (bfsTo Z L s 0) :=
    ⟨blk_below H2.out.1 hbl (by omega), blk_below H2.out.2.1 hbl (by omega), no, ownsMap_below H2.out.2.2.1 hbl,
      ⟨rfl, .inr ⟨w3.heap.size, 1, #[.slice A3 s.length c3], rfl, by omega, blk_alloc nx _, Nat.le_refl _, by unfold maxLen; omega, rfl, rfl⟩⟩, Tab.nil.snoc hrow⟩
  have HST := Lib.hid (And.intro hst hb4)
  have s4 := hb4.size
  have lob : w.heap.size ≤ w3.heap.size + 1 := by omega
  have HTID := Lib.hid (fun q => tidy_bfs (L := L) HP.out hn q)
  have HDEE := Lib.hid (fun q => deep_bfs Z L s q)
  have HSU := Lib.hid (fun q h => bfsTo_succ (Z := Z) (L := L) (s := s) (q := q) h)
  have HFIN := Lib.hid (fun q (h : (bfsTo Z L s q).length ≤ q) (h2 : q ≤ 1296) => show bfsL Z L s = bfsTo Z L s q from bfsTo_stay h 1296 h2)
  clear nx no hb4 hbl hlo hrow hst hown3 hb3 H2
  go_wp2
  go_loopw [8] (fun i wr => ∃ (q : Nat) (u : Value) (vs : List Value), i = .int .i64 q ∧ q ≤ (bfsTo Z L s q).length ∧ St wr w.heap.size w.heap.size w2.heap.size (w3.heap.size + 1) (w.heap.size + 1) #[.int .i64 Z, .slice A k c] u vs (bfsTo Z L s q) ∧ Below w.heap.size w wr) (fun i _ => 1297 - (intOf i).toNat)
  case atStart => exact ⟨0, _, _, rfl, Nat.zero_le _, HST.out.1, HST.out.2⟩
  case round =>
    obtain ⟨q, u, vs, rfl, hq, hst, hb⟩ := hrel
    have hTq := HTID.out q
    have hDq := HDEE.out q
    have HSQ := Lib.hid (HSU.out q)
    have HFQ := Lib.hid (HFIN.out q)
    obtain ⟨T, hTe⟩ : ∃ T, T = bfsTo Z L s q := ⟨_, rfl⟩
    rw [← hTe] at hq hst hTq hDq HFQ
    have HSQ := Lib.hid (fun (h : q < T.length) => show bfsTo Z L s (q + 1) = visit Z L T[q].p T[q].d T by subst hTe; exact HSQ.out h)
    clear hTe HTID HDEE HSU HFIN
    have hT6 := hTq.len hZ6 hn
    have sb := hb.size
    obtain ⟨Au, cu, rfl, _, _⟩ := own_cap hst.r
    have e6 : wr.cell? ⟨w3.heap.size + 1, 0, none⟩ = some (.slice Au T.length cu) := blk_cell hst.o 0
    by_cases hlt : q < T.length
    · have hxm : T[q] ∈ T := List.getElem_mem hlt
      have hxd := hDq q T[q] (List.getElem?_eq_getElem hlt)
      have HSE := Lib.hid (HSQ.out hlt)
      obtain ⟨v, hv, hrow⟩ := hst.p.row (i := q) (by rw [List.length_map]; exact hlt)
      rw [List.getElem_map] at hrow
      obtain ⟨b, off, rfl, lb, g0⟩ := Rd.head (Rd.of_own hst.r) hv
      obtain ⟨A9, c9, rfl, _, _, _⟩ := hrow.read
      obtain ⟨x, hx⟩ : ∃ x, x = T[q] := ⟨_, rfl⟩
      rw [← hx] at hxm hxd HSE hrow g0
      clear hx hv
      have zq0 : (0 : Int) ≤ (q : Int) := by omega
      have zq1 : (q : Int) < (T.length : Int) := by omega
      have HV := Lib.hid (pVisit Z A A9 k c c9 L x.p x.d s.length T wr w.heap.size w.heap.size w2.heap.size (w3.heap.size + 1) (w.heap.size + 1) (.slice (some ⟨b, off, none⟩) T.length cu) vs hZ0 hZ6 hn hl w.heap.size (Nat.le_refl _) lob (by omega) sb (hr.below hb) hst hrow hTq hDq x hxm rfl rfl (by omega))
      have HB := Lib.hid hb
      have HLE := Lib.hid (show q + 1 ≤ (visit Z L x.p x.d T).length by have := visTo_len Z L x.p x.d T _ (Nat.le_refl _); unfold visit; omega)
      obtain ⟨xp, hxp⟩ : ∃ xp, xp = x.p := ⟨_, rfl⟩
      have HXP := Lib.hid hxp
      rw [← hxp] at g0 HV
      clear hst hb hTq hDq hrow hxm hxd hxp
      go_wp2_with fail
      refine HV.out.mono ?_
      rintro e w5 ⟨rfl, u5, vs5, hst5, hb5⟩
      have HN := Lib.hid (And.intro hst5 (HB.out.trans hb5))
      clear hst5 hb5 e6 g0
      go_wp2
      go_roundw
      case rel => exact ⟨q + 1, u5, _, by go_num, by rw [HSE.out]; exact HLE.out, by rw [HSE.out, ← HXP.out]; exact HN.out.1, HN.out.2⟩
      case measure => simp [intOf]; omega
    · have HE := Lib.hid (HFQ.out (by omega) (by omega))
      have f0 : wr.cell? ⟨w2.heap.size, 0, none⟩ = some (.map (some (w.heap.size + 1))) := blk_cell hst.f 0
      have HF := Lib.hid (And.intro hst.m hb)
      have hge : ¬ (q : Int) < (T.length : Int) := by omega
      clear hst hb hTq hDq
      go_wp2
      go_ret
      exact ⟨_, rfl, by rw [HE.out]; exact HF.out.1, HF.out.2⟩
end Go.Proofs.Ytlhbmfaoldajdaa
