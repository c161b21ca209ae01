/-
  WALK: the reference's Fields.
-/
import Derived.Test.YtejjogpgolgdgaaW19
namespace Go.Proofs.Ytejjogpgolgdgaa
open Go.RowKit Pulse

theorem makeL_first0 {g : List (List Int)} {q : Nat} {p : List Int} (h : (allV (wid g))[q]? = some p) : ∃ m0, (makeL g (fieldL g p))[0]? = some m0 ∧ m0.length = wid g ∧ (m0 = p ↔ fieldL g p ∉ fieldsTo g q) := by
  obtain ⟨h1, h2⟩ := makeL_first h
  exact ⟨_, List.getElem?_eq_getElem h1, (mem_makeL.1 (List.getElem_mem h1)).1.1, h2⟩

set_option maxRecDepth 100000 in
set_option maxHeartbeats 4000000 in
theorem rFields (A : Option Addr) (k c : Nat) (g : List (List Int)) (w : World) (hs : Sm g) (B : Nat) (hB : B ≤ w.heap.size) (hr : TRd w B A k g) :
    Calls Try.prog 28 #[.slice A k c] w fun e w' => e = .returned (.tuple #[.int .i64 (fieldsN g), .int .i64 (vldG g)]) ∧ Below w.heap.size w w' := by
  obtain rfl := hr.len
  have hr := hr.more hB
  have HW0 := Lib.hid (rValidate A g.length c g w hs w.heap.size (Nat.le_refl _) hr)
  by_cases h : vldG g = 0
  · have HG := Lib.hid h
    obtain ⟨v1, v2, v3, v4, v5⟩ := vldG_ok h
    have hpos : 0 < g.length := by omega
    have hN := allV_len (wid g) v4
    have HFN := Lib.hid (show fieldsN g = (cntTo g (allV (wid g)).length : Int) by rw [fieldsN, if_pos h])
    have HC0 := Lib.hid (show cntTo g 0 = 0 by simp [cntTo, fieldsTo, firsts])
    have HCS := Lib.hid (fun q p (hp : (allV (wid g))[q]? = some p) => cntTo_succ (g := g) hp)
    have HCL := Lib.hid (fun q => cntTo_le g q v4)
    have HMF := Lib.hid (fun q p (hp : (allV (wid g))[q]? = some p) => makeL_first0 (g := g) hp)
    rw [h] at HW0
    obtain ⟨n, hn⟩ : ∃ n, n = wid g := ⟨_, rfl⟩
    have HN := Lib.hid hn
    have hwid := v4
    rw [← hn] at v3 v4 hN HFN HCS HMF
    clear hn v5 h
    obtain ⟨L, hL⟩ : ∃ L, L = allV n := ⟨_, rfl⟩
    have HL := Lib.hid hL
    rw [← hL] at hN HFN HCS HMF
    clear hL
    go_enter Try.func28, Try.ntmps28
    go_wp2_with fail
    refine HW0.out.mono ?_
    rintro e w0 ⟨rfl, hb0⟩
    have s0 := hb0.size
    have hr := (hr.below hb0).more s0
    have HB0 := Lib.hid hb0
    clear hb0 HW0
    have HEV := Lib.hid (revery A g.length c g w0 hpos hwid w0.heap.size (Nat.le_refl _) hr)
    rw [← HN.out, ← HL.out] at HEV
    go_wp2_with fail
    refine HEV.out.mono ?_
    rintro e w1 ⟨AL, cL, vs, rfl, hrl, hlo, hta, hb1⟩
    have s1 := hb1.size
    have rg := (hr.below hb1).more s1
    have HT := Lib.hid (And.intro hrl hta)
    have HB1 := Lib.hid (HB0.out.trans (hb1.mono s0))
    clear hrl hta hb1 hlo HEV HB0 hr
    go_wp2
    go_loopw [7, 5] (fun i s wr => ∃ (q x : Nat), i = .int .i64 q ∧ s = .int .i64 x ∧ Hid (x = cntTo g q) ∧ q ≤ L.length ∧ Below w1.heap.size w1 wr) (fun i _ _ => L.length - (intOf i).toNat)
    case atStart => exact ⟨0, 0, rfl, rfl, HC0.out.symm, Nat.zero_le _, Below.refl _ _⟩
    case round =>
      obtain ⟨q, x, rfl, rfl, HX, hq, hb⟩ := hrel
      have hsz := hb.size
      by_cases hlt : q < L.length
      · obtain ⟨hdr, hhd, hrow⟩ := HT.out.2.row hlt
        obtain ⟨Ap, cp, rfl, _, _, hrp⟩ := hrow.read
        obtain ⟨b, off, rfl, hbb, hc0⟩ := Rd.head HT.out.1 hhd
        have hpl : L[q] ∈ allV n := by have := HL.out; rw [← this]; exact List.getElem_mem hlt
        have hpm := mem_allP.1 hpl
        have hgq : L[q]? = some L[q] := List.getElem?_eq_getElem hlt
        have HSU := Lib.hid (HCS.out q L[q] hgq)
        have HFI := Lib.hid (HMF.out q L[q] hgq)
        have hxl : x ≤ 343 := by have := HCL.out q; have := HX.out; omega
        have HFG := Lib.hid (fitG HG.out (by rw [hpm.1, HN.out]) (fun f hf => by have := hpm.2 f hf; omega))
        obtain ⟨p, hp⟩ : ∃ p, p = L[q] := ⟨_, rfl⟩
        rw [← hp] at hrp hc0 HSU HFG hpm HFI
        have hpn : p.length = n := hpm.1
        rw [hpn] at hc0 hrp
        have HPN := Lib.hid hpn
        clear hrow hp hpl hpn hhd hgq
        have c0 := (hb.cell (p := ⟨b, off + q, none⟩) hbb).trans hc0
        have rgw := (rg.below hb).more hsz
        have rpw := (hrp.below hb).more hsz
        have lbb : b < wr.heap.size := by omega
        have z0 : (0 : Int) ≤ (q : Int) := by omega
        have z1 : (q : Int) < (L.length : Int) := by omega
        have hfl : (fieldL g p).length ≤ 3 := by rw [fieldL_len]; exact v2
        obtain ⟨m0, hget, hm0l, hiff⟩ := HFI.out
        have HDM := Lib.hid hiff
        have hMl : (makeL g (fieldL g p)).length ≤ 343 := makeL_len HG.out
        obtain ⟨M, hM⟩ : ∃ M, M = makeL g (fieldL g p) := ⟨_, rfl⟩
        have HM := Lib.hid hM
        rw [← hM] at hget hMl
        have hMp : 0 < M.length := (List.getElem?_eq_some_iff.1 hget).1
        have HM0 := Lib.hid (show m0 = M[0] from ((List.getElem?_eq_some_iff.1 hget).2).symm)
        have zM : (0 : Int) < (M.length : Int) := by omega
        have HM0L := Lib.hid hm0l
        obtain ⟨d, hd⟩ : ∃ d, d = decide (m0 = p) := ⟨_, rfl⟩
        have HD := Lib.hid hd.symm
        have HO := Lib.hid hb
        clear hd hc0 hrp hpm hb hM hget hiff hm0l
        go_wp2_with fail
        refine (rfield _ _ _ _ _ _ g p wr HFG.out.1 HFG.out.2.1 HFG.out.2.2.1 HFG.out.2.2.2 wr.heap.size (Nat.le_refl _) rgw rpw).mono ?_
        rintro e w2 ⟨u2, rfl, hown2, hb2⟩
        obtain ⟨A2, c2, rfl, _, _⟩ := own_cap hown2
        have s2 := hb2.size
        have r2 := Rd.of_own hown2
        have rg2 := (rgw.below hb2).more s2
        clear hown2
        go_wp2_with fail
        refine (rmeeting _ _ _ _ _ _ g (fieldL g p) w2 HG.out (by omega) w2.heap.size (Nat.le_refl _) rg2 r2).mono ?_
        rw [← HM.out]
        rintro e w3 ⟨u3, rfl, hown3, hb3⟩
        have hb4 := hb2.trans (hb3.mono s2)
        have s4 := hb4.size
        obtain ⟨A3, c3, rfl, r3⟩ := hown3.cap
        obtain ⟨b3, off3, A4, c4, rfl, hb3b, hc3, _, _, h4⟩ := r3.row hMp
        rw [Nat.add_zero, ← HM0.out] at hc3
        rw [← HM0.out] at h4
        rw [HM0L.out] at hc3 h4
        have c4' := (hb4.cell (p := ⟨b, off + q, none⟩) lbb).trans c0
        have rp4 := (rpw.below hb4).more s4
        have HB4 := Lib.hid (HO.out.trans (hb4.mono hsz))
        clear hb2 hb3 hb4 r2 rg2 hown3 r3 c0
        go_wp2_with fail
        refine (rSameInts_is d _ _ _ _ _ _ m0 p HD.out w3 (by have := HM0L.out; omega) (by have := HPN.out; omega) w3.heap.size (Nat.le_refl _) h4 rp4).mono ?_
        rintro e w5 ⟨rfl, hb5⟩
        have HB5 := Lib.hid (HB4.out.trans (hb5.mono (by have := HB4.out.size; omega)))
        clear hb5 c4' hc3
        cases d with
        | true =>
          have HE := Lib.hid (show cntTo g (q + 1) = x + 1 by
            rw [HSU.out, if_neg (HDM.out.1 (of_decide_eq_true HD.out)), ← HX.out])
          go_wp2
          go_roundw
          case rel => exact ⟨q + 1, x + 1, by go_num, by go_num, HE.out.symm, by omega, HB5.out⟩
          case measure => simp [intOf]; omega
        | false =>
          have HE := Lib.hid (show cntTo g (q + 1) = x by
            have h0 := of_decide_eq_false HD.out
            rw [HSU.out, if_pos (Classical.byContradiction fun h => h0 (HDM.out.2 h)), ← HX.out]; rfl)
          go_wp2
          go_roundw
          case rel => exact ⟨q + 1, x, by go_num, rfl, HE.out.symm, by omega, HB5.out⟩
          case measure => simp [intOf]; omega
      · obtain rfl : q = L.length := by omega
        have HO := Lib.hid hb
        clear hb
        go_wp2
        go_ret2
        exact ⟨ret_pair (by rw [HFN.out, ← HX.out]; rfl) (by rw [HG.out]; rfl), HB1.out.trans (HO.out.mono (by have := HB1.out.size; omega))⟩
  · have hd : (vldG g != 0) = true := by simpa using h
    have HI := Lib.hid (show fieldsN g = 0 by rw [fieldsN, if_neg h])
    clear h
    generalize vldG g = x at *
    go_enter Try.func28, Try.ntmps28
    go_wp2_with fail
    refine HW0.out.mono ?_
    rintro e w1 ⟨rfl, hb1⟩
    go_wp2
    go_ret2
    exact ⟨ret_pair (by rw [HI.out]; rfl) rfl, hb1⟩
end Go.Proofs.Ytejjogpgolgdgaa
