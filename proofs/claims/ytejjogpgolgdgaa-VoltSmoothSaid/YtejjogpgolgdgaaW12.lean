/-
  WALK: the reference's 'meeting'.
-/
import Derived.Test.YtejjogpgolgdgaaW11
namespace Go.Proofs.Ytejjogpgolgdgaa
open Go.RowKit Pulse

set_option maxRecDepth 100000 in
set_option maxHeartbeats 4000000 in
theorem rmeeting (A A' : Option Addr) (k c k' c' : Nat) (g : List (List Int)) (l : List Int) (w : World) (hv : vldG g = 0) (hl : l.length ≤ 1000) (B : Nat) (hB : B ≤ w.heap.size) (hr : TRd w B A k g) (hr' : Rd w B 1 A' k' (ints l)) :
    Calls Try.prog 58 #[.slice A k c, .slice A' k' c'] w fun e w' => ∃ u, e = .returned u ∧ OwnT w' w.heap.size u (makeL g l) ∧ Below w.heap.size w w' := by
  obtain rfl := hr.len
  obtain rfl := hr'.int_len
  obtain ⟨v1, v2, v3, v4, v5⟩ := vldG_ok hv
  have HV := Lib.hid hv
  have hpos : 0 < g.length := by omega
  have H := Lib.hid (revery A g.length c g w hpos v4 B hB hr)
  have hr := hr.more hB
  have hr' := hr'.more hB
  have HMA := Lib.hid (makeTo_all g l)
  have HML := Lib.hid (fun q => makeTo_len g l q v4)
  have HMS := Lib.hid (fun q p (hp : (allV (wid g))[q]? = some p) => makeTo_succ (g := g) (l := l) hp)
  have HM0 := Lib.hid (show makeTo g l 0 = [] by simp [makeTo])
  obtain ⟨n, hn⟩ : ∃ n, n = wid g := ⟨_, rfl⟩
  have HN := Lib.hid hn
  have hN := allV_len n (by omega)
  rw [← hn] at H v3 v4 HMA HMS
  clear hn hv v5
  obtain ⟨L, hL⟩ : ∃ L, L = allV n := ⟨_, rfl⟩
  have HL := Lib.hid hL
  rw [← hL] at H HMA HMS hN
  clear hL
  go_enter Try.func58, Try.ntmps58
  go_wp2_with fail
  refine H.out.mono ?_
  rintro e w1 ⟨AL, cL, vs, rfl, hrl, hlo, hta, hb1⟩
  have s1 := hb1.size
  have rg := (hr.below hb1).more s1
  have rl := (hr'.below hb1).more s1
  have HT := Lib.hid (And.intro hrl hta)
  have HB1 := Lib.hid hb1
  clear hrl hta hb1 hlo H
  go_wp2
  go_loopw [7, 5] (fun i u wr => ∃ (q m : Nat) (vs' : List Value), i = .int .i64 q ∧ q ≤ L.length ∧ Hid (m = (makeTo g l q).length) ∧ m ≤ 343 ∧ wr.ownsRow w1.heap.size 23 1 u m vs' ∧ Tab wr wr.heap.size (fun x => x < w.heap.size ∨ u.ownBlock = some x) vs' (makeTo g l q) ∧ Below w1.heap.size w1 wr) (fun i _ _ => L.length - (intOf i).toNat)
  case atStart => exact ⟨0, 0, [], rfl, Nat.zero_le _, by rw [HM0.out]; rfl, by omega, World.ownsRow_nil .., by rw [HM0.out]; exact Tab.nil, Below.refl _ _⟩
  case round =>
    obtain ⟨q, m, vs', rfl, hq, HM, hm, hown, ht, hb⟩ := hrel
    have hsz := hb.size
    by_cases hlt : q < L.length
    · obtain ⟨hdr, hhd, hrow⟩ := HT.out.2.row hlt
      obtain ⟨Ap, cp, rfl, _, _, hrp⟩ := hrow.read
      obtain ⟨b, off, rfl, hbb, hc0⟩ := Rd.head HT.out.1 hhd
      have hrw := (hrow.below hb (Nat.le_refl _)).more hsz
      have hpl : L[q] ∈ allV n := by have := HL.out; rw [← this]; exact List.getElem_mem hlt
      have hpm := mem_allP.1 hpl
      have hgq : L[q]? = some L[q] := List.getElem?_eq_getElem hlt
      have HSU := Lib.hid (HMS.out q L[q] hgq)
      have HFG := Lib.hid (fitG HV.out (by rw [hpm.1, HN.out]) (fun f hf => by have := hpm.2 f hf; omega))
      obtain ⟨p, hp⟩ : ∃ p, p = L[q] := ⟨_, rfl⟩
      rw [← hp] at hrow hrw hrp hc0 HSU HFG hpm
      have hpn : p.length = n := hpm.1
      rw [hpn] at hc0 hrp
      have HPN := Lib.hid hpn
      obtain ⟨Au, cu, rfl, _, _⟩ := own_cap hown
      have HRW := Lib.hid (show RowAt wr wr.heap.size (fun x => x < w.heap.size ∨ (Value.slice Au m cu).ownBlock = some x) (.slice Ap n cp) p from by
        have h1 := hrow.at (X' := fun x => x < w.heap.size ∨ (Value.slice Au m cu).ownBlock = some x) (fun x hx => by
          rcases hx with hx | hx
          · exact .inl hx
          · exact .inr (hown.lt x hx).1)
        have h2 := (h1.below hb (Nat.le_refl _)).more hsz
        rw [hpn] at h2
        exact h2)
      clear hrow hrw hp hgq hpl hpn hhd
      have c0 := (hb.cell (p := ⟨b, off + q, none⟩) hbb).trans hc0
      have rgw := (rg.below hb).more hsz
      have rlw := (rl.below hb).more hsz
      have rpw := (hrp.below hb).more hsz
      have z0 : (0 : Int) ≤ (q : Int) := by omega
      have z1 : (q : Int) < (L.length : Int) := by omega
      have hfl : (fieldL g p).length ≤ 3 := by rw [fieldL_len]; exact v2
      obtain ⟨d, hd⟩ : ∃ d, d = decide (fieldL g p = l) := ⟨_, rfl⟩
      have HD := Lib.hid hd.symm
      rw [← hd] at HSU
      have HO := Lib.hid (And.intro hown (And.intro ht hb))
      clear hd hown ht hc0 hrp hpm hb
      go_wp2_with fail
      refine (rfield _ _ _ _ _ _ g p wr HFG.out.1 HFG.out.2.1 HFG.out.2.2.1 HFG.out.2.2.2 wr.heap.size (Nat.le_refl _) rgw rpw).mono ?_
      rintro e w2 ⟨u2, rfl, hown2, hb2⟩
      obtain ⟨A2, c2, rfl, _, _⟩ := own_cap hown2
      have s2 := hb2.size
      have r2 := Rd.of_own hown2
      have rl2 := (rlw.below hb2).more s2
      clear hown2
      go_wp2_with fail
      refine (rSameInts_is d _ _ _ _ _ _ (fieldL g p) l HD.out w2 (by omega) hl w2.heap.size (Nat.le_refl _) r2 rl2).mono ?_
      rintro e w3 ⟨rfl, hb3⟩
      have hb4 := hb2.trans (hb3.mono s2)
      have s4 := hb4.size
      obtain ⟨hown, ht, hb⟩ := HO.out
      have hown4 := own_below hown hb4
      have ht4 := (ht.below hb4 (Nat.le_refl _)).more s4
      have hB4 := Lib.hid (hb.trans (hb4.mono hsz))
      have hrw4 := (HRW.out.below hb4 (Nat.le_refl _)).more s4
      have c4 := (hb4.cell (p := ⟨b, off + q, none⟩) (show b < wr.heap.size by omega)).trans c0
      have HT4 := Lib.hid (And.intro ht4 hrw4)
      clear hown ht hb hb2 hb3 hb4 ht4 hrw4 r2 rl2 c0
      cases d with
      | false =>
        go_wp2
        go_roundw
        case rel => exact ⟨q + 1, m, vs', by go_num, by omega, by show m = _; rw [HSU.out, HM.out]; simp, hm, hown4, by rw [HSU.out]; simpa using HT4.out.1, hB4.out⟩
        case measure => simp [intOf]; omega
      | true =>
        go_wp2_with (at_builtin; go_must (refine app1x rfl (.tmp 24) (.tmp 29) 22 rfl 23 _ 1 24 E22 w1.heap.size _ _ _ _ rfl hown4 _ rfl ?_ ?_ ?_ ?_ ?_ ?_); rfl; rfl; rfl; omega; omega; intro v5 w5 hown5 hg5 hx5)
        have HT5 := Lib.hid (tab_push (L := fun x => x < w.heap.size) HT4.out.1 HT4.out.2 hg5 hx5)
        have HB5 := Lib.hid (below_own hB4.out (by omega) hown4 (Nat.le_refl _) hg5)
        have hm5 : m + 1 ≤ 343 := by have h1 := HML.out (q + 1); have h2 := HM.out; rw [HSU.out] at h1; simp at h1; omega
        have HO5 := Lib.hid hown5
        clear hown5 hg5 hx5
        go_roundw
        case rel => exact ⟨q + 1, m + 1, _, by go_num, by omega, by show m + 1 = _; rw [HSU.out, HM.out]; simp, hm5, HO5.out, by rw [HSU.out]; exact HT5.out, HB5.out⟩
        case measure => simp [intOf]; omega
    · obtain rfl : q = L.length := by omega
      obtain ⟨Au, cu, rfl, _, _⟩ := own_cap hown
      rw [HMA.out] at HM ht
      have HO := Lib.hid (And.intro hown (And.intro ht hb))
      clear hown ht hb
      go_wp2
      go_ret
      obtain ⟨h1, h2, h3⟩ := HO.out
      have e := HM.out
      exact ⟨_, rfl, ⟨vs', by rw [← e]; exact own_base h1 s1, h2⟩, HB1.out.trans (h3.mono s1)⟩
end Go.Proofs.Ytejjogpgolgdgaa
