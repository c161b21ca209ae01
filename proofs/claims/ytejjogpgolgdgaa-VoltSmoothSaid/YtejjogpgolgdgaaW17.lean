/-
  WALK: the reference's Nearest.
-/
import Derived.Test.YtejjogpgolgdgaaW16
namespace Go.Proofs.Ytejjogpgolgdgaa
open Go.RowKit Pulse

/-- How near the field of voltages comes to a wish. -/
def farL (g : List (List Int)) (l v : List Int) : Int := jumpL (fieldL g v) l
def nearF (g : List (List Int)) (l : List Int) (s : Option (Int × List Int)) (v : List Int) : Option (Int × List Int) := match s with
  | none => some (farL g l v, v)
  | some (n, u) => if farL g l v < n then some (farL g l v, v) else some (n, u)
/-- The nearest ones of the first q voltages. -/
def nearAt (g : List (List Int)) (l : List Int) (q : Nat) : Option (Int × List Int) := ((allV (wid g)).take q).foldl (nearF g l) none
theorem nearAt_succ {g : List (List Int)} {l : List Int} {q : Nat} {p : List Int} (h : (allV (wid g))[q]? = some p) : nearAt g l (q + 1) = nearF g l (nearAt g l q) p := by
  obtain ⟨h1, h2⟩ := List.getElem?_eq_some_iff.1 h
  unfold nearAt
  rw [take_snoc' _ q h1, h2, List.foldl_append]; rfl
def nearO (g : List (List Int)) (l : List Int) : Option (Int × List Int) := nearAt g l (allV (wid g)).length
def nearN (g : List (List Int)) (l : List Int) : Int := if wishE g l = 0 then ((nearO g l).getD (0, [])).1 else 0
def nearL (g : List (List Int)) (l : List Int) : List Int := if wishE g l = 0 then ((nearO g l).getD (0, [])).2 else []
theorem nearAt_some (g : List (List Int)) (l : List Int) (q : Nat) (h : 0 < q) (hq : q ≤ (allV (wid g)).length) : ∃ n p, nearAt g l q = some (n, p) := by
  obtain ⟨q, rfl⟩ : ∃ r, q = r + 1 := ⟨q - 1, by omega⟩
  have hlt : q < (allV (wid g)).length := by omega
  rw [nearAt_succ (List.getElem?_eq_getElem hlt)]
  cases nearAt g l q with
  | none => exact ⟨_, _, rfl⟩
  | some x =>
    obtain ⟨n, u⟩ := x
    show ∃ n' p', (if farL g l _ < n then _ else _) = some (n', p')
    split
    · exact ⟨_, _, rfl⟩
    · exact ⟨_, _, rfl⟩
theorem allV_pos (n : Nat) : 0 < (allV n).length := (allP_head 3 n).1
theorem nearO_some (g : List (List Int)) (l : List Int) : ∃ n p, nearO g l = some (n, p) := nearAt_some g l _ (allV_pos _) (Nat.le_refl _)
theorem farL_bd {g : List (List Int)} {l v : List Int} (h : FitG g v) (hl : Forces 1000 l) : 0 ≤ farL g l v ∧ farL g l v ≤ 1081 := by
  refine ⟨jumpL_nn _ _, ?_⟩
  have hf : Forces 81 (fieldL g v) := by
    intro f hf
    obtain ⟨r, hr, rfl⟩ := List.mem_map.1 hf
    have := h.2.2.1 r hr
    exact dot_bd3 this.2 h.2.2.2 (by have := h.2.1; omega)
  have := jumpL_le (x := 81) (y := 1000) (by decide) (by decide) hf hl
  unfold farL
  omega
theorem fieldL_f {g : List (List Int)} {v : List Int} (h : FitG g v) : Forces 81 (fieldL g v) := by
  intro f hf
  obtain ⟨r, hr, rfl⟩ := List.mem_map.1 hf
  have := h.2.2.1 r hr
  exact dot_bd3 this.2 h.2.2.2 (by have := h.2.1; omega)
theorem ret_three' {a a' b b' c c' : Value} (h : a = a') (h' : b = b') (h'' : c = c') : Ending.returned (.tuple #[a, b, c]) = .returned (.tuple #[a', b', c']) := by rw [h, h', h'']

/-- What the reference holds ahead of round q. -/
def NrR (g : List (List Int)) (l : List Int) (n : Nat) (q : Nat) (lv : Int) (bv : Value) (W : World) : Prop :=
  (nearAt g l q = none ∧ lv = -1 ∧ bv = .slice none 0 0) ∨ ∃ p A c, nearAt g l q = some (lv, p) ∧ 0 ≤ lv ∧ lv ≤ 2000 ∧ p.length = n ∧ bv = .slice A n c ∧ Rd W W.heap.size 1 A n (ints p)
theorem NrR.below {g : List (List Int)} {l : List Int} {n q : Nat} {lv : Int} {bv : Value} {W W' : World} (h : NrR g l n q lv bv W) (hb : Below W.heap.size W W') : NrR g l n q lv bv W' := by
  rcases h with h | ⟨p, A, c, h1, h2, h3, h4, h5, h6⟩
  · exact .inl h
  · exact .inr ⟨p, A, c, h1, h2, h3, h4, h5, (h6.below hb).more hb.size⟩

set_option maxRecDepth 100000 in
set_option maxHeartbeats 4000000 in
theorem rNearest (A A' : Option Addr) (k c k' c' : Nat) (g : List (List Int)) (l : List Int) (w : World) (hs : Sm g) (hl : l.length ≤ 1000) (B : Nat) (hB : B ≤ w.heap.size) (hr : TRd w B A k g) (hr' : Rd w B 1 A' k' (ints l)) :
    Calls Try.prog 34 #[.slice A k c, .slice A' k' c'] w fun e w' => ∃ A2 c2, e = .returned (.tuple #[.int .i64 (nearN g l), .slice A2 (nearL g l).length c2, .int .i64 (wishE g l)]) ∧ Rd w' w'.heap.size 1 A2 (nearL g l).length (ints (nearL g l)) ∧ Below w.heap.size w w' := by
  obtain rfl := hr.len
  obtain rfl := hr'.int_len
  have hr := hr.more hB
  have hr' := hr'.more hB
  have HW0 := Lib.hid (rWished A A' g.length c l.length c' g l w hs hl w.heap.size (Nat.le_refl _) hr hr')
  by_cases h : wishE g l = 0
  · have HV := Lib.hid h
    obtain ⟨hv, hw⟩ := wishE_ok h
    obtain ⟨v1, v2, v3, v4, v5⟩ := vldG_ok hv
    obtain ⟨hlg, w2⟩ := wOk_ok hw
    have HG := Lib.hid hv
    have HLG := Lib.hid hlg
    clear hlg
    have HLF := Lib.hid w2
    have hpos : 0 < g.length := by omega
    have HNN := Lib.hid (show nearN g l = ((nearAt g l (allV (wid g)).length).getD (0, [])).1 ∧ nearL g l = ((nearAt g l (allV (wid g)).length).getD (0, [])).2 from ⟨by rw [nearN, if_pos h]; rfl, by rw [nearL, if_pos h]; rfl⟩)
    have HSM := Lib.hid (nearO_some g l)
    have HNS := Lib.hid (fun q p (hp : (allV (wid g))[q]? = some p) => nearAt_succ (g := g) (l := l) hp)
    have HN0 := Lib.hid (show nearAt g l 0 = none from rfl)
    have hN := allV_len (wid g) v4
    rw [h] at HW0
    obtain ⟨n, hn⟩ : ∃ n, n = wid g := ⟨_, rfl⟩
    have HN := Lib.hid hn
    have hwid := v4
    rw [← hn] at v3 v4 hN HNN HNS
    clear hn hv hw w2 v5 h
    obtain ⟨L, hL⟩ : ∃ L, L = allV n := ⟨_, rfl⟩
    have HL := Lib.hid hL
    rw [← hL] at hN HNN HNS
    clear hL
    go_enter Try.func34, Try.ntmps34
    go_wp2_with fail
    refine HW0.out.mono ?_
    rintro e w0 ⟨rfl, hb0⟩
    have s0 := hb0.size
    have hr := (hr.below hb0).more s0
    have hr' := (hr'.below hb0).more s0
    have HB0 := Lib.hid hb0
    clear hb0 HW0
    have HEV := Lib.hid (revery A g.length c g w0 hpos hwid w0.heap.size (Nat.le_refl _) hr)
    rw [← HN.out, ← HL.out] at HEV
    go_wp2_with fail
    refine HEV.out.mono ?_
    rintro e w1 ⟨AL, cL, vs, rfl, hrl, hlo, hta, hb1⟩
    have s1 := hb1.size
    have rg := (hr.below hb1).more s1
    have rl := (hr'.below hb1).more s1
    have HT := Lib.hid (And.intro hrl hta)
    have HB1 := Lib.hid (HB0.out.trans (hb1.mono s0))
    clear hrl hta hb1 hlo HEV HB0 hr hr'
    go_wp2
    go_loopw [11, 9, 8] (fun i lv bv wr => ∃ (q : Nat) (x : Int), i = .int .i64 q ∧ lv = .int .i64 x ∧ q ≤ L.length ∧ NrR g l n q x bv wr ∧ Below w1.heap.size w1 wr) (fun i _ _ _ => L.length - (intOf i).toNat)
    case atStart => exact ⟨0, -1, rfl, rfl, Nat.zero_le _, .inl ⟨HN0.out, rfl, rfl⟩, Below.refl _ _⟩
    case round =>
      obtain ⟨q, x, rfl, rfl, hq, hnr, hb⟩ := hrel
      have hsz := hb.size
      by_cases hlt : q < L.length
      · obtain ⟨hdr, hhd, hrow⟩ := HT.out.2.row hlt
        obtain ⟨Ap, cp, rfl, _, _, hrp⟩ := hrow.read
        obtain ⟨b, off, rfl, hbb, hc0⟩ := Rd.head HT.out.1 hhd
        have hpl : L[q] ∈ allV n := by have := HL.out; rw [← this]; exact List.getElem_mem hlt
        have hpm := mem_allP.1 hpl
        have HSU := Lib.hid (HNS.out q L[q] (List.getElem?_eq_getElem hlt))
        have HFG := Lib.hid (fitG HG.out (by rw [hpm.1, HN.out]) (fun f hf => by have := hpm.2 f hf; omega))
        obtain ⟨p, hp⟩ : ∃ p, p = L[q] := ⟨_, rfl⟩
        rw [← hp] at hrp hc0 HSU HFG hpm
        have hpn : p.length = n := hpm.1
        rw [hpn] at hc0 hrp
        have HPN := Lib.hid hpn
        clear hrow hp hpl hpn hhd
        have c0 := (hb.cell (p := ⟨b, off + q, none⟩) hbb).trans hc0
        have rgw := (rg.below hb).more hsz
        have rlw := (rl.below hb).more hsz
        have rpw := (hrp.below hb).more hsz
        have z0 : (0 : Int) ≤ (q : Int) := by omega
        have z1 : (q : Int) < (L.length : Int) := by omega
        have hfl : (fieldL g p).length ≤ 3 := by rw [fieldL_len]; exact v2
        have hfd := farL_bd HFG.out HLF.out
        have HFF := Lib.hid (fieldL_f HFG.out)
        have HFL := Lib.hid (show l.length = (fieldL g p).length by rw [fieldL_len]; exact HLG.out)
        obtain ⟨y, hy⟩ : ∃ y, y = farL g l p := ⟨_, rfl⟩
        have HY := Lib.hid hy
        rw [← hy] at hfd
        clear hy hc0 hrp hpm
        have HJ := Lib.hid (fun (A2 : Option Addr) (c2 : Nat) (w2 : World) (h2 : Rd w2 w2.heap.size 1 A2 (fieldL g p).length (ints (fieldL g p))) (h3 : Rd w2 w2.heap.size 1 A' l.length (ints l)) => rjump A2 A' (fieldL g p).length c2 l.length c' (fieldL g p) l w2 (by omega) HFL.out (fun f hf => by have := HFF.out f hf; omega) HLF.out w2.heap.size (Nat.le_refl _) h2 h3)
        rw [show jumpL (fieldL g p) l = y from HY.out.symm] at HJ
        -- the two ways
        have hcase : (nearAt g l q = none ∧ x = -1) ∨ (0 ≤ x ∧ x ≤ 2000 ∧ ∃ u, nearAt g l q = some (x, u)) := by
          rcases hnr with ⟨h1, h2, _⟩ | ⟨u, _, _, h1, h2, h3, _⟩
          · exact .inl ⟨h1, h2⟩
          · exact .inr ⟨h2, h3, u, h1⟩
        have HCASE := Lib.hid hcase
        have HNR := Lib.hid hnr
        have HBW := Lib.hid hb
        have hx1 : -1 ≤ x ∧ x ≤ 2000 := by rcases hcase with ⟨_, h⟩ | ⟨h, h', _⟩ <;> omega
        have lbb : b < wr.heap.size := by omega
        clear hcase hnr hb
        by_cases hst : x < 0 ∨ y < x
        · have hx0 : x < 0 ∨ ¬ x < 0 := by omega
          have HS2 := Lib.hid (show nearAt g l (q + 1) = some (y, p) by
            rw [HSU.out]
            rcases HCASE.out with ⟨h1, h2⟩ | ⟨h1, h2, u, h3⟩
            · rw [h1, HY.out]; rfl
            · rw [h3]
              show (if farL g l p < x then some (farL g l p, p) else some (x, u)) = _
              rw [← HY.out, if_pos (by omega)])
          rcases hx0 with hx0 | hx0
          all_goals
            go_wp2_with fail
            refine (rfield _ _ _ _ _ _ g p wr HFG.out.1 HFG.out.2.1 HFG.out.2.2.1 HFG.out.2.2.2 wr.heap.size (Nat.le_refl _) rgw rpw).mono ?_
            rintro e w2 ⟨u2, rfl, hown2, hb2⟩
            obtain ⟨A2, c2, rfl, _, _⟩ := own_cap hown2
            have s2 := hb2.size
            have r2 := Rd.of_own hown2
            have rl2 := (rlw.below hb2).more s2
            clear hown2
            go_wp2_with fail
            refine (HJ.out A2 c2 w2 r2 rl2).mono ?_
            rintro e w3 ⟨rfl, hb3⟩
            have hb4 := hb2.trans (hb3.mono s2)
            have s4 := hb4.size
            have hB4 := Lib.hid (HBW.out.trans (hb4.mono hsz))
            have c4 := (hb4.cell (p := ⟨b, off + q, none⟩) lbb).trans c0
            have HRP := Lib.hid ((rpw.below hb4).more s4)
            clear hb2 hb3 hb4 r2 rl2
            go_wp2
            go_quiet (fail)
            go_wp2
            go_roundw
            case rel => exact ⟨q + 1, y, by go_num, rfl, by omega, .inr ⟨p, Ap, cp, HS2.out, by omega, by omega, HPN.out, rfl, HRP.out⟩, below_drewN hB4.out nq⟩
            case measure => simp [intOf]; omega
        · have hx0 : ¬ x < 0 := by omega
          have hy0 : ¬ y < x := by omega
          have HS2 := Lib.hid (show nearAt g l (q + 1) = nearAt g l q by
            rw [HSU.out]
            rcases HCASE.out with ⟨h1, h2⟩ | ⟨h1, h2, u, h3⟩
            · omega
            · rw [h3]
              show (if farL g l p < x then some (farL g l p, p) else some (x, u)) = _
              rw [← HY.out, if_neg (by omega)])
          clear hst
          go_wp2_with fail
          refine (rfield _ _ _ _ _ _ g p wr HFG.out.1 HFG.out.2.1 HFG.out.2.2.1 HFG.out.2.2.2 wr.heap.size (Nat.le_refl _) rgw rpw).mono ?_
          rintro e w2 ⟨u2, rfl, hown2, hb2⟩
          obtain ⟨A2, c2, rfl, _, _⟩ := own_cap hown2
          have s2 := hb2.size
          have r2 := Rd.of_own hown2
          have rl2 := (rlw.below hb2).more s2
          clear hown2
          go_wp2_with fail
          refine (HJ.out A2 c2 w2 r2 rl2).mono ?_
          rintro e w3 ⟨rfl, hb3⟩
          have hb4 := hb2.trans (hb3.mono s2)
          have hB4 := Lib.hid (HBW.out.trans (hb4.mono hsz))
          have HN4 := Lib.hid (HNR.out.below hb4)
          clear hb2 hb3 hb4 r2 rl2
          go_wp2
          go_roundw
          case rel =>
            refine ⟨q + 1, x, by go_num, rfl, by omega, ?_, hB4.out⟩
            have := HN4.out
            unfold NrR at this ⊢
            rw [HS2.out]; exact this
          case measure => simp [intOf]; omega
      · obtain rfl : q = L.length := by omega
        obtain ⟨n0, p0, hno⟩ := HSM.out
        have hno2 : nearAt g l L.length = some (n0, p0) := by rw [HL.out, HN.out]; exact hno
        rcases hnr with ⟨h1, _⟩ | ⟨p, A2, c2, h1, _, _, h4, rfl, h6⟩
        · rw [hno2] at h1; cases h1
        · have HR := Lib.hid h6
          have hx : nearN g l = x := by rw [HNN.out.1, h1]; rfl
          have hL2 : nearL g l = p := by rw [HNN.out.2, h1]; rfl
          have HX := Lib.hid (And.intro hx (And.intro hL2 h4))
          clear h1 hx hL2 h4 hno hno2 h6
          go_wp2
          refine bodyPost_ret (results_tmp3 rfl _ _ _) rfl ?_
          obtain ⟨e1, e2, e3⟩ := HX.out
          exact ⟨A2, c2, ret_three (by rw [e1]; rfl) (by rw [e2, e3]; rfl) (by rw [HV.out]; rfl), by rw [e2, e3]; exact HR.out, HB1.out.trans (hb.mono (by have := HB1.out.size; omega))⟩
  · have hd : (wishE g l != 0) = true := by simpa using h
    have HI := Lib.hid (show nearN g l = 0 by rw [nearN, if_neg h])
    have HL := Lib.hid (show nearL g l = [] by rw [nearL, if_neg h])
    clear h
    generalize wishE g l = x at *
    go_enter Try.func34, Try.ntmps34
    go_wp2_with fail
    refine HW0.out.mono ?_
    rintro e w1 ⟨rfl, hb1⟩
    go_wp2
    refine bodyPost_ret (results_tmp3 rfl _ _ _) rfl ?_
    exact ⟨none, 0, ret_three (by rw [HI.out]; rfl) (by rw [HL.out]; rfl) rfl, by rw [HL.out]; exact Rd.nil, hb1⟩
end Go.Proofs.Ytejjogpgolgdgaa
