/-
  MERGED: W17, W18.
-/
import Derived.Test.YtejjogpgolgdgaaK8
import Derived.Sort.QuietIn
/-
  WALK: the reference's Nearest.
-/
namespace Go.Proofs.Ytejjogpgolgdgaa
open Go.RowKit Pulse

/-- How near the field of voltages comes to a wish. -/
def farL (g : List (List Int)) (l v : List Int) : Int := jumpL (fieldL g v) l
def nearF (g : List (List Int)) (l : List Int) (s : Option (Int × List Int)) (v : List Int) : Option (Int × List Int) := match s with
  | none => some (farL g l v, v)
  | some (n, u) => if farL g l v < n then some (farL g l v, v) else some (n, u)
/-- The nearest ones of the first q voltages. -/
def nearAt (g : List (List Int)) (l : List Int) (q : Nat) : Option (Int × List Int) := ((allV (wid g)).take q).foldl (nearF g l) none
theorem nearAt_succ {g : List (List Int)} {l : List Int} {q : Nat} {p : List Int} (h : (allV (wid g))[q]? = some p) : nearAt g l (q + 1) = nearF g l (nearAt g l q) p := by
  obtain ⟨h1, h2⟩ := List.getElem?_eq_some_iff.1 h
  unfold nearAt
  rw [take_snoc' _ q h1, h2, List.foldl_append]; rfl
def nearO (g : List (List Int)) (l : List Int) : Option (Int × List Int) := nearAt g l (allV (wid g)).length
def nearN (g : List (List Int)) (l : List Int) : Int := if wishE g l = 0 then ((nearO g l).getD (0, [])).1 else 0
def nearL (g : List (List Int)) (l : List Int) : List Int := if wishE g l = 0 then ((nearO g l).getD (0, [])).2 else []
theorem nearAt_some (g : List (List Int)) (l : List Int) (q : Nat) (h : 0 < q) (hq : q ≤ (allV (wid g)).length) : ∃ n p, nearAt g l q = some (n, p) := by
  obtain ⟨q, rfl⟩ : ∃ r, q = r + 1 := ⟨q - 1, by omega⟩
  have hlt : q < (allV (wid g)).length := by omega
  rw [nearAt_succ (List.getElem?_eq_getElem hlt)]
  cases nearAt g l q with
  | none => exact ⟨_, _, rfl⟩
  | some x =>
    obtain ⟨n, u⟩ := x
    show ∃ n' p', (if farL g l _ < n then _ else _) = some (n', p')
    split
    · exact ⟨_, _, rfl⟩
    · exact ⟨_, _, rfl⟩
theorem allV_pos (n : Nat) : 0 < (allV n).length := (allP_head 3 n).1
theorem nearO_some (g : List (List Int)) (l : List Int) : ∃ n p, nearO g l = some (n, p) := nearAt_some g l _ (allV_pos _) (Nat.le_refl _)
theorem farL_bd {g : List (List Int)} {l v : List Int} (h : FitG g v) (hl : Forces 1000 l) : 0 ≤ farL g l v ∧ farL g l v ≤ 1081 := by
  refine ⟨jumpL_nn _ _, ?_⟩
  have hf : Forces 81 (fieldL g v) := by
    intro f hf
    obtain ⟨r, hr, rfl⟩ := List.mem_map.1 hf
    have := h.2.2.1 r hr
    exact dot_bd3 this.2 h.2.2.2 (by have := h.2.1; omega)
  have := jumpL_le (x := 81) (y := 1000) (by decide) (by decide) hf hl
  unfold farL
  omega
theorem fieldL_f {g : List (List Int)} {v : List Int} (h : FitG g v) : Forces 81 (fieldL g v) := by
  intro f hf
  obtain ⟨r, hr, rfl⟩ := List.mem_map.1 hf
  have := h.2.2.1 r hr
  exact dot_bd3 this.2 h.2.2.2 (by have := h.2.1; omega)
theorem ret_three' {a a' b b' c c' : Value} (h : a = a') (h' : b = b') (h'' : c = c') : Ending.returned (.tuple #[a, b, c]) = .returned (.tuple #[a', b', c']) := by rw [h, h', h'']

/-- What the reference holds ahead of round q. -/
def NrR (g : List (List Int)) (l : List Int) (n : Nat) (q : Nat) (lv : Int) (bv : Value) (W : World) : Prop :=
  (nearAt g l q = none ∧ lv = -1 ∧ bv = .slice none 0 0) ∨ ∃ p A c, nearAt g l q = some (lv, p) ∧ 0 ≤ lv ∧ lv ≤ 2000 ∧ p.length = n ∧ bv = .slice A n c ∧ Rd W W.heap.size 1 A n (ints p)
theorem NrR.below {g : List (List Int)} {l : List Int} {n q : Nat} {lv : Int} {bv : Value} {W W' : World} (h : NrR g l n q lv bv W) (hb : Below W.heap.size W W') : NrR g l n q lv bv W' := by
  rcases h with h | ⟨p, A, c, h1, h2, h3, h4, h5, h6⟩
  · exact .inl h
  · exact .inr ⟨p, A, c, h1, h2, h3, h4, h5, (h6.below hb).more hb.size⟩

set_option maxRecDepth 100000 in
set_option maxHeartbeats 4000000 in
theorem rNearest (A A' : Option Addr) (k c k' c' : Nat) (g : List (List Int)) (l : List Int) (w : World) (hs : Sm g) (hl : l.length ≤ 1000) (B : Nat) (hB : B ≤ w.heap.size) (hr : TRd w B A k g) (hr' : Rd w B 1 A' k' (ints l)) :
    Calls Try.prog 34 #[.slice A k c, .slice A' k' c'] w fun e w' => ∃ A2 c2, e = .returned (.tuple #[.int .i64 (nearN g l), .slice A2 (nearL g l).length c2, .int .i64 (wishE g l)]) ∧ Rd w' w'.heap.size 1 A2 (nearL g l).length (ints (nearL g l)) ∧ Below w.heap.size w w' := by
  obtain rfl := hr.len
  obtain rfl := hr'.int_len
  have hr := hr.more hB
  have hr' := hr'.more hB
  have HW0 := Lib.hid (rWished A A' g.length c l.length c' g l w hs hl w.heap.size (Nat.le_refl _) hr hr')
  by_cases h : wishE g l = 0
  · have HV := Lib.hid h
    obtain ⟨hv, hw⟩ := wishE_ok h
    obtain ⟨v1, v2, v3, v4, v5⟩ := vldG_ok hv
    obtain ⟨hlg, w2⟩ := wOk_ok hw
    have HG := Lib.hid hv
    have HLG := Lib.hid hlg
    clear hlg
    have HLF := Lib.hid w2
    have hpos : 0 < g.length := by omega
    have HNN := Lib.hid (show nearN g l = ((nearAt g l (allV (wid g)).length).getD (0, [])).1 ∧ nearL g l = ((nearAt g l (allV (wid g)).length).getD (0, [])).2 from ⟨by rw [nearN, if_pos h]; rfl, by rw [nearL, if_pos h]; rfl⟩)
    have HSM := Lib.hid (nearO_some g l)
    have HNS := Lib.hid (fun q p (hp : (allV (wid g))[q]? = some p) => nearAt_succ (g := g) (l := l) hp)
    have HN0 := Lib.hid (show nearAt g l 0 = none from rfl)
    have hN := allV_len (wid g) v4
    rw [h] at HW0
    obtain ⟨n, hn⟩ : ∃ n, n = wid g := ⟨_, rfl⟩
    have HN := Lib.hid hn
    have hwid := v4
    rw [← hn] at v3 v4 hN HNN HNS
    clear hn hv hw w2 v5 h
    obtain ⟨L, hL⟩ : ∃ L, L = allV n := ⟨_, rfl⟩
    have HL := Lib.hid hL
    rw [← hL] at hN HNN HNS
    clear hL
    go_enter Try.func34, Try.ntmps34
    go_wp2_with fail
    refine HW0.out.mono ?_
    rintro e w0 ⟨rfl, hb0⟩
    have s0 := hb0.size
    have hr := (hr.below hb0).more s0
    have hr' := (hr'.below hb0).more s0
    have HB0 := Lib.hid hb0
    clear hb0 HW0
    have HEV := Lib.hid (revery A g.length c g w0 hpos hwid w0.heap.size (Nat.le_refl _) hr)
    rw [← HN.out, ← HL.out] at HEV
    go_wp2_with fail
    refine HEV.out.mono ?_
    rintro e w1 ⟨AL, cL, vs, rfl, hrl, hlo, hta, hb1⟩
    have s1 := hb1.size
    have rg := (hr.below hb1).more s1
    have rl := (hr'.below hb1).more s1
    have HT := Lib.hid (And.intro hrl hta)
    have HB1 := Lib.hid (HB0.out.trans (hb1.mono s0))
    clear hrl hta hb1 hlo HEV HB0 hr hr'
    go_wp2
    go_loopw [11, 9, 8] (fun i lv bv wr => ∃ (q : Nat) (x : Int), i = .int .i64 q ∧ lv = .int .i64 x ∧ q ≤ L.length ∧ NrR g l n q x bv wr ∧ Below w1.heap.size w1 wr) (fun i _ _ _ => L.length - (intOf i).toNat)
    case atStart => exact ⟨0, -1, rfl, rfl, Nat.zero_le _, .inl ⟨HN0.out, rfl, rfl⟩, Below.refl _ _⟩
    case round =>
      obtain ⟨q, x, rfl, rfl, hq, hnr, hb⟩ := hrel
      have hsz := hb.size
      by_cases hlt : q < L.length
      · obtain ⟨hdr, hhd, hrow⟩ := HT.out.2.row hlt
        obtain ⟨Ap, cp, rfl, _, _, hrp⟩ := hrow.read
        obtain ⟨b, off, rfl, hbb, hc0⟩ := Rd.head HT.out.1 hhd
        have hpl : L[q] ∈ allV n := by have := HL.out; rw [← this]; exact List.getElem_mem hlt
        have hpm := mem_allP.1 hpl
        have HSU := Lib.hid (HNS.out q L[q] (List.getElem?_eq_getElem hlt))
        have HFG := Lib.hid (fitG HG.out (by rw [hpm.1, HN.out]) (fun f hf => by have := hpm.2 f hf; omega))
        obtain ⟨p, hp⟩ : ∃ p, p = L[q] := ⟨_, rfl⟩
        rw [← hp] at hrp hc0 HSU HFG hpm
        have hpn : p.length = n := hpm.1
        rw [hpn] at hc0 hrp
        have HPN := Lib.hid hpn
        clear hrow hp hpl hpn hhd
        have c0 := (hb.cell (p := ⟨b, off + q, none⟩) hbb).trans hc0
        have rgw := (rg.below hb).more hsz
        have rlw := (rl.below hb).more hsz
        have rpw := (hrp.below hb).more hsz
        have z0 : (0 : Int) ≤ (q : Int) := by omega
        have z1 : (q : Int) < (L.length : Int) := by omega
        have hfl : (fieldL g p).length ≤ 3 := by rw [fieldL_len]; exact v2
        have hfd := farL_bd HFG.out HLF.out
        have HFF := Lib.hid (fieldL_f HFG.out)
        have HFL := Lib.hid (show l.length = (fieldL g p).length by rw [fieldL_len]; exact HLG.out)
        obtain ⟨y, hy⟩ : ∃ y, y = farL g l p := ⟨_, rfl⟩
        have HY := Lib.hid hy
        rw [← hy] at hfd
        clear hy hc0 hrp hpm
        have HJ := Lib.hid (fun (A2 : Option Addr) (c2 : Nat) (w2 : World) (h2 : Rd w2 w2.heap.size 1 A2 (fieldL g p).length (ints (fieldL g p))) (h3 : Rd w2 w2.heap.size 1 A' l.length (ints l)) => rjump A2 A' (fieldL g p).length c2 l.length c' (fieldL g p) l w2 (by omega) HFL.out (fun f hf => by have := HFF.out f hf; omega) HLF.out w2.heap.size (Nat.le_refl _) h2 h3)
        rw [show jumpL (fieldL g p) l = y from HY.out.symm] at HJ
        -- the two ways
        have hcase : (nearAt g l q = none ∧ x = -1) ∨ (0 ≤ x ∧ x ≤ 2000 ∧ ∃ u, nearAt g l q = some (x, u)) := by
          rcases hnr with ⟨h1, h2, _⟩ | ⟨u, _, _, h1, h2, h3, _⟩
          · exact .inl ⟨h1, h2⟩
          · exact .inr ⟨h2, h3, u, h1⟩
        have HCASE := Lib.hid hcase
        have HNR := Lib.hid hnr
        have HBW := Lib.hid hb
        have hx1 : -1 ≤ x ∧ x ≤ 2000 := by rcases hcase with ⟨_, h⟩ | ⟨h, h', _⟩ <;> omega
        have lbb : b < wr.heap.size := by omega
        clear hcase hnr hb
        by_cases hst : x < 0 ∨ y < x
        · have hx0 : x < 0 ∨ ¬ x < 0 := by omega
          have HS2 := Lib.hid (show nearAt g l (q + 1) = some (y, p) by
            rw [HSU.out]
            rcases HCASE.out with ⟨h1, h2⟩ | ⟨h1, h2, u, h3⟩
            · rw [h1, HY.out]; rfl
            · rw [h3]
              show (if farL g l p < x then some (farL g l p, p) else some (x, u)) = _
              rw [← HY.out, if_pos (by omega)])
          rcases hx0 with hx0 | hx0
          all_goals
            go_wp2_with fail
            refine (rfield _ _ _ _ _ _ g p wr HFG.out.1 HFG.out.2.1 HFG.out.2.2.1 HFG.out.2.2.2 wr.heap.size (Nat.le_refl _) rgw rpw).mono ?_
            rintro e w2 ⟨u2, rfl, hown2, hb2⟩
            obtain ⟨A2, c2, rfl, _, _⟩ := own_cap hown2
            have s2 := hb2.size
            have r2 := Rd.of_own hown2
            have rl2 := (rlw.below hb2).more s2
            clear hown2
            go_wp2_with fail
            refine (HJ.out A2 c2 w2 r2 rl2).mono ?_
            rintro e w3 ⟨rfl, hb3⟩
            have hb4 := hb2.trans (hb3.mono s2)
            have s4 := hb4.size
            have hB4 := Lib.hid (HBW.out.trans (hb4.mono hsz))
            have c4 := (hb4.cell (p := ⟨b, off + q, none⟩) lbb).trans c0
            have HRP := Lib.hid ((rpw.below hb4).more s4)
            clear hb2 hb3 hb4 r2 rl2
            go_wp2
            go_quiet (fail)
            go_wp2
            go_roundw
            case rel => exact ⟨q + 1, y, by go_num, rfl, by omega, .inr ⟨p, Ap, cp, HS2.out, by omega, by omega, HPN.out, rfl, HRP.out⟩, below_drewN hB4.out nq⟩
            case measure => simp [intOf]; omega
        · have hx0 : ¬ x < 0 := by omega
          have hy0 : ¬ y < x := by omega
          have HS2 := Lib.hid (show nearAt g l (q + 1) = nearAt g l q by
            rw [HSU.out]
            rcases HCASE.out with ⟨h1, h2⟩ | ⟨h1, h2, u, h3⟩
            · omega
            · rw [h3]
              show (if farL g l p < x then some (farL g l p, p) else some (x, u)) = _
              rw [← HY.out, if_neg (by omega)])
          clear hst
          go_wp2_with fail
          refine (rfield _ _ _ _ _ _ g p wr HFG.out.1 HFG.out.2.1 HFG.out.2.2.1 HFG.out.2.2.2 wr.heap.size (Nat.le_refl _) rgw rpw).mono ?_
          rintro e w2 ⟨u2, rfl, hown2, hb2⟩
          obtain ⟨A2, c2, rfl, _, _⟩ := own_cap hown2
          have s2 := hb2.size
          have r2 := Rd.of_own hown2
          have rl2 := (rlw.below hb2).more s2
          clear hown2
          go_wp2_with fail
          refine (HJ.out A2 c2 w2 r2 rl2).mono ?_
          rintro e w3 ⟨rfl, hb3⟩
          have hb4 := hb2.trans (hb3.mono s2)
          have hB4 := Lib.hid (HBW.out.trans (hb4.mono hsz))
          have HN4 := Lib.hid (HNR.out.below hb4)
          clear hb2 hb3 hb4 r2 rl2
          go_wp2
          go_roundw
          case rel =>
            refine ⟨q + 1, x, by go_num, rfl, by omega, ?_, hB4.out⟩
            have := HN4.out
            unfold NrR at this ⊢
            rw [HS2.out]; exact this
          case measure => simp [intOf]; omega
      · obtain rfl : q = L.length := by omega
        obtain ⟨n0, p0, hno⟩ := HSM.out
        have hno2 : nearAt g l L.length = some (n0, p0) := by rw [HL.out, HN.out]; exact hno
        rcases hnr with ⟨h1, _⟩ | ⟨p, A2, c2, h1, _, _, h4, rfl, h6⟩
        · rw [hno2] at h1; cases h1
        · have HR := Lib.hid h6
          have hx : nearN g l = x := by rw [HNN.out.1, h1]; rfl
          have hL2 : nearL g l = p := by rw [HNN.out.2, h1]; rfl
          have HX := Lib.hid (And.intro hx (And.intro hL2 h4))
          clear h1 hx hL2 h4 hno hno2 h6
          go_wp2
          refine bodyPost_ret (results_tmp3 rfl _ _ _) rfl ?_
          obtain ⟨e1, e2, e3⟩ := HX.out
          exact ⟨A2, c2, ret_three (by rw [e1]; rfl) (by rw [e2, e3]; rfl) (by rw [HV.out]; rfl), by rw [e2, e3]; exact HR.out, HB1.out.trans (hb.mono (by have := HB1.out.size; omega))⟩
  · have hd : (wishE g l != 0) = true := by simpa using h
    have HI := Lib.hid (show nearN g l = 0 by rw [nearN, if_neg h])
    have HL := Lib.hid (show nearL g l = [] by rw [nearL, if_neg h])
    clear h
    generalize wishE g l = x at *
    go_enter Try.func34, Try.ntmps34
    go_wp2_with fail
    refine HW0.out.mono ?_
    rintro e w1 ⟨rfl, hb1⟩
    go_wp2
    refine bodyPost_ret (results_tmp3 rfl _ _ _) rfl ?_
    exact ⟨none, 0, ret_three (by rw [HI.out]; rfl) (by rw [HL.out]; rfl) rfl, by rw [HL.out]; exact Rd.nil, hb1⟩
end Go.Proofs.Ytejjogpgolgdgaa

/-
  WALK: Nearest.
-/
namespace Go.Proofs.Ytejjogpgolgdgaa
open Go.RowKit Go.Shelf Pulse
attribute [local go_sem] Oper.semAt_some

/-- The two boxes of best and least, ahead of round q. -/
def NrV (g : List (List Int)) (l : List Int) (n G q : Nat) (lv : Int) (bv : Value) (W : World) : Prop :=
  (nearAt g l q = none ∧ lv = 0 ∧ bv = .slice none 0 0) ∨ ∃ p, nearAt g l q = some (lv, p) ∧ 0 ≤ lv ∧ lv ≤ 2000 ∧ p.length = n ∧ W.ownsRow (G + 1) 3 1 bv n (ints p)
def NrI (g : List (List Int)) (l : List Int) (n : Nat) (w : World) (x0 x1 : Value) (t G q : Nat) (W : World) : Prop := ∃ (lv : Int) (bv : Value),
  W.heap[w.heap.size]? = some (.cells #[x0] 22 (0, 0)) ∧ W.heap[w.heap.size + 1]? = some (.cells #[x1] 23 (0, 0)) ∧ W.heap[t]? = some (.cells #[bv] 23 (0, 0)) ∧ W.heap[t + 1]? = some (.cells #[.int .i64 lv] 3 (0, 0)) ∧
  NrV g l n G q lv bv W ∧ Below w.heap.size w W ∧ w.heap.size + 2 ≤ t ∧ t + 3 ≤ G ∧ t + 3 ≤ W.heap.size
theorem nrV_fix {g : List (List Int)} {l : List Int} {n G q : Nat} {lv : Int} {bv : Value} {K : Nat → Obj → Prop} {X Y : World} (h : NrV g l n G q lv bv X) (hf : Fix K X Y) (hk : ∀ x o, G < x → o.isCells = true → K x o) : NrV g l n G q lv bv Y := by
  rcases h with h | ⟨p, h1, h2, h3, h4, h5⟩
  · exact .inl h
  · exact .inr ⟨p, h1, h2, h3, h4, own_fix h5 hf (fun x cs hx => hk x _ (by have := (own_obj h5 hx).1; omega) rfl)⟩
theorem nrI_fix {g : List (List Int)} {l : List Int} {n t G q B : Nat} {w : World} {x0 x1 : Value} {X Y : World} (hB : w.heap.size ≤ B) (h : NrI g l n w x0 x1 t G q X) (hf : Fix (KI G B) X Y) : NrI g l n w x0 x1 t G q Y := by
  obtain ⟨lv, bv, h1, h2, h3, h4, h5, h6, h7, h8, h9⟩ := h
  exact ⟨lv, bv, hf.keep _ _ ⟨by omega, .inr rfl⟩ h1, hf.keep _ _ ⟨by omega, .inr rfl⟩ h2, hf.keep _ _ ⟨by omega, .inr rfl⟩ h3, hf.keep _ _ ⟨by omega, .inr rfl⟩ h4, nrV_fix h5 hf (fun x o hx ho => ⟨by omega, .inr ho⟩), hf.frame h6 (fun g o hg => ⟨by omega, .inl (by omega)⟩) (Nat.le_refl _), h7, h8, Nat.le_trans h9 hf.size⟩

theorem nrI_eq {g : List (List Int)} {l : List Int} {n t G q : Nat} {w : World} {x0 x1 : Value} {X : World} (he : nearAt g l (q + 1) = nearAt g l q) (h : NrI g l n w x0 x1 t G q X) : NrI g l n w x0 x1 t G (q + 1) X := by
  unfold NrI NrV at h ⊢
  rw [he]; exact h

set_option maxRecDepth 100000 in
set_option maxHeartbeats 4000000 in
theorem pNearest (A A' : Option Addr) (k c k' c' : Nat) (g : List (List Int)) (l : List Int) (w : World) (hs : Sm g) (hl : l.length ≤ 1000) (B : Nat) (hB : B ≤ w.heap.size) (hr : TRd w B A k g) (hr' : Rd w B 1 A' k' (ints l)) :
    Calls Try.prog 33 #[.slice A k c, .slice A' k' c'] w fun e w' => ∃ A2 c2, e = .returned (.tuple #[.int .i64 (nearN g l), .slice A2 (nearL g l).length c2, .int .i64 (wishE g l)]) ∧ Rd w' w'.heap.size 1 A2 (nearL g l).length (ints (nearL g l)) ∧ Below w.heap.size w w' := by
  obtain rfl := hr.len
  obtain rfl := hr'.int_len
  have hr := hr.more hB
  have hr' := hr'.more hB
  have HBX := Lib.hid (((Below.refl w.heap.size w).alloc (Nat.le_refl _) (.cells #[.slice A g.length c] 22)).alloc (by simp) (.cells #[.slice A' l.length c'] 23))
  have HW0 := Lib.hid (pwished A A' g.length c l.length c' g l ((w.alloc (.cells #[.slice A g.length c] 22)).alloc (.cells #[.slice A' l.length c'] 23)) hs hl w.heap.size (by simp; omega) (hr.below HBX.out) (hr'.below HBX.out))
  by_cases h : wishE g l = 0
  · have HV := Lib.hid h
    obtain ⟨hv, hw⟩ := wishE_ok h
    obtain ⟨v1, v2, v3, v4, v5⟩ := vldG_ok hv
    obtain ⟨hlg, w2⟩ := wOk_ok hw
    have HG := Lib.hid hv
    have HLG := Lib.hid hlg
    clear hlg
    have HLF := Lib.hid w2
    have hpos : 0 < g.length := by omega
    have HNN := Lib.hid (show nearN g l = ((nearAt g l (allV (wid g)).length).getD (0, [])).1 ∧ nearL g l = ((nearAt g l (allV (wid g)).length).getD (0, [])).2 from ⟨by rw [nearN, if_pos h]; rfl, by rw [nearL, if_pos h]; rfl⟩)
    have HSM := Lib.hid (nearO_some g l)
    have HNS := Lib.hid (fun q p (hp : (allV (wid g))[q]? = some p) => nearAt_succ (g := g) (l := l) hp)
    have HN0 := Lib.hid (show nearAt g l 0 = none from rfl)
    obtain ⟨b, off, A0, c0, rfl, hb0, hc0, _, _, _⟩ := hr.row hpos
    have HW := Lib.hid (wid_zero hpos)
    rw [Nat.add_zero, ← HW.out] at hc0
    have z2 : (0 : Int) < (g.length : Int) := by omega
    rw [h] at HW0
    obtain ⟨n, hn⟩ : ∃ n, n = wid g := ⟨_, rfl⟩
    have HN := Lib.hid hn
    rw [← hn] at v3 v4 HNN HNS hc0
    clear hn hv hw w2 v5 h
    have x0 := blk_alloc (blk_new w 22 #[.slice (some ⟨b, off, none⟩) g.length c]) (.cells #[.slice A' l.length c'] 23)
    have x1 := blk_new (w.alloc (.cells #[.slice (some ⟨b, off, none⟩) g.length c] 22)) 23 #[.slice A' l.length c']
    rw [World.size_alloc] at x1
    have HX := Lib.hid (And.intro x0 x1)
    clear x0 x1
    refine (callsIn_wide (n := 9)).1 ?_
    refine callsIn_of_wp_marks Try.func33 rfl trivial ?_ rfl
    simp only [Try.ntmps33, List.size_toArray, List.length_cons, List.length_nil, Nat.reduceAdd, Nat.reduceSub, Array.replicate_succ, Array.replicate_zero, List.push_toArray, List.append_toArray, List.nil_append, List.cons_append]
    gi_wp2
    refine ⟨trivial, (callsIn_wide.2 HW0.out).mono ?_⟩
    rintro e w1 ⟨rfl, hb1⟩
    simp only [World.size_alloc] at hb1
    have s1 := hb1.size
    simp only [World.size_alloc] at s1
    have x0 := blk_below HX.out.1 hb1 (by omega)
    have x1 := blk_below HX.out.2 hb1 (by omega)
    have B1 := HBX.out.trans (hb1.mono (by omega))
    have y0 := blk_alloc (blk_alloc x0 (.cells #[.slice none 0 0] 23)) (.cells #[.int .i64 0] 3)
    have y1 := blk_alloc (blk_alloc x1 (.cells #[.slice none 0 0] 23)) (.cells #[.int .i64 0] 3)
    have y2 := blk_alloc (blk_new w1 23 #[.slice none 0 0]) (.cells #[.int .i64 0] 3)
    have y3 := blk_new (w1.alloc (.cells #[.slice none 0 0] 23)) 3 #[.int .i64 0]
    rw [World.size_alloc] at y3
    have B2 := (B1.alloc B1.size (.cells #[.slice none 0 0] 23)).alloc (by simp; omega) (.cells #[.int .i64 0] 3)
    have f2 := blk_frozen y2 0
    have f3 := blk_frozen y3 0
    have HY := Lib.hid (And.intro y0 (And.intro y1 (And.intro y2 (And.intro y3 B2))))
    have ch := (B2.cell (p := ⟨b, off, none⟩) (show b < w.heap.size by omega)).trans hc0
    have c0x : ((w1.alloc (.cells #[.slice none 0 0] 23)).alloc (.cells #[.int .i64 0] 3)).cell? ⟨w.heap.size, 0, none⟩ = some (.slice (some ⟨b, off, none⟩) g.length c) := blk_cell y0 0
    clear x0 x1 B1 y0 y1 y2 y3 B2 hb1 HX
    gi_wp2
    refine ⟨trivial, (callsIn_wide.2 (pAll _ _)).mono ?_⟩
    rintro e w' ⟨rfl, rfl⟩
    gi_wp2
    obtain ⟨y0, y1, y2, y3, hB0⟩ := HY.out
    have y0 := blk_alloc y0 (.cells #[.int .i64 n] 3)
    have y1 := blk_alloc y1 (.cells #[.int .i64 n] 3)
    have y2 := blk_alloc y2 (.cells #[.int .i64 n] 3)
    have y3 := blk_alloc y3 (.cells #[.int .i64 n] 3)
    have y4 := blk_new ((w1.alloc (.cells #[.slice none 0 0] 23)).alloc (.cells #[.int .i64 0] 3)) 3 #[.int .i64 n]
    have hB0 := hB0.alloc hB0.size (.cells #[.int .i64 n] 3)
    have hsz : w1.heap.size + 3 = (((w1.alloc (.cells #[.slice none 0 0] 23)).alloc (.cells #[.int .i64 0] 3)).alloc (.cells #[.int .i64 n] 3)).heap.size := by simp
    simp only [World.size_alloc] at y4
    obtain ⟨W0, hW0⟩ : ∃ W0, ((w1.alloc (.cells #[.slice none 0 0] 23)).alloc (.cells #[.int .i64 0] 3)).alloc (.cells #[.int .i64 n] 3) = W0 := ⟨_, rfl⟩
    rw [hW0] at y0 y1 y2 y3 y4 hB0 hsz ⊢
    clear hW0 HY c0x ch f2 f3
    have HB0 := Lib.hid (And.intro y0 (And.intro y1 (And.intro y2 (And.intro y3 hB0))))
    clear y0 y1 y2 y3
    refine wpIn_all (n₁ := w1.heap.size + 1 + 1) (N := (allV n).length) rfl (by omega) (gf := 93) (lb := #[.pointer (some ⟨w1.heap.size + 1 + 1, 0, none⟩)]) rfl trivial (enters_of Try.func93 (by kernel_rfl) rfl)
      (allIn 8 (by omega) n v4 (w1.heap.size + 1 + 1) W0 y4) rfl
      (NrI g l n w (.slice (some ⟨b, off, none⟩) g.length c) (.slice A' l.length c') w1.heap.size)
      ?hI ?h0
      (fun G q a' W => ∃ v p, (allV n)[q]? = some p ∧ W.ownsRow (G + 1) 3 1 v n (ints p) ∧ G < W.heap.size ∧ a' = { tmps := #[.slice (some ⟨b, off, none⟩) g.length c, .slice A' l.length c', .pointer (some ⟨w.heap.size, 0, none⟩), .pointer (some ⟨w.heap.size + 1, 0, none⟩), .int .i64 0, .slice none 0 0, .int .i64 0, .int .i64 0, .pointer (some ⟨w1.heap.size, 0, none⟩), .pointer (some ⟨w1.heap.size + 1, 0, none⟩), v, undef, .slice (some ⟨b, off, none⟩) g.length c, .slice A' l.length c', .int .i64 0, .int .i64 0, .bool false, undef, .slice (some ⟨b, off, none⟩) g.length c, .pointer (some ⟨b, off, none⟩), .slice A0 n c0, .int .i64 n, .func (.func 93) #[] #[.pointer (some ⟨w1.heap.size + 1 + 1, 0, none⟩)], v, undef, undef, undef, undef, undef, undef, undef, undef, undef, undef, undef, undef, undef, undef, undef, undef], defers := [] })
      ?hAx ?assign ?body ?done
    case hI => exact fun G q X Y h hf => nrI_fix (by omega) h hf
    case h0 =>
      intro G hG
      obtain ⟨y0, y1, y2, y3, hB0⟩ := HB0.out
      exact ⟨0, .slice none 0 0, y0, y1, y2, y3, .inl ⟨HN0.out, rfl, rfl⟩, hB0, by omega, by omega, by omega⟩
    case hAx =>
      rintro G q a' X l' o o' ⟨v, p, h1, h2, h3, h4⟩ ho hc
      exact ⟨v, p, h1, own_keep h2 (fun g hg => World.putObj_heap_other (fun e => by
        obtain ⟨_, cs, hcs⟩ := own_obj h2 hg
        subst e
        rw [ho] at hcs
        cases hcs
        cases hc)), by rw [World.putObj_size]; exact h3, h4⟩
    case assign =>
      rintro l' G q W v K hI hq ⟨p, hp, hown, hGs⟩ hK
      gi_wp2
      exact hK _ _ (KeepsFrom.refl _ _) (Fix.refl _ _) hI ⟨v, p, hp, hown, hGs, rfl⟩
    case body =>
      rintro l' G q a' W hI ⟨v, p, hp, hown, hGs, rfl⟩ hq
      have HII := Lib.hid hI
      obtain ⟨x, bv, h1, h2, h3, h4, h5, h6, h7, h8, h9⟩ := hI
      obtain ⟨Av, cv, rfl, _, _⟩ := own_cap hown
      have hpm := mem_allP.1 (List.mem_of_getElem? hp)
      have HFG := Lib.hid (fitG HG.out (by rw [hpm.1, HN.out]) (fun f hf => by have := hpm.2 f hf; omega))
      have hfl : (fieldL g p).length ≤ 3 := by rw [fieldL_len]; exact v2
      have HSU := Lib.hid (HNS.out q p hp)
      have HPL := Lib.hid hpm.1
      have hfd := farL_bd HFG.out HLF.out
      have HFF := Lib.hid (fieldL_f HFG.out)
      have HFL := Lib.hid (show l.length = (fieldL g p).length by rw [fieldL_len]; exact HLG.out)
      obtain ⟨y, hy⟩ : ∃ y, y = farL g l p := ⟨_, rfl⟩
      have HY := Lib.hid hy
      rw [← hy] at hfd
      clear hy
      have hs6 := h6.size
      have c0x : W.cell? ⟨w.heap.size, 0, none⟩ = some (.slice (some ⟨b, off, none⟩) g.length c) := blk_cell h1 0
      have c1 : W.cell? ⟨w.heap.size + 1, 0, none⟩ = some (.slice A' l.length c') := blk_cell h2 0
      have rg := (hr.below h6).more hs6
      have rl := (hr'.below h6).more hs6
      have rv := Rd.of_own hown
      have HF := Lib.hid (pfield _ _ _ c _ cv g p W.drew HFG.out.1 HFG.out.2.1 HFG.out.2.2.1 HFG.out.2.2.2 W.heap.size (Nat.le_refl _) rg rv)
      have HJ := Lib.hid (fun (A2 : Option Addr) (c2 : Nat) (w2 : World) (h2 : Rd w2 w2.heap.size 1 A2 (fieldL g p).length (ints (fieldL g p))) (h3 : Rd w2 w2.heap.size 1 A' l.length (ints l)) => papart A2 A' (fieldL g p).length c2 l.length c' (fieldL g p) l w2 (by omega) HFL.out (fun f hf => by have := HFF.out f hf; omega) HLF.out w2.heap.size (Nat.le_refl _) h2 h3)
      rw [show jumpL (fieldL g p) l = y from HY.out.symm] at HJ
      have HO := Lib.hid (And.intro h1 (And.intro h2 (And.intro h3 (And.intro h4 (And.intro h6 hown)))))
      have l1 : w.heap.size + 1 < W.heap.size := blk_lt h2
      have l2 : w1.heap.size + 1 < W.heap.size := blk_lt h4
      have hmix : Try.prog.follows .mixedOrders = true := by kernel_rfl
      have qT := q23
      have HW := h5
      have HNV := Lib.hid HW
      clear h1 h2 h3 h4 h6 hpm rg rv hown hp HW
      rcases h5 with ⟨e1, rfl, rfl⟩ | ⟨u, e1, e2, e3, e4, e5⟩
      · have HS2 := Lib.hid (show nearAt g l (q + 1) = some (y, p) by rw [HSU.out, e1, HY.out]; rfl)
        clear e1
        gi_wp2
        gi_region_with_o (first
          | (refine ⟨trivial, ?_⟩; gi_at_call 63; refine (CallsIn.inRound l' (callsIn_wide.2 HF.out)).mono ?_; rintro e w3 ⟨u3, rfl, hown3, hb3⟩; obtain ⟨A3, c3, rfl, _, _⟩ := own_cap hown3; have r3 := Rd.of_own hown3; have s3 := hb3.size; have rl3 := (rl.drew.below hb3).more s3; have d1 : w3.cell? ⟨w.heap.size + 1, 0, none⟩ = some (.slice A' l.length c') := (hb3.cell (p := ⟨w.heap.size + 1, 0, none⟩) l1).trans c1; clear hown3)
          | (refine ⟨trivial, ?_⟩; gi_at_call 76; refine (CallsIn.inRound l' (callsIn_wide.2 (HJ.out A3 c3 w3 r3 rl3))).mono ?_; rintro e w4 ⟨rfl, hb4⟩))
        all_goals
          have hB4 : Below W.heap.size W w4 := ((Below.refl W.heap.size W).drew.trans hb3).trans (hb4.mono s3)
          have s4 := hB4.size
          obtain ⟨h1, h2, h3, h4, h6, hown⟩ := HO.out
          have g3 := blk_below h3 hB4 (blk_lt h3)
          have g4 := blk_below h4 hB4 (blk_lt h4)
          have c2 : w4.cell? ⟨w1.heap.size, 0, none⟩ = some (.slice none 0 0) := blk_cell g3 0
          have c3' : w4.cell? ⟨w1.heap.size + 1, 0, none⟩ = some (.int .i64 0) := blk_cell g4 0
          have f2 := blk_frozen g3 0
          have f3 := blk_frozen g4 0
          have g1 := blk_below h1 hB4 (by omega)
          have g2 := blk_below h2 hB4 (by omega)
          have gown := own_below hown hB4
          have t1 := blk_far (blk_far g1 (p := ⟨w1.heap.size, 0, none⟩) (by simp only []; omega) (.slice Av n cv)) (p := ⟨w1.heap.size + 1, 0, none⟩) (by simp only []; omega) (.int .i64 y)
          have t2 := blk_far (blk_far g2 (p := ⟨w1.heap.size, 0, none⟩) (by simp only []; omega) (.slice Av n cv)) (p := ⟨w1.heap.size + 1, 0, none⟩) (by simp only []; omega) (.int .i64 y)
          have t3a := blk_set g3 0 (.slice Av n cv)
          have t3 := blk_far t3a (p := ⟨w1.heap.size + 1, 0, none⟩) (by simp only []; omega) (.int .i64 y)
          have t4a := blk_far g4 (p := ⟨w1.heap.size, 0, none⟩) (by simp only []; omega) (.slice Av n cv)
          have t4 := blk_set t4a 0 (.int .i64 y)
          have t5 := own_set_far (own_set_far gown (p := ⟨w1.heap.size, 0, none⟩) (by simp only []; omega) (.slice Av n cv)) (p := ⟨w1.heap.size + 1, 0, none⟩) (by simp only []; omega) (.int .i64 y)
          have t6 := ((h6.trans (hB4.mono h6.size)).setCell (p := ⟨w1.heap.size, 0, none⟩) (by simp only []; omega) (.slice Av n cv)).setCell (p := ⟨w1.heap.size + 1, 0, none⟩) (by simp only []; omega) (.int .i64 y)
          have t7 : KeepsFrom W0.heap.size W ((w4.setCell ⟨w1.heap.size, 0, none⟩ (.slice Av n cv)).setCell ⟨w1.heap.size + 1, 0, none⟩ (.int .i64 y)) := ((keepsFrom_below hB4).trans ((KeepsOthers.setCell _ _ _).from _)).trans ((KeepsOthers.setCell _ _ _).from _)
          have t8 : Fix (KQ (w1.heap.size + 1 + 1) G) W ((w4.setCell ⟨w1.heap.size, 0, none⟩ (.slice Av n cv)).setCell ⟨w1.heap.size + 1, 0, none⟩ (.int .i64 y)) :=
            ((Fix.of_below hB4 (Nat.le_refl _)).trans (Fix.setCell (p := ⟨w1.heap.size, 0, none⟩) _ g3 (fun hk => by
              rcases hk.2 with e | e
              · simp only [] at e; omega
              · simp only [] at e; omega))).trans (Fix.setCell (p := ⟨w1.heap.size + 1, 0, none⟩) _ t4a (fun hk => by
              rcases hk.2 with e | e
              · simp only [] at e; omega
              · simp only [] at e; omega))
          have TT := Lib.hid (And.intro t7 (And.intro t8 (And.intro t1 (And.intro t2 (And.intro t3 (And.intro t4 (And.intro t5 t6)))))))
          clear t1 t2 t3 t4 t5 t6 t7 t8 t3a t4a g1 g2 g3 g4 gown hB4 hb3 hb4 r3 rl3 d1 c0x c1 h1 h2 h3 h4 h6 hown
          gi_wp2
          obtain ⟨t7, t8, t1, t2, t3, t4, t5, t6⟩ := TT.out
          exact ⟨t7, t8, y, .slice Av n cv, t1, t2, by simpa using t3, by simpa using t4, .inr ⟨p, HS2.out, by omega, by omega, HPL.out, t5⟩, t6, h7, h8, by simp; omega⟩
      · obtain ⟨A5, c5, rfl, _, _⟩ := own_cap e5
        have hA5 : A5.isNone = false := by
          obtain ⟨g5, cap5, hv5, _⟩ := e5.form (by omega)
          injection hv5 with hv5
          rw [hv5]; rfl
        have HE1 := Lib.hid e1
        clear e1 e4 e5
        by_cases hxy : y < x
        · have HS2 := Lib.hid (show nearAt g l (q + 1) = some (y, p) by
            rw [HSU.out, HE1.out]
            show (if farL g l p < x then some (farL g l p, p) else some (x, u)) = _
            rw [← HY.out, if_pos hxy])
          gi_wp2
          gi_region_with_o (first
            | (refine ⟨trivial, ?_⟩; gi_at_call 63; refine (CallsIn.inRound l' (callsIn_wide.2 HF.out)).mono ?_; rintro e w3 ⟨u3, rfl, hown3, hb3⟩; obtain ⟨A3, c3, rfl, _, _⟩ := own_cap hown3; have r3 := Rd.of_own hown3; have s3 := hb3.size; have rl3 := (rl.drew.below hb3).more s3; have d1 : w3.cell? ⟨w.heap.size + 1, 0, none⟩ = some (.slice A' l.length c') := (hb3.cell (p := ⟨w.heap.size + 1, 0, none⟩) l1).trans c1; clear hown3)
            | (refine ⟨trivial, ?_⟩; gi_at_call 76; refine (CallsIn.inRound l' (callsIn_wide.2 (HJ.out A3 c3 w3 r3 rl3))).mono ?_; rintro e w4 ⟨rfl, hb4⟩))
          all_goals
            have hB4 : Below W.heap.size W w4 := ((Below.refl W.heap.size W).drew.trans hb3).trans (hb4.mono s3)
            have s4 := hB4.size
            obtain ⟨h1, h2, h3, h4, h6, hown⟩ := HO.out
            have g3 := blk_below h3 hB4 (blk_lt h3)
            have g4 := blk_below h4 hB4 (blk_lt h4)
            have c2 : w4.cell? ⟨w1.heap.size, 0, none⟩ = some (.slice A5 n c5) := blk_cell g3 0
            have c3' : w4.cell? ⟨w1.heap.size + 1, 0, none⟩ = some (.int .i64 x) := blk_cell g4 0
            have f2 := blk_frozen g3 0
            have f3 := blk_frozen g4 0
            have g1 := blk_below h1 hB4 (by omega)
            have g2 := blk_below h2 hB4 (by omega)
            have gown := own_below hown hB4
            have t1 := blk_far (blk_far g1 (p := ⟨w1.heap.size, 0, none⟩) (by simp only []; omega) (.slice Av n cv)) (p := ⟨w1.heap.size + 1, 0, none⟩) (by simp only []; omega) (.int .i64 y)
            have t2 := blk_far (blk_far g2 (p := ⟨w1.heap.size, 0, none⟩) (by simp only []; omega) (.slice Av n cv)) (p := ⟨w1.heap.size + 1, 0, none⟩) (by simp only []; omega) (.int .i64 y)
            have t3a := blk_set g3 0 (.slice Av n cv)
            have t3 := blk_far t3a (p := ⟨w1.heap.size + 1, 0, none⟩) (by simp only []; omega) (.int .i64 y)
            have t4a := blk_far g4 (p := ⟨w1.heap.size, 0, none⟩) (by simp only []; omega) (.slice Av n cv)
            have t4 := blk_set t4a 0 (.int .i64 y)
            have t5 := own_set_far (own_set_far gown (p := ⟨w1.heap.size, 0, none⟩) (by simp only []; omega) (.slice Av n cv)) (p := ⟨w1.heap.size + 1, 0, none⟩) (by simp only []; omega) (.int .i64 y)
            have t6 := ((h6.trans (hB4.mono h6.size)).setCell (p := ⟨w1.heap.size, 0, none⟩) (by simp only []; omega) (.slice Av n cv)).setCell (p := ⟨w1.heap.size + 1, 0, none⟩) (by simp only []; omega) (.int .i64 y)
            have t7 : KeepsFrom W0.heap.size W ((w4.setCell ⟨w1.heap.size, 0, none⟩ (.slice Av n cv)).setCell ⟨w1.heap.size + 1, 0, none⟩ (.int .i64 y)) := ((keepsFrom_below hB4).trans ((KeepsOthers.setCell _ _ _).from _)).trans ((KeepsOthers.setCell _ _ _).from _)
            have t8 : Fix (KQ (w1.heap.size + 1 + 1) G) W ((w4.setCell ⟨w1.heap.size, 0, none⟩ (.slice Av n cv)).setCell ⟨w1.heap.size + 1, 0, none⟩ (.int .i64 y)) :=
              ((Fix.of_below hB4 (Nat.le_refl _)).trans (Fix.setCell (p := ⟨w1.heap.size, 0, none⟩) _ g3 (fun hk => by
                rcases hk.2 with e | e
                · simp only [] at e; omega
                · simp only [] at e; omega))).trans (Fix.setCell (p := ⟨w1.heap.size + 1, 0, none⟩) _ t4a (fun hk => by
                rcases hk.2 with e | e
                · simp only [] at e; omega
                · simp only [] at e; omega))
            have TT := Lib.hid (And.intro t7 (And.intro t8 (And.intro t1 (And.intro t2 (And.intro t3 (And.intro t4 (And.intro t5 t6)))))))
            clear t1 t2 t3 t4 t5 t6 t7 t8 t3a t4a g1 g2 g3 g4 gown hB4 hb3 hb4 r3 rl3 d1 c0x c1 h1 h2 h3 h4 h6 hown
            gi_wp2
            obtain ⟨t7, t8, t1, t2, t3, t4, t5, t6⟩ := TT.out
            exact ⟨t7, t8, y, .slice Av n cv, t1, t2, by simpa using t3, by simpa using t4, .inr ⟨p, HS2.out, by omega, by omega, HPL.out, t5⟩, t6, h7, h8, by simp; omega⟩
        · have HS2 := Lib.hid (show nearAt g l (q + 1) = nearAt g l q by
            rw [HSU.out, HE1.out]
            show (if farL g l p < x then some (farL g l p, p) else some (x, u)) = _
            rw [← HY.out, if_neg hxy])
          gi_wp2
          gi_region_with_o (first
            | (refine ⟨trivial, ?_⟩; gi_at_call 63; refine (CallsIn.inRound l' (callsIn_wide.2 HF.out)).mono ?_; rintro e w3 ⟨u3, rfl, hown3, hb3⟩; obtain ⟨A3, c3, rfl, _, _⟩ := own_cap hown3; have r3 := Rd.of_own hown3; have s3 := hb3.size; have rl3 := (rl.drew.below hb3).more s3; have d1 : w3.cell? ⟨w.heap.size + 1, 0, none⟩ = some (.slice A' l.length c') := (hb3.cell (p := ⟨w.heap.size + 1, 0, none⟩) l1).trans c1; clear hown3)
            | (refine ⟨trivial, ?_⟩; gi_at_call 76; refine (CallsIn.inRound l' (callsIn_wide.2 (HJ.out A3 c3 w3 r3 rl3))).mono ?_; rintro e w4 ⟨rfl, hb4⟩))
          all_goals
            have hB4 : Below W.heap.size W w4 := ((Below.refl W.heap.size W).drew.trans hb3).trans (hb4.mono s3)
            have s4 := hB4.size
            obtain ⟨h1, h2, h3, h4, h6, hown⟩ := HO.out
            have g3 := blk_below h3 hB4 (blk_lt h3)
            have g4 := blk_below h4 hB4 (blk_lt h4)
            have c2 : w4.cell? ⟨w1.heap.size, 0, none⟩ = some (.slice A5 n c5) := blk_cell g3 0
            have c3' : w4.cell? ⟨w1.heap.size + 1, 0, none⟩ = some (.int .i64 x) := blk_cell g4 0
            have t7 : KeepsFrom W0.heap.size W w4 := keepsFrom_below hB4
            have t8 : Fix (KQ (w1.heap.size + 1 + 1) G) W w4 := Fix.of_below hB4 (Nat.le_refl _)
            have t9 := nrI_eq HS2.out (nrI_fix (B := w.heap.size) (Nat.le_refl _) HII.out (Fix.of_below hB4 (Nat.le_refl _)))
            have TT := Lib.hid (And.intro t7 (And.intro t8 t9))
            clear t7 t8 t9 g3 g4 hB4 hb3 hb4 r3 rl3 d1 c0x c1 h1 h2 h3 h4 h6 hown
            gi_wp2
            exact TT.out
    case done =>
      rintro D G W hD ⟨x, bv, h1, h2, h3, h4, h5, h6, h7, h8, h9⟩ hK
      obtain ⟨n0, p0, hno⟩ := HSM.out
      have hno2 : nearAt g l (allV n).length = some (n0, p0) := by rw [HN.out]; exact hno
      rcases h5 with ⟨e1, _⟩ | ⟨u, e1, e2, e3, e4, e5⟩
      · rw [hno2] at e1; cases e1
      · obtain ⟨A5, c5, rfl, _, _⟩ := own_cap e5
        have c2 : W.cell? ⟨w1.heap.size, 0, none⟩ = some (.slice A5 n c5) := blk_cell h3 0
        have c3' : W.cell? ⟨w1.heap.size + 1, 0, none⟩ = some (.int .i64 x) := blk_cell h4 0
        have hx : nearN g l = x := by rw [HNN.out.1, e1]; rfl
        have hL2 : nearL g l = u := by rw [HNN.out.2, e1]; rfl
        have HX := Lib.hid (And.intro hx (And.intro hL2 e4))
        have hmix : Try.prog.follows .mixedOrders = true := by kernel_rfl
        have X := Lib.hid (And.intro e5 (And.intro h6 (And.intro hK hsz)))
        clear e1 e4 e5 h1 h2 h3 h4 h6 hK hx hL2 hno hno2 y4
        gi_wp2
        gi_quiet (fail)
        gi_wp2
        obtain ⟨e5, h6, hK, hsz⟩ := X.out
        have hK2 : (W.drewN nq).heap[D]? = some (.deferred (some [])) := hK
        have h62 := below_drewN h6 nq
        refine ⟨by simp, .inl ⟨_, _, rfl, run_takeDeferred hK2, ?_⟩⟩
        obtain ⟨x1, x2, x3⟩ := HX.out
        have e52 : (W.drewN nq).ownsRow (G + 1) 3 1 (.slice A5 n c5) n (ints u) := own_keep e5 (fun _ _ => rfl)
        have e53 : ((W.drewN nq).putObj D (.deferred none)).ownsRow (G + 1) 3 1 (.slice A5 n c5) n (ints u) := own_keep e52 (fun g hg => World.putObj_heap_other (fun e => by
          obtain ⟨_, cs, hcs⟩ := own_obj e52 hg
          subst e
          rw [hK2] at hcs
          cases hcs))
        refine ⟨.tuple #[.int .i64 x, .slice A5 n c5, .int .i64 0], by simp [results, Try.results33, go_sem], A5, c5, ret_three (by rw [x1]) (by rw [x2, x3]) (by rw [HV.out]), ?_, h62.trans (belowK_b (w := w) (Nat.le_refl _) _ D _ _ (by omega) hK2 rfl rfl)⟩
        rw [x2, x3]
        exact Rd.of_own e53
  · have hd : (wishE g l != 0) = true := by simpa using h
    have HI := Lib.hid (show nearN g l = 0 by rw [nearN, if_neg h])
    have HL := Lib.hid (show nearL g l = [] by rw [nearL, if_neg h])
    clear h
    generalize wishE g l = x at *
    go_enter Try.func33, Try.ntmps33
    go_wp2_with fail
    refine HW0.out.mono ?_
    rintro e w1 ⟨rfl, hb1⟩
    go_wp2
    refine bodyPost_ret (results_tmp3 rfl _ _ _) rfl ?_
    exact ⟨none, 0, ret_three (by rw [HI.out]; rfl) (by rw [HL.out]; rfl) rfl, by rw [HL.out]; exact Rd.nil, HBX.out.trans (hb1.mono (by simp; omega))⟩
end Go.Proofs.Ytejjogpgolgdgaa
