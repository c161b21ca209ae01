/-
  PLAIN LAW: windows that do not meet are never more than the fewest coolings.
-/
import Derived.Test.YtkeolmipdoeljaaW9
namespace Go.Proofs.Ytkeolmipdoeljaa
open Heat

/-- The heats behind some acts, each gate that would be too hot cooled before it. -/
def gh (L : Int) : (Int → Int) → List HAct → (Int → Int)
  | h, [] => h
  | h, a :: l => if a.kind = 1 ∧ L < h a.ion then gh L (put (put h (cool a.ion)) a) l else gh L (put h a) l
def ghStep (L : Int) (h : Int → Int) (a : HAct) : Int → Int := if a.kind = 1 ∧ L < h a.ion then put (put h (cool a.ion)) a else put h a
theorem gh_cons (L : Int) (h : Int → Int) (a : HAct) (l : List HAct) : gh L h (a :: l) = gh L (ghStep L h a) l := by
  unfold ghStep
  rw [gh]
  split <;> rfl
theorem gh_snoc (L : Int) (l : List HAct) (a : HAct) : ∀ h, gh L h (l ++ [a]) = ghStep L (gh L h l) a := by
  induction l with
  | nil => intro h; rw [List.nil_append, gh_cons]; rfl
  | cons b l ih => intro h; rw [List.cons_append, gh_cons, gh_cons, ih]
theorem gh_take (L : Int) (l : List HAct) (q : Nat) (h : q < l.length) (g : Int → Int) : gh L g (l.take (q + 1)) = ghStep L (gh L g (l.take q)) l[q] := by
  rw [List.take_add_one, List.getElem?_eq_getElem h, Option.toList, gh_snoc]
theorem put_same (h : Int → Int) (a : HAct) : put h a a.ion = Heat.step a (h a.ion) := if_pos rfl
theorem put_other (h : Int → Int) (a : HAct) {j : Int} (hj : a.ion ≠ j) : put h a j = h j := if_neg fun x => hj x.symm
theorem put_cooled (h : Int → Int) (j : Int) : put h (cool j) j = 0 := (put_same h (cool j)).trans (if_pos rfl)
theorem ghStep_other (L : Int) (h : Int → Int) (a : HAct) (j : Int) (hj : a.ion ≠ j) : ghStep L h a j = h j := by
  unfold ghStep
  split
  · rw [put_other _ a hj, put_other h (cool a.ion) hj]
  · rw [put_other _ a hj]
theorem ghStep_own (L : Int) (h : Int → Int) (a : HAct) : ghStep L h a a.ion = Heat.step a (if a.kind = 1 ∧ L < h a.ion then 0 else h a.ion) := by
  unfold ghStep
  split
  · rw [put_same, put_cooled]
  · rw [put_same]
theorem ghStep_nonneg (L : Int) (h : Int → Int) (a : HAct) (ha : 0 ≤ a.heat) (hh : ∀ j, 0 ≤ h j) : ∀ j, 0 ≤ ghStep L h a j := by
  intro j
  by_cases e : a.ion = j
  · subst e
    rw [ghStep_own]
    refine step_nonneg ha ?_
    split
    · exact Int.le_refl 0
    · exact hh _
  · rw [ghStep_other L h a j e]; exact hh j
theorem gh_nonneg (L : Int) (l : List HAct) (hw : Warm l) : ∀ h : Int → Int, (∀ j, 0 ≤ h j) → ∀ j, 0 ≤ gh L h l j := by
  induction l with
  | nil => intro h hh; exact hh
  | cons a l ih => intro h hh; rw [gh_cons]; exact ih hw.tail _ (ghStep_nonneg L h a (hw a (by simp)) hh)
/-- Where the place is one, it is among the spots. -/
theorem mem_spots (L : Int) (l : List HAct) : ∀ (h : Int → Int) (i q : Nat) (hq : q < l.length), l[q].kind = 1 → L < gh L h (l.take q) l[q].ion → i + q ∈ spots L h i l := by
  induction l with
  | nil => intro h i q hq; exact absurd hq (by simp)
  | cons a l ih =>
    intro h i q hq hk hg
    rw [spots]
    cases q with
    | zero =>
      simp only [List.getElem_cons_zero, List.take_zero, gh] at hk hg
      rw [if_pos ⟨hk, hg⟩]
      simp
    | succ q =>
      simp only [List.getElem_cons_succ, List.take_succ_cons, gh] at hk hg
      have hq' : q < l.length := by simpa using hq
      by_cases c : a.kind = 1 ∧ L < h a.ion
      · rw [if_pos c] at hg ⊢
        have := ih _ (i + 1) q hq' hk hg
        rw [show i + (q + 1) = i + 1 + q by omega]
        exact List.mem_cons_of_mem _ this
      · rw [if_neg c] at hg ⊢
        have := ih _ (i + 1) q hq' hk hg
        rw [show i + (q + 1) = i + 1 + q by omega]
        exact this

/-- Without a spot within it the heat before a window's gate is at least what the window brings. -/
theorem win_heat (L ion : Int) (l : List HAct) (hw : Warm l) (f : Nat) (hf : f < l.length) (hfi : l[f].ion = ion) (hfk : l[f].kind ≠ 2) :
    ∀ t : Nat, f < t → t < l.length → noCool ion (seg l f t) = true → (∀ q, f < q → q < t → ∀ hq : q < l.length, l[q].ion = ion → ¬ (l[q].kind = 1 ∧ L < gh L cold (l.take q) l[q].ion)) → sumOwn ion (seg l f t) ≤ gh L cold (l.take t) ion := by
  intro t
  induction t with
  | zero => intro h; omega
  | succ t ih =>
    intro hft ht hno hsp
    have htl : t < l.length := by omega
    have hnn := gh_nonneg L (l.take t) (fun a ha => hw a (List.mem_of_mem_take ha)) cold (fun _ => Int.le_refl _)
    rw [gh_take L l t htl]
    by_cases e : f = t
    · subst e
      have hs : seg l f (f + 1) = [l[f]] := by
        rw [seg_snoc l f f (Nat.le_refl _) hf]
        simp [seg]
      rw [hs]
      have hsum : sumOwn ion [l[f]] = l[f].heat := by simp [sumOwn, hfi]
      rw [hsum]
      have := hnn ion
      subst hfi
      rw [ghStep_own, Heat.step, if_neg hfk]
      split <;> omega
    · have hft' : f < t := by omega
      rw [seg_snoc l f t (by omega) htl] at hno ⊢
      rw [noCool_snoc, Bool.and_eq_true] at hno
      have := ih hft' htl hno.1 (fun q h1 h2 => hsp q h1 (by omega))
      rw [sumOwn_snoc]
      by_cases c : l[t].ion = ion
      · have ck : l[t].kind ≠ 2 := by have := hno.2; simpa [c] using this
        have hn := hsp t hft' (by omega) htl c
        rw [if_pos (by simpa using c)]
        subst c
        rw [ghStep_own, if_neg hn, Heat.step, if_neg ck]
        omega
      · rw [if_neg (by simpa using c), ghStep_other L _ _ _ c]
        exact this

/-- Each window has a spot of its ion within it. -/
theorem win_spot (L ion : Int) (l : List HAct) (hw : Warm l) (f t : Nat) (hf : f < l.length) (ht : t < l.length) (h : isWinN l L ion f t = true) :
    ∃ q, f < q ∧ q ≤ t ∧ (∃ hq : q < l.length, l[q].ion = ion) ∧ q ∈ spots L cold 0 l := by
  rw [isWinN, List.getElem?_eq_getElem hf, List.getElem?_eq_getElem ht] at h
  simp only [Option.map_some, Option.getD_some, Bool.and_eq_true, decide_eq_true_eq, beq_iff_eq, bne_iff_ne] at h
  obtain ⟨⟨⟨⟨h1, h2, h3⟩, h4, h5⟩, h6⟩, h7⟩ := h
  apply Classical.byContradiction
  intro hno
  have hs : ∀ q, f < q → q < t → ∀ hq : q < l.length, l[q].ion = ion → ¬ (l[q].kind = 1 ∧ L < gh L cold (l.take q) l[q].ion) := by
    intro q a b hq c d
    have := mem_spots L l cold 0 q hq d.1 d.2
    rw [Nat.zero_add] at this
    exact hno ⟨q, a, by omega, ⟨hq, c⟩, this⟩
  have := win_heat L ion l hw f hf h2 h3 t h1 ht h6 hs
  have m := mem_spots L l cold 0 t ht h5 (by rw [h4]; omega)
  rw [Nat.zero_add] at m
  exact hno ⟨t, h1, Nat.le_refl _, ⟨ht, h4⟩, m⟩

theorem inj_len {α : Type} (R : α → Nat → Prop) : ∀ (ws : List α) (S : List Nat), (∀ w ∈ ws, ∃ s ∈ S, R w s) → ws.Pairwise (fun a b => ∀ s, ¬ (R a s ∧ R b s)) → ws.length ≤ S.length := by
  intro ws
  induction ws with
  | nil => intro S _ _; exact Nat.zero_le _
  | cons w ws ih =>
    intro S hex hd
    obtain ⟨s, hs, hr⟩ := hex w (by simp)
    rw [List.pairwise_cons] at hd
    have := ih (S.erase s) (fun v hv => by
      obtain ⟨u, hu, hru⟩ := hex v (by simp [hv])
      refine ⟨u, ?_, hru⟩
      have hne : u ≠ s := fun e => hd.1 v hv s ⟨hr, e ▸ hru⟩
      exact (List.mem_erase_of_ne hne).2 hu) hd.2
    have hl := List.length_erase_of_mem hs
    have hp := List.length_pos_of_mem hs
    simp only [List.length_cons]
    omega

theorem clash_pair (ws : List HWin) : ∀ q, q ≤ ws.length → clashTo ws q = false → ∀ (i k : Nat) (hi : i < ws.length) (hk : k < ws.length), i < q → k < i → meets ws[i] ws[k] = false := by
  intro q
  induction q with
  | zero => intro _ _ i k _ _ h; omega
  | succ q ih =>
    intro hq hc i k hi hk h1 h2
    rw [clashTo, Bool.or_eq_false_iff] at hc
    by_cases e : i = q
    · subst e
      have := hc.2
      rw [List.getElem?_eq_getElem hi] at this
      have := List.any_eq_false.1 this ws[k] (List.mem_take_iff_getElem.2 ⟨k, by omega, rfl⟩)
      simpa using this
    · exact ih (by omega) hc.1 i k hi hk (by omega) h2

theorem winsErr_ok {n : Int} {l : List HAct} {limit : Int} {ws : List HWin} (h : winsErr n l limit ws = 0) : limited n l limit = 0 ∧ (∀ x ∈ ws, inside n l.length x = true ∧ isWinN l limit x.ion x.frm.toNat x.to.toNat = true) ∧ clashTo ws ws.length = false := by
  by_cases h0 : limited n l limit = 0
  · by_cases h1 : 20 < ws.length
    · rw [winsErr, if_neg (by simpa using h0), if_pos h1] at h; omega
    · rw [winsErr_of h0 (by omega)] at h
      have hz : ∀ x, winErr n l limit x = 0 → inside n l.length x = true ∧ isWinN l limit x.ion x.frm.toNat x.to.toNat = true := by
        intro x hx
        cases hi : inside n l.length x with
        | false => rw [winErr_out hi] at hx; omega
        | true =>
          cases hw : isWinN l limit x.ion x.frm.toNat x.to.toNat with
          | false => rw [(winErr_in hi).2 hw] at hx; omega
          | true => exact ⟨rfl, rfl⟩
      cases hf : ws.find? (fun x => winErr n l limit x != 0) with
      | some x =>
        rw [hf] at h
        have := List.find?_some hf
        dsimp only at h
        rw [h] at this
        simp at this
      | none =>
        rw [hf] at h
        dsimp only at h
        refine ⟨h0, fun x hx => hz x ?_, ?_⟩
        · have := List.find?_eq_none.1 hf x hx
          simpa using this
        · cases hc : clashTo ws ws.length with
          | false => rfl
          | true => rw [hc] at h; simp at h
  · rw [winsErr, if_pos h0] at h; exact absurd h h0

theorem wins_le {n : Int} {l : List HAct} {limit : Int} {ws : List HWin} (h : winsErr n l limit ws = 0) : ws.length ≤ cnt limit cold l := by
  obtain ⟨h0, h1, h2⟩ := winsErr_ok h
  obtain ⟨⟨_, _, _, h4⟩, _, _⟩ := limited_ok h0
  rw [← spots_length limit l cold 0]
  refine inj_len (fun (x : HWin) s => x.frm < (s : Int) ∧ (s : Int) ≤ x.to ∧ ∃ hs : s < l.length, l[s].ion = x.ion) ws _ ?_ ?_
  · intro x hx
    obtain ⟨hin, hw⟩ := h1 x hx
    obtain ⟨i1, i2, i3, i4, i5, i6⟩ := inside_iff.1 hin
    obtain ⟨q, q1, q2, q3, q4⟩ := win_spot limit x.ion l (mild_of h4).warm x.frm.toNat x.to.toNat (by omega) (by omega) hw
    exact ⟨q, q4, by omega, by omega, q3⟩
  · rw [List.pairwise_iff_getElem]
    intro i j hi hj hij s
    rintro ⟨⟨a1, a2, a3, a4⟩, b1, b2, b3, b4⟩
    have := clash_pair ws ws.length (Nat.le_refl _) h2 j i hj hi hj hij
    simp only [meets, Bool.and_eq_false_iff, decide_eq_false_iff_not, beq_eq_false_iff_ne] at this
    rcases this with (e | e) | e
    · exact e (b4.symm.trans a4)
    · omega
    · omega
end Go.Proofs.Ytkeolmipdoeljaa
