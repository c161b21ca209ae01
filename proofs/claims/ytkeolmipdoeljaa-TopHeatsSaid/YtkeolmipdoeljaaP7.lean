/-
  PLAIN LAW: the windows that the program finds: each is one, no two meet, and they are as many as the fewest coolings.
-/
import Derived.Test.YtkeolmipdoeljaaP1
namespace Go.Proofs.Ytkeolmipdoeljaa
open Heat

/-- Is act a, the heats before it being g, cooled before? -/
def hotAt (L : Int) (g : Int → Int) (a : HAct) : Bool := a.kind == 1 && decide (L < g a.ion)
/-- The first acts whose heat still counts, behind one act more (number q). -/
def begStep (L : Int) (g b : Int → Int) (q : Nat) (a : HAct) : Int → Int := fun j =>
  if j = a.ion then (if a.kind = 2 then -1 else if (if hotAt L g a then -1 else b a.ion) < 0 then (q : Int) else (if hotAt L g a then -1 else b a.ion)) else b j
def begTo (L : Int) (l : List HAct) : Nat → Int → Int
  | 0 => fun _ => -1
  | q + 1 => match l[q]? with
    | none => begTo L l q
    | some a => begStep L (gh L cold (l.take q)) (begTo L l q) q a
def winTo (L : Int) (l : List HAct) : Nat → List HWin
  | 0 => []
  | q + 1 => match l[q]? with
    | none => winTo L l q
    | some a => if hotAt L (gh L cold (l.take q)) a then winTo L l q ++ [⟨a.ion, begTo L l q a.ion, q⟩] else winTo L l q
theorem begTo_succ {L : Int} {l : List HAct} {q : Nat} (h : q < l.length) : begTo L l (q + 1) = begStep L (gh L cold (l.take q)) (begTo L l q) q l[q] := by
  rw [begTo, List.getElem?_eq_getElem h]
theorem winTo_succ {L : Int} {l : List HAct} {q : Nat} (h : q < l.length) : winTo L l (q + 1) = if hotAt L (gh L cold (l.take q)) l[q] then winTo L l q ++ [⟨l[q].ion, begTo L l q l[q].ion, q⟩] else winTo L l q := by
  rw [winTo, List.getElem?_eq_getElem h]

structure WInv (L : Int) (l : List HAct) (q : Nat) : Prop where
  lo : ∀ j, begTo L l q j = -1 ∨ (0 ≤ begTo L l q j ∧ begTo L l q j < q)
  none : ∀ j, begTo L l q j = -1 → gh L cold (l.take q) j = 0
  some : ∀ (j : Int) (f : Nat), begTo L l q j = f → ∃ hf : f < l.length, l[f].ion = j ∧ l[f].kind ≠ 2 ∧ noCool j (seg l f q) = true ∧ sumOwn j (seg l f q) = gh L cold (l.take q) j
  wins : ∀ x ∈ winTo L l q, ∃ f t : Nat, x.frm = f ∧ x.to = t ∧ t < q ∧ (∃ ht : t < l.length, l[t].ion = x.ion) ∧ isWinN l L x.ion f t = true ∧ (0 ≤ begTo L l q x.ion → x.to ≤ begTo L l q x.ion)
  apart : (winTo L l q).Pairwise fun a b => meets b a = false
  count : (winTo L l q).length = cnt L cold (l.take q)

theorem sumOwn_one (a : HAct) : sumOwn a.ion [a] = a.heat := by simp [sumOwn]
theorem seg_one {l : List HAct} {q : Nat} (h : q < l.length) : seg l q (q + 1) = [l[q]] := by
  rw [seg_snoc l q q (Nat.le_refl _) h]; simp [seg]
theorem cnt_snoc (L : Int) (l : List HAct) (a : HAct) : ∀ g, cnt L g (l ++ [a]) = cnt L g l + (if hotAt L (gh L g l) a then 1 else 0) := by
  induction l with
  | nil =>
    intro g
    rw [List.nil_append, cnt, gh, cnt]
    by_cases c : a.kind = 1 ∧ L < g a.ion
    · rw [if_pos c, if_pos (by simpa [hotAt] using c)]; rfl
    · rw [if_neg c, if_neg (by simpa [hotAt] using c)]; rfl
  | cons b l ih =>
    intro g
    rw [List.cons_append, cnt, cnt, gh]
    split
    · rw [ih]; omega
    · rw [ih]
theorem hotAt_iff {L : Int} {g : Int → Int} {a : HAct} : hotAt L g a = true ↔ a.kind = 1 ∧ L < g a.ion := by simp [hotAt]

theorem winv {L : Int} (hL : 0 ≤ L) (l : List HAct) : ∀ q, q ≤ l.length → WInv L l q := by
  intro q
  induction q with
  | zero =>
    intro _
    refine ⟨fun _ => .inl rfl, fun _ _ => rfl, fun j f h => ?_, fun x hx => ?_, List.Pairwise.nil, rfl⟩
    · have : (-1 : Int) = f := h
      omega
    · cases hx
  | succ q ih =>
    intro hq
    have hq' : q < l.length := by omega
    have I := ih (by omega)
    have hb := begTo_succ (L := L) hq'
    have hw := winTo_succ (L := L) hq'
    have hg : gh L cold (l.take (q + 1)) = ghStep L (gh L cold (l.take q)) l[q] := gh_take L l q hq' cold
    have ht : l.take (q + 1) = l.take q ++ [l[q]] := by rw [List.take_add_one, List.getElem?_eq_getElem hq']; rfl
    have Ilo := I.lo
    have Inone := I.none
    have Isome := I.some
    have Iwins := I.wins
    have Iapart := I.apart
    have Icount := I.count
    clear I ih
    generalize hgq : gh L cold (l.take q) = g at *
    generalize hbq : begTo L l q = b at *
    have bo : ∀ j, j ≠ l[q].ion → begTo L l (q + 1) j = b j := fun j hj => by rw [hb, begStep, if_neg hj]
    have go : ∀ j, j ≠ l[q].ion → gh L cold (l.take (q + 1)) j = g j := fun j hj => by rw [hg, ghStep_other L g l[q] j (fun e => hj e.symm)]
    have bs : begTo L l (q + 1) l[q].ion = if l[q].kind = 2 then -1 else if (if hotAt L g l[q] then -1 else b l[q].ion) < 0 then (q : Int) else (if hotAt L g l[q] then -1 else b l[q].ion) := by rw [hb, begStep, if_pos rfl]
    have gs : gh L cold (l.take (q + 1)) l[q].ion = Heat.step l[q] (if l[q].kind = 1 ∧ L < g l[q].ion then 0 else g l[q].ion) := by rw [hg, ghStep_own]
    have sg : ∀ f : Nat, f ≤ q → seg l f (q + 1) = seg l f q ++ [l[q]] := fun f hf => seg_snoc l f q hf hq'
    -- the own ion's three ways
    have own : (begTo L l (q + 1) l[q].ion = -1 ∧ gh L cold (l.take (q + 1)) l[q].ion = 0) ∨
        (begTo L l (q + 1) l[q].ion = q ∧ l[q].kind ≠ 2 ∧ gh L cold (l.take (q + 1)) l[q].ion = l[q].heat) ∨
        (hotAt L g l[q] = false ∧ 0 ≤ b l[q].ion ∧ begTo L l (q + 1) l[q].ion = b l[q].ion ∧ l[q].kind ≠ 2 ∧ gh L cold (l.take (q + 1)) l[q].ion = g l[q].ion + l[q].heat) := by
      by_cases k2 : l[q].kind = 2
      · refine .inl ⟨by rw [bs, if_pos k2], by rw [gs, Heat.step, if_pos k2]⟩
      · rw [if_neg k2] at bs
        rw [Heat.step, if_neg k2] at gs
        cases hh : hotAt L g l[q] with
        | true =>
          rw [if_pos (hotAt_iff.1 hh)] at gs
          rw [hh] at bs
          exact .inr (.inl ⟨by rw [bs]; rfl, k2, by rw [gs]; omega⟩)
        | false =>
          have hn : ¬ (l[q].kind = 1 ∧ L < g l[q].ion) := fun x => by rw [hotAt_iff.2 x] at hh; cases hh
          rw [if_neg hn] at gs
          rw [hh] at bs
          simp only [Bool.false_eq_true, if_false] at bs
          by_cases c : b l[q].ion < 0
          · rw [if_pos c] at bs
            have h0 : g l[q].ion = 0 := Inone _ (by rcases Ilo l[q].ion with h | h <;> omega)
            exact .inr (.inl ⟨bs, k2, by rw [gs, h0]; omega⟩)
          · rw [if_neg c] at bs
            exact .inr (.inr ⟨rfl, by omega, bs, k2, gs⟩)
    -- a window's bound under the new beginning
    have late : ∀ x ∈ winTo L l q, 0 ≤ begTo L l (q + 1) x.ion → x.to ≤ begTo L l (q + 1) x.ion := by
      intro x hx h0
      obtain ⟨f, t, e1, e2, e3, _, _, e6⟩ := Iwins x hx
      by_cases e : x.ion = l[q].ion
      · rw [e] at h0 ⊢
        rw [e] at e6
        rcases own with ⟨o1, _⟩ | ⟨o1, _⟩ | ⟨_, o2, o1, _⟩
        · omega
        · omega
        · rw [o1]; exact e6 o2
      · rw [bo _ e] at h0 ⊢
        exact e6 h0
    refine ⟨fun j => ?_, fun j hj => ?_, fun j f hj => ?_, fun x hx => ?_, ?_, ?_⟩
    · by_cases e : j = l[q].ion
      · subst e
        rcases own with ⟨o1, _⟩ | ⟨o1, _⟩ | ⟨_, o2, o1, _⟩
        · exact .inl o1
        · right; omega
        · right; have := Ilo l[q].ion; omega
      · rw [bo j e]; have := Ilo j; omega
    · by_cases e : j = l[q].ion
      · subst e
        rcases own with ⟨_, o2⟩ | ⟨o1, _⟩ | ⟨_, o2, o1, _⟩
        · exact o2
        · omega
        · omega
      · rw [go j e]; rw [bo j e] at hj; exact Inone j hj
    · by_cases e : j = l[q].ion
      · subst e
        rcases own with ⟨o1, _⟩ | ⟨o1, o2, o3⟩ | ⟨_, o2, o1, o3, o4⟩
        · omega
        · obtain rfl : f = q := by omega
          refine ⟨hq', rfl, o2, ?_, ?_⟩
          · rw [seg_one hq']; simp [noCool, o2]
          · rw [seg_one hq', sumOwn_one, o3]
        · rw [o1] at hj
          obtain ⟨hf, a1, a2, a3, a4⟩ := Isome _ f hj
          have hfq : f < q := by have := Ilo l[q].ion; omega
          refine ⟨hf, a1, a2, ?_, ?_⟩
          · rw [sg f (by omega), noCool_snoc, a3]; simp [o3]
          · rw [sg f (by omega), sumOwn_snoc, if_pos (by simp), a4, o4]
      · rw [bo j e] at hj
        obtain ⟨hf, a1, a2, a3, a4⟩ := Isome j f hj
        have hfq : f < q := by have := Ilo j; omega
        have hne : ¬ l[q].ion = j := fun x => e x.symm
        refine ⟨hf, a1, a2, ?_, ?_⟩
        · rw [sg f (by omega), noCool_snoc, a3]; simp [hne]
        · rw [sg f (by omega), sumOwn_snoc, if_neg (by simpa using hne), a4, go j e]
    · have old : x ∈ winTo L l q → ∃ f t : Nat, x.frm = f ∧ x.to = t ∧ t < q + 1 ∧ (∃ ht : t < l.length, l[t].ion = x.ion) ∧ isWinN l L x.ion f t = true ∧ (0 ≤ begTo L l (q + 1) x.ion → x.to ≤ begTo L l (q + 1) x.ion) := fun h => by
        obtain ⟨f, t, e1, e2, e3, e4, e5, _⟩ := Iwins x h
        exact ⟨f, t, e1, e2, by omega, e4, e5, late x h⟩
      rw [hw] at hx
      split at hx
      · rename_i hh
        rcases List.mem_append.1 hx with h | h
        · exact old h
        · have e := List.mem_singleton.1 h
          obtain ⟨k1, h1⟩ := hotAt_iff.1 hh
          have hne : b l[q].ion ≠ -1 := fun c => by have := Inone _ c; omega
          have hlo := Ilo l[q].ion
          obtain ⟨f, hf⟩ := Int.eq_ofNat_of_zero_le (show 0 ≤ b l[q].ion by omega)
          obtain ⟨hfl, a1, a2, a3, a4⟩ := Isome _ f hf
          subst e
          refine ⟨f, q, hf, rfl, by omega, ⟨hq', rfl⟩, ?_, ?_⟩
          · rw [isWinN, List.getElem?_eq_getElem hfl, List.getElem?_eq_getElem hq']
            simp only [Option.map_some, Option.getD_some, Bool.and_eq_true, decide_eq_true_eq, beq_iff_eq, bne_iff_ne]
            refine ⟨⟨⟨⟨by omega, a1, a2⟩, trivial, k1⟩, a3⟩, by rw [a4]; exact h1⟩
          · intro h0
            dsimp only at h0 ⊢
            rcases own with ⟨o1, _⟩ | ⟨o1, _⟩ | ⟨o0, _⟩
            · omega
            · omega
            · rw [hh] at o0; cases o0
      · exact old hx
    · rw [hw]
      split
      · rename_i hh
        rw [List.pairwise_append]
        refine ⟨Iapart, List.pairwise_singleton _ _, fun x hx y hy => ?_⟩
        have e := List.mem_singleton.1 hy
        subst e
        obtain ⟨k1, h1⟩ := hotAt_iff.1 hh
        have hne : b l[q].ion ≠ -1 := fun c => by have := Inone _ c; omega
        have hlo := Ilo l[q].ion
        obtain ⟨f, t, e1, e2, e3, _, _, e6⟩ := Iwins x hx
        simp only [meets, Bool.and_eq_false_iff, decide_eq_false_iff_not, beq_eq_false_iff_ne]
        by_cases e : l[q].ion = x.ion
        · left; right
          rw [← e] at e6
          have := e6 (by omega)
          omega
        · exact .inl (.inl e)
      · exact Iapart
    · rw [hw, ht, cnt_snoc, hgq, ← Icount]
      split <;> simp

theorem clash_of_pair (ws : List HWin) (h : ws.Pairwise fun a b => meets b a = false) : ∀ q, clashTo ws q = false := by
  intro q
  induction q with
  | zero => rfl
  | succ q ih =>
    rw [clashTo, ih, Bool.false_or]
    cases hx : ws[q]? with
    | none => rfl
    | some v =>
      obtain ⟨hq, rfl⟩ := List.getElem?_eq_some_iff.1 hx
      refine List.any_eq_false.2 fun x hx => ?_
      obtain ⟨i, hi, rfl⟩ := List.mem_take_iff_getElem.1 hx
      have := (List.pairwise_iff_getElem.1 h) i q (by omega) hq (by omega)
      simp [this]
/-- The program's windows. -/
def windowsOf (L : Int) (l : List HAct) : List HWin := winTo L l l.length
theorem windows_law {n : Int} {l : List HAct} {L : Int} (h : limited n l L = 0) : winsErr n l L (windowsOf L l) = 0 ∧ (windowsOf L l).length = cnt L cold l := by
  obtain ⟨⟨h1, h2, h3, h4⟩, h5, h6⟩ := limited_ok h
  have I := winv h5 l l.length (Nat.le_refl _)
  have hc := I.count
  rw [List.take_length] at hc
  have hcl := cnt_le L l cold
  have hc' : (windowsOf L l).length = cnt L cold l := hc
  have hcl' : clashTo (windowsOf L l) (windowsOf L l).length = false := clash_of_pair _ I.apart _
  refine ⟨?_, hc⟩
  have ha : (windowsOf L l).all (fun x => winErr n l L x == 0) = true := by
    rw [List.all_eq_true]
    intro x hx
    obtain ⟨f, t, e1, e2, e3, ⟨e4, e5⟩, e6, _⟩ := I.wins x hx
    have hi := areActs_iff.1 h4 _ (List.getElem_mem e4)
    simp only [isAct, decide_eq_true_eq] at hi
    have hft : f < t := by
      rw [isWinN] at e6
      simp only [Bool.and_eq_true, decide_eq_true_eq] at e6
      omega
    have hin : inside n l.length x = true := inside_iff.2 (by rw [← e5]; omega)
    rw [(winErr_in hin).1 (by rw [e1, e2]; simpa using e6)]
    rfl
  rw [winsErr_none h (by omega) ha, hcl']
  rfl
end Go.Proofs.Ytkeolmipdoeljaa
