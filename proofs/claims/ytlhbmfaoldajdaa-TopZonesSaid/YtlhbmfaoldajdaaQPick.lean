/-
  A REGION THAT DRAWS ITS ORDER: quiet operations picked by number are taken first, in a class of worlds; the others are then forced, one by one, and each leaves a world of the class.
-/
import Derived.OrdersHeld
import Derived.BigQuiet
import Derived.StillTail
import Derived.Below
namespace Go.Proofs.Ytlhbmfaoldajdaa
open Go

section
variable {P : Program} {ops : Array Oper} {Q : Exit → Act → World → Prop} {md : Region.Mode} {S : World → Prop}

/-- It yields a value and does nothing else, or halts. -/
def plainOp (o : Oper) : Bool := match o.op with
  | .move _ | .load _ _ | .indexAddr _ _ _ | .slice _ _ _ _ _ | .binOp _ _ _ _ _ | .unOp _ _ _ => true
  | _ => false
theorem value_run {s : Sem Value} {w w' : World} {n : Next} (h : (do pure (Next.value (← s)) : Sem Next).run P w = .ok n w') : ∃ u, n = .value u := by
  simp only [Sem.run_bind] at h
  generalize s.run P w = r at h
  cases r with
  | ok u w1 =>
    simp only [Result.andThen_ok, Sem.run_pure] at h
    cases h
    exact ⟨u, rfl⟩
  | halt x w1 => cases h
theorem plain_value {o : Oper} (h : plainOp o = true) {ρ : Operand → Value} {w w' : World} {n : Next} (hr : (execOp ρ o).run P w = .ok n w') : ∃ u, n = .value u := by
  unfold plainOp at h
  unfold execOp at hr
  split at h
  · rename_i he; simp only [he] at hr; simp only [Sem.run_pure] at hr; cases hr; exact ⟨_, rfl⟩
  · rename_i he; simp only [he] at hr; exact value_run hr
  · rename_i he; simp only [he] at hr; exact value_run hr
  · rename_i he; simp only [he] at hr; exact value_run hr
  · rename_i he; simp only [he] at hr; exact value_run hr
  · rename_i he; simp only [he] at hr; exact value_run hr
  · cases h
theorem yieldsIf_of_quiet {o : Oper} {a : Act} {K : Act → Prop} (ho : plainOp o = true) (h : if Region.wanted o (yielded ops a.tmps) then o.quiet P a S K else K (a.put o.dst undef)) : ∃ v, YieldsIf P ops S o v a ∧ K (a.put o.dst v) := by
  by_cases hw : Region.wanted o (yielded ops a.tmps) = true
  · rw [if_pos hw] at h
    obtain ⟨v, h1, h2⟩ := h
    refine ⟨v, .inl ⟨hw, fun w hS => ?_⟩, h2⟩
    have h3 := h1 w hS
    unfold Oper.quietAt at h3
    cases hr : (execOp a.eval o).run P w with
    | ok n w' =>
      obtain ⟨u, rfl⟩ := plain_value ho hr
      rw [hr] at h3
      simp only [Oper.quietUpon] at h3
      rw [h3.1, h3.2]
    | halt x w' =>
      rw [hr] at h3
      simp only [Oper.quietUpon] at h3
  · rw [if_neg hw] at h
    exact ⟨undef, .inr ⟨by simpa using hw, rfl⟩, h⟩

/-- Number z waits for all others. -/
def lastB (md : Region.Mode) (ops : Array Oper) (z : Nat) : Bool := match ops[z]? with
  | none => true
  | some o => (List.range ops.size).all fun i => i == z || o.after.any fun e => Region.binds md e && e.on == i
theorem lastB_spec {z i : Nat} {listed : Array Bool} (hz : lastB md ops z = true) (hne : i ≠ z) (hr : z ∈ Region.ready md ops listed) (hi : i ∈ Region.ready md ops listed) : False := by
  obtain ⟨_, o, ho, hall⟩ := mem_ready.1 hr
  obtain ⟨hun, oi, hoi, _⟩ := mem_ready.1 hi
  unfold lastB at hz
  rw [ho] at hz
  have h1 := List.all_eq_true.1 hz i (List.mem_range.2 (Array.getElem?_eq_some_iff.1 hoi).1)
  rw [Bool.or_eq_true] at h1
  rcases h1 with h1 | h1
  · exact hne (by simpa using h1)
  · obtain ⟨e, he, hb⟩ := Array.any_eq_true'.1 h1
    simp only [Bool.and_eq_true, beq_iff_eq] at hb
    have h2 := hall e he hb.1
    rw [hb.2, getD_both hun] at h2
    cases h2
/-- Whatever order is picked; behind each operation but z the world is of the class. -/
def wpAnyL (P : Program) (md : Region.Mode) (ops : Array Oper) (Q : Exit → Act → World → Prop) (S : World → Prop) (z : Nat) : Nat → Array Bool → Act → World → Prop
  | 0, listed, a, w => Region.ready md ops listed = [] ∧ Q .normal a w
  | f + 1, listed, a, w => Region.ready md ops listed ≠ [] ∧ ∀ i ∈ Region.ready md ops listed, wpOp P ops Q i (fun a' w' => (i = z ∨ S w') ∧ wpAnyL P md ops Q S z f (listed.setIfInBounds i true) a' w') a w
theorem wpAny_of_L {z : Nat} : ∀ (f : Nat) (listed : Array Bool) (a : Act) (w : World), wpAnyL P md ops Q S z f listed a w → wpAny P md ops Q f listed a w
  | 0, _, _, _, h => h
  | f + 1, _, _, _, h => ⟨fun e => absurd e h.1, fun i hi => wpOp_mono (fun a' w' h' => wpAny_of_L f _ a' w' h'.2) (h.2 i hi)⟩
theorem wpAnyL_first {z i : Nat} {oi : Oper} {v : Value} (hi : ops[i]? = some oi) (hsel : Region.noSelect ops = true) (hQ : ∀ c a w, Q (.panic c) (a.put oi.dst v) w → Q (.panic c) a w) (hz : lastB md ops z = true) :
    ∀ (f : Nat) (listed : Array Bool) (a : Act) (w : World),
      (∀ j oj, ops[j]? = some oj → j ≠ i → listed.getD j true = false → (∀ e ∈ oj.after, Region.binds md e = true → e.on ≠ i) → oi.apart ops oj = true) →
      i ∈ Region.ready md ops listed → YieldsIf P ops S oi v a → S w →
      wpAnyL P md ops Q S z f (listed.setIfInBounds i true) (a.put oi.dst v) w → wpAnyL P md ops Q S z (f + 1) listed a w := by
  intro f
  induction f with
  | zero =>
    intro listed a w _ hr hy hS H
    refine ⟨fun h => (by rw [h] at hr; cases hr), fun j hj => ?_⟩
    by_cases hji : j = i
    · subst hji; exact hy.wpOp hi hS ⟨.inr hS, H⟩
    · have := ready_mono hj hji
      rw [H.1] at this
      cases this
  | succ f ih =>
    intro listed a w hfree hr hy hS H
    refine ⟨fun h => (by rw [h] at hr; cases hr), fun j hj => ?_⟩
    by_cases hji : j = i
    · subst hji; exact hy.wpOp hi hS ⟨.inr hS, H⟩
    · have hjz : j ≠ z := fun e => by subst e; exact lastB_spec hz (Ne.symm hji) hj hr
      obtain ⟨hjun, oj, hoj, hall⟩ := mem_ready.1 hj
      have hun := (mem_ready.1 hr).1
      have hnot : ∀ e ∈ oj.after, Region.binds md e = true → e.on ≠ i := fun e he hb heq => by
        have h1 := hall e he hb
        rw [heq, getD_both hun] at h1
        cases h1
      have h2 := wpOp_putIf hoj (hfree j oj hoj hji hjun hnot) (fun cs b => Region.noSelect_spec hsel i oi cs b hi) (fun cs b => Region.noSelect_spec hsel j oj cs b hoj) hQ hy (H.2 j (ready_mono hj hji))
      refine wpOp_mono (fun a' w' h3 => ?_) h2
      have hS' : S w' := h3.2.1.resolve_left hjz
      refine ⟨.inr hS', ih _ a' w' (fun k ok hk hki hku hno => hfree k ok hk hki ?_ hno) (ready_mono hr (Ne.symm hji)) h3.1 hS' ?_⟩
      · by_cases hjk : j = k
        · rw [← hjk]; exact hjun
        · rwa [getD_set_ne true hjk] at hku
      · rw [Array.setIfInBounds_comm _ _ hji]
        exact h3.2.2

/-- Behind an operation: the class anew, then what follows. -/
def thenS (R : World → Prop) (Q : Exit → Act → World → Prop) (K : Act → World → Prop) : Exit → Act → World → Prop
  | .normal, a, w => R w ∧ K a w
  | e, a, w => Q e a w
/-- The forced ones. -/
def seqS (P : Program) (ops : Array Oper) (Q : Exit → Act → World → Prop) (S : World → Prop) (z : Nat) : List Nat → Act → World → Prop
  | [], a, w => Q .normal a w
  | i :: is, a, w => wpList P ops (thenS (fun w' => i = z ∨ S w') Q (seqS P ops Q S z is)) (ops[i]?).toList a w
def seqT (md : Region.Mode) (ops : Array Oper) : List Nat → Array Bool → Bool
  | [], listed => Region.ready md ops listed == []
  | i :: is, listed => Region.ready md ops listed == [i] && (ops[i]?).isSome && seqT md ops is (listed.setIfInBounds i true)
def pickB (md : Region.Mode) (ops : Array Oper) (ts : List Nat) : List Nat → Array Bool → Bool
  | [], listed => seqT md ops ts listed
  | i :: is, listed => (Region.ready md ops listed).contains i && Region.free md ops listed i && ((ops[i]?).map plainOp).getD false && pickB md ops ts is (listed.setIfInBounds i true)

theorem upon_thenS {o : Oper} {a : Act} {K : Act → World → Prop} {w : World}
    (h : o.wp P a w (wpList P ops (thenS S Q K) []) (thenS S Q K)) : o.wp P a w (fun a' w' => S w' ∧ K a' w') Q := by
  unfold Oper.wp at *
  generalize (execOp a.eval o).run P w = r at *
  cases r with
  | ok n w' =>
    cases n <;> simp only [Oper.upon] at h ⊢ <;>
      first
        | exact h
        | (refine Calls.mono h (fun e w'' he => ?_); cases e <;> exact he)
        | exact Rows.mono h (fun _ _ he => he)
  | halt x w' => cases x <;> simp only [Oper.upon] at h ⊢ <;> exact h

theorem held_of_seq {z : Nat} : ∀ (ts : List Nat) (listed : Array Bool) (a : Act) (w : World), seqT md ops ts listed = true → seqS P ops Q S z ts a w → wpAnyL P md ops Q S z ts.length listed a w
  | [], listed, a, w, hB, h => ⟨by simpa [seqT] using hB, h⟩
  | i :: is, listed, a, w, hB, h => by
    simp only [seqT, Bool.and_eq_true] at hB
    obtain ⟨⟨hr, hi⟩, hB'⟩ := hB
    have hr : Region.ready md ops listed = [i] := by simpa using hr
    obtain ⟨o, ho⟩ := Option.isSome_iff_exists.1 hi
    refine ⟨by rw [hr]; simp, fun j hj => ?_⟩
    obtain rfl : j = i := by rw [hr] at hj; simpa using hj
    simp only [seqS, ho, Option.toList_some] at h
    unfold wpList at h
    unfold wpOp
    simp only [ho]
    have step : ∀ a' w', (j = z ∨ S w') ∧ seqS P ops Q S z is a' w' → (j = z ∨ S w') ∧ wpAnyL P md ops Q S z is.length (listed.setIfInBounds j true) a' w' := fun a' w' ⟨h1, h2⟩ => ⟨h1, held_of_seq is _ a' w' hB' h2⟩
    split
    · rename_i hw
      rw [if_pos hw] at h
      rcases h with h | ⟨h1, h2⟩
      · exact .inl (Oper.wp_mono step (upon_thenS h))
      · refine .inr ⟨h1, ?_⟩
        obtain ⟨a', w', h3⟩ := h2
        exact ⟨a', w', h3⟩
    · rename_i hw
      rw [if_neg hw] at h
      exact step _ _ h

theorem held_of_pick {z : Nat} {ts : List Nat} (hsel : Region.noSelect ops = true) (hz : lastB md ops z = true) (hQ : ∀ c a (d : Tmp) v w, Q (.panic c) (Act.put a (some d) v) w → Q (.panic c) a w) :
    ∀ (is : List Nat) (listed : Array Bool) (a : Act) (w : World), S w → pickB md ops ts is listed = true →
      wpQuiet P ops S (fun a' => seqS P ops Q S z ts a' w) (is.filterMap (ops[·]?)) a → wpAnyL P md ops Q S z (is.length + ts.length) listed a w
  | [], listed, a, w, _, hB, h => by
    rw [List.length_nil, Nat.zero_add]
    exact held_of_seq ts listed a w hB h
  | i :: is, listed, a, w, hS, hB, h => by
    simp only [pickB, Bool.and_eq_true] at hB
    obtain ⟨⟨⟨hr, hf⟩, hp⟩, hB'⟩ := hB
    cases ho : ops[i]? with
    | none => rw [ho] at hp; cases hp
    | some o =>
      rw [ho] at hp
      rw [List.filterMap_cons_some ho] at h
      unfold wpQuiet at h
      obtain ⟨v, hy, hK⟩ := yieldsIf_of_quiet hp h
      rw [List.length_cons, show is.length + 1 + ts.length = (is.length + ts.length) + 1 by omega]
      exact wpAnyL_first ho hsel (fun c a' w' hh => by
        cases hd : o.dst with
        | none => rw [hd] at hh; exact hh
        | some d => rw [hd] at hh; exact hQ c a' d _ w' hh) hz _ listed a w (Region.free_spec ho hf) (by simpa using hr) hy hS (held_of_pick hsel hz hQ is _ _ w hS hB' hK)
theorem seqS_cons {z i : Nat} {o : Oper} {is : List Nat} {a : Act} {w : World} (ho : ops[i]? = some o) (h : wpList P ops (thenS (fun w' => i = z ∨ S w') Q (seqS P ops Q S z is)) [o] a w) : seqS P ops Q S z (i :: is) a w := by
  unfold seqS
  rw [ho]
  exact h
theorem seqS_nil {z : Nat} {a : Act} {w : World} (h : Q .normal a w) : seqS P ops Q S z [] a w := h
theorem thenS_normal {K : Act → World → Prop} {a : Act} {w : World} (h : S w) (h' : K a w) : thenS S Q K .normal a w := ⟨h, h'⟩

theorem map_pick {l : List Oper} {o0 : Oper} {ts : List Nat} : ∀ (is : List Nat) (listed : Array Bool), pickB md l.toArray ts is listed = true → is.filterMap (l.toArray[·]?) = is.map (fun i => l.getD i o0)
  | [], _, _ => rfl
  | i :: is, listed, hB => by
    simp only [pickB, Bool.and_eq_true] at hB
    obtain ⟨⟨⟨_, _⟩, hp⟩, hB'⟩ := hB
    cases ho : l.toArray[i]? with
    | none => rw [ho] at hp; cases hp
    | some o =>
      rw [List.filterMap_cons_some ho, map_pick is _ hB', List.map_cons]
      congr 1
      rw [List.getElem?_toArray] at ho
      rw [List.getD_eq_getElem?_getD, ho]
      rfl
theorem wp_region_pick {id : Nat} {a : Act} {w : World} {o0 : Oper} {l : List Oper} (S : World → Prop) (z : Nat) (is ts : List Nat) (hm : P.follows .mixedOrders = true) (hlen : is.length + ts.length = (o0 :: l).toArray.size)
    (hB : (Region.noSelect (o0 :: l).toArray && lastB .any (o0 :: l).toArray z && pickB .any (o0 :: l).toArray ts is (Array.replicate (o0 :: l).toArray.size false)) = true) (hQ : ∀ c a (d : Tmp) v w, Q (.panic c) (Act.put a (some d) v) w → Q (.panic c) a w) (hS : S w.drew)
    (h : wpQuiet P (o0 :: l).toArray S (fun a' => seqS P (o0 :: l).toArray Q S z ts a' w.drew) (is.map (fun i => (o0 :: l).getD i o0)) a) : (Code.region id (o0 :: l).toArray true).wp P Q a w := by
  rw [Bool.and_eq_true, Bool.and_eq_true] at hB
  refine wp_region_any hm (wpAny_of_L (S := S) (z := z) _ _ _ _ ?_)
  rw [← map_pick is _ hB.2] at h
  have := held_of_pick hB.1.1 hB.1.2 hQ is _ a w.drew hS hB.2 h
  rw [hlen] at this
  exact this
end
/-! ### The class of the worlds in which all below B lies as it lay -/
section
open Go.RowKit Classical
noncomputable def mergeB (B : Nat) (W s : World) : World := if Below B W s then s else W
theorem mergeB_of {B : Nat} {W s : World} (h : Below B W s) : s = mergeB B W s := by
  unfold mergeB
  rw [if_pos h]
theorem below_mergeB (B : Nat) (W s : World) : Below B W (mergeB B W s) := by
  unfold mergeB
  split
  · assumption
  · exact Below.refl _ _
theorem cell_mergeB (B : Nat) (W s : World) (b o : Nat) (h : b < B) : (mergeB B W s).cell? ⟨b, o, none⟩ = W.cell? ⟨b, o, none⟩ := (below_mergeB B W s).cell (p := ⟨b, o, none⟩) h
theorem frozen_mergeB (B : Nat) (W s : World) (b o : Nat) (h : b < B) : (mergeB B W s).frozen? ⟨b, o, none⟩ = W.frozen? ⟨b, o, none⟩ := (below_mergeB B W s).frozen (p := ⟨b, o, none⟩) h
end
end Go.Proofs.Ytlhbmfaoldajdaa
