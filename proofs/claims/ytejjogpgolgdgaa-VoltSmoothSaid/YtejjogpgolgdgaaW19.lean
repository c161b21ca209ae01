/-
  HOW MANY FIELDS: the plain count; fields as keys of a map.
-/
import Derived.Maps.OwnSet
import Derived.Maps.OwnOps
import Derived.Maps.OwnIn
import Derived.Sort.MapsRangeIn
import Derived.Carry
import Derived.WideKeyPair
import Derived.Test.YtejjogpgolgdgaaW18
namespace Go.Proofs.Ytejjogpgolgdgaa
open Go.RowKit Go.Shelf Pulse Go.Maps

/-- One more, if it is new. -/
def addNew {α : Type} [DecidableEq α] (acc : List α) (x : α) : List α := if x ∈ acc then acc else acc ++ [x]
/-- Each at its first place. -/
def firsts {α : Type} [DecidableEq α] (xs : List α) : List α := xs.foldl addNew []
theorem firsts_snoc {α : Type} [DecidableEq α] (xs : List α) (x : α) : firsts (xs ++ [x]) = addNew (firsts xs) x := by simp [firsts]
theorem mem_addNew {α : Type} [DecidableEq α] {acc : List α} {x y : α} : y ∈ addNew acc x ↔ y ∈ acc ∨ y = x := by
  unfold addNew
  split
  · rename_i h
    constructor
    · exact .inl
    · rintro (h' | rfl)
      · exact h'
      · exact h
  · simp
theorem mem_fold {α : Type} [DecidableEq α] : ∀ (xs acc : List α) (y : α), y ∈ xs.foldl addNew acc ↔ y ∈ acc ∨ y ∈ xs := by
  intro xs
  induction xs with
  | nil => intro acc y; simp
  | cons x xs ih =>
    intro acc y
    rw [List.foldl_cons, ih, mem_addNew, List.mem_cons]
    constructor
    · rintro ((h | h) | h)
      · exact .inl h
      · exact .inr (.inl h)
      · exact .inr (.inr h)
    · rintro (h | h | h)
      · exact .inl (.inl h)
      · exact .inl (.inr h)
      · exact .inr h
theorem mem_firsts {α : Type} [DecidableEq α] {xs : List α} {y : α} : y ∈ firsts xs ↔ y ∈ xs := by rw [firsts, mem_fold]; simp
theorem nodup_addNew {α : Type} [DecidableEq α] {acc : List α} {x : α} (h : acc.Nodup) : (addNew acc x).Nodup := by
  unfold addNew
  split
  · exact h
  · rename_i hx
    rw [List.nodup_append]
    exact ⟨h, by simp, fun a ha b hb e => by simp at hb; subst hb; subst e; exact hx ha⟩
theorem nodup_firsts {α : Type} [DecidableEq α] (xs : List α) : (firsts xs).Nodup := by
  have : ∀ (xs acc : List α), acc.Nodup → (xs.foldl addNew acc).Nodup := by
    intro xs
    induction xs with
    | nil => intro acc h; exact h
    | cons x xs ih => intro acc h; exact ih _ (nodup_addNew h)
  exact this xs [] List.nodup_nil
theorem firsts_le {α : Type} [DecidableEq α] (xs : List α) : (firsts xs).length ≤ xs.length := by
  have : ∀ (xs acc : List α), (xs.foldl addNew acc).length ≤ acc.length + xs.length := by
    intro xs
    induction xs with
    | nil => intro acc; simp
    | cons x xs ih =>
      intro acc
      have h1 := ih (addNew acc x)
      have h2 : (addNew acc x).length ≤ acc.length + 1 := by unfold addNew; split <;> simp
      rw [List.foldl_cons, List.length_cons]
      omega
  have := this xs []
  rw [List.length_nil, Nat.zero_add] at this
  exact this

/-- The fields of the first q voltages. -/
def fieldsTo (g : List (List Int)) (q : Nat) : List (List Int) := ((allV (wid g)).take q).map (fieldL g)
theorem fieldsTo_succ {g : List (List Int)} {q : Nat} {p : List Int} (h : (allV (wid g))[q]? = some p) : fieldsTo g (q + 1) = fieldsTo g q ++ [fieldL g p] := by
  obtain ⟨h1, h2⟩ := List.getElem?_eq_some_iff.1 h
  unfold fieldsTo
  rw [take_snoc' _ q h1, h2, List.map_append]; rfl
def cntTo (g : List (List Int)) (q : Nat) : Nat := (firsts (fieldsTo g q)).length
theorem cntTo_succ {g : List (List Int)} {q : Nat} {p : List Int} (h : (allV (wid g))[q]? = some p) : cntTo g (q + 1) = cntTo g q + if fieldL g p ∈ fieldsTo g q then 0 else 1 := by
  rw [cntTo, fieldsTo_succ h, firsts_snoc, addNew]
  by_cases hm : fieldL g p ∈ fieldsTo g q
  · rw [if_pos (mem_firsts.2 hm), if_pos hm]; rfl
  · rw [if_neg (fun h => hm (mem_firsts.1 h)), if_neg hm, List.length_append]; rfl
def fieldsN (g : List (List Int)) : Int := if vldG g = 0 then (cntTo g (allV (wid g)).length : Int) else 0
theorem cntTo_le (g : List (List Int)) (q : Nat) (hw : wid g ≤ 3) : cntTo g q ≤ 343 := by
  have h1 := firsts_le (fieldsTo g q)
  have h2 : (fieldsTo g q).length ≤ 343 := by unfold fieldsTo; rw [List.length_map, List.length_take]; have := allV_len (wid g) hw; omega
  unfold cntTo
  omega
/-- The first voltages with the field of the q-th ones. -/
theorem makeL_first {g : List (List Int)} {q : Nat} {p : List Int} (h : (allV (wid g))[q]? = some p) : ∃ hp : 0 < (makeL g (fieldL g p)).length, ((makeL g (fieldL g p))[0] = p ↔ fieldL g p ∉ fieldsTo g q) := by
  obtain ⟨h1, h2⟩ := List.getElem?_eq_some_iff.1 h
  have hmem : p ∈ makeL g (fieldL g p) := List.mem_filter.2 ⟨List.mem_of_getElem? h, by simp⟩
  have hpos : 0 < (makeL g (fieldL g p)).length := List.length_pos_iff.2 (List.ne_nil_of_mem hmem)
  refine ⟨hpos, ?_⟩
  have hsplit : makeL g (fieldL g p) = makeTo g (fieldL g p) q ++ ((allV (wid g)).drop q).filter (fun v => decide (fieldL g v = fieldL g p)) := by
    unfold makeL makeTo
    rw [← List.filter_append, List.take_append_drop]
  have hdrop : ((allV (wid g)).drop q).filter (fun v => decide (fieldL g v = fieldL g p)) = p :: ((allV (wid g)).drop (q + 1)).filter (fun v => decide (fieldL g v = fieldL g p)) := by
    rw [List.drop_eq_getElem_cons h1, h2, List.filter_cons]
    simp
  constructor
  · intro he hm
    obtain ⟨v, hv, hvp⟩ := List.mem_map.1 hm
    have hvt : v ∈ makeTo g (fieldL g p) q := List.mem_filter.2 ⟨hv, by simpa using hvp⟩
    have hpt : 0 < (makeTo g (fieldL g p) q).length := List.length_pos_iff.2 (List.ne_nil_of_mem hvt)
    have h0 : (makeL g (fieldL g p))[0] = (makeTo g (fieldL g p) q)[0] := by
      simp only [hsplit]
      rw [List.getElem_append_left hpt]
    have hin : (makeTo g (fieldL g p) q)[0] ∈ (allV (wid g)).take q := (List.mem_filter.1 (List.getElem_mem hpt)).1
    rw [← h0, he] at hin
    obtain ⟨j, hj, hjp⟩ := List.getElem_of_mem hin
    rw [List.length_take] at hj
    rw [List.getElem_take] at hjp
    have hnd := allP_nodup 3 (wid g)
    have hjl : j < (allV (wid g)).length := by have : (allV (wid g)).length = (allP 3 (wid g)).length := rfl; omega
    have e1 := pos_get hnd j hjl
    have e2 := pos_get hnd q h1
    rw [hjp] at e1
    rw [h2] at e2
    omega
  · intro hn
    have he : makeTo g (fieldL g p) q = [] := by
      rw [List.eq_nil_iff_forall_not_mem]
      intro v hv
      have h3 := List.mem_filter.1 hv
      exact hn (List.mem_map.2 ⟨v, h3.1, by simpa using h3.2⟩)
    simp only [hsplit, he, List.nil_append, hdrop]
    rfl

/-! ### fields as keys -/
theorem arr80 : WideMaps.ArrKey Try.prog 80 3 3 := ⟨Try.underlying80, by kernel_rfl, by kernel_rfl, by kernel_rfl⟩
theorem law80 : Keyed Try.prog 80 := Keyed.of_law arr80.law
/-- A field on three places. -/
def pad3 (f : List Int) : List Int := f ++ List.replicate (3 - f.length) 0
theorem pad3_len {f : List Int} (h : f.length ≤ 3) : (pad3 f).length = 3 := by simp [pad3]; omega
theorem pad3_inj {f f' : List Int} (h : f.length = f'.length) (e : pad3 f = pad3 f') : f = f' := (List.append_inj e h).1
def keyV (f : List Int) : Value := .agg (ints (pad3 f)).toArray
def keyL (f : List Int) : Lit := .string (keyBytes ((pad3 f).map (Lit.int .i64)))
theorem keyOf_three {a b c : Int} (wa : (Lit.int .i64 a).wf = true) (wb : (Lit.int .i64 b).wf = true) (wc : (Lit.int .i64 c).wf = true) :
    keyOf Try.prog 80 (.agg #[.int .i64 a, .int .i64 b, .int .i64 c]) = some (.string (keyBytes [.int .i64 a, .int .i64 b, .int .i64 c])) := by
  have A := arr80
  have hsz : ∃ m, Try.prog.types.size = m + 1 := ⟨Try.prog.types.size - 1, by
    have : 0 < Try.prog.types.size := by decide +kernel
    omega⟩
  have hkt := A.keyType hsz
  obtain ⟨m, hm⟩ := hsz
  unfold keyOf
  simp only [A.hu]
  rw [if_pos (by simp [hkt, Value.formed, A.hu, A.size]), hm]
  unfold Program.keyLits
  simp only [A.hu, Value.cells]
  rw [if_pos (by rw [A.size]; rfl), show List.range 3 = [0, 1, 2] from rfl, List.mapM_cons, List.mapM_cons, List.mapM_cons, List.mapM_nil]
  simp [A.one, Program.keyLits, Try.underlying3, wa, wb, wc]
theorem wf_small {a : Int} (h : -1000000 ≤ a ∧ a ≤ 1000000) : (Lit.int .i64 a).wf = true := by
  have h1 : IntKind.min .i64 = -9223372036854775808 := by decide
  have h2 : IntKind.max .i64 = 9223372036854775807 := by decide
  simp only [Lit.wf, h1, h2, Bool.and_eq_true, decide_eq_true_eq]
  omega
set_option maxRecDepth 100000 in
theorem keyOf_field {f : List Int} (hl : f.length ≤ 3) (hf : Forces 1000 f) : keyOf Try.prog 80 (keyV f) = some (keyL f) := by
  have hp : Forces 1000 (pad3 f) := by
    intro a ha
    rcases List.mem_append.1 ha with h | h
    · exact hf a h
    · rw [(List.mem_replicate.1 h).2]; omega
  have hlen := pad3_len hl
  unfold keyV keyL
  generalize pad3 f = p at *
  match p, hlen with
  | [a, b, c], _ =>
    have ha := hp a (by simp)
    have hb := hp b (by simp)
    have hc := hp c (by simp)
    exact keyOf_three (wf_small (by omega)) (wf_small (by omega)) (wf_small (by omega))
theorem keyL_inj {f f' : List Int} (hl : f.length ≤ 3) (hl' : f.length = f'.length) (hf : Forces 1000 f) (hf' : Forces 1000 f') (e : keyL f = keyL f') : f = f' := by
  have h1 := keyOf_field hl hf
  have h2 := keyOf_field (by omega) hf'
  rw [← e] at h2
  have h3 := law80.inj h1 h2
  have h4 : ints (pad3 f) = ints (pad3 f') := congrArg (fun v : Value => match v with | .agg cs => cs.toList | _ => []) h3
  refine pad3_inj hl' ?_
  exact (List.map_inj_right (fun a b (h : Value.int .i64 a = .int .i64 b) => by injection h)).1 h4
set_option maxRecDepth 100000 in
theorem keyL_isKey (f : List Int) : WideAt.IsKeyLit (keyL f) := trivial
/-- Keys that differ where their fields do: as many keys as fields. -/
theorem addKey_map {xs : List (List Int)} {n : Nat} (hn : n ≤ 3) (h : ∀ f ∈ xs, f.length = n ∧ Forces 1000 f) : ∀ acc : List (List Int), (∀ f ∈ acc, f.length = n ∧ Forces 1000 f) → (xs.map keyL).foldl addKey (acc.map keyL) = (xs.foldl addNew acc).map keyL := by
  induction xs with
  | nil => intro acc _; rfl
  | cons x xs ih =>
    intro acc hacc
    have hx := h x (by simp)
    have e : addKey (acc.map keyL) (keyL x) = (addNew acc x).map keyL := by
      unfold addKey addNew
      by_cases hm : x ∈ acc
      · rw [if_pos hm, if_pos]
        rw [List.any_eq_true]
        exact ⟨keyL x, List.mem_map.2 ⟨x, hm, rfl⟩, WideAt.sameKey_self (keyL_isKey x)⟩
      · rw [if_neg hm, if_neg]
        · rw [List.map_append]; rfl
        · intro ha
          obtain ⟨y, hy, hs⟩ := List.any_eq_true.1 ha
          obtain ⟨f, hf, rfl⟩ := List.mem_map.1 hy
          have := (WideAt.sameKey_iff (keyL_isKey x)).1 hs
          have hfa := hacc f hf
          exact hm (by rw [← keyL_inj (by omega) (by omega) hfa.2 hx.2 this]; exact hf)
    rw [List.map_cons, List.foldl_cons, List.foldl_cons, e]
    refine ih (fun f hf => h f (by simp [hf])) _ (fun f hf => ?_)
    rcases mem_addNew.1 hf with hf | rfl
    · exact hacc f hf
    · exact hx
/-- The map of the fields xs. -/
def mapD (xs : List (List Int)) : DataW Unit := setOf (.lit (.bool true)) (xs.map keyL)
theorem mapD_snoc (xs : List (List Int)) (x : List Int) : mapD (xs ++ [x]) = (mapD xs).put (keyL x) (.lit (.bool true)) := by
  unfold mapD
  rw [List.map_append]
  exact setOf_snoc _ _ _
theorem mapD_size {xs : List (List Int)} {n : Nat} (hn : n ≤ 3) (h : ∀ f ∈ xs, f.length = n ∧ Forces 1000 f) : Maps.size (mapD xs) = (firsts xs).length := by
  unfold mapD
  rw [size_setOf _ _ (fun x hx => by obtain ⟨f, _, rfl⟩ := List.mem_map.1 hx; exact keyL_isKey f)]
  have := addKey_map hn h [] (fun f hf => by cases hf)
  rw [List.map_nil] at this
  rw [this, List.length_map]; rfl
end Go.Proofs.Ytejjogpgolgdgaa
