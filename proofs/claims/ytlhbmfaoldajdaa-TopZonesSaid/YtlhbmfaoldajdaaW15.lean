/-
  THE MAP OF THE SEARCH: keys, elements, and what the map of a list of nodes reads as.
-/
import Derived.Maps.OwnSet
import Derived.Maps.OwnOps
import Derived.Maps.RangeWalk
import Derived.Carry
import Derived.WideKeyPair
import Derived.Test.YtlhbmfaoldajdaaW14
namespace Go.Proofs.Ytlhbmfaoldajdaa
open Go.RowKit Go.Maps

theorem arr61 : WideMaps.ArrKey Try.prog 61 3 4 := ⟨Try.underlying61, by kernel_rfl, by kernel_rfl, by kernel_rfl⟩
theorem law61 : Keyed Try.prog 61 := Keyed.of_law arr61.law
def keyL (s : List Int) : Lit := .string (keyBytes ((key4 s).map (Lit.int .i64)))
theorem keyOf_four {a b c d : Int} (wa : (Lit.int .i64 a).wf = true) (wb : (Lit.int .i64 b).wf = true) (wc : (Lit.int .i64 c).wf = true) (wd : (Lit.int .i64 d).wf = true) :
    keyOf Try.prog 61 (.agg #[.int .i64 a, .int .i64 b, .int .i64 c, .int .i64 d]) = some (.string (keyBytes [.int .i64 a, .int .i64 b, .int .i64 c, .int .i64 d])) := by
  have A := arr61
  have hsz : ∃ m, Try.prog.types.size = m + 1 := ⟨Try.prog.types.size - 1, by
    have : 0 < Try.prog.types.size := by decide +kernel
    omega⟩
  have hkt := A.keyType hsz
  obtain ⟨m, hm⟩ := hsz
  unfold keyOf
  simp only [A.hu]
  rw [if_pos (by simp [hkt, Value.formed, A.hu, A.size]), hm]
  unfold Program.keyLits
  simp only [A.hu, Value.cells]
  rw [if_pos (by rw [A.size]; rfl), show List.range 4 = [0, 1, 2, 3] from rfl, List.mapM_cons, List.mapM_cons, List.mapM_cons, List.mapM_cons, List.mapM_nil]
  simp [A.one, Program.keyLits, Try.underlying3, wa, wb, wc, wd]
theorem wf_small {a : Int} (h : -1000000 ≤ a ∧ a ≤ 1000000) : (Lit.int .i64 a).wf = true := by
  have h1 : IntKind.min .i64 = -9223372036854775808 := by decide
  have h2 : IntKind.max .i64 = 9223372036854775807 := by decide
  simp only [Lit.wf, h1, h2, Bool.and_eq_true, decide_eq_true_eq]
  omega
/-- Zones that can be a key. -/
def KOk (s : List Int) : Prop := s.length ≤ 4 ∧ ∀ z ∈ s, 0 ≤ z ∧ z < 6
theorem PlOk.kok {Z : Int} {n : Nat} {s : List Int} (h : PlOk Z n s) (hZ : Z ≤ 6) (hn : n ≤ 4) : KOk s := ⟨by rw [h.1]; exact hn, fun z hz => by have := h.2.1 z hz; omega⟩
theorem key4_small {s : List Int} (h : KOk s) : ∀ a ∈ key4 s, -1 ≤ a ∧ a < 6 := by
  intro a ha
  rcases List.mem_append.1 ha with h1 | h1
  · have := h.2 a h1; omega
  · rw [(List.mem_replicate.1 h1).2]; omega
set_option maxRecDepth 100000 in
theorem keyOf_place {s : List Int} (h : KOk s) : keyOf Try.prog 61 (keyV s) = some (keyL s) := by
  have hp := key4_small h
  obtain ⟨a, b, c, d, he⟩ := key4_cells h.1
  unfold keyV keyL
  rw [he] at hp ⊢
  have ha := hp a (by simp)
  have hb := hp b (by simp)
  have hc := hp c (by simp)
  have hd := hp d (by simp)
  exact keyOf_four (wf_small (by omega)) (wf_small (by omega)) (wf_small (by omega)) (wf_small (by omega))
theorem key4_inj {s s' : List Int} (h : s.length = s'.length) (e : key4 s = key4 s') : s = s' := (List.append_inj e h).1
theorem ints_inj {l l' : List Int} (h : ints l = ints l') : l = l' := (List.map_inj_right (fun a b (h : Value.int .i64 a = .int .i64 b) => by injection h)).1 h
theorem keyL_inj {s s' : List Int} (h : KOk s) (h' : KOk s') (hl : s.length = s'.length) (e : keyL s = keyL s') : s = s' := by
  have h1 := keyOf_place h
  have h2 := keyOf_place h'
  rw [← e] at h2
  have h3 := law61.inj h1 h2
  have h4 : ints (key4 s) = ints (key4 s') := congrArg (fun v : Value => match v with | .agg cs => cs.toList | _ => []) h3
  exact key4_inj hl (ints_inj h4)
theorem keyL_isKey (s : List Int) : WideAt.IsKeyLit (keyL s) := trivial

/-! ### elements -/
def cellInt : Value → Option Int
  | .int .i64 z => some z
  | _ => none
theorem cellInt_inv {v : Value} {z : Int} (h : cellInt v = some z) : v = .int .i64 z := by
  unfold cellInt at h
  split at h
  · injection h with h; subst h; rfl
  · cases h
/-- What an element reads as. -/
def stepD (zs : List Int) : DataW Unit := .agg (zs.map fun z => .lit (.int .i64 z))
theorem stepD_inj {a b : List Int} (h : stepD a = stepD b) : a = b := by
  unfold stepD at h
  injection h with h
  exact (List.map_inj_right (fun a b (h : DataW.lit (Lit.int .i64 a) = .lit (.int .i64 b)) => by injection h with h; injection h)).1 h
def cellsInt : List Value → Option (List Int)
  | [] => some []
  | v :: r => match cellInt v, cellsInt r with
    | some z, some zs => some (z :: zs)
    | _, _ => none
theorem cellsInt_ints : ∀ zs : List Int, cellsInt (ints zs) = some zs
  | [] => rfl
  | z :: zs => by
    show (match cellInt (.int .i64 z), cellsInt (ints zs) with | some z, some zs => some (z :: zs) | _, _ => none) = _
    rw [cellsInt_ints zs]; rfl
theorem cellsInt_inv : ∀ {cs : List Value} {zs : List Int}, cellsInt cs = some zs → cs = ints zs
  | [], zs, h => by injection h with h; subst h; rfl
  | v :: r, zs, h => by
    unfold cellsInt at h
    split at h
    · rename_i z zs' h1 h2
      injection h with h
      subst h
      rw [cellInt_inv h1, cellsInt_inv h2]; rfl
    · cases h
def stepElem (v : Value) : Option (DataW Unit × List MemPlace) :=
  match v with
  | .agg cs => match cellsInt cs.toList with
    | some zs => if zs.length = 7 then some (stepD zs, []) else none
    | none => none
  | _ => none
theorem stepElem_mk {zs : List Int} (h : zs.length = 7) : stepElem (.agg (ints zs).toArray) = some (stepD zs, []) := by
  show (match cellsInt (ints zs) with | some zs => if zs.length = 7 then some (stepD zs, []) else none | none => none) = _
  rw [cellsInt_ints]
  show (if zs.length = 7 then some (stepD zs, []) else none) = _
  rw [if_pos h]
theorem stepElem_inv {v : Value} {y : DataW Unit × List MemPlace} (h : stepElem v = some y) : ∃ zs : List Int, zs.length = 7 ∧ v = .agg (ints zs).toArray ∧ y = (stepD zs, []) := by
  unfold stepElem at h
  split at h
  · rename_i cs
    split at h
    · rename_i zs hz
      split at h
      · rename_i hl
        injection h with h
        refine ⟨zs, hl, ?_, h.symm⟩
        rw [← cellsInt_inv hz]
      · cases h
    · cases h
  · cases h
theorem stepElem_is {v : Value} {zs : List Int} {ps : List MemPlace} (h : stepElem v = some (stepD zs, ps)) : v = .agg (ints zs).toArray := by
  obtain ⟨zs', _, hv, hy⟩ := stepElem_inv h
  injection hy with h1 _
  rw [hv, stepD_inj h1]
theorem zero63 (w : World) : (zeroValue 63).run Try.prog w = .ok (.agg (ints [0, 0, 0, 0, 0, 0, 0]).toArray) w := by kernel_rfl

/-! ### the map of nodes -/
theorem snocInd {α : Type} {P : List α → Prop} (l : List α) (nil : P []) (append_singleton : ∀ (l : List α) (a : α), P l → P (l ++ [a])) : P l := by
  have : ∀ n (l : List α), l.length = n → P l := by
    intro n
    induction n with
    | zero => intro l h; rw [List.eq_nil_of_length_eq_zero h]; exact nil
    | succ n ih =>
      intro l h
      have hne : l ≠ [] := by intro e; subst e; cases h
      rw [← List.dropLast_concat_getLast hne]
      exact append_singleton _ _ (ih _ (by simp [h]))
  exact this _ l rfl
def stepZ (x : Nd) : List Int := x.k ++ [x.m.1, x.m.2, x.d]
theorem stepZ_len {x : Nd} (h : x.k.length = 4) : (stepZ x).length = 7 := by simp [stepZ, h]
def putN (D : DataW Unit) (x : Nd) : DataW Unit := D.put (keyL x.p) (stepD (stepZ x))
def mapN (T : List Nd) : DataW Unit := T.foldl putN (.map [])
theorem mapN_snoc (T : List Nd) (x : Nd) : mapN (T ++ [x]) = (mapN T).put (keyL x.p) (stepD (stepZ x)) := by unfold mapN; rw [List.foldl_append]; rfl
theorem tidy_mapN (T : List Nd) : Maps.Tidy (mapN T) := by
  have : ∀ (T : List Nd) (D : DataW Unit), Maps.Tidy D → Maps.Tidy (T.foldl putN D) := by
    intro T
    induction T with
    | nil => intro D h; exact h
    | cons x T ih => intro D h; exact ih _ (h.put (keyL_isKey x.p) _)
  exact this T _ Maps.tidy_empty
/-- The nodes can be keys, of one length. -/
def Keys (n : Nat) (T : List Nd) : Prop := ∀ x ∈ T, KOk x.p ∧ x.p.length = n
theorem Tidy.keys {Z : Int} {n : Nat} {T : List Nd} (h : Tidy Z n T) (hZ : Z ≤ 6) (hn : n ≤ 4) : Keys n T := fun x hx => ⟨(h.2 x hx).1.kok hZ hn, (h.2 x hx).1.1⟩
theorem has_mapN_key (T : List Nd) (kl : Lit) : Maps.has (mapN T) kl = true → ∃ x ∈ T, keyL x.p = kl := by
  induction T using snocInd with
  | nil => intro h; cases h
  | append_singleton T x ih =>
    intro h
    rw [mapN_snoc] at h
    by_cases e : keyL x.p = kl
    · exact ⟨x, by simp, e⟩
    · rw [Maps.has_put_other (fun h => e h.symm)] at h
      obtain ⟨y, hy, he⟩ := ih h
      exact ⟨y, by simp [hy], he⟩
theorem has_mapN_mem {T : List Nd} {x : Nd} (hx : x ∈ T) : Maps.has (mapN T) (keyL x.p) = true := by
  induction T using snocInd with
  | nil => cases hx
  | append_singleton T y ih =>
    rw [mapN_snoc]
    by_cases e : keyL x.p = keyL y.p
    · rw [e]; exact Maps.has_put_same (tidy_mapN T).isMap (keyL_isKey _) _
    · rw [Maps.has_put_other e]
      rcases List.mem_append.1 hx with h | h
      · exact ih h
      · rw [List.mem_singleton] at h; subst h; exact absurd rfl e
theorem has_mapN {n : Nat} {T : List Nd} (h : Keys n T) {p : List Int} (hp : KOk p) (hl : p.length = n) : Maps.has (mapN T) (keyL p) = decide (p ∈ T.map (·.p)) := by
  by_cases hm : p ∈ T.map (·.p)
  · obtain ⟨x, hx, rfl⟩ := List.mem_map.1 hm
    rw [has_mapN_mem hx]; exact (decide_eq_true hm).symm
  · rw [decide_eq_false hm]
    cases hh : Maps.has (mapN T) (keyL p) with
    | false => rfl
    | true =>
      obtain ⟨x, hx, he⟩ := has_mapN_key T _ hh
      have hk := h x hx
      exact absurd (List.mem_map.2 ⟨x, hx, keyL_inj hk.1 hp (by rw [hk.2, hl]) he⟩) hm
theorem at_mapN {n : Nat} {T : List Nd} (h : Keys n T) (hnd : (T.map (·.p)).Nodup) {x : Nd} (hx : x ∈ T) (zd : DataW Unit) : (mapN T).atKey (keyL x.p) zd = stepD (stepZ x) := by
  induction T using snocInd with
  | nil => cases hx
  | append_singleton T y ih =>
    rw [mapN_snoc]
    rw [List.map_append, List.nodup_append] at hnd
    rcases List.mem_append.1 hx with h1 | h1
    · have hne : keyL x.p ≠ keyL y.p := by
        intro e
        have hkx := h x hx
        have hky := h y (by simp)
        exact hnd.2.2 x.p (List.mem_map_of_mem h1) y.p (by simp) (keyL_inj hkx.1 hky.1 (by rw [hkx.2, hky.2]) e)
      rw [Maps.atKey_put_other hne]
      exact ih (fun z hz => h z (by simp [hz])) hnd.1 h1
    · rw [List.mem_singleton] at h1
      subst h1
      exact Maps.atKey_put_same (tidy_mapN T).isMap (keyL_isKey _) _ _
theorem at_mapN_none {n : Nat} {T : List Nd} (h : Keys n T) {p : List Int} (hp : KOk p) (hl : p.length = n) (hm : p ∉ T.map (·.p)) (zd : DataW Unit) : (mapN T).atKey (keyL p) zd = zd :=
  Maps.atKey_of_not_has (by rw [has_mapN h hp hl]; exact decide_eq_false hm) zd
theorem size_mapN {n : Nat} {T : List Nd} (h : Keys n T) (hnd : (T.map (·.p)).Nodup) : Maps.size (mapN T) = T.length := by
  induction T using snocInd with
  | nil => rfl
  | append_singleton T y ih =>
    rw [List.map_append, List.nodup_append] at hnd
    have hT : Keys n T := fun z hz => h z (by simp [hz])
    have hy := h y (by simp)
    rw [mapN_snoc, Maps.size_put (tidy_mapN T), has_mapN hT hy.1 hy.2, if_neg, ih hT hnd.1]
    · simp
    · intro hd
      have := of_decide_eq_true hd
      exact hnd.2.2 y.p this y.p (by simp) rfl
/-- An entry of the map is a node. -/
theorem entry_mapN {n : Nat} {T : List Nd} (h : Keys n T) (hnd : (T.map (·.p)).Nodup) {kl : Lit} {y : DataW Unit} (hat : ∀ zd, (mapN T).atKey kl zd = y) : ∃ x ∈ T, keyL x.p = kl ∧ y = stepD (stepZ x) := by
  obtain ⟨x, hx, he⟩ := has_mapN_key T kl (Maps.has_true_of_atKey hat)
  refine ⟨x, hx, he, ?_⟩
  rw [← hat (.agg []), ← he, at_mapN h hnd hx]
end Go.Proofs.Ytlhbmfaoldajdaa
