/-
  MERGED: W19, W20, W21.
-/
import Derived.Maps.OwnSet
import Derived.Maps.OwnOps
import Derived.Maps.OwnIn
import Derived.Sort.MapsRangeIn
import Derived.Carry
import Derived.WideKeyPair
import Derived.Test.YtejjogpgolgdgaaK9
import Derived.Laws.CopyOwn
/-
  HOW MANY FIELDS: the plain count; fields as keys of a map.
-/
namespace Go.Proofs.Ytejjogpgolgdgaa
open Go.RowKit Go.Shelf Pulse Go.Maps

/-- One more, if it is new. -/
def addNew {α : Type} [DecidableEq α] (acc : List α) (x : α) : List α := if x ∈ acc then acc else acc ++ [x]
/-- Each at its first place. -/
def firsts {α : Type} [DecidableEq α] (xs : List α) : List α := xs.foldl addNew []
theorem firsts_snoc {α : Type} [DecidableEq α] (xs : List α) (x : α) : firsts (xs ++ [x]) = addNew (firsts xs) x := by simp [firsts]
theorem mem_addNew {α : Type} [DecidableEq α] {acc : List α} {x y : α} : y ∈ addNew acc x ↔ y ∈ acc ∨ y = x := by
  unfold addNew
  split
  · rename_i h
    constructor
    · exact .inl
    · rintro (h' | rfl)
      · exact h'
      · exact h
  · simp
theorem mem_fold {α : Type} [DecidableEq α] : ∀ (xs acc : List α) (y : α), y ∈ xs.foldl addNew acc ↔ y ∈ acc ∨ y ∈ xs := by
  intro xs
  induction xs with
  | nil => intro acc y; simp
  | cons x xs ih =>
    intro acc y
    rw [List.foldl_cons, ih, mem_addNew, List.mem_cons]
    constructor
    · rintro ((h | h) | h)
      · exact .inl h
      · exact .inr (.inl h)
      · exact .inr (.inr h)
    · rintro (h | h | h)
      · exact .inl (.inl h)
      · exact .inl (.inr h)
      · exact .inr h
theorem mem_firsts {α : Type} [DecidableEq α] {xs : List α} {y : α} : y ∈ firsts xs ↔ y ∈ xs := by rw [firsts, mem_fold]; simp
theorem nodup_addNew {α : Type} [DecidableEq α] {acc : List α} {x : α} (h : acc.Nodup) : (addNew acc x).Nodup := by
  unfold addNew
  split
  · exact h
  · rename_i hx
    rw [List.nodup_append]
    exact ⟨h, by simp, fun a ha b hb e => by simp at hb; subst hb; subst e; exact hx ha⟩
theorem nodup_firsts {α : Type} [DecidableEq α] (xs : List α) : (firsts xs).Nodup := by
  have : ∀ (xs acc : List α), acc.Nodup → (xs.foldl addNew acc).Nodup := by
    intro xs
    induction xs with
    | nil => intro acc h; exact h
    | cons x xs ih => intro acc h; exact ih _ (nodup_addNew h)
  exact this xs [] List.nodup_nil
theorem firsts_le {α : Type} [DecidableEq α] (xs : List α) : (firsts xs).length ≤ xs.length := by
  have : ∀ (xs acc : List α), (xs.foldl addNew acc).length ≤ acc.length + xs.length := by
    intro xs
    induction xs with
    | nil => intro acc; simp
    | cons x xs ih =>
      intro acc
      have h1 := ih (addNew acc x)
      have h2 : (addNew acc x).length ≤ acc.length + 1 := by unfold addNew; split <;> simp
      rw [List.foldl_cons, List.length_cons]
      omega
  have := this xs []
  rw [List.length_nil, Nat.zero_add] at this
  exact this

/-- The fields of the first q voltages. -/
def fieldsTo (g : List (List Int)) (q : Nat) : List (List Int) := ((allV (wid g)).take q).map (fieldL g)
theorem fieldsTo_succ {g : List (List Int)} {q : Nat} {p : List Int} (h : (allV (wid g))[q]? = some p) : fieldsTo g (q + 1) = fieldsTo g q ++ [fieldL g p] := by
  obtain ⟨h1, h2⟩ := List.getElem?_eq_some_iff.1 h
  unfold fieldsTo
  rw [take_snoc' _ q h1, h2, List.map_append]; rfl
def cntTo (g : List (List Int)) (q : Nat) : Nat := (firsts (fieldsTo g q)).length
theorem cntTo_succ {g : List (List Int)} {q : Nat} {p : List Int} (h : (allV (wid g))[q]? = some p) : cntTo g (q + 1) = cntTo g q + if fieldL g p ∈ fieldsTo g q then 0 else 1 := by
  rw [cntTo, fieldsTo_succ h, firsts_snoc, addNew]
  by_cases hm : fieldL g p ∈ fieldsTo g q
  · rw [if_pos (mem_firsts.2 hm), if_pos hm]; rfl
  · rw [if_neg (fun h => hm (mem_firsts.1 h)), if_neg hm, List.length_append]; rfl
def fieldsN (g : List (List Int)) : Int := if vldG g = 0 then (cntTo g (allV (wid g)).length : Int) else 0
theorem cntTo_le (g : List (List Int)) (q : Nat) (hw : wid g ≤ 3) : cntTo g q ≤ 343 := by
  have h1 := firsts_le (fieldsTo g q)
  have h2 : (fieldsTo g q).length ≤ 343 := by unfold fieldsTo; rw [List.length_map, List.length_take]; have := allV_len (wid g) hw; omega
  unfold cntTo
  omega
/-- The first voltages with the field of the q-th ones. -/
theorem makeL_first {g : List (List Int)} {q : Nat} {p : List Int} (h : (allV (wid g))[q]? = some p) : ∃ hp : 0 < (makeL g (fieldL g p)).length, ((makeL g (fieldL g p))[0] = p ↔ fieldL g p ∉ fieldsTo g q) := by
  obtain ⟨h1, h2⟩ := List.getElem?_eq_some_iff.1 h
  have hmem : p ∈ makeL g (fieldL g p) := List.mem_filter.2 ⟨List.mem_of_getElem? h, by simp⟩
  have hpos : 0 < (makeL g (fieldL g p)).length := List.length_pos_iff.2 (List.ne_nil_of_mem hmem)
  refine ⟨hpos, ?_⟩
  have hsplit : makeL g (fieldL g p) = makeTo g (fieldL g p) q ++ ((allV (wid g)).drop q).filter (fun v => decide (fieldL g v = fieldL g p)) := by
    unfold makeL makeTo
    rw [← List.filter_append, List.take_append_drop]
  have hdrop : ((allV (wid g)).drop q).filter (fun v => decide (fieldL g v = fieldL g p)) = p :: ((allV (wid g)).drop (q + 1)).filter (fun v => decide (fieldL g v = fieldL g p)) := by
    rw [List.drop_eq_getElem_cons h1, h2, List.filter_cons]
    simp
  constructor
  · intro he hm
    obtain ⟨v, hv, hvp⟩ := List.mem_map.1 hm
    have hvt : v ∈ makeTo g (fieldL g p) q := List.mem_filter.2 ⟨hv, by simpa using hvp⟩
    have hpt : 0 < (makeTo g (fieldL g p) q).length := List.length_pos_iff.2 (List.ne_nil_of_mem hvt)
    have h0 : (makeL g (fieldL g p))[0] = (makeTo g (fieldL g p) q)[0] := by
      simp only [hsplit]
      rw [List.getElem_append_left hpt]
    have hin : (makeTo g (fieldL g p) q)[0] ∈ (allV (wid g)).take q := (List.mem_filter.1 (List.getElem_mem hpt)).1
    rw [← h0, he] at hin
    obtain ⟨j, hj, hjp⟩ := List.getElem_of_mem hin
    rw [List.length_take] at hj
    rw [List.getElem_take] at hjp
    have hnd := allP_nodup 3 (wid g)
    have hjl : j < (allV (wid g)).length := by have : (allV (wid g)).length = (allP 3 (wid g)).length := rfl; omega
    have e1 := pos_get hnd j hjl
    have e2 := pos_get hnd q h1
    rw [hjp] at e1
    rw [h2] at e2
    omega
  · intro hn
    have he : makeTo g (fieldL g p) q = [] := by
      rw [List.eq_nil_iff_forall_not_mem]
      intro v hv
      have h3 := List.mem_filter.1 hv
      exact hn (List.mem_map.2 ⟨v, h3.1, by simpa using h3.2⟩)
    simp only [hsplit, he, List.nil_append, hdrop]
    rfl

/-! ### fields as keys -/
theorem arr80 : WideMaps.ArrKey Try.prog 80 3 3 := ⟨Try.underlying80, by kernel_rfl, by kernel_rfl, by kernel_rfl⟩
theorem law80 : Keyed Try.prog 80 := Keyed.of_law arr80.law
/-- A field on three places. -/
def pad3 (f : List Int) : List Int := f ++ List.replicate (3 - f.length) 0
theorem pad3_len {f : List Int} (h : f.length ≤ 3) : (pad3 f).length = 3 := by simp [pad3]; omega
theorem pad3_inj {f f' : List Int} (h : f.length = f'.length) (e : pad3 f = pad3 f') : f = f' := (List.append_inj e h).1
def keyV (f : List Int) : Value := .agg (ints (pad3 f)).toArray
def keyL (f : List Int) : Lit := .string (keyBytes ((pad3 f).map (Lit.int .i64)))
theorem keyOf_three {a b c : Int} (wa : (Lit.int .i64 a).wf = true) (wb : (Lit.int .i64 b).wf = true) (wc : (Lit.int .i64 c).wf = true) :
    keyOf Try.prog 80 (.agg #[.int .i64 a, .int .i64 b, .int .i64 c]) = some (.string (keyBytes [.int .i64 a, .int .i64 b, .int .i64 c])) := by
  have A := arr80
  have hsz : ∃ m, Try.prog.types.size = m + 1 := ⟨Try.prog.types.size - 1, by
    have : 0 < Try.prog.types.size := by decide +kernel
    omega⟩
  have hkt := A.keyType hsz
  obtain ⟨m, hm⟩ := hsz
  unfold keyOf
  simp only [A.hu]
  rw [if_pos (by simp [hkt, Value.formed, A.hu, A.size]), hm]
  unfold Program.keyLits
  simp only [A.hu, Value.cells]
  rw [if_pos (by rw [A.size]; rfl), show List.range 3 = [0, 1, 2] from rfl, List.mapM_cons, List.mapM_cons, List.mapM_cons, List.mapM_nil]
  simp [A.one, Program.keyLits, Try.underlying3, wa, wb, wc]
theorem wf_small {a : Int} (h : -1000000 ≤ a ∧ a ≤ 1000000) : (Lit.int .i64 a).wf = true := by
  have h1 : IntKind.min .i64 = -9223372036854775808 := by decide
  have h2 : IntKind.max .i64 = 9223372036854775807 := by decide
  simp only [Lit.wf, h1, h2, Bool.and_eq_true, decide_eq_true_eq]
  omega
set_option maxRecDepth 100000 in
theorem keyOf_field {f : List Int} (hl : f.length ≤ 3) (hf : Forces 1000 f) : keyOf Try.prog 80 (keyV f) = some (keyL f) := by
  have hp : Forces 1000 (pad3 f) := by
    intro a ha
    rcases List.mem_append.1 ha with h | h
    · exact hf a h
    · rw [(List.mem_replicate.1 h).2]; omega
  have hlen := pad3_len hl
  unfold keyV keyL
  generalize pad3 f = p at *
  match p, hlen with
  | [a, b, c], _ =>
    have ha := hp a (by simp)
    have hb := hp b (by simp)
    have hc := hp c (by simp)
    exact keyOf_three (wf_small (by omega)) (wf_small (by omega)) (wf_small (by omega))
theorem keyL_inj {f f' : List Int} (hl : f.length ≤ 3) (hl' : f.length = f'.length) (hf : Forces 1000 f) (hf' : Forces 1000 f') (e : keyL f = keyL f') : f = f' := by
  have h1 := keyOf_field hl hf
  have h2 := keyOf_field (by omega) hf'
  rw [← e] at h2
  have h3 := law80.inj h1 h2
  have h4 : ints (pad3 f) = ints (pad3 f') := congrArg (fun v : Value => match v with | .agg cs => cs.toList | _ => []) h3
  refine pad3_inj hl' ?_
  exact (List.map_inj_right (fun a b (h : Value.int .i64 a = .int .i64 b) => by injection h)).1 h4
set_option maxRecDepth 100000 in
theorem keyL_isKey (f : List Int) : WideAt.IsKeyLit (keyL f) := trivial
/-- Keys that differ where their fields do: as many keys as fields. -/
theorem addKey_map {xs : List (List Int)} {n : Nat} (hn : n ≤ 3) (h : ∀ f ∈ xs, f.length = n ∧ Forces 1000 f) : ∀ acc : List (List Int), (∀ f ∈ acc, f.length = n ∧ Forces 1000 f) → (xs.map keyL).foldl addKey (acc.map keyL) = (xs.foldl addNew acc).map keyL := by
  induction xs with
  | nil => intro acc _; rfl
  | cons x xs ih =>
    intro acc hacc
    have hx := h x (by simp)
    have e : addKey (acc.map keyL) (keyL x) = (addNew acc x).map keyL := by
      unfold addKey addNew
      by_cases hm : x ∈ acc
      · rw [if_pos hm, if_pos]
        rw [List.any_eq_true]
        exact ⟨keyL x, List.mem_map.2 ⟨x, hm, rfl⟩, WideAt.sameKey_self (keyL_isKey x)⟩
      · rw [if_neg hm, if_neg]
        · rw [List.map_append]; rfl
        · intro ha
          obtain ⟨y, hy, hs⟩ := List.any_eq_true.1 ha
          obtain ⟨f, hf, rfl⟩ := List.mem_map.1 hy
          have := (WideAt.sameKey_iff (keyL_isKey x)).1 hs
          have hfa := hacc f hf
          exact hm (by rw [← keyL_inj (by omega) (by omega) hfa.2 hx.2 this]; exact hf)
    rw [List.map_cons, List.foldl_cons, List.foldl_cons, e]
    refine ih (fun f hf => h f (by simp [hf])) _ (fun f hf => ?_)
    rcases mem_addNew.1 hf with hf | rfl
    · exact hacc f hf
    · exact hx
/-- The map of the fields xs. -/
def mapD (xs : List (List Int)) : DataW Unit := setOf (.lit (.bool true)) (xs.map keyL)
theorem mapD_snoc (xs : List (List Int)) (x : List Int) : mapD (xs ++ [x]) = (mapD xs).put (keyL x) (.lit (.bool true)) := by
  unfold mapD
  rw [List.map_append]
  exact setOf_snoc _ _ _
theorem mapD_size {xs : List (List Int)} {n : Nat} (hn : n ≤ 3) (h : ∀ f ∈ xs, f.length = n ∧ Forces 1000 f) : Maps.size (mapD xs) = (firsts xs).length := by
  unfold mapD
  rw [size_setOf _ _ (fun x hx => by obtain ⟨f, _, rfl⟩ := List.mem_map.1 hx; exact keyL_isKey f)]
  have := addKey_map hn h [] (fun f hf => by cases hf)
  rw [List.map_nil] at this
  rw [this, List.length_map]; rfl
end Go.Proofs.Ytejjogpgolgdgaa

/-
  WALK: the reference's Fields.
-/
namespace Go.Proofs.Ytejjogpgolgdgaa
open Go.RowKit Pulse

theorem makeL_first0 {g : List (List Int)} {q : Nat} {p : List Int} (h : (allV (wid g))[q]? = some p) : ∃ m0, (makeL g (fieldL g p))[0]? = some m0 ∧ m0.length = wid g ∧ (m0 = p ↔ fieldL g p ∉ fieldsTo g q) := by
  obtain ⟨h1, h2⟩ := makeL_first h
  exact ⟨_, List.getElem?_eq_getElem h1, (mem_makeL.1 (List.getElem_mem h1)).1.1, h2⟩

set_option maxRecDepth 100000 in
set_option maxHeartbeats 4000000 in
theorem rFields (A : Option Addr) (k c : Nat) (g : List (List Int)) (w : World) (hs : Sm g) (B : Nat) (hB : B ≤ w.heap.size) (hr : TRd w B A k g) :
    Calls Try.prog 28 #[.slice A k c] w fun e w' => e = .returned (.tuple #[.int .i64 (fieldsN g), .int .i64 (vldG g)]) ∧ Below w.heap.size w w' := by
  obtain rfl := hr.len
  have hr := hr.more hB
  have HW0 := Lib.hid (rValidate A g.length c g w hs w.heap.size (Nat.le_refl _) hr)
  by_cases h : vldG g = 0
  · have HG := Lib.hid h
    obtain ⟨v1, v2, v3, v4, v5⟩ := vldG_ok h
    have hpos : 0 < g.length := by omega
    have hN := allV_len (wid g) v4
    have HFN := Lib.hid (show fieldsN g = (cntTo g (allV (wid g)).length : Int) by rw [fieldsN, if_pos h])
    have HC0 := Lib.hid (show cntTo g 0 = 0 by simp [cntTo, fieldsTo, firsts])
    have HCS := Lib.hid (fun q p (hp : (allV (wid g))[q]? = some p) => cntTo_succ (g := g) hp)
    have HCL := Lib.hid (fun q => cntTo_le g q v4)
    have HMF := Lib.hid (fun q p (hp : (allV (wid g))[q]? = some p) => makeL_first0 (g := g) hp)
    rw [h] at HW0
    obtain ⟨n, hn⟩ : ∃ n, n = wid g := ⟨_, rfl⟩
    have HN := Lib.hid hn
    have hwid := v4
    rw [← hn] at v3 v4 hN HFN HCS HMF
    clear hn v5 h
    obtain ⟨L, hL⟩ : ∃ L, L = allV n := ⟨_, rfl⟩
    have HL := Lib.hid hL
    rw [← hL] at hN HFN HCS HMF
    clear hL
    go_enter Try.func28, Try.ntmps28
    go_wp2_with fail
    refine HW0.out.mono ?_
    rintro e w0 ⟨rfl, hb0⟩
    have s0 := hb0.size
    have hr := (hr.below hb0).more s0
    have HB0 := Lib.hid hb0
    clear hb0 HW0
    have HEV := Lib.hid (revery A g.length c g w0 hpos hwid w0.heap.size (Nat.le_refl _) hr)
    rw [← HN.out, ← HL.out] at HEV
    go_wp2_with fail
    refine HEV.out.mono ?_
    rintro e w1 ⟨AL, cL, vs, rfl, hrl, hlo, hta, hb1⟩
    have s1 := hb1.size
    have rg := (hr.below hb1).more s1
    have HT := Lib.hid (And.intro hrl hta)
    have HB1 := Lib.hid (HB0.out.trans (hb1.mono s0))
    clear hrl hta hb1 hlo HEV HB0 hr
    go_wp2
    go_loopw [7, 5] (fun i s wr => ∃ (q x : Nat), i = .int .i64 q ∧ s = .int .i64 x ∧ Hid (x = cntTo g q) ∧ q ≤ L.length ∧ Below w1.heap.size w1 wr) (fun i _ _ => L.length - (intOf i).toNat)
    case atStart => exact ⟨0, 0, rfl, rfl, HC0.out.symm, Nat.zero_le _, Below.refl _ _⟩
    case round =>
      obtain ⟨q, x, rfl, rfl, HX, hq, hb⟩ := hrel
      have hsz := hb.size
      by_cases hlt : q < L.length
      · obtain ⟨hdr, hhd, hrow⟩ := HT.out.2.row hlt
        obtain ⟨Ap, cp, rfl, _, _, hrp⟩ := hrow.read
        obtain ⟨b, off, rfl, hbb, hc0⟩ := Rd.head HT.out.1 hhd
        have hpl : L[q] ∈ allV n := by have := HL.out; rw [← this]; exact List.getElem_mem hlt
        have hpm := mem_allP.1 hpl
        have hgq : L[q]? = some L[q] := List.getElem?_eq_getElem hlt
        have HSU := Lib.hid (HCS.out q L[q] hgq)
        have HFI := Lib.hid (HMF.out q L[q] hgq)
        have hxl : x ≤ 343 := by have := HCL.out q; have := HX.out; omega
        have HFG := Lib.hid (fitG HG.out (by rw [hpm.1, HN.out]) (fun f hf => by have := hpm.2 f hf; omega))
        obtain ⟨p, hp⟩ : ∃ p, p = L[q] := ⟨_, rfl⟩
        rw [← hp] at hrp hc0 HSU HFG hpm HFI
        have hpn : p.length = n := hpm.1
        rw [hpn] at hc0 hrp
        have HPN := Lib.hid hpn
        clear hrow hp hpl hpn hhd hgq
        have c0 := (hb.cell (p := ⟨b, off + q, none⟩) hbb).trans hc0
        have rgw := (rg.below hb).more hsz
        have rpw := (hrp.below hb).more hsz
        have lbb : b < wr.heap.size := by omega
        have z0 : (0 : Int) ≤ (q : Int) := by omega
        have z1 : (q : Int) < (L.length : Int) := by omega
        have hfl : (fieldL g p).length ≤ 3 := by rw [fieldL_len]; exact v2
        obtain ⟨m0, hget, hm0l, hiff⟩ := HFI.out
        have HDM := Lib.hid hiff
        have hMl : (makeL g (fieldL g p)).length ≤ 343 := makeL_len HG.out
        obtain ⟨M, hM⟩ : ∃ M, M = makeL g (fieldL g p) := ⟨_, rfl⟩
        have HM := Lib.hid hM
        rw [← hM] at hget hMl
        have hMp : 0 < M.length := (List.getElem?_eq_some_iff.1 hget).1
        have HM0 := Lib.hid (show m0 = M[0] from ((List.getElem?_eq_some_iff.1 hget).2).symm)
        have zM : (0 : Int) < (M.length : Int) := by omega
        have HM0L := Lib.hid hm0l
        obtain ⟨d, hd⟩ : ∃ d, d = decide (m0 = p) := ⟨_, rfl⟩
        have HD := Lib.hid hd.symm
        have HO := Lib.hid hb
        clear hd hc0 hrp hpm hb hM hget hiff hm0l
        go_wp2_with fail
        refine (rfield _ _ _ _ _ _ g p wr HFG.out.1 HFG.out.2.1 HFG.out.2.2.1 HFG.out.2.2.2 wr.heap.size (Nat.le_refl _) rgw rpw).mono ?_
        rintro e w2 ⟨u2, rfl, hown2, hb2⟩
        obtain ⟨A2, c2, rfl, _, _⟩ := own_cap hown2
        have s2 := hb2.size
        have r2 := Rd.of_own hown2
        have rg2 := (rgw.below hb2).more s2
        clear hown2
        go_wp2_with fail
        refine (rmeeting _ _ _ _ _ _ g (fieldL g p) w2 HG.out (by omega) w2.heap.size (Nat.le_refl _) rg2 r2).mono ?_
        rw [← HM.out]
        rintro e w3 ⟨u3, rfl, hown3, hb3⟩
        have hb4 := hb2.trans (hb3.mono s2)
        have s4 := hb4.size
        obtain ⟨A3, c3, rfl, r3⟩ := hown3.cap
        obtain ⟨b3, off3, A4, c4, rfl, hb3b, hc3, _, _, h4⟩ := r3.row hMp
        rw [Nat.add_zero, ← HM0.out] at hc3
        rw [← HM0.out] at h4
        rw [HM0L.out] at hc3 h4
        have c4' := (hb4.cell (p := ⟨b, off + q, none⟩) lbb).trans c0
        have rp4 := (rpw.below hb4).more s4
        have HB4 := Lib.hid (HO.out.trans (hb4.mono hsz))
        clear hb2 hb3 hb4 r2 rg2 hown3 r3 c0
        go_wp2_with fail
        refine (rSameInts_is d _ _ _ _ _ _ m0 p HD.out w3 (by have := HM0L.out; omega) (by have := HPN.out; omega) w3.heap.size (Nat.le_refl _) h4 rp4).mono ?_
        rintro e w5 ⟨rfl, hb5⟩
        have HB5 := Lib.hid (HB4.out.trans (hb5.mono (by have := HB4.out.size; omega)))
        clear hb5 c4' hc3
        cases d with
        | true =>
          have HE := Lib.hid (show cntTo g (q + 1) = x + 1 by
            rw [HSU.out, if_neg (HDM.out.1 (of_decide_eq_true HD.out)), ← HX.out])
          go_wp2
          go_roundw
          case rel => exact ⟨q + 1, x + 1, by go_num, by go_num, HE.out.symm, by omega, HB5.out⟩
          case measure => simp [intOf]; omega
        | false =>
          have HE := Lib.hid (show cntTo g (q + 1) = x by
            have h0 := of_decide_eq_false HD.out
            rw [HSU.out, if_pos (Classical.byContradiction fun h => h0 (HDM.out.2 h)), ← HX.out]; rfl)
          go_wp2
          go_roundw
          case rel => exact ⟨q + 1, x, by go_num, rfl, HE.out.symm, by omega, HB5.out⟩
          case measure => simp [intOf]; omega
      · obtain rfl : q = L.length := by omega
        have HO := Lib.hid hb
        clear hb
        go_wp2
        go_ret2
        exact ⟨ret_pair (by rw [HFN.out, ← HX.out]; rfl) (by rw [HG.out]; rfl), HB1.out.trans (HO.out.mono (by have := HB1.out.size; omega))⟩
  · have hd : (vldG g != 0) = true := by simpa using h
    have HI := Lib.hid (show fieldsN g = 0 by rw [fieldsN, if_neg h])
    clear h
    generalize vldG g = x at *
    go_enter Try.func28, Try.ntmps28
    go_wp2_with fail
    refine HW0.out.mono ?_
    rintro e w1 ⟨rfl, hb1⟩
    go_wp2
    go_ret2
    exact ⟨ret_pair (by rw [HI.out]; rfl) rfl, hb1⟩
end Go.Proofs.Ytejjogpgolgdgaa

/-
  WALK: Fields.
-/
namespace Go.Proofs.Ytejjogpgolgdgaa
open Go.RowKit Go.Shelf Pulse Go.Maps
attribute [local go_sem] Oper.semAt_some

theorem map_keep {P : Program} {k : TypeId} {H : Type} {R : Value → Option (DataW H × List MemPlace)} {b n : Nat} {D : DataW H} {w w' : World} (h : w.ownsMap P k R b n D) (hk : w'.heap[b]? = w.heap[b]?) : w'.ownsMap P k R b n D := by
  obtain ⟨es, clock, hb, F, hs, hD⟩ := h
  exact ⟨es, clock, hk.trans hb, F, hs, hD⟩
/-- What holds ahead of round q. -/
def FdI (g : List (List Int)) (w : World) (x0 : Value) (t G q : Nat) (W : World) : Prop :=
  W.heap[w.heap.size]? = some (.cells #[x0] 22 (0, 0)) ∧ W.heap[t + 1]? = some (.cells #[.map (some t)] 76 (0, 0)) ∧
  W.ownsMap Try.prog 80 (plainElem (H := Unit) Try.prog 4) t q (mapD (fieldsTo g q)) ∧ Below w.heap.size w W ∧ w.heap.size + 1 ≤ t ∧ t + 3 ≤ G ∧ t + 3 ≤ W.heap.size
theorem fdI_fix {g : List (List Int)} {w : World} {x0 : Value} {t G q B : Nat} {X Y : World} (hB : t + 3 ≤ B) (h : FdI g w x0 t G q X) (hf : Fix (KI G B) X Y) : FdI g w x0 t G q Y := by
  obtain ⟨h1, h2, h3, h6, h7, h8, h9⟩ := h
  refine ⟨hf.keep _ _ ⟨by omega, .inr rfl⟩ h1, hf.keep _ _ ⟨by omega, .inr rfl⟩ h2, ?_, hf.frame h6 (fun g o hg => ⟨by omega, .inl (by omega)⟩) (Nat.le_refl _), h7, h8, Nat.le_trans h9 hf.size⟩
  have hl := h3.lt
  have e := hf.keep t _ ⟨by omega, .inl (by omega)⟩ (Array.getElem?_eq_getElem hl)
  exact map_keep h3 (e.trans (Array.getElem?_eq_getElem hl).symm)

theorem pad3_abc {F : List Int} (h : F.length ≤ 3) : ∃ a b c, pad3 F = [a, b, c] := by
  have hl := pad3_len h
  match pad3 F, hl with
  | [a, b, c], _ => exact ⟨a, b, c, rfl⟩
set_option maxRecDepth 100000 in
theorem copy_pad {w3 : World} {X B c3 : Nat} {A3 : Option Addr} {F : List Int} (hl : F.length ≤ 3) (hp : 0 < F.length) (hX : w3.heap[X]? = some (.cells #[.int .i64 0, .int .i64 0, .int .i64 0] 80 (0, 0))) (hr : Rd w3 B 1 A3 F.length (ints F)) :
    ∃ w5, (Builtin.copy_ #[23, 23] 3 #[.slice (some ⟨X, 0, none⟩) 3 3, .slice A3 F.length c3]).run Try.prog w3 = .ok (.int .i64 F.length) w5 ∧ w5.heap[X]? = some (.cells (ints (pad3 F)).toArray 80 (0, 0)) ∧ Below X w3 w5 := by
  obtain ⟨b, off, rfl, hb, hc⟩ := hr.2 hp
  have h := run_copy_row (P := Try.prog) w3 23 23 3 3 X 0 3 3 ⟨b, off, none⟩ F.length c3 #[.int .i64 0, .int .i64 0, .int .i64 0] 80 (ints F) Try.underlying23 (by kernel_rfl) hX
    (by simp only [List.length_map]; exact (Nat.min_eq_left hl).symm) (fun j v hj => by rw [show ((⟨b, off, none⟩ : Addr).add j) = ⟨b, off + j, none⟩ from by unfold Addr.add; split <;> simp [*]]; exact hc j v hj) (by simpa using hl) (List.all_eq_true.1 (ints_one F))
  rw [List.length_map] at h
  refine ⟨_, h, ?_, below_setRow (Below.refl X w3) (Nat.le_refl _) _⟩
  have e : (ints (pad3 F)).toArray = ((#[Value.int .i64 0, .int .i64 0, .int .i64 0] : Array Value).toList.take 0 ++ ints F ++ (#[Value.int .i64 0, .int .i64 0, .int .i64 0] : Array Value).toList.drop (0 + F.length)).toArray := by
    congr 1
    unfold pad3
    match F, hl, hp with
    | [a], _, _ => rfl
    | [a, b], _, _ => rfl
    | [a, b, c], _, _ => rfl
  rw [e]
  exact setRow_heap w3 X _ _ 80 _ hX

set_option maxRecDepth 100000 in
set_option maxHeartbeats 4000000 in
theorem pFields (A : Option Addr) (k c : Nat) (g : List (List Int)) (w : World) (hs : Sm g) (B : Nat) (hB : B ≤ w.heap.size) (hr : TRd w B A k g) :
    Calls Try.prog 27 #[.slice A k c] w fun e w' => e = .returned (.tuple #[.int .i64 (fieldsN g), .int .i64 (vldG g)]) ∧ Below w.heap.size w w' := by
  obtain rfl := hr.len
  have hr := hr.more hB
  have HBX := Lib.hid ((Below.refl w.heap.size w).alloc (Nat.le_refl _) (.cells #[.slice A g.length c] 22))
  have HW0 := Lib.hid (pValidate A g.length c g (w.alloc (.cells #[.slice A g.length c] 22)) hs w.heap.size (by simp) (hr.below HBX.out))
  by_cases h : vldG g = 0
  · have HG := Lib.hid h
    obtain ⟨v1, v2, v3, v4, v5⟩ := vldG_ok h
    have hpos : 0 < g.length := by omega
    have HFN := Lib.hid (show fieldsN g = (cntTo g (allV (wid g)).length : Int) by rw [fieldsN, if_pos h])
    have HFS := Lib.hid (fun q p (hp : (allV (wid g))[q]? = some p) => fieldsTo_succ (g := g) hp)
    have HF0 := Lib.hid (show mapD (fieldsTo g 0) = .map [] by simp [fieldsTo, mapD, setOf])
    obtain ⟨b, off, A0, c0, rfl, hb0, hc0, _, _, _⟩ := hr.row hpos
    have HW := Lib.hid (wid_zero hpos)
    rw [Nat.add_zero, ← HW.out] at hc0
    have z2 : (0 : Int) < (g.length : Int) := by omega
    rw [h] at HW0
    obtain ⟨n, hn⟩ : ∃ n, n = wid g := ⟨_, rfl⟩
    have HN := Lib.hid hn
    rw [← hn] at v3 v4 HFN HFS hc0
    clear hn v5 h
    have x0 := blk_new w 22 #[.slice (some ⟨b, off, none⟩) g.length c]
    have HX := Lib.hid x0
    clear x0
    have hmm := @run_makeMap Try.prog
    refine (callsIn_wide (n := 9)).1 ?_
    refine callsIn_of_wp_marks Try.func27 rfl trivial ?_ rfl
    simp only [Try.ntmps27, List.size_toArray, List.length_cons, List.length_nil, Nat.reduceAdd, Nat.reduceSub, Array.replicate_succ, Array.replicate_zero, List.push_toArray, List.append_toArray, List.nil_append, List.cons_append]
    gi_wp2
    refine ⟨trivial, (callsIn_wide.2 HW0.out).mono ?_⟩
    rintro e w1 ⟨rfl, hb1⟩
    simp only [World.size_alloc] at hb1
    have s1 := hb1.size
    simp only [World.size_alloc] at s1
    have x0 := blk_below HX.out hb1 (by omega)
    have B1 := HBX.out.trans (hb1.mono (by omega))
    have y0 := blk_alloc (blk_alloc x0 (.map #[] 0)) (.cells #[.map (some w1.heap.size)] 76)
    have y2 := World.ownsMap_made (H := Unit) w1 Try.prog 80 (plainElem Try.prog 4)
    have y2 := y2.alloc (.cells #[.map (some w1.heap.size)] 76)
    have y3 := blk_new (w1.alloc (.map #[] 0)) 76 #[.map (some w1.heap.size)]
    rw [World.size_alloc] at y3
    have B2 := (B1.alloc B1.size (.map #[] 0)).alloc (by simp; omega) (.cells #[.map (some w1.heap.size)] 76)
    have HY := Lib.hid (And.intro y0 (And.intro y2 (And.intro y3 B2)))
    have ch := (B2.cell (p := ⟨b, off, none⟩) (show b < w.heap.size by omega)).trans hc0
    have c0x : ((w1.alloc (.map #[] 0)).alloc (.cells #[.map (some w1.heap.size)] 76)).cell? ⟨w.heap.size, 0, none⟩ = some (.slice (some ⟨b, off, none⟩) g.length c) := blk_cell y0 0
    clear x0 B1 y0 y2 y3 B2 hb1 HX
    gi_wp2
    refine ⟨trivial, (callsIn_wide.2 (pAll _ _)).mono ?_⟩
    rintro e w' ⟨rfl, rfl⟩
    gi_wp2
    obtain ⟨y0, y2, y3, hB0⟩ := HY.out
    have y0 := blk_alloc y0 (.cells #[.int .i64 n] 3)
    have y2 := y2.alloc (.cells #[.int .i64 n] 3)
    have y3 := blk_alloc y3 (.cells #[.int .i64 n] 3)
    have y4 := blk_new ((w1.alloc (.map #[] 0)).alloc (.cells #[.map (some w1.heap.size)] 76)) 3 #[.int .i64 n]
    have hB0 := hB0.alloc hB0.size (.cells #[.int .i64 n] 3)
    have hsz : w1.heap.size + 3 = (((w1.alloc (.map #[] 0)).alloc (.cells #[.map (some w1.heap.size)] 76)).alloc (.cells #[.int .i64 n] 3)).heap.size := by simp
    simp only [World.size_alloc] at y4
    obtain ⟨W0, hW0⟩ : ∃ W0, ((w1.alloc (.map #[] 0)).alloc (.cells #[.map (some w1.heap.size)] 76)).alloc (.cells #[.int .i64 n] 3) = W0 := ⟨_, rfl⟩
    rw [hW0] at y0 y2 y3 y4 hB0 hsz ⊢
    clear hW0 HY c0x ch hmm
    have HB0 := Lib.hid (And.intro y0 (And.intro y2 (And.intro y3 hB0)))
    clear y0 y2 y3
    refine wpIn_all (n₁ := w1.heap.size + 1 + 1) (N := (allV n).length) rfl (by omega) (gf := 93) (lb := #[.pointer (some ⟨w1.heap.size + 1 + 1, 0, none⟩)]) rfl trivial (enters_of Try.func93 (by kernel_rfl) rfl)
      (allIn 8 (by omega) n v4 (w1.heap.size + 1 + 1) W0 y4) rfl
      (FdI g w (.slice (some ⟨b, off, none⟩) g.length c) w1.heap.size)
      ?hI ?h0
      (fun G q a' W => ∃ v p, (allV n)[q]? = some p ∧ W.ownsRow (G + 1) 3 1 v n (ints p) ∧ G < W.heap.size ∧ a' = { tmps := #[.slice (some ⟨b, off, none⟩) g.length c, .pointer (some ⟨w.heap.size, 0, none⟩), .int .i64 0, .int .i64 0, .int .i64 0, .pointer (some ⟨w1.heap.size + 1, 0, none⟩), v, undef, .slice (some ⟨b, off, none⟩) g.length c, .int .i64 0, .int .i64 0, .bool false, undef, .map (some w1.heap.size), .slice (some ⟨b, off, none⟩) g.length c, .pointer (some ⟨b, off, none⟩), .slice A0 n c0, .int .i64 n, .func (.func 93) #[] #[.pointer (some ⟨w1.heap.size + 1 + 1, 0, none⟩)], v, undef, undef, undef, undef, undef, undef, undef, undef, undef], defers := [] })
      ?hAx ?assign ?body ?done
    case hI => exact fun G q X Y h hf => fdI_fix (by omega) h hf
    case h0 =>
      intro G hG
      obtain ⟨y0, y2, y3, hB0⟩ := HB0.out
      exact ⟨y0, y3, by rw [HF0.out]; exact y2, hB0, by omega, by omega, by omega⟩
    case hAx =>
      rintro G q a' X l' o o' ⟨v, p, h1, h2, h3, h4⟩ ho hc
      exact ⟨v, p, h1, own_keep h2 (fun g hg => World.putObj_heap_other (fun e => by
        obtain ⟨_, cs, hcs⟩ := own_obj h2 hg
        subst e
        rw [ho] at hcs
        cases hcs
        cases hc)), by rw [World.putObj_size]; exact h3, h4⟩
    case assign =>
      rintro l' G q W v K hI hq ⟨p, hp, hown, hGs⟩ hK
      gi_wp2
      exact hK _ _ (KeepsFrom.refl _ _) (Fix.refl _ _) hI ⟨v, p, hp, hown, hGs, rfl⟩
    case body =>
      rintro l' G q a' W hI ⟨v, p, hp, hown, hGs, rfl⟩ hq
      have HII := Lib.hid hI
      obtain ⟨h1, h2, h3, h6, h7, h8, h9⟩ := hI
      obtain ⟨Av, cv, rfl, _, _⟩ := own_cap hown
      have hpm := mem_allP.1 (List.mem_of_getElem? hp)
      have HFG := Lib.hid (fitG HG.out (by rw [hpm.1, HN.out]) (fun f hf => by have := hpm.2 f hf; omega))
      have hfl : (fieldL g p).length ≤ 3 := by rw [fieldL_len]; exact v2
      have HSU := Lib.hid (HFS.out q p hp)
      have HFF := Lib.hid (fieldL_f HFG.out)
      have hq343 : q < 343 := by have := allV_len n v4; omega
      have HKEY := Lib.hid (keyOf_field hfl (fun f hf => by have := HFF.out f hf; omega))
      obtain ⟨F, hF⟩ : ∃ F, F = fieldL g p := ⟨_, rfl⟩
      have HFE := Lib.hid hF
      have hs6 := h6.size
      have B1 := (Below.refl W.heap.size W).alloc (Nat.le_refl _) (.cells #[.int .i64 0, .int .i64 0, .int .i64 0] 80)
      have bx := blk_new W 80 #[.int .i64 0, .int .i64 0, .int .i64 0]
      have rg := ((hr.below h6).more hs6).below B1
      have rv := (Rd.of_own hown).below B1
      have c0x : (W.alloc (.cells #[.int .i64 0, .int .i64 0, .int .i64 0] 80)).cell? ⟨w.heap.size, 0, none⟩ = some (.slice (some ⟨b, off, none⟩) g.length c) := blk_cell (blk_alloc h1 _) 0
      have HF := Lib.hid (pfield _ _ _ c _ cv g p (W.alloc (.cells #[.int .i64 0, .int .i64 0, .int .i64 0] 80)).drew HFG.out.1 HFG.out.2.1 HFG.out.2.2.1 HFG.out.2.2.2 W.heap.size (by simp) rg rv)
      rw [← hF] at HF HSU HKEY hfl
      have hmix : Try.prog.follows .mixedOrders = true := by kernel_rfl
      have HBX2 := Lib.hid (And.intro bx B1)
      have l1 : w1.heap.size + 1 < W.heap.size := blk_lt h2
      clear hpm rg rv hown hp hF bx B1
      have hFp : 0 < F.length := by rw [HFE.out, fieldL_len]; exact hpos
      gi_wp2
      gi_region_with_o (first
        | (refine ⟨trivial, ?_⟩; gi_at_call 63; refine (CallsIn.inRound l' (callsIn_wide.2 HF.out)).mono ?_; rintro e w3 ⟨u3, rfl, hown3, hb3⟩; obtain ⟨A3, c3, rfl, _, _⟩ := own_cap hown3; obtain ⟨w5, hcp, k1, k2⟩ := copy_pad (c3 := c3) hfl hFp (blk_below (w := (W.alloc (.cells #[.int .i64 0, .int .i64 0, .int .i64 0] 80)).drew) HBX2.out.1 hb3 (by simp)) (Rd.of_own hown3); have K1 := Lib.hid k1; have K2 := Lib.hid k2; clear k1 k2 hown3))
      all_goals
        have hB5 : Below W.heap.size W w5 := ((HBX2.out.2.drew).trans (hb3.mono (by simp))).trans K2.out
        have s5 := hB5.size
        obtain ⟨pa, pb, pc, habc⟩ := pad3_abc hfl
        have hxk := K1.out
        rw [habc] at hxk
        have k0 : w5.cell? ⟨W.heap.size, 0, none⟩ = some (.int .i64 pa) := blk_cell hxk 0
        have k1 : w5.cell? ⟨W.heap.size, 1, none⟩ = some (.int .i64 pb) := blk_cell hxk 1
        have k2 : w5.cell? ⟨W.heap.size, 2, none⟩ = some (.int .i64 pc) := blk_cell hxk 2
        have HKEY2 := Lib.hid (show keyOf Try.prog 80 (.agg #[.int .i64 pa, .int .i64 pb, .int .i64 pc]) = some (keyL F) by
          have := HKEY.out
          rw [keyV, habc] at this
          exact this)
        have g1 := blk_below h1 hB5 (by omega)
        have g2 := blk_below h2 hB5 l1
        have gm := map_keep h3 (hB5.block _ (by omega))
        have cm : w5.cell? ⟨w1.heap.size + 1, 0, none⟩ = some (.map (some w1.heap.size)) := blk_cell g2 0
        have HZ := Lib.hid (And.intro g1 (And.intro g2 (And.intro hB5 h6)))
        clear g1 g2 hB5 hb3 hcp habc hxk h1 h2 h3 h6 K1 K2 c0x
        gi_wp2_with (gi_at_mapUpdate; refine wpListIn_mapUpdate_own _ rfl _ _ _ 76 rfl 80 4 law80 Try.underlying76 _ w1.heap.size q _ rfl gm (by unfold maxLen; omega) _ _ (keyL F) rfl rfl HKEY2.out (.lit (.bool true)) [] (plainElem_bool Try.underlying4 true) ?_; intro w6 hown6 hg6)
        obtain ⟨g1, g2, hB5, h6⟩ := HZ.out
        refine ⟨(keepsFrom_below hB5).trans (KeepsFrom.of_grownBy hg6 (fun j e => by injection e with e; omega)), (Fix.of_below hB5 (Nat.le_refl _)).trans (Fix.grown hg6 (fun g o hr ho hk => ?_)), ?_⟩
        · injection hr with hr
          subst hr
          obtain ⟨es, clock, hb, _⟩ := gm
          rw [hb] at ho
          injection ho with ho
          subst ho
          exact Bool.false_ne_true hk.1
        · refine ⟨blk_grown g1 hg6 (by simp; omega), blk_grown g2 hg6 (by simp), ?_, (h6.trans (hB5.mono h6.size)).grown hg6 (by omega) (fun g e => by injection e with e; omega), h7, h8, Nat.le_trans (Nat.le_trans h9 hB5.size) hg6.size⟩
          rw [HSU.out, mapD_snoc]
          exact hown6
    case done =>
      rintro D G W hD ⟨h1, h2, h3, h6, h7, h8, h9⟩ hK
      have cm : W.cell? ⟨w1.heap.size + 1, 0, none⟩ = some (.map (some w1.heap.size)) := blk_cell h2 0
      have HSZ := Lib.hid (show Maps.size (mapD (fieldsTo g (allV n).length)) = cntTo g (allV n).length from mapD_size v2 (fun f hf => by
        obtain ⟨v, hv, rfl⟩ := List.mem_map.1 hf
        have hm := mem_allP.1 (List.mem_of_mem_take hv)
        have hfg := fitG HG.out hm.1 (fun f hf => by have := hm.2 f hf; omega)
        exact ⟨fieldL_len _ _, fun f hf => by have := fieldL_f hfg f hf; omega⟩))
      have X := Lib.hid (And.intro h6 (And.intro hK hsz))
      clear h1 h2 h6 hK hsz y4
      gi_wp2_with (gi_at_len; go_loud (refine wpListIn_len_own _ rfl _ 76 rfl 80 4 Try.underlying76 _ w1.heap.size _ _ rfl h3 ?_))
      obtain ⟨h6, hK, hsz⟩ := X.out
      refine ⟨by simp, .inl ⟨_, _, rfl, run_takeDeferred hK, ?_⟩⟩
      refine ⟨.tuple #[.int .i64 (cntTo g (allV n).length : Int), .int .i64 0], ?_, ret_pair (by rw [HFN.out]) (by rw [HG.out]), h6.trans (belowK_b (w := w) (Nat.le_refl _) _ D _ _ (by omega) hK rfl rfl)⟩
      rw [HSZ.out]
      simp [results, Try.results27, go_sem]
  · have hd : (vldG g != 0) = true := by simpa using h
    have HI := Lib.hid (show fieldsN g = 0 by rw [fieldsN, if_neg h])
    clear h
    generalize vldG g = x at *
    go_enter Try.func27, Try.ntmps27
    go_wp2_with fail
    refine HW0.out.mono ?_
    rintro e w1 ⟨rfl, hb1⟩
    go_wp2
    go_ret2
    exact ⟨ret_pair (by rw [HI.out]; rfl) rfl, HBX.out.trans (hb1.mono (by simp))⟩
end Go.Proofs.Ytejjogpgolgdgaa
