/-
  PROVED HERE: 'Rows.TopZonesSaid': the law quadrupoletop.TopZones returns true at every input, and every argument reads behind the call as it read before. No condition.
-/
import Derived.Test.YtlhbmfaoldajdaaOpen
import Derived.Test.YtlhbmfaoldajdaaLTopZones
namespace Go.Proofs.Ytlhbmfaoldajdaa.topZones
open Go.ChangeShapes Go.WideShapes Go.ChangeAt Go.RowKit Go.Joins Go.Deep

set_option maxRecDepth 100000 in
theorem lifted (os : Os) (started : os.Started) (H : Type) (enc : TypeId × Value → H) :
    ReturnsInHanded {} Try.checked os 3 .any (Rows.topZonesSpec.pre6 enc Try.prog Try.f3 Rows.topZonesRow.domain false) (Rows.topZonesSpec.post enc Try.prog Try.f3 false true false false) := by
  refine returnsInHanded_of_change (C := Try.checked) ownKnob_none started (by kernel_rfl) Try.func3
    (ChangeSpec.witness6 (enc := enc) (C := Try.checked) false ⟨#[], #[.agg #[.int .i64 0, .slice none 0 0], .agg #[.slice none 0 0, .slice none 0 0], .slice none 0 0], []⟩ 8 (by kernel_rfl) (by kernel_rfl) (by kernel_rfl) (by kernel_rfl)) ?_
  intro W base args ds gs before hval0 hW hcnd _
  have hval : ∀ (j : Nat) t v, Try.f3.params[j]? = some t → args[j]? = some v → Value.okWide Try.prog W .any base t v := hval0
  have hW' := hW
  obtain ⟨p, q, hA0, hV, rfl, hfz, hnd⟩ := hW
  have hA : DataW.TrodAll enc Try.prog W 0 (fun _ => true) true Try.f3.params.toList args.toList ds p := hA0
  rw [Try.params3] at hA hval
  obtain ⟨v0, vs0, d0, ds0, p0, q0, hargs, rfl, rfl, h0, r0⟩ := trodAll_cons hA
  obtain ⟨v1, vs1, d1, ds1, p1, q1, rfl, rfl, rfl, h1, r1⟩ := trodAll_cons r0
  obtain ⟨v2, vs2, d2, ds2, p2, q2, rfl, rfl, rfl, h2, r2⟩ := trodAll_cons r1
  obtain ⟨rfl, rfl, rfl⟩ := trodAll_nil r2
  obtain rfl : args = #[v0, v1, v2] := by cases args; simp_all
  obtain ⟨rfl, rfl⟩ := trodVars_none hV
  have k0 := h0
  have lt0 : ∀ x ∈ p0, x.block < W.heap.size := by obtain ⟨m, hm⟩ := k0; exact DataW.trod_lt m _ _ _ hm
  obtain ⟨u0, u1, y0, y1, n, rfl, _, _, t0, t1⟩ := open_agg2 Try.underlying24 (by kernel_rfl) (by kernel_rfl) (hval 0 24 v0 rfl rfl) h0
  obtain ⟨Z, e0, _, _⟩ := DataW.trod_int Try.underlying3 t0
  obtain ⟨a0, len0, cap0, z0, e1, hk0, hc0, w0⟩ := open_pairs Try.underlying22 Try.underlying33 (by kernel_rfl) (by kernel_rfl) rfl rfl t1
  simp at e0 e1
  subst e0 e1
  have k1 := h1
  have lt1 : ∀ x ∈ p1, x.block < W.heap.size := by obtain ⟨m, hm⟩ := k1; exact DataW.trod_lt m _ _ _ hm
  obtain ⟨u2, u3, y2, y3, n2, rfl, _, _, t2, t3⟩ := open_agg2 Try.underlying27 (by kernel_rfl) (by kernel_rfl) (hval 1 27 v1 rfl rfl) h1
  obtain ⟨a1, len1, cap1, z1, e2, hk1, hc1, w1, _⟩ := open_ints Try.underlying25 Try.underlying3 (by kernel_rfl) t2
  obtain ⟨a1', len1', cap1', z1', e3, hk1', hc1', w1', _⟩ := open_ints Try.underlying25 Try.underlying3 (by kernel_rfl) t3
  simp at e2 e3
  subst e2 e3
  obtain ⟨a2, len2, cap2, rfl⟩ := okWide_slice Try.underlying28 (hval 2 28 v2 rfl rfl)
  have k2 := h2
  have lt2 : ∀ x ∈ p2, x.block < W.heap.size := by obtain ⟨m, hm⟩ := k2; exact DataW.trod_lt m _ _ _ hm
  obtain ⟨z2, hk2, hc2, w2⟩ : ∃ zs, len2 ≤ cap2 ∧ cap2 ≤ maxLen ∧ Rd W W.heap.size 2 a2 len2 (prs zs) := by
    obtain ⟨fuel, hf⟩ := h2
    obtain ⟨A, l, c, zs, hcs, g1, g2, g3⟩ := open_pairs Try.underlying28 Try.underlying57 (by kernel_rfl) (by kernel_rfl) rfl rfl hf
    simp [Value.cells] at hcs
    obtain ⟨rfl, rfl, rfl⟩ := hcs
    exact ⟨zs, g1, g2, g3⟩
  clear hA0 hval0
  refine (lawTopZones Z a0 len0 cap0 z0 a1 len1 cap1 z1 a1' len1' cap1' z1' a2 len2 cap2 z2 W hk0 hc0 w0 hk1 hc1 w1 hk1' hc1' w1' hk2 hc2 w2).mono fun e W' ⟨he, bel⟩ => ?_
  subst he
  exact ⟨_, rfl, _, _, _, [], _, [], hW', trodAll_mk1 (shut_bool Try.underlying4 _), (trodAll_cons_mk (Below.trod laidOut (by kernel_rfl) (of_decide_eq_true (by kernel_rfl)) k0 bel lt0) (trodAll_cons_mk (Below.trod laidOut (by kernel_rfl) (of_decide_eq_true (by kernel_rfl)) k1 bel lt1) (trodAll_cons_mk (Below.trod laidOut (by kernel_rfl) (of_decide_eq_true (by kernel_rfl)) k2 bel lt2) trodAll_mk0))), rfl, bel.frame _, fun h => by cases h⟩

theorem over : Rows.topZonesRow.holds Try.pinned (OpenSpec.ofChange Rows.topZonesSpec) :=
  OpenClaim.holds_of_wide 3 Try.f3 rfl rfl rfl rfl rfl rfl rfl ⟨rfl, rfl, rfl, rfl, rfl⟩ rfl rfl rfl rfl rfl (by kernel_rfl) Try.func3 (by kernel_rfl)
    (of_decide_eq_true (by kernel_rfl)) (by unfold Func.isWrapper; first | (rw [if_pos (by decide +kernel)]; kernel_rfl) | (rw [if_neg (by decide +kernel)]; exact ⟨rfl, rfl⟩))
    (fun os started H enc _ => lifted os started H enc)

end Go.Proofs.Ytlhbmfaoldajdaa.topZones
namespace Go.Proofs.Ytlhbmfaoldajdaa
/-- The statement. -/
theorem topZonesProved : Rows.TopZonesSaid := topZones.over
#print axioms topZonesProved
end Go.Proofs.Ytlhbmfaoldajdaa
