/-
  PROVED HERE: 'Rows.PulseTurnsSaid': the law quadrupolelaw01.PulseTurns returns true at every input, and every argument reads behind the call as it read before. No condition.
-/
import Derived.Test.YtnoocdannfeidaaOpen
import Derived.Test.YtnoocdannfeidaaLTurns
namespace Go.Proofs.Ytnoocdannfeidaa.pulseTurns
open Go.ChangeShapes Go.WideShapes Go.ChangeAt Go.RowKit Go.Joins Go.Deep Pulse

set_option maxRecDepth 100000 in
theorem lifted (os : Os) (started : os.Started) (H : Type) (enc : TypeId × Value → H) :
    ReturnsInHanded {} Try.checked os 4 .any (Rows.pulseTurnsSpec.pre6 enc Try.prog Try.f4 Rows.pulseTurnsRow.domain false) (Rows.pulseTurnsSpec.post enc Try.prog Try.f4 false true false false) := by
  refine returnsInHanded_of_change (C := Try.checked) ownKnob_none started (by kernel_rfl) Try.func4
    (ChangeSpec.witness6 (enc := enc) (C := Try.checked) false ⟨#[], #[.agg #[.int .i64 0, .int .i64 0], .int .i64 0], []⟩ 8 (by kernel_rfl) (by kernel_rfl) (by kernel_rfl) (by kernel_rfl)) ?_
  intro W base args ds gs before hval0 hW hcnd _
  have hval : ∀ (j : Nat) t v, Try.f4.params[j]? = some t → args[j]? = some v → Value.okWide Try.prog W .any base t v := hval0
  have hW' := hW
  obtain ⟨p, q, hA0, hV, rfl, hfz, hnd⟩ := hW
  have hA : DataW.TrodAll enc Try.prog W 0 (fun _ => true) true Try.f4.params.toList args.toList ds p := hA0
  rw [Try.params4] at hA hval
  obtain ⟨v0, vs0, d0, ds0, p0, q0, hargs, rfl, rfl, h0, r0⟩ := trodAll_cons hA
  obtain ⟨v1, vs1, d1, ds1, p1, q1, rfl, rfl, rfl, h1, r1⟩ := trodAll_cons r0
  obtain ⟨rfl, rfl, rfl⟩ := trodAll_nil r1
  obtain rfl : args = #[v0, v1] := by cases args; simp_all
  obtain ⟨rfl, rfl⟩ := trodVars_none hV
  have k0 := h0
  have lt0 : ∀ x ∈ p0, x.block < W.heap.size := by obtain ⟨m, hm⟩ := k0; exact DataW.trod_lt m _ _ _ hm
  obtain ⟨u0, u1, y0, y1, n, rfl, _, _, t0, t1⟩ := open_agg2 Try.underlying29 (by kernel_rfl) (by kernel_rfl) (hval 0 29 v0 rfl rfl) h0
  obtain ⟨a0, e0, _, w0⟩ := DataW.trod_int Try.underlying3 t0
  obtain ⟨c0, e1, _, x0⟩ := DataW.trod_int Try.underlying3 t1
  simp at e0 e1
  subst e0 e1
  obtain ⟨a1, rfl, rfl, rfl, w1⟩ := open_int Try.underlying3 (hval 1 3 v1 rfl rfl) h1
  clear hA0 hval0
  refine (lawTurns a0 c0 a1 W (i64_wf w0) (i64_wf x0) (i64_wf w1)).mono fun e W' ⟨he, bel⟩ => ?_
  subst he
  exact ⟨_, rfl, _, _, _, [], _, [], hW', trodAll_mk1 (shut_bool Try.underlying4 _), (trodAll_cons_mk (Below.trod laidOut (by kernel_rfl) (of_decide_eq_true (by kernel_rfl)) k0 bel lt0) (trodAll_cons_mk (shut_int Try.underlying3 w1) trodAll_mk0)), rfl, bel.frame _, fun h => by cases h⟩

theorem over : Rows.pulseTurnsRow.holds Try.pinned (OpenSpec.ofChange Rows.pulseTurnsSpec) :=
  OpenClaim.holds_of_wide 4 Try.f4 rfl rfl rfl rfl rfl rfl rfl ⟨rfl, rfl, rfl, rfl, rfl⟩ rfl rfl rfl rfl rfl (by kernel_rfl) Try.func4 (by kernel_rfl)
    (of_decide_eq_true (by kernel_rfl)) (by unfold Func.isWrapper; first | (rw [if_pos (by decide +kernel)]; kernel_rfl) | (rw [if_neg (by decide +kernel)]; exact ⟨rfl, rfl⟩))
    (fun os started H enc _ => lifted os started H enc)

end Go.Proofs.Ytnoocdannfeidaa.pulseTurns
namespace Go.Proofs.Ytnoocdannfeidaa
/-- The statement. -/
theorem pulseTurnsProved : Rows.PulseTurnsSaid := pulseTurns.over
#print axioms pulseTurnsProved
end Go.Proofs.Ytnoocdannfeidaa
