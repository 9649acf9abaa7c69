/- KindsEncodes returns true at every input, and turns nothing: the given statement KindsEncodesSaid; no condition. -/
import Derived.Test.YtnehdpiiijbhhaaKW9
import Derived.Test.YtnehdpiiijbhhaaKY
import Derived.Test.YtnehdpiiijbhhaaRows
import Derived.WalkKit
import Derived.ProofKit
import Derived.OpenShut
import Derived.ChangeOld
import Derived.Below
import Derived.Carry
set_option autoImplicit false
set_option linter.unusedVariables false
namespace Go.Proofs.Ytnehdpiiijbhhaa
open Go.ChangeShapes Go.WideShapes Go.ChangeAt Go.RowKit

theorem own : ownKnob Try.prog.godebug = none := by kernel_rfl
theorem laidOut : laidOutB Try.prog = true := by kernel_rfl

theorem walk (W : World) (v0 : Value) (hx : ∃ x0, AM.Rel (AM.Ctx.all W) (.agg x0) v0 ∧ AM.Tyd Try.prog 9 26 x0) :
    Calls Try.prog 5 #[v0] W fun e w' => e = .returned (.bool true) ∧ Below W.heap.size W w' := by
  obtain ⟨x0, r0, t0⟩ := hx
  obtain ⟨f, g, ks, ws, rfl⟩ := AM.book_of t0
  obtain ⟨h', e'⟩ := AM.of_retOf (AM.encodes_c f g ks ws)
  obtain ⟨n, hn⟩ := AM.of_callL e'
  exact AM.calls_below AM.kok (AM.progOk_spec AM.kprog) ⟨n, h', hn⟩ (fun g => trivial) ⟨_, _, rfl, r0, rfl⟩

set_option maxRecDepth 100000 in
theorem lifted (os : Os) (started : os.Started) (H : Type) (enc : TypeId × Value → H) :
    ReturnsInHanded {} Try.checked os 5 .any (Rows.kindsEncodesSpec.pre6 enc Try.prog Try.f5 Rows.kindsEncodesRow.domain false) (Rows.kindsEncodesSpec.post enc Try.prog Try.f5 false true false false) := by
  refine returnsInHanded_of_change (C := Try.checked) own started (by kernel_rfl) Try.func5
    (ChangeSpec.witness6 (enc := enc) (C := Try.checked) false ⟨#[], #[.agg #[.slice none 0 0, .slice none 0 0]], []⟩ 8 (by kernel_rfl) (by kernel_rfl) (by kernel_rfl) (by kernel_rfl)) ?_
  intro W base args ds gs before hval0 hW hcnd _
  have hval : ∀ (j : Nat) t v, Try.f5.params[j]? = some t → args[j]? = some v → Value.okWide Try.prog W .any base t v := hval0
  have hW' := hW
  obtain ⟨p, q, hA0, hV, rfl, hfz, hnd⟩ := hW
  have hA : DataW.TrodAll enc Try.prog W 0 (fun _ => true) true Try.f5.params.toList args.toList ds p := hA0
  rw [Try.params5] at hA hval
  obtain ⟨v0, vs0, d0, ds0, p0, q0, hargs, rfl, rfl, h0, r0⟩ := trodAll_cons hA
  obtain ⟨rfl, rfl, rfl⟩ := trodAll_nil r0
  obtain rfl : args = #[v0] := by cases args; simp_all
  obtain ⟨rfl, rfl⟩ := trodVars_none hV
  have lt0 : ∀ x ∈ p0, x.block < W.heap.size := by obtain ⟨m, hm⟩ := h0; exact DataW.trod_lt m _ _ _ hm
  have hx : ∃ x0, AM.Rel (AM.Ctx.all W) (.agg x0) v0 ∧ AM.Tyd Try.prog 9 26 x0 := by
    obtain ⟨fs0, hu0, _⟩ := AM.fieldsOf_spec AM.f26
    obtain ⟨cs0, e0, _⟩ := okWide_struct hu0 (hval 0 26 v0 rfl rfl)
    obtain ⟨x0, z0, t0⟩ := AM.arg_agg (k := 9) e0 h0 (by kernel_rfl)
    exact ⟨x0, z0, t0⟩
  clear hA0 hval0
  refine (walk W v0 hx).mono fun e W' ⟨he, bel⟩ => ?_
  subst he
  exact ⟨_, rfl, _, _, _, [], _, [], hW', trodAll_mk1 (shut_bool AM.u4 _),
    (trodAll_cons_mk (Below.trod laidOut (by kernel_rfl) (of_decide_eq_true (by kernel_rfl)) h0 bel lt0) trodAll_mk0),
    rfl, bel.frame _, fun h => by cases h⟩

theorem kindsEncodes_holds : Rows.KindsEncodesSaid :=
  OpenClaim.holds_of_wide 5 Try.f5 rfl rfl rfl rfl rfl rfl rfl ⟨rfl, rfl, rfl, rfl, rfl⟩ rfl rfl rfl rfl rfl (by kernel_rfl) Try.func5 (by kernel_rfl)
    (of_decide_eq_true (by kernel_rfl)) (by unfold Func.isWrapper; first | (rw [if_pos (by decide +kernel)]; kernel_rfl) | (rw [if_neg (by decide +kernel)]; exact ⟨rfl, rfl⟩))
    (fun os started H enc _ => lifted os started H enc)
end Go.Proofs.Ytnehdpiiijbhhaa
