/- KindsNumbers returns true at its one input, and turns nothing: the given statement KindsNumbersSaid; no condition. -/
import Derived.Test.YtnehdpiiijbhhaaKX
import Derived.Test.YtnehdpiiijbhhaaAMLaw
import Derived.Test.YtnehdpiiijbhhaaRows
import Derived.WalkKit
import Derived.ProofKit
set_option autoImplicit false
namespace Go.Proofs.Ytnehdpiiijbhhaa
open Go.ChangeShapes Go.WideShapes Go.ChangeAt Go.RowKit

theorem Try.own : ownKnob Try.prog.godebug = none := by kernel_rfl

theorem numbersTrue : ∃ h', AM.callF AM.KE 100000 3 [] [] = some (.ret (.v (.bool true)), h') := by
  have h := AM.numbers
  unfold AM.isTrue at h
  split at h
  · next h' e => exact ⟨h', e⟩
  · cases h

theorem numbersWalk (W : World) : Calls Try.prog 3 #[] W fun e w' => e = .returned (.bool true) ∧ Grown W w' := by
  obtain ⟨h', e⟩ := numbersTrue
  exact AM.calls_true AM.kok (AM.progOk_spec AM.kprog) e (imm := fun _ => False) (fun b h => h.elim) (fun g => trivial) rfl

set_option maxRecDepth 100000 in
theorem numbersLifted (os : Os) (started : os.Started) (H : Type) (enc : TypeId × Value → H) :
    ReturnsInHanded {} Try.checked os 3 .any (Rows.kindsNumbersSpec.pre6 enc Try.prog Try.f3 Rows.kindsNumbersRow.domain false) (Rows.kindsNumbersSpec.post enc Try.prog Try.f3 false true false false) := by
  refine returnsInHanded_of_change (C := Try.checked) Try.own started (by kernel_rfl) Try.func3
    (ChangeSpec.witness6 (enc := enc) (C := Try.checked) false ⟨#[], #[], []⟩ 8 (by kernel_rfl) (by kernel_rfl) (by kernel_rfl) (by kernel_rfl)) ?_
  intro W base args ds gs before hval0 hW hcnd _
  have hW' := hW
  obtain ⟨p, q, hA0, hV, rfl, hfz, hnd⟩ := hW
  have hA : DataW.TrodAll enc Try.prog W 0 (fun _ => true) true Try.f3.params.toList args.toList ds p := hA0
  rw [Try.params3] at hA
  obtain ⟨rfl, rfl⟩ := trodVars_none hV
  obtain ⟨rfl, rfl, rfl⟩ := trodAll_none hA
  clear hA0 hval0
  simp only [List.append_nil] at hW'
  refine (numbersWalk W).mono fun e W' ⟨he, hg⟩ => ?_
  subst he
  exact ⟨_, rfl, post_of_same (pa := []) (pv := []) hW' (fun _ _ _ => trodAll_mk1 (shut_bool Try.underlying4 _)) (fun sp _ => trodAll_mk0) (fun _ _ => rfl) rfl
    (hg.frame _) hg.2.1 (ok_one (by kernel_rfl) rfl (okWide_bool_mk Try.underlying4 _))⟩

theorem numbers : Rows.KindsNumbersSaid :=
  OpenClaim.holds_of_wide 3 Try.f3 rfl rfl rfl rfl rfl rfl rfl ⟨rfl, rfl, rfl, rfl, rfl⟩ rfl rfl rfl rfl rfl (by kernel_rfl) Try.func3 (by kernel_rfl)
    (of_decide_eq_true (by kernel_rfl)) (by unfold Func.isWrapper; first | (rw [if_pos (by decide +kernel)]; kernel_rfl) | (rw [if_neg (by decide +kernel)]; exact ⟨rfl, rfl⟩))
    (fun os started H enc _ => numbersLifted os started H enc)
end Go.Proofs.Ytnehdpiiijbhhaa
