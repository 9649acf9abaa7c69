/- A law that the machine finds true is true in the model, and nothing that was there is turned; under the same conditions. -/
import Derived.Test.YtnehdpiiijbhhaaAMTop
import Derived.RowKit3
set_option autoImplicit false
set_option linter.unusedVariables false
set_option linter.unusedSimpArgs false
namespace Go.AM
open Go Go.RowKit

/-- Ahead of a law: no region; 'imm' is not written. -/
def Ctx.at (W : World) (imm : Nat → Prop) : Ctx := { ρ := fun _ _ => ⟨0, 0, 0, 0⟩, V := fun _ _ => False, imm := imm, w := W }

theorem HR.at {W : World} {imm : Nat → Prop} (hi : ∀ b, imm b → b < W.heap.size) : HR (Ctx.at W imm) [] where
  arr := fun r ver ro sz rf l h => by simp at h
  nomap := fun r rf l h => by simp at h
  sep := fun r r' g g' b h => by simp at h
  vb := fun r v h => h.elim
  im := hi

theorem BR.at {W : World} {imm : Nat → Prop} : BR ⟨W, fun _ => False, imm⟩ (Ctx.at W imm) [] :=
  ⟨Nat.le_refl _, rfl, rfl, rfl, fun _ _ _ => rfl, fun r g b h => by simp at h, fun _ h => h, fun _ h => .inl h, fun _ h => h⟩

theorem grown_of {W : World} {imm : Nat → Prop} {c : Ctx} {h : Heap} (k : BR ⟨W, fun _ => False, imm⟩ c h) : Grown W c.w := by
  have hf : ∀ b, b < W.heap.size → c.w.heap[b]? = W.heap[b]? := fun b hb => k.frame b hb (fun h => h)
  refine ⟨⟨k.os, k.output, fun i hi => ?_⟩, fun a => ?_, k.size⟩
  · rw [hf i hi]
    cases W.heap[i]? with
    | none => rfl
    | some o => cases o <;> simp
  · by_cases ha : a.block < W.heap.size
    · simp only [World.frozen?, hf _ ha]
    · have h1 : W.frozen? a = false := by
        have : W.heap[a.block]? = none := by simp; omega
        simp [World.frozen?, this]
      rw [h1]
      cases h2 : c.w.frozen? a with
      | false => rfl
      | true => have := k.fz a h2; simp only at this; rw [h1] at this; cases this

/-- A law that the machine finds true is true. -/
theorem calls_true {E : Cfg} (hE : CfgOk E) (hP : progOk' E.P) {f : FuncId} {n : Nat} {args : List AV} {h' : Heap} (e : callF E n f args [] = some (.ret (.v (.bool true)), h')) {W : World} {imm : Nat → Prop}
    (hi : ∀ b, imm b → b < W.heap.size) (hg : GR (Ctx.at W imm) E.G) {ys : Array Value} (hx : RelL (Ctx.at W imm) args ys.toList) :
    Calls E.P f ys W fun e w' => e = .returned (.bool true) ∧ Grown W w' := by
  refine Calls.mono (((sound hE hP n).1 n (Nat.le_refl _)) f args [] _ _ e (Ctx.at W imm) ⟨W, fun _ => False, imm⟩ ys (HR.at hi) BR.at hg hx) ?_
  rintro en w' ⟨c', rfl, _, _, hB, ho⟩
  cases en with
  | returned v =>
    obtain ⟨_, rfl⟩ := ho
    exact ⟨rfl, grown_of hB⟩
  | panicked ch => exact ho.elim
  | outgrown => exact ho.elim
end Go.AM
