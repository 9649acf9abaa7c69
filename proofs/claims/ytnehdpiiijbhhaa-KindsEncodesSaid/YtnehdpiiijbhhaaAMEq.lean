/- A part of the proof that the machine of AM is sound: each lemma is under its own hypotheses alone. -/
import Derived.Test.YtnehdpiiijbhhaaAMLaw
import Derived.Laws.StructEq
set_option autoImplicit false
set_option linter.unusedVariables false
set_option linter.unusedSimpArgs false
namespace Go.AM
open Go Go.RowKit
variable {P : Program}

theorem fields_run {c : Ctx} {l m : List AV} {ys zs : List Value} (hl : RelL c l ys) (hm : RelL c m zs) (ol : l.all one = true) (om : m.all one = true) (d : Nat) (w : World) :
    ∀ (sh : List Bool) (fs : List Field) (i : Nat) (b : Bool), flatFields P sh fs i = true → eqShape sh (l.drop i) (m.drop i) = some b →
      (Op.eqFields (d + 1) ys.toArray zs.toArray fs).run P w = .ok b w
  | [], [], i, b, _, he => by
    simp only [eqShape, Option.some.injEq] at he
    subst he
    simp [Op.eqFields]
  | [], f :: fs, i, b, hf, _ => by simp [flatFields] at hf
  | s :: sh, [], i, b, hf, _ => by simp [flatFields] at hf
  | s :: sh, f :: fs, i, b, hf, he => by
    simp only [flatFields, Bool.and_eq_true] at hf
    obtain ⟨⟨hn, ho, ht⟩, hfs⟩ := hf
    have ho := Nat.eq_of_beq_eq_true ho
    by_cases hi1 : i < l.length
    case neg =>
      rw [List.drop_eq_nil_of_le (by omega)] at he
      simp [eqShape] at he
    by_cases hi2 : i < m.length
    case neg =>
      rw [List.drop_eq_nil_of_le (as := m) (by omega), List.drop_eq_getElem_cons hi1] at he
      simp [eqShape] at he
    rw [List.drop_eq_getElem_cons hi1, List.drop_eq_getElem_cons hi2, eqShape] at he
    have hx := List.getElem?_eq_getElem hi1
    have hy := List.getElem?_eq_getElem hi2
    generalize l[i] = x at hx he
    generalize m[i] = y at hy he
    have hagg : aggT P f.type = some false := by
      unfold aggT
      cases hu : P.underlying f.type with
      | none => rw [hu] at ht; cases s <;> cases ht
      | some dd => rw [hu] at ht; cases dd <;> first | rfl | (cases s <;> cases ht)
    obtain ⟨u, p1, p2⟩ := run_part (P := P) (t := f.type) (off := i) (x := x) (by unfold AM.part; rw [hagg]; exact hx) hl ol w
    obtain ⟨v, q1, q2⟩ := run_part (P := P) (t := f.type) (off := i) (x := y) (by unfold AM.part; rw [hagg]; exact hy) hm om w
    have hname : f.name ≠ "_" := by simpa using hn
    have heq : ∀ r, eqOne s x y = some r → (Op.equalIn (d + 1) f.type u v).run P w = .ok r w := by
      intro r hr
      rcases eqOne_sound hr p2 q2 with ⟨rfl, k, a, b', rfl, rfl, rfl⟩ | ⟨rfl, a, b', rfl, rfl, rfl⟩
      · cases hu : P.underlying f.type with
        | none => rw [hu] at ht; cases ht
        | some dd =>
          rw [hu] at ht
          cases dd <;> first | (cases ht; done) | exact run_equalIn_int w d f.type k _ a b' hu
      · cases hu : P.underlying f.type with
        | none => rw [hu] at ht; cases ht
        | some dd =>
          rw [hu] at ht
          cases dd <;> first | (cases ht; done) | exact run_equalIn_bool w d f.type a b' hu
    simp only [Op.eqFields, if_pos hname, Sem.run_bind, ho, p1, q1, Result.andThen_ok]
    split at he
    · next hr =>
      rw [heq _ hr]
      simp only [Result.andThen_ok, Bool.not_true, Bool.false_eq_true, if_false]
      exact fields_run hl hm ol om d w sh fs (i + 1) b hfs he
    · next hr =>
      cases he
      rw [heq _ hr]
      simp
    · cases he

theorem eqOk_of {eqT : TypeId → List Bool} (h : ∀ t, eqT t ≠ [] → eqTOk P t (eqT t) = true) : EqOk P eqT := by
  intro t ht c l m ys zs b he hl hm ol om x y w
  have hk := h t ht
  unfold eqTOk at hk
  split at hk
  case h_2 => cases hk
  next fs hu =>
  simp only [Bool.and_eq_true, Bool.not_eq_true'] at hk
  obtain ⟨⟨hp, hg⟩, hf⟩ := hk
  have hfo : P.fieldsOf t = fs := by simp [Program.fieldsOf, hu]
  have hrun : (Op.equalIn 10000 t (.agg ys.toArray) (.agg zs.toArray)).run P w = .ok b w := by
    rw [run_equalIn_struct w 9999 t _ _ (by rw [hfo]; exact hu) hp, hfo]
    exact fields_run hl hm ol om 9998 w _ _ 0 b hf (by simpa using he)
  constructor
  · rw [Sem.run_bind, run_eqGuard_agg w .eql t x y _ _ hg]
    simp only [Result.andThen_ok]
    rw [run_eql_struct, hrun]; rfl
  · rw [Sem.run_bind, run_eqGuard_agg w .neq t x y _ _ hg]
    simp only [Result.andThen_ok]
    rw [run_neq_struct, hrun]; rfl
end Go.AM
