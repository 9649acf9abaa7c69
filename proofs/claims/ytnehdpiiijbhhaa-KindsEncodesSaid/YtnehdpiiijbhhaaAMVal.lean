/- A part of the proof that the machine of AM is sound: each lemma is under its own hypotheses alone. -/
import Derived.Test.YtnehdpiiijbhhaaAMSl
import Derived.Laws.Small
import Derived.Laws.StructEq
set_option autoImplicit false
set_option linter.unusedVariables false
set_option linter.unusedSimpArgs false
namespace Go.AM
open Go Go.RowKit
variable {P : Program}

theorem pureRun_sound {α : Type} : ∀ (s : Sem α) {a : α}, pureRun P s = some a → ∀ w, s.run P w = .ok a w
  | .pure a, b, h, w => by simp [pureRun] at h; subst h; rfl
  | .program k, b, h, w => by
    simp only [pureRun] at h
    have := pureRun_sound (k P) h w
    simpa [Sem.run] using this
  | .load _ _ _, _, h, _ => by simp [pureRun] at h
  | .store _ _ _ _, _, h, _ => by simp [pureRun] at h
  | .new _ _, _, h, _ => by simp [pureRun] at h
  | .shape _ _, _, h, _ => by simp [pureRun] at h
  | .freeze _ _ _, _, h, _ => by simp [pureRun] at h
  | .frozen _ _, _, h, _ => by simp [pureRun] at h
  | .getObj _ _, _, h, _ => by simp [pureRun] at h
  | .setObj _ _ _, _, h, _ => by simp [pureRun] at h
  | .choose _ _, _, h, _ => by simp [pureRun] at h
  | .sys _ _, _, h, _ => by simp [pureRun] at h
  | .mark _ _, _, h, _ => by simp [pureRun] at h
  | .halt _, _, h, _ => by simp [pureRun] at h

theorem mkV_sound {s : Sem Value} {x : AV} (h : mkV (pureRun P s) = some x) (c : Ctx) : ∃ v, s.run P c.w = .ok v c.w ∧ Rel c x v := by
  unfold mkV at h
  split at h
  · next v hv =>
    split at h
    · next hp => cases h; exact ⟨v, pureRun_sound s hv c.w, hp, rfl⟩
    · cases h
  · cases h

theorem eqOne_sound {c : Ctx} {s : Bool} {x y : AV} {u v : Value} {b : Bool} (h : eqOne s x y = some b) (hx : Rel c x u) (hy : Rel c y v) :
    (s = true ∧ ∃ k m n, u = .int k m ∧ v = .int k n ∧ b = (m == n)) ∨ (s = false ∧ ∃ m n, u = .bool m ∧ v = .bool n ∧ b = (m == n)) := by
  unfold eqOne at h
  split at h
  · next k m k' n =>
    obtain ⟨_, rfl⟩ := hx
    obtain ⟨_, rfl⟩ := hy
    split at h
    · next hk => subst hk; cases h; exact .inl ⟨rfl, _, _, _, rfl, rfl, rfl⟩
    · cases h
  · obtain ⟨_, rfl⟩ := hx
    obtain ⟨_, rfl⟩ := hy
    cases h; exact .inr ⟨rfl, _, _, rfl, rfl, rfl⟩
  · cases h

/-- What is to be known of the types that are compared cell by cell. -/
def EqOk (P : Program) (eqT : TypeId → List Bool) : Prop :=
  ∀ t, eqT t ≠ [] → ∀ (c : Ctx) (l m : List AV) (ys zs : List Value) (b : Bool), eqShape (eqT t) l m = some b → RelL c l ys → RelL c m zs → l.all one = true → m.all one = true → ∀ (x y : Operand) (w : World),
    ((do eqGuard .eql t x y (.agg ys.toArray) (.agg zs.toArray); binOp .eql t (.agg ys.toArray) (.agg zs.toArray) : Sem Value)).run P w = .ok (.bool b) w ∧
    ((do eqGuard .neq t x y (.agg ys.toArray) (.agg zs.toArray); binOp .neq t (.agg ys.toArray) (.agg zs.toArray) : Sem Value)).run P w = .ok (.bool (!b)) w

theorem run_equalIn_nil (d : Nat) {t : TypeId} {ms : Array (String × TypeId)} (h : P.underlying t = some (.interface ms)) (w : World) : (Op.equalIn (d + 1) t .nilIface .nilIface).run P w = .ok true w := by
  simp [Op.equalIn, run_underlying h]
theorem run_equal_nil {t : TypeId} {ms : Array (String × TypeId)} (h : P.underlying t = some (.interface ms)) (w : World) : (Op.equal t .nilIface .nilIface).run P w = .ok true w := run_equalIn_nil 9999 h w
theorem run_equalIn_some (d : Nat) {t u : TypeId} {x : Value} {ms : Array (String × TypeId)} (h : P.underlying t = some (.interface ms)) (w : World) : (Op.equalIn (d + 1) t (.iface u x) .nilIface).run P w = .ok false w := by
  simp [Op.equalIn, run_underlying h]
theorem run_equal_some {t u : TypeId} {x : Value} {ms : Array (String × TypeId)} (h : P.underlying t = some (.interface ms)) (w : World) : (Op.equal t (.iface u x) .nilIface).run P w = .ok false w := run_equalIn_some 9999 h w

theorem ite_some {α : Type} {p : Prop} [Decidable p] {a : Option α} {x : α} (h : (if p then a else none) = some x) : p ∧ a = some x := by
  split at h
  · exact ⟨by assumption, h⟩
  · cases h

theorem bin_sound {eqT : TypeId → List Bool} (hE : EqOk P eqT) {c : Ctx} {lit : Bool} {op : BinOp} {t : TypeId} {x y z : AV} {u v : Value} (ox oy : Operand) (h : binAV P eqT lit op t x y = some z) (hx : Rel c x u) (hy : Rel c y v)
    (hlit : lit = true → (isLit ox || isLit oy) = true) :
    ∃ r, ((do eqGuard op t ox oy u v; binOp op t u v : Sem Value)).run P c.w = .ok r c.w ∧ Rel c z r := by
  unfold binAV at h
  split at h
  · next k a k' b =>
    obtain ⟨_, rfl⟩ := hx
    obtain ⟨_, rfl⟩ := hy
    rw [eqGuard_at_int]
    simp only [pure_bind]
    cases op <;> simp only at h
    case shl =>
      split at h
      · cases h
      · next hb => cases h; exact ⟨_, by simp [binOp, Op.shift, hb], rfl, rfl⟩
    case shr =>
      split at h
      · cases h
      · next hb => cases h; exact ⟨_, by simp [binOp, Op.shift, hb], rfl, rfl⟩
    case and =>
      split at h
      case isFalse => cases h
      case isTrue hk => subst hk; obtain ⟨r, h1, h2⟩ := mkV_sound h c; exact ⟨r, by simpa [binOp] using h1, h2⟩
    case or =>
      split at h
      case isFalse => cases h
      case isTrue hk => subst hk; obtain ⟨r, h1, h2⟩ := mkV_sound h c; exact ⟨r, by simpa [binOp] using h1, h2⟩
    case xor =>
      split at h
      case isFalse => cases h
      case isTrue hk => subst hk; obtain ⟨r, h1, h2⟩ := mkV_sound h c; exact ⟨r, by simpa [binOp] using h1, h2⟩
    case andNot =>
      split at h
      case isFalse => cases h
      case isTrue hk => subst hk; obtain ⟨r, h1, h2⟩ := mkV_sound h c; exact ⟨r, by simpa [binOp] using h1, h2⟩
    all_goals (replace h := ite_some h; obtain ⟨hk, h⟩ := h; subst hk; simp only [binInt] at h)
    case quo =>
      split at h
      · cases h
      · next hb => cases h; exact ⟨_, by simp [binOp, Op.intDiv, hb], rfl, rfl⟩
    case rem =>
      split at h
      · cases h
      · next hb => cases h; exact ⟨_, by simp [binOp, Op.intDiv, hb], rfl, rfl⟩
    all_goals (cases h; exact ⟨_, by simp [binOp, Op.intArith, Op.intCmp] <;> rfl, rfl, rfl⟩)
  · next k a k' b =>
    obtain ⟨_, rfl⟩ := hx
    obtain ⟨_, rfl⟩ := hy
    rw [eqGuard_at_float]
    simp only [pure_bind]
    exact mkV_sound h c
  · obtain ⟨_, rfl⟩ := hx
    obtain ⟨_, rfl⟩ := hy
    rw [eqGuard_at_string]
    simp only [pure_bind]
    obtain ⟨r, h1, h2⟩ := mkV_sound h c
    exact ⟨r, by simpa [binOp] using h1, h2⟩
  · next m n =>
    obtain ⟨_, rfl⟩ := hx
    obtain ⟨_, rfl⟩ := hy
    rw [eqGuard_at_bool]
    simp only [pure_bind]
    split at h
    · next hu => cases h; exact ⟨_, by simp [binOp, run_equal_bool _ _ _ _ hu], rfl, rfl⟩
    · next hu => cases h; exact ⟨.bool (!(m == n)), by simp [binOp, run_equal_bool _ _ _ _ hu], rfl, by cases m <;> cases n <;> rfl⟩
    · cases h
  · next l m =>
    obtain ⟨ys, rfl, hl, ol⟩ := hx
    obtain ⟨zs, rfl, hm, om⟩ := hy
    split at h
    · cases h
    · next ht =>
      split at h
      · next b hb => cases h; exact ⟨_, (hE t ht c l m ys zs b hb hl hm ol om ox oy c.w).1, rfl, rfl⟩
      · cases h
    · next ht =>
      split at h
      · next b hb => cases h; exact ⟨_, (hE t ht c l m ys zs b hb hl hm ol om ox oy c.w).2, rfl, rfl⟩
      · cases h
    · cases h
  · obtain ⟨_, rfl⟩ := hx
    obtain ⟨_, rfl⟩ := hy
    have hg : lit = true → (eqGuard op t ox oy .nilIface .nilIface).run P c.w = .ok () c.w := by
      intro hl
      have := hlit hl
      cases ox <;> cases oy <;> first | (simp [isLit] at this; done) | (cases op <;> simp [eqGuard])
    split at h
    · next hu =>
      cases h
      refine ⟨_, ?_, rfl, rfl⟩
      simp only [Sem.run_bind, hg rfl, Result.andThen_ok]
      simp [binOp, run_equal_nil hu, run_equal_some hu]
    · next hu =>
      cases h
      refine ⟨_, ?_, rfl, rfl⟩
      simp only [Sem.run_bind, hg rfl, Result.andThen_ok]
      simp [binOp, run_equal_nil hu, run_equal_some hu]
    · cases h
  · next ti xi =>
    obtain ⟨z', rfl, _⟩ := hx
    obtain ⟨_, rfl⟩ := hy
    have hg : (eqGuard op t ox oy (.iface ti z') .nilIface).run P c.w = .ok () c.w := by
      cases op <;> simp [eqGuard]
    split at h
    · next hu =>
      cases h
      refine ⟨_, ?_, rfl, rfl⟩
      simp only [Sem.run_bind, hg, Result.andThen_ok]
      simp [binOp, run_equal_nil hu, run_equal_some hu]
    · next hu =>
      cases h
      refine ⟨_, ?_, rfl, rfl⟩
      simp only [Sem.run_bind, hg, Result.andThen_ok]
      simp [binOp, run_equal_nil hu, run_equal_some hu]
    · cases h
  · cases h
end Go.AM
