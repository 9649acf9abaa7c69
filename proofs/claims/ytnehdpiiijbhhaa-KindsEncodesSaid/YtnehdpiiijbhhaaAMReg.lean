/- A part of the proof that the machine of AM is sound: each lemma is under its own hypotheses alone. -/
import Derived.Test.YtnehdpiiijbhhaaAMPerm
import Derived.Conc.MuLone
set_option autoImplicit false
set_option linter.unusedVariables false
set_option linter.unusedSimpArgs false
namespace Go.AM
open Go Go.RowKit
variable {P : Program}

/-- The deferred calls. -/
def DR (c : Ctx) : Dfs → List Deferred → Prop
  | [], ds => ds = []
  | (f, l) :: d, ds => ∃ cap dargs ds', ds = { target := .fn (.func f) cap, args := dargs } :: ds' ∧ RelL c l (dargs ++ cap).toList ∧ DR c d ds'

def dRefs (d : Dfs) : List Nat := refsL (d.map (·.2)).flatten

theorem DR.ren {c c' : Ctx} {σ : Nat → Nat} (hi : ImmLe c c') : ∀ {d : Dfs} {ds : List Deferred}, Takes σ c c' (dRefs d) → DR c d ds → DR c' (d.map fun (f, l) => (f, renL σ l)) ds
  | [], ds, _, h => h
  | (f, l) :: d, ds, ht, h => by
    obtain ⟨cap, dargs, ds', rfl, h1, h2⟩ := h
    refine ⟨cap, dargs, ds', rfl, RelL_ren hi _ _ (ht.sub fun r hr => ?_) h1, DR.ren hi (ht.sub fun r hr => ?_) h2⟩
    · obtain ⟨x, hx, hr⟩ := of_mem_refsL hr
      exact mem_refsL (by simp only [List.map_cons, List.flatten_cons, List.mem_append]; exact .inl hx) hr
    · obtain ⟨x, hx, hr⟩ := of_mem_refsL hr
      exact mem_refsL (by simp only [List.map_cons, List.flatten_cons, List.mem_append]; exact .inr hx) hr

theorem DR.mono {c c' : Ctx} (h : Le c c') : ∀ {d : Dfs} {ds : List Deferred}, DR c d ds → DR c' d ds
  | [], ds, k => k
  | (f, l) :: d, ds, k => by
    obtain ⟨cap, dargs, ds', rfl, h1, h2⟩ := k
    exact ⟨cap, dargs, ds', rfl, h1.mono h, h2.mono h⟩

structure StR (E : Cfg) (B : Base) (c : Ctx) (st : St) (a : Act) : Prop where
  hh : HR c st.h
  hB : BR B c st.h
  hg : GR c E.G
  ht : TR c st.t a
  hd : DR c st.d a.defers

def ExtOk (E : Cfg) : Prop := ∀ f g, E.ext f = some g → ∀ args x, g args = some x → ∀ (c : Ctx) (ys : Array Value), RelL c args ys.toList →
  ∃ v, Rel c x v ∧ ∀ (o : Oper) (a : Act) (next : Act → World → Prop) (Q : Exit → Act → World → Prop), next (a.put o.dst v) c.w → o.upon E.P a next Q ((callFunc f ys).run E.P c.w)

def NatOk (E : Cfg) : Prop := ∀ f g, E.nat f = some g → RunOk E.P E.G f g ∧ ∃ fn b, E.P.funcs[f]? = some fn ∧ fn.body = some b

/-- What is to be known of a program once. -/
structure CfgOk (E : Cfg) : Prop where
  eqT : EqOk E.P E.eqT
  closed : Closed E.G
  follows : E.P.follows .mixedOrders = true
  name : ∀ (f : FuncId) (fn : Func), E.P.funcs[f]? = some fn → (fn.name == "runtime.NumGoroutine") = false
  ext : ExtOk E
  nat : NatOk E

theorem wanted_sound {c : Ctx} {ops : Array Oper} {t : T} {a : Act} (ht : TR c t a) {o : Oper} {b : Bool} (e : wantedAV ops.toList t o = some b) : Region.wanted o (yielded ops a.tmps) = b := by
  unfold wantedAV at e
  unfold Region.wanted
  cases hg : o.guard with
  | none => rw [hg] at e; cases e; rfl
  | some p =>
    obtain ⟨j, w⟩ := p
    rw [hg] at e
    simp only at e ⊢
    unfold yielded
    have hj' : ops[j]? = ops.toList[j]? := by simp
    rw [hj']
    cases hj : ops.toList[j]? with
    | none => rw [hj] at e; cases e; rfl
    | some q =>
      rw [hj] at e
      simp only at e
      simp only [Option.bind_some]
      cases hd : q.dst with
      | none => rw [hd] at e; cases e; rfl
      | some d =>
        rw [hd] at e
        simp only at e
        simp only [Option.bind_some]
        have hr := ht d
        rw [Array.getD_eq_getD_getElem?] at hr
        split at e
        · next b' hv =>
          cases e
          rw [hv] at hr
          obtain ⟨_, hr⟩ := hr
          cases hx : a.tmps[d]? with
          | none => rw [hx] at hr; cases hr
          | some y =>
            rw [hx] at hr
            simp only [Option.getD_some] at hr
            subst hr
            cases b' <;> cases w <;> rfl
        · cases e
        · next y hno hv =>
          cases e
          rw [hv] at hr
          obtain ⟨_, hr⟩ := hr
          cases hx : a.tmps[d]? with
          | none => rfl
          | some z =>
            rw [hx] at hr
            simp only [Option.getD_some] at hr
            subst hr
            cases z <;> first | rfl | exact absurd rfl (hno _)
        · next l hv =>
          cases e
          rw [hv] at hr
          obtain ⟨ys, hr, _⟩ := hr
          cases hx : a.tmps[d]? with
          | none => rfl
          | some z =>
            rw [hx] at hr
            simp only [Option.getD_some] at hr
            subst hr
            rfl
        · cases e

/-- What an operation of the machine comes to, in the model. -/
def OpS (E : Cfg) (step : Step) : Prop := ∀ slot (o : Oper) (st : St) (r : R) (d' : Dfs), step slot o st = some (r, d') → ∀ (B : Base) (c : Ctx) (a : Act), StR E B c st a →
  (match r with | .val _ h' _ => st.h.length ≤ h'.length | .pan _ h' => st.h.length ≤ h'.length ∧ d' = st.d) ∧
  ∀ (next : Act → World → Prop) (Q : Exit → Act → World → Prop),
    (∀ x h' f, r = .val x h' f → ∀ v c' (a' : Act), Le c c' → HR c' h' → BR B c' h' → Rel c' x v → a'.tmps = a.tmps → DR c' d' a'.defers → next (a'.put o.dst v) c'.w) →
    (∀ x h', r = .pan x h' → ∀ v c', Le c c' → HR c' h' → BR B c' h' → Rel c' x v → Q (.panic [{ v, recovered := false }]) a c'.w) →
    o.upon E.P a next Q ((execOp a.eval o).run E.P c.w)

theorem GR.le {c c' : Ctx} {G : Nat → AV} (hg : GR c G) (h : Le c c') : GR c' G := hg.mono h

def ExM (c : Ctx) : Ex → Exit → Prop
  | .normal, .normal => True
  | .exit i, .exit j => i = j
  | .ret, .ret => True
  | .pan x, .panic ch => ∃ v, ch = [{ v, recovered := false }] ∧ Rel c x v
  | _, _ => False

def ExQ (E : Cfg) (B : Base) (c : Ctx) (k : Nat) (ex : Ex) (st' : St) (m : Nat) (e : Exit) (a' : Act) (w' : World) : Prop :=
  ∃ c', c'.w = w' ∧ LeK k c c' ∧ StR E B c' st' a' ∧ a'.tmps.size = m ∧ k ≤ st'.h.length ∧ ExM c' ex e

theorem put_size (a : Act) (d : Option Tmp) (v : Value) : (a.put d v).tmps.size = a.tmps.size := by cases d <;> simp [Act.put]
theorem put_defers (a : Act) (d : Option Tmp) (v : Value) : (a.put d v).defers = a.defers := by cases d <;> simp [Act.put]

theorem TR.tmps {c : Ctx} {t : T} {a a' : Act} (h : TR c t a) (e : a'.tmps = a.tmps) : TR c t a' := fun i => by rw [e]; exact h i

theorem StR.put {E : Cfg} {B : Base} {c c' : Ctx} {st : St} {a a' : Act} (k : StR E B c st a) (hl : Le c c') {h' : Heap} (hh : HR c' h') (hB : BR B c' h') {x : AV} {v : Value} (hx : Rel c' x v) (ha : a'.tmps = a.tmps)
    {d' : Dfs} (hd : DR c' d' a'.defers) {o : Oper} (hdst : ∀ i, o.dst = some i → i < a.tmps.size) : StR E B c' { st with t := putT st.t o.dst x, h := h', d := d' } (a'.put o.dst v) :=
  ⟨hh, hB, k.hg.le hl, ((k.ht.mono hl).tmps ha).put hx o.dst (by rw [ha]; exact hdst), by rw [put_defers]; exact hd⟩

theorem undef_tup (c : Ctx) : Rel c (.tup []) undef := ⟨[], rfl, rfl⟩

/-- The operations of a list, one behind the other. -/
theorem ix_sound {E : Cfg} {step : Step} (hs : OpS E step) {ops : Array Oper} {slotOf : Nat → Nat} {B : Base} {c0 : Ctx} {k0 m : Nat} {Q : Exit → Act → World → Prop} : ∀ {l : List Nat} {st st' : St} {ex : Ex} {tr : List (Nat × FP)},
    runIx step ops.toList slotOf l st = some (ex, st', tr) → ∀ {c : Ctx} {a : Act}, StR E B c st a → LeK k0 c0 c → k0 ≤ st.h.length → a.tmps.size = m → (∀ o ∈ ops.toList, ∀ i, o.dst = some i → i < m) →
    (∀ e a' w', ExQ E B c0 k0 ex st' m e a' w' → Q e a' w') → wpOps E.P ops Q l a c.w
  | [], st, st', ex, tr, e, c, a, hst, hle, hk, hm, hdst, hQ => by
    simp only [runIx, Option.some.injEq, Prod.mk.injEq] at e
    obtain ⟨rfl, rfl, _⟩ := e
    exact hQ _ _ _ ⟨c, rfl, hle, hst, hm, hk, trivial⟩
  | i :: l, st, st', ex, tr, e, c, a, hst, hle, hk, hm, hdst, hQ => by
    rw [runIx] at e
    have hoi : ops[i]? = ops.toList[i]? := by simp
    simp only [wpOps, hoi]
    cases ho : ops.toList[i]? with
    | none => simp only [one1, ho] at e; cases e
    | some o =>
      simp only
      have hd : ∀ i, o.dst = some i → i < a.tmps.size := by rw [hm]; exact hdst o (List.mem_of_getElem? ho)
      simp only [one1, ho] at e
      cases hw : wantedAV ops.toList st.t o with
      | none => rw [hw] at e; cases e
      | some b =>
        rw [hw] at e
        rw [wanted_sound hst.ht hw]
        cases b with
        | false =>
          simp only at e
          simp only [Bool.false_eq_true, if_false]
          split at e
          · next ex2 st2 tr2 h2 =>
            cases e
            exact ix_sound hs h2 (hst.put (Le.refl c) hst.hh hst.hB (undef_tup c) rfl hst.hd hd) hle hk (by rw [put_size]; exact hm) hdst hQ
          · cases e
        | true =>
          simp only at e
          simp only [if_true]
          left
          simp only [Oper.wp]
          cases hstep : step (slotOf i) o st with
          | none => rw [hstep] at e; cases e
          | some p =>
            obtain ⟨r, d'⟩ := p
            obtain ⟨hlen, hop⟩ := hs _ _ _ _ _ hstep B c a hst
            rw [hstep] at e
            cases r with
            | val x h' f =>
              simp only at e hlen
              split at e
              · next ex2 st2 tr2 h2 =>
                cases e
                refine hop _ _ ?_ ?_
                · intro x' h'' f' er v c' a' k1 k2 k3 k4 k5 k6
                  cases er
                  exact ix_sound hs h2 (hst.put k1 k2 k3 k4 k5 k6 hd) (hle.trans (k1.k _)) (Nat.le_trans hk hlen) (by rw [put_size, k5]; exact hm) hdst hQ
                · intro x' h'' er; cases er
              · cases e
            | pan x h' =>
              simp only [Option.some.injEq, Prod.mk.injEq] at e hlen
              obtain ⟨rfl, rfl, _⟩ := e
              refine hop _ _ ?_ ?_
              · intro x' h'' f' er; cases er
              · intro x' h'' er v c' k1 k2 k3 k4
                cases er
                exact hQ _ _ _ ⟨c', rfl, hle.trans (k1.k _), ⟨k2, k3, hst.hg.le k1, hst.ht.mono k1, hst.hd.mono k1⟩, hm, Nat.le_trans hk hlen.1, ⟨v, rfl, k4⟩⟩
end Go.AM
