/- A part of the proof that the machine of AM is sound: each lemma is under its own hypotheses alone. -/
import Derived.Test.YtnehdpiiijbhhaaAMRegion
set_option autoImplicit false
set_option linter.unusedVariables false
set_option linter.unusedSimpArgs false
namespace Go.AM
open Go Go.RowKit

theorem ExQ.trans {E : Cfg} {B : Base} {c c1 : Ctx} {k k1 m : Nat} {ex : Ex} {st' : St} {e : Exit} {a' : Act} {w' : World} (h : ExQ E B c1 k1 ex st' m e a' w') (hle : LeK k c c1) (hk : k ≤ k1) : ExQ E B c k ex st' m e a' w' := by
  obtain ⟨c', q1, q2, q3, q4, q5, q6⟩ := h
  exact ⟨c', q1, hle.trans (q2.sub hk), q3, q4, Nat.le_trans hk q5, q6⟩

theorem ExQ.here {E : Cfg} {B : Base} {c : Ctx} {ex : Ex} {st : St} {a : Act} {e : Exit} (h : StR E B c st a) (hx : ExM c ex e) : ExQ E B c st.h.length ex st a.tmps.size e a c.w :=
  ⟨c, rfl, (Le.refl c).k _, h, rfl, Nat.le_refl _, hx⟩

def ExecS (E : Cfg) (n : Nat) : Prop := ∀ code st ex st', exec E n code st = some (ex, st') → ∀ (B : Base) (c : Ctx) (a : Act) (m : Nat), codeOk m code = true → m ≤ a.tmps.size → StR E B c st a →
  code.wp E.P (ExQ E B c st.h.length ex st' a.tmps.size) a c.w

/-- Within a loop, at the head of a round. -/
def LoopIn (P : Program) (c : Code) (Q : Exit → Act → World → Prop) (a : Act) (w : World) : Prop :=
  ∀ (b : Frame) (k : List Item) (cs : List Frame), ∃ e a' w', Q e a' w' ∧ Arrives P (lone (b.at a (.code c :: .inLoop c :: k)) cs w) b k cs e a' w'

theorem wp_loopIn {P : Program} {c : Code} {Q : Exit → Act → World → Prop} {a : Act} {w : World} (h : LoopIn P c Q a w) : (Code.loop c).wp P Q a w := fun b k cs =>
  let ⟨e, a', w', hq, harr⟩ := h b k cs
  ⟨e, a', w', hq, .of_steps (.one step_loop) harr⟩

theorem loopIn_round {P : Program} {c : Code} {Q : Exit → Act → World → Prop} {a : Act} {w : World} (h : c.wp P (Exit.then (LoopIn P c Q) Q) a w) : LoopIn P c Q a w := by
  intro b k cs
  obtain ⟨e, a₁, w₁, hq, harr⟩ := h b (.inLoop c :: k) cs
  cases e with
  | normal =>
    obtain ⟨e₂, a₂, w₂, hq₂, harr₂⟩ := hq b k cs
    exact ⟨e₂, a₂, w₂, hq₂, .of_steps (Steps.trans harr (.one step_inLoop)) harr₂⟩
  | exit id => exact ⟨_, a₁, w₁, hq, .pass (x := .inLoop c) rfl (fun _ _ => .inl (by simp)) harr⟩
  | goto l => exact ⟨_, a₁, w₁, hq, .pass (x := .inLoop c) rfl (fun _ _ => .inl (by simp)) harr⟩
  | ret => exact ⟨_, a₁, w₁, hq, .pass (x := .inLoop c) rfl (fun _ _ => .inl (by simp)) harr⟩
  | panic ch => exact ⟨_, a₁, w₁, hq, .pass (x := .inLoop c) rfl (fun _ _ => .inl (by simp)) harr⟩
  | outgrown => exact ⟨_, a₁, w₁, hq, .pass (x := .inLoop c) rfl (fun _ _ => .inl (by simp)) harr⟩

def LoopS (E : Cfg) (n : Nat) : Prop := ∀ b n0 t0 st ex st', loopE E n b n0 t0 st = some (ex, st') → ∀ (B : Base) (c : Ctx) (a : Act) (m : Nat), codeOk m b = true → m ≤ a.tmps.size → StR E B c st a → n0 ≤ st.h.length →
  LoopIn E.P b (ExQ E B c n0 ex st' a.tmps.size) a c.w

theorem loop_step {E : Cfg} (hE : CfgOk E) {n : Nat} (hx : ExecS E n) (hl : LoopS E n) : LoopS E (n + 1) := by
  intro b n0 t0 st ex st' e B c a m hok hm hst hn0
  rw [loopE] at e
  refine loopIn_round ?_
  cases hex : exec E n b st with
  | none => rw [hex] at e; cases e
  | some p =>
    obtain ⟨ex1, st1⟩ := p
    refine wp_mono (hx _ _ _ _ hex B c a m hok hm hst) fun en a1 w1 hq => ?_
    have hq' := hq
    obtain ⟨c1, rfl, q2, q3, q4, q5, q6⟩ := hq
    rw [hex] at e
    cases ex1 with
    | normal =>
      simp only at e
      cases en with
      | normal =>
        split at e
        · next st2 hgc =>
          have hst1 : StR E B c1 { st1 with t := t0.like st1.t } a1 := ⟨q3.hh, q3.hB, q3.hg, q3.ht.like, q3.hd⟩
          obtain ⟨c2, r1, r2, r3, r4⟩ := gc_sound hE.closed (n0 := n0) (by simp only; omega) hst1 hgc
          simp only [Exit.then]
          have := hl b n0 t0 st2 ex st' e B c2 a1 m hok (by rw [q4]; exact hm) r3 r4
          rw [r1, q4] at this
          intro bb k cs
          obtain ⟨e', a', w', hQ, harr⟩ := this bb k cs
          exact ⟨e', a', w', hQ.trans ((q2.sub hn0).trans r2) (Nat.le_refl _), harr⟩
        · cases e
      | _ => exact q6.elim
    | exit i =>
      simp only at e
      cases e
      cases en with
      | exit j => exact hq'.trans ((Le.refl c).k _) hn0
      | _ => exact q6.elim
    | ret =>
      simp only at e
      cases e
      cases en with
      | ret => exact hq'.trans ((Le.refl c).k _) hn0
      | _ => exact q6.elim
    | pan x =>
      simp only at e
      cases e
      cases en with
      | panic ch => exact hq'.trans ((Le.refl c).k _) hn0
      | _ => exact q6.elim

theorem T.get_picks (t : T) (i : Nat) : ∀ l, (T.picks t l).get i = .undef ∨ (T.picks t l).get i = t.get i
  | [] => .inl (T.get_e i)
  | j :: l => by
    rw [T.picks, T.get_set]
    by_cases h : j = i
    · subst h; rw [if_pos rfl]; exact .inr rfl
    · rw [if_neg h]; exact T.get_picks t i l

theorem TR.picks {c : Ctx} {t : T} {a : Act} (h : TR c t a) (l : List Nat) : TR c (t.picks l) a := fun i => by
  rcases T.get_picks t i l with h1 | h1
  · rw [h1]; trivial
  · rw [h1]; exact h i

theorem prune_h (id : Nat) (st : St) : (prune id st).h = st.h := by unfold prune; split <;> rfl

theorem StR.prune {E : Cfg} {B : Base} {c : Ctx} {st : St} {a : Act} (k : StR E B c st a) (id : Nat) : StR E B c (prune id st) a := by
  unfold AM.prune
  split
  · exact ⟨k.hh, k.hB, k.hg, k.ht.picks _, k.hd⟩
  · exact k

theorem exec_step {E : Cfg} (hE : CfgOk E) {n : Nat} (ih : ∀ m < n, ∀ f, RunOk E.P E.G f (fun args h => callF E m f args h)) (hx : ExecS E n) (hl : LoopS E n) : ExecS E (n + 1) := by
  intro code st ex st' e B c a m hok hm hst
  cases code with
  | skip => rw [exec] at e; cases e; exact wp_skip (.here hst trivial)
  | label l => rw [exec] at e; cases e; exact wp_label (.here hst trivial)
  | seq x y =>
    simp only [codeOk, Bool.and_eq_true] at hok
    rw [exec] at e
    refine wp_seq ?_
    cases hex : exec E n x st with
    | none => rw [hex] at e; cases e
    | some p =>
      obtain ⟨ex1, st1⟩ := p
      refine wp_mono (hx _ _ _ _ hex B c a m hok.1 hm hst) fun en a1 w1 hq => ?_
      have hq' := hq
      obtain ⟨c1, rfl, q2, q3, q4, q5, q6⟩ := hq
      rw [hex] at e
      cases ex1 with
      | normal =>
        simp only at e
        cases en with
        | normal =>
          simp only [Exit.then]
          have := hx _ _ _ _ e B c1 a1 m hok.2 (by rw [q4]; exact hm) q3
          rw [q4] at this
          exact wp_mono this fun e' a' w' hQ => hQ.trans q2 q5
        | _ => exact q6.elim
      | exit i =>
        simp only at e
        cases e
        cases en with
        | exit j => exact hq'
        | _ => exact q6.elim
      | ret =>
        simp only at e
        cases e
        cases en with
        | ret => exact hq'
        | _ => exact q6.elim
      | pan x =>
        simp only at e
        cases e
        cases en with
        | panic ch => exact hq'
        | _ => exact q6.elim
  | cond g x y =>
    simp only [codeOk, Bool.and_eq_true] at hok
    rw [exec] at e
    have hg := ev_rel hst.hg hst.ht g
    split at e
    · next hv =>
      rw [hv] at hg
      exact wp_cond_true hg.2 (hx _ _ _ _ e B c a m hok.1 hm hst)
    · next hv =>
      rw [hv] at hg
      exact wp_cond_false hg.2 (hx _ _ _ _ e B c a m hok.2 hm hst)
    · cases e
  | block id b =>
    simp only [codeOk] at hok
    rw [exec] at e
    refine wp_block ?_
    cases hex : exec E n b st with
    | none => rw [hex] at e; cases e
    | some p =>
      obtain ⟨ex1, st1⟩ := p
      refine wp_mono (hx _ _ _ _ hex B c a m hok hm hst) fun en a1 w1 hq => ?_
      have hq' := hq
      obtain ⟨c1, rfl, q2, q3, q4, q5, q6⟩ := hq
      rw [hex] at e
      cases ex1 with
      | normal =>
        simp only at e
        cases e
        cases en with
        | normal => exact hq'
        | _ => exact q6.elim
      | exit i =>
        simp only at e
        cases en with
        | exit j =>
          simp only [ExM] at q6
          subst q6
          simp only [Exit.inBlock]
          by_cases hi : i = id
          · rw [if_pos hi] at e ⊢
            cases e
            exact ⟨c1, rfl, q2, q3, q4, q5, trivial⟩
          · rw [if_neg hi] at e ⊢
            cases e
            exact ⟨c1, rfl, q2, q3, q4, q5, rfl⟩
        | _ => exact q6.elim
      | ret =>
        simp only at e
        cases e
        cases en with
        | ret => exact hq'
        | _ => exact q6.elim
      | pan x =>
        simp only at e
        cases e
        cases en with
        | panic ch => exact hq'
        | _ => exact q6.elim
  | scope b =>
    simp only [codeOk] at hok
    rw [exec] at e
    refine wp_scope_straight (wp_mono (hx _ _ _ _ e B c a m hok hm hst) fun en a1 w1 hq => ?_)
    cases en with
    | goto l =>
      obtain ⟨c1, _, _, _, _, _, q6⟩ := hq
      cases ex <;> exact q6.elim
    | _ => exact hq
  | loop b =>
    simp only [codeOk] at hok
    rw [exec] at e
    exact wp_loopIn (hl b _ _ st ex st' e B c a m hok hm hst (Nat.le_refl _))
  | exit id => rw [exec] at e; cases e; exact wp_exit (.here hst rfl)
  | ret => rw [exec] at e; cases e; exact wp_ret (.here hst trivial)
  | region id ops draw =>
    rw [exec] at e
    cases hr : regionE (stepOf draw (fun slot o st => opE E n slot o st)) ops draw st with
    | none => rw [hr] at e; cases e
    | some p =>
      obtain ⟨ex1, st1⟩ := p
      rw [hr] at e
      refine wp_mono (region_sound hE ih hok hr hst hm) fun en a1 w1 hq => ?_
      cases ex1 with
      | normal =>
        cases e
        obtain ⟨c1, q1, q2, q3, q4, q5, q6⟩ := hq
        exact ⟨c1, q1, q2, StR.prune q3 id, q4, by rw [prune_h]; exact q5, q6⟩
      | _ => cases e; exact hq
  | _ => rw [exec] at e <;> first | (cases e; done) | simp
end Go.AM
