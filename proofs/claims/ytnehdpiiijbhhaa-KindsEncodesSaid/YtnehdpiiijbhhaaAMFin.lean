/- A part of the proof that the machine of AM is sound: each lemma is under its own hypotheses alone. -/
import Derived.Test.YtnehdpiiijbhhaaAMExec
set_option autoImplicit false
set_option linter.unusedVariables false
set_option linter.unusedSimpArgs false
namespace Go.AM
open Go Go.RowKit

theorem LeK.le {c c1 : Ctx} {h : Heap} (hh : HR c h) (hl : LeK h.length c c1) : Le c c1 :=
  ⟨fun r v hv => by
    obtain ⟨g, hg, _⟩ := hh.vb r v hv
    exact hl.v r (List.getElem?_eq_some_iff.1 hg).1 v hv, hl.i⟩

/-! Results -/
theorem loadRes_sound {P : Program} {c : Ctx} {h : Heap} {t : TypeId} {p x : AV} {f : FP} {v : Value} (hl : loadAV P h t p = some (x, f)) (hp : Rel c p v) (hh : HR c h) :
    ∃ y, (do loadVar t (← asAddr v) : Sem Value).run P c.w = .ok y c.w ∧ Rel c x y := by
  cases p <;> simp [loadAV] at hl
  case ptr r ver i off =>
    obtain ⟨hv, rfl⟩ := hp
    split at hl
    · next ver' ro sz rf l hr =>
      split at hl
      · next hver =>
        subst hver
        split at hl
        · next e he =>
          split at hl
          · next y hy =>
            cases hl
            have hk := hh.arr _ _ _ _ _ _ hr
            obtain ⟨h1, h2⟩ := RelE_iff.1 hk.mem _ _ he
            obtain ⟨u, hu, hru⟩ := run_loadVar_part (P := P) hy h2 ((c.ρ r ver').off + i * (c.ρ r ver').sz + off) (by rw [hk.hsz])
            exact ⟨u, by simp [asAddr, hu], hru⟩
          · cases hl
        · cases hl
      · cases hl
    · cases hl
  case imm l =>
    obtain ⟨b, o, rfl, hb, hc, hm⟩ := hp
    split at hl
    · next y hy =>
      cases hl
      obtain ⟨u, hu, hru⟩ := run_loadVar_part (P := P) hy hm o rfl
      exact ⟨u, by simp [asAddr, hu], hru⟩
    · cases hl

def resF (tmps : Array Value) : ResultVar → Sem Value
  | .tmp t => pure (tmps.getD t undef)
  | .cell a t => do loadVar t (← asAddr (tmps.getD a undef))

theorem resE_sound {P : Program} {c : Ctx} {h : Heap} {t : T} {a : Act} (hh : HR c h) (ht : TR c t a) : ∀ {l : List ResultVar} {xs : List AV}, resE P t h l = some xs →
    ∃ ys, (l.mapM (resF a.tmps)).run P c.w = .ok ys c.w ∧ RelL c xs ys
  | [], xs, e => by simp only [resE, Option.some.injEq] at e; subst e; exact ⟨[], by simp, rfl⟩
  | .tmp i :: l, xs, e => by
    rw [resE] at e
    split at e
    · next l' hl =>
      cases e
      obtain ⟨ys, h1, h2⟩ := resE_sound hh ht hl
      exact ⟨a.tmps.getD i undef :: ys, by simp [List.mapM_cons, resF, h1], _, _, rfl, ht i, h2⟩
    · cases e
  | .cell i ty :: l, xs, e => by
    rw [resE] at e
    split at e
    · next x f l' hx hl =>
      cases e
      obtain ⟨ys, h1, h2⟩ := resE_sound hh ht hl
      obtain ⟨y, k1, k2⟩ := loadRes_sound hx (ht i) hh
      refine ⟨y :: ys, ?_, _, _, rfl, k2, h2⟩
      rw [List.mapM_cons, Sem.run_bind]
      simp only [resF, k1, Result.andThen_ok, Sem.run_bind, h1, Sem.run_pure]
    · cases e

theorem results_sound {P : Program} {c : Ctx} {h h' : Heap} {t : T} {a : Act} {fn : Func} {o : Out} (hh : HR c h) (ht : TR c t a) (e : finR P fn t h = some (o, h')) :
    ∃ v, (results fn a.tmps).run P c.w = .ok v c.w ∧ h' = h ∧ ∃ x, o = .ret x ∧ Rel c x v := by
  unfold finR at e
  split at e
  · next xs hxs =>
    cases e
    obtain ⟨ys, h1, h2⟩ := resE_sound hh ht hxs
    have hr : (fn.results.mapM (resF a.tmps)).run P c.w = .ok ys.toArray c.w := by
      rw [Array.mapM_eq_mapM_toList]
      simp only [Sem.run_map, h1, Result.andThen_ok]
    have hres : (results fn a.tmps).run P c.w = .ok (if h : ys.toArray.size = 1 then ys.toArray[0] else .tuple ys.toArray) c.w := by
      have : results fn a.tmps = (do let vs ← fn.results.mapM (resF a.tmps); pure (if h : vs.size = 1 then vs[0] else .tuple vs)) := by
        unfold results
        congr 1
      rw [this, Sem.run_bind, hr]
      rfl
    refine ⟨_, hres, rfl, _, rfl, ?_⟩
    cases xs with
    | nil =>
      simp only [RelL] at h2
      subst h2
      exact ⟨[], rfl, rfl⟩
    | cons x xs =>
      obtain ⟨y, ys', rfl, h3, h4⟩ := h2
      cases xs with
      | nil =>
        simp only [RelL] at h4
        subst h4
        simpa [tupOf] using h3
      | cons x' xs =>
        obtain ⟨y', ys'', rfl, h5, h6⟩ := h4
        have : ¬ (y :: y' :: ys'').toArray.size = 1 := by simp
        rw [dif_neg this]
        exact ⟨_, rfl, _, _, rfl, h3, _, _, rfl, h5, h6⟩
  · cases e

/-! Deferred calls -/
def MR (c : Ctx) : Option AV → FrameMode → Prop
  | some x, u => ∃ v, u = .panicking [{ v, recovered := false }] ∧ Rel c x v
  | none, u => u = .returning

def MRd (c : Ctx) : Option AV → FrameMode → Prop
  | some x, u => ∃ v, u = .panicking [{ v, recovered := false }] ∧ Rel c x v
  | none, u => u = .returning ∨ ∃ v, u = .panicking [{ v, recovered := true }]

theorem MRd.mono {c c' : Ctx} (h : Le c c') {p : Option AV} {u : FrameMode} (k : MRd c p u) : MRd c' p u := by
  cases p with
  | none => exact k
  | some x => obtain ⟨v, h1, h2⟩ := k; exact ⟨v, h1, h2.mono h⟩

theorem MR.d {c : Ctx} {p : Option AV} {u : FrameMode} (k : MR c p u) : MRd c p u := by
  cases p with
  | none => exact .inl k
  | some x => exact k

theorem MRd.settle {c : Ctx} {p : Option AV} {u : FrameMode} (k : MRd c p u) : MR c p (settle u) := by
  cases p with
  | none =>
    rcases k with rfl | ⟨v, rfl⟩
    · rfl
    · rfl
  | some x =>
    obtain ⟨v, rfl, h⟩ := k
    exact ⟨v, rfl, h⟩

theorem MR.ne {c : Ctx} {p : Option AV} {u : FrameMode} (k : MR c p u) : u ≠ .run := by
  cases p with
  | none => rw [show u = .returning from k]; simp
  | some x => obtain ⟨v, rfl, _⟩ := k; simp

def DQ (E : Cfg) (B : Base) (c : Ctx) (k : Nat) (ex : Ex) (st' : St) (p' : Option AV) (m : Nat) (c₀ : Frame) (cs : List Frame) (e : Exit) (a' : Act) (cs' : List Frame) (w' : World) : Prop :=
  ∃ u', cs' = { c₀ with mode := u' } :: cs ∧ ∃ c', c'.w = w' ∧ LeK k c c' ∧ StR E B c' st' a' ∧ a'.tmps.size = m ∧ k ≤ st'.h.length ∧ ExM c' ex e ∧ MRd c' p' u'

def ExecDS (E : Cfg) (n : Nat) : Prop := ∀ code st p ex st' p', execD E n code st p = some (ex, st', p') → ∀ (B : Base) (c : Ctx) (a : Act) (m : Nat) (c₀ : Frame) (cs : List Frame), codeOk m code = true → m ≤ a.tmps.size → StR E B c st a →
  MRd c p c₀.mode → code.wpS E.P (DQ E B c st.h.length ex st' p' a.tmps.size c₀ cs) a (c₀ :: cs) c.w

theorem kind_recover {op : Op} (h : kindOf op = .recover) : ∃ cl : Call, op = .call cl ∧ cl.callee = .builtin .recover := by
  unfold kindOf at h
  split at h
  · next cl =>
    split at h
    · cases h
    · next hc => exact ⟨cl, rfl, hc⟩
    · cases h
  · split at h <;> cases h
  · cases h

theorem opsD_sound {E : Cfg} {step : Step} (hs : OpS E step) {ops : Array Oper} {B : Base} {c0 : Ctx} {k0 m : Nat} {c₀ : Frame} {cs : List Frame} {Q : Exit → Act → List Frame → World → Prop} : ∀ {l pre : List Oper} {slot : Nat} {st st' : St} {p p' : Option AV},
    ops.toList = pre ++ l → runOpsD step ops.toList slot l pre.length st p = some (st', p') → ∀ {c : Ctx} {a : Act} {u : FrameMode}, StR E B c st a → LeK k0 c0 c → k0 ≤ st.h.length → a.tmps.size = m →
    (∀ o ∈ ops.toList, ∀ i, o.dst = some i → i < m) → MRd c p u →
    (∀ e a' cs' w', DQ E B c0 k0 .normal st' p' m c₀ cs e a' cs' w' → Q e a' cs' w') → wpOpsS E.P ops Q (List.range' pre.length l.length) a ({ c₀ with mode := u } :: cs) c.w
  | [], pre, slot, st, st', p, p', hall, e, c, a, u, hst, hle, hk, hm, hdst, hu, hQ => by
    simp only [runOpsD, Option.some.injEq, Prod.mk.injEq] at e
    obtain ⟨rfl, rfl⟩ := e
    exact hQ _ _ _ _ ⟨u, rfl, c, rfl, hle, hst, hm, hk, trivial, hu⟩
  | o :: l, pre, slot, st, st', p, p', hall, e, c, a, u, hst, hle, hk, hm, hdst, hu, hQ => by
    have ho : ops[pre.length]? = some o := by
      have : ops[pre.length]? = ops.toList[pre.length]? := by simp
      rw [this, hall]; simp
    have hall' : ops.toList = (pre ++ [o]) ++ l := by rw [hall]; simp
    have hl : (pre ++ [o]).length = pre.length + 1 := by simp
    have hd : ∀ i, o.dst = some i → i < a.tmps.size := by rw [hm]; exact hdst o (by rw [hall]; simp)
    rw [List.length_cons, List.range'_succ]
    simp only [wpOpsS, ho]
    unfold runOpsD at e
    cases hw : wantedAV ops.toList st.t o with
    | none => rw [hw] at e; cases e
    | some b =>
      rw [hw] at e
      rw [wanted_sound hst.ht hw]
      cases b with
      | false =>
        simp only at e
        simp only [Bool.false_eq_true, if_false]
        have := opsD_sound hs (c₀ := c₀) (cs := cs) (pre := pre ++ [o]) (l := l) hall' (by rw [hl]; exact e) (hst.put (Le.refl c) hst.hh hst.hB (undef_tup c) rfl hst.hd hd) hle hk (by rw [put_size]; exact hm) hdst hu hQ
        rwa [hl] at this
      | true =>
        simp only at e
        simp only [if_true]
        split at e
        · next hkd =>
          obtain ⟨cl, hop, hcal⟩ := kind_recover hkd
          have hrun : (execOp a.eval o).run E.P c.w = .ok .recover c.w := by
            simp only [execOp, hop, resolve, hcal]
            rfl
          rw [hrun]
          simp only
          cases p with
          | some x =>
            obtain ⟨v, rfl, hx⟩ := hu
            simp only [recoverD]
            have := opsD_sound hs (c₀ := c₀) (cs := cs) (u := .panicking [{ v, recovered := true }]) (pre := pre ++ [o]) (l := l) hall' (by rw [hl]; exact e) (hst.put (Le.refl c) hst.hh hst.hB hx rfl hst.hd hd) hle hk (by rw [put_size]; exact hm) hdst (show MRd c none (.panicking [{ v, recovered := true }]) from Or.inr ⟨v, rfl⟩) hQ
            rwa [hl] at this
          | none =>
            have hrec : recoverD ({ c₀ with mode := u } :: cs) = none := by
              rcases hu with rfl | ⟨v, rfl⟩ <;> rfl
            rw [hrec]
            simp only
            have := opsD_sound hs (c₀ := c₀) (cs := cs) (u := u) (pre := pre ++ [o]) (l := l) hall' (by rw [hl]; exact e) (hst.put (Le.refl c) hst.hh hst.hB (show Rel c (.v .nilIface) .nilIface from ⟨rfl, rfl⟩) rfl hst.hd hd) hle hk (by rw [put_size]; exact hm) hdst hu hQ
            rwa [hl] at this
        · split at e
          · next x h' f d hstep =>
            obtain ⟨hlen, hop⟩ := hs _ _ _ _ _ hstep B c a hst
            have hup := hop (fun a' w' => wpOpsS E.P ops Q (List.range' (pre.length + 1) l.length) a' ({ c₀ with mode := u } :: cs) w') (fun e a' w' => Q e a' ({ c₀ with mode := u } :: cs) w') (by
              intro x' h'' f' er v c' a' k1 k2 k3 k4 k5 k6
              cases er
              have := opsD_sound hs (c₀ := c₀) (cs := cs) (u := u) (pre := pre ++ [o]) (l := l) hall' (by rw [hl]; exact e) (hst.put k1 k2 k3 k4 k5 k6 hd) (hle.trans (k1.k _)) (Nat.le_trans hk hlen) (by rw [put_size, k5]; exact hm) hdst (hu.mono k1) hQ
              rwa [hl] at this) (by intro x' h'' er; cases er)
            split
            · next w' heq => rw [heq] at hup; exact hup.elim
            · exact hup
          · cases e

theorem execD_step {E : Cfg} (hE : CfgOk E) {n : Nat} (ih : ∀ m < n, ∀ f, RunOk E.P E.G f (fun args h => callF E m f args h)) (hx : ExecS E n) (hd : ExecDS E n) : ExecDS E (n + 1) := by
  intro code st p ex st' p' e B c a m c₀ cs hok hm hst hu
  have hplain : ∀ ex1 st1, exec E n code st = some (ex1, st1) → ex = ex1 → st' = st1 → p' = p → code.wpS E.P (DQ E B c st.h.length ex st' p' a.tmps.size c₀ cs) a (c₀ :: cs) c.w := by
    rintro ex1 st1 h1 rfl rfl rfl
    refine wpS_of_wp (wp_mono (hx _ _ _ _ h1 B c a m hok hm hst) fun en a1 w1 hq => ?_)
    obtain ⟨c1, rfl, q2, q3, q4, q5, q6⟩ := hq
    exact ⟨c₀.mode, rfl, c1, rfl, q2, q3, q4, q5, q6, hu.mono (q2.le hst.hh)⟩
  have hother : ∀ r, exec E n code st = r → (match r with | some (ex, st) => some (ex, st, p) | none => none) = some (ex, st', p') → code.wpS E.P (DQ E B c st.h.length ex st' p' a.tmps.size c₀ cs) a (c₀ :: cs) c.w := by
    intro r hr e
    cases r with
    | none => cases e
    | some q => obtain ⟨ex1, st1⟩ := q; cases e; exact hplain _ _ hr rfl rfl rfl
  cases code with
  | seq x y =>
    simp only [codeOk, Bool.and_eq_true] at hok
    rw [execD] at e
    refine wpS_seq ?_
    cases hex : execD E n x st p with
    | none => rw [hex] at e; cases e
    | some q =>
      obtain ⟨ex1, st1, p1⟩ := q
      have h1 := hd _ _ _ _ _ _ hex B c a m c₀ cs hok.1 hm hst hu
      intro b k hb hr
      obtain ⟨en, a1, cs1, w1, hq, harr⟩ := h1 b k hb hr
      refine ⟨en, a1, cs1, w1, ?_, harr⟩
      have hq' := hq
      obtain ⟨u1, rfl, c1, rfl, q2, q3, q4, q5, q6, q7⟩ := hq
      rw [hex] at e
      cases ex1 with
      | normal =>
        simp only at e
        cases en with
        | normal =>
          simp only [Exit.thenS]
          have := hd _ _ _ _ _ _ e B c1 a1 m { c₀ with mode := u1 } cs hok.2 (by rw [q4]; exact hm) q3 q7
          rw [q4] at this
          intro b k hb hr
          obtain ⟨e', a', cs', w', ⟨u2, rfl, c2, rfl, r2, r3, r4, r5, r6, r7⟩, harr⟩ := this b k hb hr
          exact ⟨e', a', _, _, ⟨u2, rfl, c2, rfl, q2.trans (r2.sub q5), r3, r4, Nat.le_trans q5 r5, r6, r7⟩, harr⟩
        | _ => exact q6.elim
      | exit i =>
        simp only at e
        cases e
        cases en with
        | exit j => exact hq'
        | _ => exact q6.elim
      | ret =>
        simp only at e
        cases e
        cases en with
        | ret => exact hq'
        | _ => exact q6.elim
      | pan x =>
        simp only at e
        cases e
        cases en with
        | panic ch => exact hq'
        | _ => exact q6.elim
  | cond g x y =>
    simp only [codeOk, Bool.and_eq_true] at hok
    rw [execD] at e
    have hg := ev_rel hst.hg hst.ht g
    split at e
    · next hv =>
      rw [hv] at hg
      exact wpS_cond (t := true) hg.2 (by simpa using hd _ _ _ _ _ _ e B c a m c₀ cs hok.1 hm hst hu)
    · next hv =>
      rw [hv] at hg
      exact wpS_cond (t := false) hg.2 (by simpa using hd _ _ _ _ _ _ e B c a m c₀ cs hok.2 hm hst hu)
    · cases e
  | region id ops draw =>
    rw [execD] at e
    split at e
    · next hask =>
      simp only [Bool.and_eq_true, Bool.not_eq_true'] at hask
      split at e
      · next st1 p1 hrun =>
        cases e
        have hdraw := hask.2
        subst hdraw
        have hok' := hok
        simp only [codeOk, Bool.and_eq_true, List.all_eq_true] at hok'
        refine wpS_region ?_
        have hlen : st.h.length ≤ (grow st.h (countAllocs ops.toList)).length := by rw [grow_eq]; simp
        have := opsD_sound (opE_sound hE ih) (ops := ops) (pre := []) (l := ops.toList) (c₀ := c₀) (cs := cs) (u := c₀.mode) (k0 := st.h.length) (c0 := c) (m := a.tmps.size) (Q := DQ E B c st.h.length .normal st' p' a.tmps.size c₀ cs) rfl hrun (c := c) (a := a)
          ⟨hst.hh.grow _, hst.hB.grow _, hst.hg, hst.ht, hst.hd⟩ ((Le.refl c).k _) hlen rfl (fun o ho i hi => by
            have := hok'.1 o ho
            unfold dstOk at this
            rw [hi] at this
            have h1 : i < m := by simpa [Nat.blt_eq] using this
            exact Nat.lt_of_lt_of_le h1 hm) hu (fun _ _ _ _ h => h)
        rw [List.range_eq_range']
        simpa using this
      · cases e
    · split at e
      · next ex1 st1 h1 => cases e; exact hplain _ _ h1 rfl rfl rfl
      · cases e
  | _ => exact hother _ rfl (by rw [execD] at e; exact e; all_goals (intros; contradiction))
end Go.AM
