/- A part of the proof that the machine of AM is sound: each lemma is under its own hypotheses alone. -/
import Derived.Test.YtnehdpiiijbhhaaAMReg
set_option autoImplicit false
set_option linter.unusedVariables false
set_option linter.unusedSimpArgs false
namespace Go.AM
open Go Go.RowKit

def R.hp : R → Heap
  | .val _ h _ => h
  | .pan _ h => h

theorem run_enter {P : Program} {f : FuncId} {fn : Func} {c : Code} (hf : P.funcs[f]? = some fn) (hname : (fn.name == "runtime.NumGoroutine") = false) (hb : fn.body = some c) (args : Array Value) (w : World) :
    (callFunc f args).run P w = .ok (.enter f args) w := by
  have h1 : fn.name ≠ "runtime.NumGoroutine" := by simpa using hname
  simp [callFunc, hf, h1, hb]

theorem callBy_some {run : List AV → Heap → Option (Out × Heap)} {way : Way} {args : List AV} {h : Heap} {r : R} (e : callBy run way args h = some r) :
    (∃ a h0 p, run a h0 = some p) ∧ h.length ≤ r.hp.length := by
  cases r with
  | val x h' f =>
    refine ⟨?_, (callBy_frame e).len⟩
    unfold callBy at e
    split at e
    · cases e
    split at e
    · cases e
    split at e
    · cases e
    split at e
    · next h1 => exact ⟨_, _, _, h1⟩
    · next h1 => exact ⟨_, _, _, h1⟩
    · cases e
  | pan x h' =>
    unfold callBy at e
    split at e
    · cases e
    next S args' hin =>
    split at e
    · cases e
    next roots hroots =>
    split at e
    · cases e
    next hcond =>
    simp only [Bool.or_eq_false_iff, Bool.not_eq_false', Bool.and_eq_true] at hcond
    have hlt := allLt_iff.1 hcond.2.2
    have hn := (reach_spec _ _ _ _ hroots).2.2.2 List.nodup_nil
    split at e
    · split at e <;> cases e
    · next x0 h0 hr =>
      refine ⟨⟨_, _, _, hr⟩, ?_⟩
      split at e
      · next y h3' f' hb =>
        cases e
        unfold back at hb
        split at hb
        · cases hb
        split at hb
        · cases hb
        split at hb
        · cases hb
        split at hb
        case h_2 => cases hb
        next x' hx' _ all hall _ hc2 =>
        simp only [Bool.and_eq_true] at hc2
        simp only [Option.some.injEq] at hb
        have := (backTo_get (wr := way.wr) (S := S) (live := all.filter fun r => Nat.ble roots.length r) (x := x') hn hlt (Nat.le_of_ble_eq_true hc2.1.2)).1
        rw [hb] at this
        simp only [R.hp] at this ⊢
        omega
      · cases e
    · cases e

theorem callF_body {E : Cfg} (hE : CfgOk E) {n : Nat} {f : FuncId} {args : List AV} {h : Heap} {p : Out × Heap} (e : callF E n f args h = some p) : ∃ fn b, E.P.funcs[f]? = some fn ∧ fn.body = some b := by
  cases n with
  | zero => rw [callF] at e; cases e
  | succ n =>
    rw [callF] at e
    split at e
    · next g hg => exact (hE.nat f g hg).2
    · split at e
      · cases e
      · next fn hfn =>
        split at e
        · cases e
        · next b hb => exact ⟨fn, b, by simpa using hfn, hb⟩

theorem callE_sound {E : Cfg} (hE : CfgOk E) {n : Nat} (ih : ∀ f, RunOk E.P E.G f (fun args h => callF E n f args h)) {f : FuncId} {args : List AV} {h : Heap} {r : R} (e : callE E (n + 1) f args h = some r)
    {B : Base} {c : Ctx} (hh : HR c h) (hB : BR B c h) (hg : GR c E.G) {ys : Array Value} (hx : RelL c args ys.toList) :
    h.length ≤ r.hp.length ∧
    ∀ (o : Oper) (a : Act) (next : Act → World → Prop) (Q : Exit → Act → World → Prop),
    (∀ x h' f, r = .val x h' f → ∀ v c', Le c c' → HR c' h' → BR B c' h' → Rel c' x v → next (a.put o.dst v) c'.w) →
    (∀ x h', r = .pan x h' → ∀ v c', Le c c' → HR c' h' → BR B c' h' → Rel c' x v → Q (.panic [{ v, recovered := false }]) a c'.w) →
    o.upon E.P a next Q ((callFunc f ys).run E.P c.w) := by
  rw [callE] at e
  split at e
  · next g hg' =>
    split at e
    · next x hx' =>
      cases e
      refine ⟨Nat.le_refl _, fun o a next Q k1 k2 => ?_⟩
      obtain ⟨v, h1, h2⟩ := hE.ext f g hg' args x hx' c ys hx
      exact h2 o a next Q (k1 _ _ _ rfl v c (.refl c) hh hB h1)
    · cases e
  · obtain ⟨⟨a0, h0, p, hp⟩, hlen⟩ := callBy_some e
    refine ⟨hlen, fun o a next Q k1 k2 => ?_⟩
    obtain ⟨fn, b, hfn, hb⟩ := callF_body hE hp
    rw [run_enter hfn (hE.name f fn hfn) hb ys c.w, Oper.upon_enter]
    refine Calls.mono (callBy_sound hE.closed (ih f) hh hB hg hx e) fun en w' hen => ?_
    cases r with
    | val x h' f =>
      obtain ⟨c2, v, rfl, rfl, q1, q2, q3, q4⟩ := hen
      exact k1 _ _ _ rfl v c2 q1 q2 q3 q4
    | pan x h' =>
      obtain ⟨c2, v, rfl, rfl, q1, q2, q3, q4⟩ := hen
      exact k2 _ _ rfl v c2 q1 q2 q3 q4

theorem kind_call {op : Op} {f : Operand} {args : List Operand} (h : kindOf op = .call f args) : ∃ cl : Call, op = .call cl ∧ cl.callee = .value f ∧ cl.args.toList = args := by
  unfold kindOf at h
  split at h
  · next cl =>
    split at h
    · next g hg => cases h; exact ⟨cl, rfl, hg, rfl⟩
    · cases h
    · cases h
  · split at h <;> cases h
  · cases h

theorem kind_defer {op : Op} {f : Operand} {args : List Operand} (h : kindOf op = .defer f args) : ∃ cl : Call, op = .defer cl ∧ cl.callee = .value f ∧ cl.args.toList = args := by
  unfold kindOf at h
  split at h
  · split at h <;> cases h
  · next cl =>
    split at h
    · next g hg => cases h; exact ⟨cl, rfl, hg, rfl⟩
    · cases h
  · cases h

theorem args_rel {c : Ctx} {G : Nat → AV} {t : T} {a : Act} (hg : GR c G) (ht : TR c t a) {cl : Call} {f : FuncId} {caps : List AV} {g : Operand} (he : ev G t g = .fn f caps) :
    ∃ cap : Array Value, a.eval g = .func (.func f) #[] cap ∧ RelL c (evL G t cl.args.toList ++ caps) (cl.args.map a.eval ++ cap).toList := by
  have := ev_rel hg ht g
  rw [he] at this
  obtain ⟨ys, h1, h2⟩ := this
  refine ⟨ys.toArray, h1, ?_⟩
  have := (evL_rel hg ht cl.args.toList).append h2
  simpa using this

theorem opP_dead {E : Cfg} {slot : Nat} {op : Op} {st : St} {r : R} (e : opP E slot op st = some r) : allocs op = true → st.h[slot]? = some .dead := by
  intro ha
  unfold opP at e
  rw [ha] at e
  simp only at e
  split at e
  · assumption
  · cases e

theorem opP_val {E : Cfg} {slot : Nat} {op : Op} {st : St} {x : AV} {h' : Heap} {f : FP} (e : opP E slot op st = some (.val x h' f)) :
    ∃ f', opV E.P E.G E.eqT slot op st.t st.h = some (.val x h' f') ∧ f = (if allocs op = true then ⟨slot :: f'.rd, f'.wr, f'.app⟩ else f') := by
  unfold opP at e
  split at e
  · next ha =>
    split at e
    · split at e
      · next x h f hv => cases e; exact ⟨f, hv, by rw [if_pos ha]⟩
      · next hno => exact absurd e (hno _ _ _)
    · cases e
  · next ha => exact ⟨f, e, by rw [if_neg (by rw [ha]; simp)]⟩

theorem opP_pan {E : Cfg} {slot : Nat} {op : Op} {st : St} {x : AV} {h' : Heap} (e : opP E slot op st = some (.pan x h')) : opV E.P E.G E.eqT slot op st.t st.h = some (.pan x h') := by
  unfold opP at e
  split at e
  · split at e
    · split at e
      · cases e
      · exact e
    · cases e
  · exact e

theorem opE_sound {E : Cfg} (hE : CfgOk E) {n : Nat} (ih : ∀ m < n, ∀ f, RunOk E.P E.G f (fun args h => callF E m f args h)) : OpS E (fun slot o st => opE E n slot o st) := by
  intro slot o st r d' e B c a hst
  simp only at e
  cases n with
  | zero => rw [opE] at e; cases e
  | succ n =>
    rw [opE] at e
    split at e
    · -- plain
      split at e
      · next r' hr =>
        cases e
        have hd := opP_dead hr
        have env : Env E.P B c st.h E.G st.t a := ⟨hst.hh, hst.hB, hst.hg, hst.ht⟩
        cases r with
        | val x h' f =>
          obtain ⟨f', hv, _⟩ := opP_val hr
          obtain ⟨nx, c', q1, q2, q3, q4, q5⟩ := op_sound hE.eqT env hv hd
          refine ⟨(opV_frame (fun h => (List.getElem?_eq_some_iff.1 (hd h)).1) hv).framed.len, fun next Q k1 k2 => ?_⟩
          rw [q1]
          rcases q5 with ⟨v, rfl, q5⟩ | ⟨rfl, rfl⟩
          · exact k1 _ _ _ rfl v c' a q2 q3 q4 q5 rfl (hst.hd.mono q2)
          · exact k1 _ _ _ rfl undef c' a q2 q3 q4 (undef_tup c') rfl (hst.hd.mono q2)
        | pan x h' =>
          obtain ⟨v, q1, q2, rfl⟩ := op_sound hE.eqT env (opP_pan hr) hd
          refine ⟨⟨Nat.le_refl _, rfl⟩, fun next Q k1 k2 => ?_⟩
          rw [q1]
          exact k2 _ _ rfl v c (.refl c) hst.hh hst.hB q2
      · cases e
    · -- a call
      next g args hk =>
      split at e
      case h_2 => cases e
      next f caps hev =>
      split at e
      case h_2 => cases e
      next r' hr =>
      cases e
      obtain ⟨cl, hop, hcal, rfl⟩ := kind_call hk
      cases n with
      | zero => rw [callE] at hr; cases hr
      | succ n =>
        obtain ⟨cap, h1, h2⟩ := args_rel (cl := cl) hst.hg hst.ht hev
        obtain ⟨hlen, hc⟩ := callE_sound hE (ih n (by omega)) hr hst.hh hst.hB hst.hg h2
        refine ⟨by cases r <;> first | exact ⟨hlen, rfl⟩ | exact hlen, fun next Q k1 k2 => ?_⟩
        have hex : execOp a.eval o = callFunc f (cl.args.map a.eval ++ cap) := by
          simp only [execOp, hop, resolve, hcal, h1, Deferred.ofValue]
          simp [invoke]
        rw [hex]
        exact hc o a next Q (fun x h' f er v c' q1 q2 q3 q4 => k1 x h' f er v c' a q1 q2 q3 q4 rfl (hst.hd.mono q1)) k2
    · -- a deferred call
      next g args hk =>
      split at e
      case h_2 => cases e
      next f caps hev =>
      cases e
      obtain ⟨cl, hop, hcal, rfl⟩ := kind_defer hk
      obtain ⟨cap, h1, h2⟩ := args_rel (cl := cl) hst.hg hst.ht hev
      refine ⟨Nat.le_refl _, fun next Q k1 k2 => ?_⟩
      have hex : (execOp a.eval o).run E.P c.w = .ok (.defer { target := .fn (.func f) cap, args := cl.args.map a.eval }) c.w := by
        simp only [execOp, hop, resolve, hcal, h1, Deferred.ofValue]
        simp
      rw [hex, Oper.upon_defer]
      exact k1 _ _ _ rfl undef c { a with defers := { target := .fn (.func f) cap, args := cl.args.map a.eval } :: a.defers } (.refl c) hst.hh hst.hB (undef_tup c) rfl ⟨cap, _, _, rfl, h2, hst.hd⟩
    · cases e

theorem noDefer_sound {E : Cfg} {step : Step} (h : OpS E step) : OpS E (noDefer step) := by
  intro slot o st r d' e
  unfold noDefer at e
  split at e
  · cases e
  · exact h slot o st r d' e

theorem Framed.congr {h h' : Heap} {f : FP} {x : AV} {F F' : Heap → Option R} (k : Framed h f h' x F) (e : ∀ h2 h2', F h2 = some (.val x h2' f) → F' h2 = some (.val x h2' f)) : Framed h f h' x F' :=
  ⟨k.len, k.app, k.keep, k.wlt, fun h2 h1 h3 h4 => let ⟨h2', k1, k2⟩ := k.go h2 h1 h3 h4; ⟨h2', e _ _ k1, k2⟩⟩

theorem opE_good (E : Cfg) (n : Nat) : Good E.P E.G (noDefer (fun slot o st => opE E n slot o st)) := by
  cases n with
  | zero =>
    refine ⟨fun s o st t2 _ => ?_, fun s o st x h' f d' e => ?_⟩
    · unfold noDefer; split <;> simp [opE]
    · unfold noDefer at e; split at e <;> simp [opE] at e
  | succ n =>
    refine ⟨fun s o st t2 ht => ?_, fun s o st x h' f d' e => ?_⟩
    · unfold noDefer
      split
      · rfl
      · simp only
        rw [opE, opE]
        split
        · simp only [opP, opV_congr ht]
        · next g args hk =>
          obtain ⟨cl, hop, hcal, rfl⟩ := kind_call hk
          have hops : o.op.operands.toList = g :: cl.args.toList := by simp [hop, Op.operands, Call.operands, hcal]
          rw [hops] at ht
          rw [ht g (by simp), evL_congr (l := cl.args.toList) fun x hx => ht x (List.mem_cons_of_mem _ hx)]
        · rename_i hno _ _ _ hk; exact absurd hk (hno _ _)
        · rfl
    · unfold noDefer at e ⊢
      cases hk : kindOf o.op with
      | plain =>
        simp only [hk] at e ⊢
        simp only [opE, hk] at e ⊢
        split at e
        · next r' hr =>
          cases e
          have hd := opP_dead hr
          obtain ⟨f', hv, hf⟩ := opP_val hr
          have hF := opV_frame (fun h => (List.getElem?_eq_some_iff.1 (hd h)).1) hv
          refine ⟨rfl, ?_, fun h2 r2 d2 e2 => ?_⟩
          · have fr := hF.framed
            cases ha : allocs o.op with
            | false =>
              rw [if_neg (by rw [ha]; simp)] at hf; subst hf
              refine fr.congr fun h2 h2' e2 => ?_
              simp only [opP, ha, e2, Option.map_some]
            | true =>
              rw [if_pos ha] at hf; subst hf
              refine ⟨fr.len, fr.app, fr.keep, fr.wlt, fun h2 h1 h3 h4 => ?_⟩
              obtain ⟨h2', k1, k2⟩ := fr.go h2 (fun r hr => h1 r (by simp [hr])) h3 h4
              refine ⟨h2', ?_, k2⟩
              have : h2[s]? = some .dead := by rw [h1 s (by simp)]; exact hd ha
              simp only [opP, ha, this, k1, Option.map_some]
          · split at e2 <;> cases e2; rfl
        · cases e
      | call g args =>
        simp only [hk] at e ⊢
        simp only [opE, hk] at e ⊢
        split at e
        case h_2 => cases e
        next f0 caps hev =>
        split at e
        case h_2 => cases e
        next r' hr =>
        cases e
        simp only [hev]
        refine ⟨by first | rfl | trivial, ?_, fun h2 r2 d2 e2 => ?_⟩
        · cases n with
          | zero => rw [callE] at hr; cases hr
          | succ n =>
            rw [callE] at hr
            split at hr
            · next g' hg' =>
              split at hr
              · next y hy =>
                cases hr
                have hF : HF st.h fp0 st.h x (fun h2 => some (.val x h2 fp0)) := ⟨rfl, .inl ⟨rfl, rfl, fun h2 _ => rfl⟩⟩
                refine hF.framed.congr fun h2 h2' e2 => ?_
                cases e2
                simp only [callE, hg', hy, Option.map_some]
              · cases hr
            · next hg' =>
              refine (callBy_frame hr).congr fun h2 h2' e2 => ?_
              simp only [callE, hg', e2, Option.map_some]
        · split at e2 <;> cases e2; rfl
      | defer g args => simp only [hk] at e; cases e
      | recover => simp only [hk] at e; simp only [opE, hk] at e; cases e
end Go.AM
