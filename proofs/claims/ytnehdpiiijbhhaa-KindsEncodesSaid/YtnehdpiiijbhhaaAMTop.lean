/- What the machine comes to, the model comes to; under the conditions that CfgOk and progOk name. -/
import Derived.Test.YtnehdpiiijbhhaaAMFin
set_option autoImplicit false
set_option linter.unusedVariables false
set_option linter.unusedSimpArgs false
namespace Go.AM
open Go Go.RowKit

theorem ofList_get : ∀ (l : List AV) (t : T) (k i : Nat), (t.ofList k l).get i = if k ≤ i ∧ i < k + l.length then (match l[i - k]? with | some x => x | none => .undef) else t.get i
  | [], t, k, i => by
    rw [T.ofList, if_neg (by intro h; have := h.2; simp at this; omega)]
  | x :: l, t, k, i => by
    rw [T.ofList, ofList_get l, T.get_set]
    by_cases h1 : k = i
    · subst h1
      rw [if_neg (by omega), if_pos rfl, if_pos (by simp)]
      simp
    · by_cases h2 : k + 1 ≤ i ∧ i < k + 1 + l.length
      · rw [if_pos h2, if_pos (by simp; omega)]
        have : i - k = i - (k + 1) + 1 := by omega
        rw [this, List.getElem?_cons_succ]
      · rw [if_neg h2, if_neg h1, if_neg (by simp; omega)]

theorem TR.args {c : Ctx} {args : List AV} {ys : Array Value} (h : RelL c args ys.toList) (n : Nat) : TR c (T.e.ofList 0 args) { tmps := ys ++ Array.replicate (n - ys.size) undef, defers := [] } := by
  intro i
  have hl : ys.size = args.length := by simpa using h.length
  rw [ofList_get]
  simp only [Nat.zero_le, true_and, Nat.zero_add, Nat.sub_zero]
  by_cases hi : i < args.length
  · rw [if_pos hi, List.getElem?_eq_getElem hi]
    obtain ⟨y, hy, hr⟩ := h.get (List.getElem?_eq_getElem hi)
    have : (ys ++ Array.replicate (n - ys.size) undef).getD i undef = y := by
      rw [Array.getD_eq_getD_getElem?, Array.getElem?_append_left (by omega)]
      simp only [Array.getElem?_toList] at hy
      rw [hy]; rfl
    simp only [this]
    exact hr
  · rw [if_neg hi, T.get_e]
    trivial

theorem tmps_size (ys : Array Value) (n : Nat) : n ≤ (ys ++ Array.replicate (n - ys.size) undef).size := by simp; omega

def progOk' (P : Program) : Prop := ∀ (f : FuncId) (fn : Func) (b : Code), P.funcs[f]? = some fn → fn.body = some b → codeOk fn.ntmps b = true

theorem progOk_spec {P : Program} (h : progOk P = true) : progOk' P := by
  intro f fn b hf hb
  simp only [progOk, List.all_eq_true] at h
  have hm : fn ∈ P.funcs.toList := by
    have : P.funcs.toList[f]? = some fn := by simpa using hf
    exact List.mem_of_getElem? this
  have := h fn hm
  rwa [hb] at this

def FinS (E : Cfg) (n : Nat) : Prop := ∀ fn st p o h', finE E n fn st p = some (o, h') → ∀ (B : Base) (c0 c : Ctx) (k : Nat) (a : Act) (u : FrameMode), StR E B c st a → LeK k c0 c → k ≤ st.h.length → MR c p u →
  Leaves E.P fn a.tmps (Ends B c0 k o h') a.defers u c.w

theorem fin_step {E : Cfg} (hE : CfgOk E) (hP : progOk' E.P) {n : Nat} (hd : ExecDS E n) (hf : FinS E n) : FinS E (n + 1) := by
  intro fn st p o h' e B c0 c k a u hst hle hk hu
  unfold finE at e
  cases hsd : st.d with
  | nil =>
    rw [hsd] at e
    have hdef : a.defers = [] := by have := hst.hd; rw [hsd] at this; exact this
    rw [hdef]
    cases p with
    | some x =>
      simp only at e
      cases e
      obtain ⟨v, rfl, hx⟩ := hu
      exact ⟨c, rfl, hle, hst.hh, hst.hB, v, rfl, hx⟩
    | none =>
      simp only at e
      rw [show u = .returning from hu]
      obtain ⟨v, h1, h2, x, h3, h4⟩ := results_sound hst.hh hst.ht e
      subst h2 h3
      exact ⟨v, h1, c, rfl, hle, hst.hh, hst.hB, h4⟩
  | cons q ds =>
    obtain ⟨f, args⟩ := q
    rw [hsd] at e
    simp only at e
    have hdr := hst.hd
    rw [hsd] at hdr
    obtain ⟨cap, dargs, ds', hdef, hargs, hdr'⟩ := hdr
    rw [hdef]
    split at e
    · cases e
    next g hg =>
    split at e
    · cases e
    next b hb =>
    have hfn : E.P.funcs[f]? = some g := by simpa using hg
    have hi : (invoke (.fn (.func f) cap) dargs).run E.P c.w = .ok (.enter f (dargs ++ cap)) c.w := by
      have := run_enter hfn (hE.name f g hfn) hb (dargs ++ cap) c.w
      simpa [invoke] using this
    refine leaves_cons hu.ne hi (callsD_of_wpS hfn hb fun c₀ cs hc₀ => ?_)
    have hSt : StR E B c { t := T.e.ofList 0 args, h := st.h, d := [], k := E.keep f } { tmps := (dargs ++ cap) ++ Array.replicate (g.ntmps - (dargs ++ cap).size) undef, defers := [] } :=
      ⟨hst.hh, hst.hB, hst.hg, TR.args hargs _, rfl⟩
    cases hex : execD E n b { t := T.e.ofList 0 args, h := st.h, d := [], k := E.keep f } p with
    | none => rw [hex] at e; cases e
    | some q =>
      obtain ⟨ex, st1, p1⟩ := q
      have hw := hd _ _ _ _ _ _ hex B c _ g.ntmps c₀ cs (hP f g b hfn hb) (tmps_size _ _) hSt (by rw [hc₀]; exact hu.d)
      -- what follows
      have main : (match st1.d, finR E.P g st1.t st1.h with | [], some _ => finE E n fn { st with h := st1.h, d := ds } p1 | _, _ => none) = some (o, h') → (ex = .normal ∨ ex = .ret) →
          b.wpS E.P (bodyPostS E.P g c₀ cs fun
            | .returned _, u', w' => Leaves E.P fn a.tmps (Ends B c0 k o h') ds' (settle u') w'
            | .panicked chain, u', w' => Leaves E.P fn a.tmps (Ends B c0 k o h') ds' (raised u' chain) w'
            | .outgrown, _, w' => Ends B c0 k o h' .outgrown w') { tmps := (dargs ++ cap) ++ Array.replicate (g.ntmps - (dargs ++ cap).size) undef, defers := [] } (c₀ :: cs) c.w := by
        intro e hxx bb kk hb1 hb2
        obtain ⟨en, a1, cs1, w1, hq, harr⟩ := hw bb kk hb1 hb2
        refine ⟨en, a1, cs1, w1, ?_, harr⟩
        obtain ⟨u1, rfl, c1, rfl, q2, q3, q4, q5, q6, q7⟩ := hq
        split at e
        case h_2 => cases e
        next hd1 hfr =>
        have hle1 : Le c c1 := q2.le hst.hh
        have ha1 : a1.defers = [] := by have := q3.hd; rw [hd1] at this; exact this
        obtain ⟨v, h1, _, x, _, _⟩ := results_sound (o := _) q3.hh q3.ht hfr
        have hnext : Leaves E.P fn a.tmps (Ends B c0 k o h') ds' (settle u1) c1.w := by
          have := hf _ _ _ _ _ e B c0 c1 k { a with defers := ds' } (settle u1) ⟨q3.hh, q3.hB, q3.hg, (hst.ht.mono hle1).tmps rfl, hdr'.mono hle1⟩ (hle.trans (hle1.k _)) (Nat.le_trans hk q5) q7.settle
          exact this
        have hgoal : a1.defers = [] ∧ ∃ u', ({ c₀ with mode := u1 } :: cs : List Frame) = { c₀ with mode := u' } :: cs ∧ ∃ v, (results g a1.tmps).run E.P c1.w = .ok v c1.w ∧ Leaves E.P fn a.tmps (Ends B c0 k o h') ds' (settle u') c1.w :=
          ⟨ha1, u1, rfl, v, h1, hnext⟩
        rcases hxx with rfl | rfl
        · cases en <;> first | exact q6.elim | exact hgoal
        · cases en <;> first | exact q6.elim | exact hgoal
      rw [hex] at e
      cases ex with
      | normal => exact main e (.inl rfl)
      | ret => exact main e (.inr rfl)
      | exit i => cases e
      | pan x => cases e

def CallS (E : Cfg) (n : Nat) : Prop := ∀ f, RunOk E.P E.G f (fun args h => callF E n f args h)

theorem call_step {E : Cfg} (hE : CfgOk E) (hP : progOk' E.P) {n : Nat} (hx : ExecS E n) (hf : FinS E n) : CallS E (n + 1) := by
  intro f args h o h' e c B ys hh hB hg hargs
  simp only at e
  rw [callF] at e
  split at e
  · next g hg' => exact (hE.nat f g hg').1 args h o h' e c B ys hh hB hg hargs
  · split at e
    · cases e
    next fn hfn0 =>
    split at e
    · cases e
    next b hb =>
    have hfn : E.P.funcs[f]? = some fn := by simpa using hfn0
    refine calls_of_wp_defers hfn hb ?_
    have hSt : StR E B c { t := T.e.ofList 0 args, h := h, d := [], k := E.keep f } { tmps := ys ++ Array.replicate (fn.ntmps - ys.size) undef, defers := [] } := ⟨hh, hB, hg, TR.args hargs _, rfl⟩
    cases hex : exec E n b { t := T.e.ofList 0 args, h := h, d := [], k := E.keep f } with
    | none => rw [hex] at e; cases e
    | some q =>
      obtain ⟨ex, st1⟩ := q
      refine wp_mono (hx _ _ _ _ hex B c _ fn.ntmps (hP f fn b hfn hb) (tmps_size _ _) hSt) fun en a1 w1 hq => ?_
      obtain ⟨c1, rfl, q2, q3, q4, q5, q6⟩ := hq
      rw [hex] at e
      cases ex with
      | normal =>
        simp only at e
        have := hf _ _ _ _ _ e B c c1 h.length a1 .returning q3 q2 q5 rfl
        cases en <;> first | exact q6.elim | exact this
      | ret =>
        simp only at e
        have := hf _ _ _ _ _ e B c c1 h.length a1 .returning q3 q2 q5 rfl
        cases en <;> first | exact q6.elim | exact this
      | pan x =>
        simp only at e
        cases en with
        | panic ch =>
          obtain ⟨v, rfl, hv⟩ := q6
          exact hf _ _ _ _ _ e B c c1 h.length a1 (.panicking [{ v, recovered := false }]) q3 q2 q5 ⟨v, rfl, hv⟩
        | _ => exact q6.elim
      | exit i => simp only at e; cases e

/-- What the machine comes to, the model comes to. -/
theorem sound {E : Cfg} (hE : CfgOk E) (hP : progOk' E.P) : ∀ n, (∀ m ≤ n, CallS E m) ∧ ExecS E n ∧ LoopS E n ∧ ExecDS E n ∧ FinS E n
  | 0 => by
    refine ⟨fun m hm f args h o h' e => ?_, fun code st ex st' e => ?_, fun b n0 t0 st ex st' e => ?_, fun code st p ex st' p' e => ?_, fun fn st p o h' e => ?_⟩
    · have : m = 0 := by omega
      subst this
      simp only at e
      rw [callF] at e; cases e
    · rw [exec] at e; cases e
    · rw [loopE] at e; cases e
    · rw [execD] at e; cases e
    · rw [finE] at e; cases e
  | n + 1 => by
    obtain ⟨hc, hx, hl, hd, hf⟩ := sound hE hP n
    have ih : ∀ m < n, ∀ f, RunOk E.P E.G f (fun args h => callF E m f args h) := fun m hm => hc m (by omega)
    refine ⟨fun m hm => ?_, exec_step hE ih hx hl, loop_step hE hx hl, execD_step hE ih hx hd, fin_step hE hP hd hf⟩
    by_cases h : m ≤ n
    · exact hc m h
    · have : m = n + 1 := by omega
      subst this
      exact call_step hE hP hx hf
end Go.AM
