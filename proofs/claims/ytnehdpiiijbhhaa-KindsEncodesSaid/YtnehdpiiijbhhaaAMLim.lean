/- The machine without fuel: what it comes to with fuel enough; each equation is under its own hypotheses alone. -/
import Derived.Test.YtnehdpiiijbhhaaAM
set_option autoImplicit false
set_option linter.unusedVariables false
set_option linter.unusedSimpArgs false
namespace Go.AM
open Go

def Mono {α : Type} (g : Nat → Option α) : Prop := ∀ n r, g n = some r → g (n + 1) = some r

open Classical in
noncomputable def lim {α : Type} (g : Nat → Option α) : Option α := if h : ∃ n, (g n).isSome = true then g (Classical.choose h) else none

theorem Mono.le {α : Type} {g : Nat → Option α} (h : Mono g) {n m : Nat} (hnm : n ≤ m) {r : α} (e : g n = some r) : g m = some r := by
  induction hnm with
  | refl => exact e
  | step _ ih => exact h _ _ ih

theorem lim_some {α : Type} {g : Nat → Option α} (h : Mono g) {n : Nat} {r : α} (e : g n = some r) : lim g = some r := by
  have hx : ∃ n, (g n).isSome = true := ⟨n, by rw [e]; rfl⟩
  unfold lim
  rw [dif_pos hx]
  have hs := Classical.choose_spec hx
  cases hq : g (Classical.choose hx) with
  | none => rw [hq] at hs; cases hs
  | some q =>
    rcases Nat.le_total n (Classical.choose hx) with hl | hl
    · rw [h.le hl e] at hq; exact hq.symm
    · rw [h.le hl hq] at e; exact e

theorem of_lim {α : Type} {g : Nat → Option α} {r : α} (e : lim g = some r) : ∃ n, g n = some r := by
  unfold lim at e
  split at e
  · exact ⟨_, e⟩
  · cases e

theorem lim_iff {α : Type} {g : Nat → Option α} (h : Mono g) {r : α} : lim g = some r ↔ ∃ n, g n = some r :=
  ⟨of_lim, fun ⟨_, e⟩ => lim_some h e⟩

theorem opt_ext {α : Type} {a b : Option α} (h : ∀ r, a = some r ↔ b = some r) : a = b := by
  cases a with
  | none => cases b with
    | none => rfl
    | some y => have := (h y).2 rfl; cases this
  | some x => exact ((h x).1 rfl).symm

theorem runOps_mono {s1 s2 : Nat → Oper → St → Option (R × List (FuncId × List AV))} (h : ∀ slot o st r, s1 slot o st = some r → s2 slot o st = some r) (all : List Oper) :
    ∀ (ops : List Oper) (slot i : Nat) (st : St) r, runOps s1 all slot ops i st = some r → runOps s2 all slot ops i st = some r
  | [], slot, i, st, r, e => e
  | o :: rest, slot, i, st, r, e => by
    have ih := runOps_mono h all rest
    unfold runOps at e ⊢
    split at e
    · cases e
    · next hw =>
      (try rw [hw])
      try simp only
      split at e
      · next he => rw [ih _ _ _ _ he]; exact e
      · cases e
    · next hw =>
      (try rw [hw])
      try simp only
      split at e
      · next he =>
        rw [h _ _ _ _ he]
        try simp only
        split at e
        · next hr => rw [ih _ _ _ _ hr]; exact e
        · cases e
      · next he => rw [h _ _ _ _ he]; exact e
      · cases e

theorem runOpsD_mono {s1 s2 : Nat → Oper → St → Option (R × List (FuncId × List AV))} (h : ∀ slot o st r, s1 slot o st = some r → s2 slot o st = some r) (all : List Oper) :
    ∀ (ops : List Oper) (slot i : Nat) (st : St) (p : Option AV) r, runOpsD s1 all slot ops i st p = some r → runOpsD s2 all slot ops i st p = some r
  | [], slot, i, st, p, r, e => e
  | o :: rest, slot, i, st, p, r, e => by
    have ih := runOpsD_mono h all rest
    unfold runOpsD at e ⊢
    cases hw : wantedAV all st.t o with
    | none => rw [hw] at e; cases e
    | some b =>
      rw [hw] at e
      cases b with
      | false => exact ih _ _ _ _ _ e
      | true =>
        try simp only at e ⊢
        cases hk : kindOf o.op with
        | recover => rw [hk] at e; exact ih _ _ _ _ _ e
        | _ =>
          rw [hk] at e
          try simp only at e ⊢
          cases he : s1 slot o st with
          | none => rw [he] at e; cases e
          | some q =>
            obtain ⟨q, d⟩ := q
            rw [he] at e
            rw [h _ _ _ _ he]
            cases q with
            | val x hh f => exact ih _ _ _ _ _ e
            | pan x hh => cases e

theorem stepOf_mono {s1 s2 : Nat → Oper → St → Option (R × List (FuncId × List AV))} (h : ∀ slot o st r, s1 slot o st = some r → s2 slot o st = some r) (draw : Bool) :
    ∀ slot o st r, stepOf draw s1 slot o st = some r → stepOf draw s2 slot o st = some r := by
  intro slot o st r e
  cases draw with
  | false => exact h _ _ _ _ e
  | true =>
    simp only [stepOf, noDefer] at e ⊢
    cases hk : kindOf o.op with
    | defer f args => rw [hk] at e; cases e
    | _ => rw [hk] at e; exact h _ _ _ _ e

theorem regionE_mono {s1 s2 : Nat → Oper → St → Option (R × List (FuncId × List AV))} (h : ∀ slot o st r, s1 slot o st = some r → s2 slot o st = some r) {ops : Array Oper} {draw : Bool} {st : St} {r}
    (e : regionE s1 ops draw st = some r) : regionE s2 ops draw st = some r := by
  unfold regionE at e ⊢
  split at e
  · next he => rw [runOps_mono h _ _ _ _ _ _ he]; exact e
  · cases e

theorem callBy_mono {r1 r2 : List AV → Heap → Option (Out × Heap)} (h : ∀ a b r, r1 a b = some r → r2 a b = some r) {way : Way} {args : List AV} {hp : Heap} {r}
    (e : callBy r1 way args hp = some r) : callBy r2 way args hp = some r := by
  unfold callBy at e ⊢
  split at e
  · cases e
  · next hi =>
    (try rw [hi])
    try simp only
    split at e
    · cases e
    · next hr =>
      (try rw [hr])
      try simp only
      split at e
      · cases e
      · next hm =>
        (try rw [hm])
        try simp only
        split at e
        · next he => rw [h _ _ _ he]; exact e
        · next he => rw [h _ _ _ he]; exact e
        · cases e

theorem xs_seq (E : Cfg) (n : Nat) (a b : Code) (st : St) : exec E (n + 1) (.seq a b) st = (match exec E n a st with | some (.normal, st) => exec E n b st | r => r) := rfl
theorem xs_cond (E : Cfg) (n : Nat) (c : Operand) (a b : Code) (st : St) : exec E (n + 1) (.cond c a b) st = (match ev E.G st.t c with | .v (.bool true) => exec E n a st | .v (.bool false) => exec E n b st | _ => none) := rfl
theorem xs_block (E : Cfg) (n : Nat) (id) (b : Code) (st : St) : exec E (n + 1) (.block id b) st = (match exec E n b st with | some (.exit id', st) => if id' = id then some (.normal, st) else some (.exit id', st) | r => r) := rfl
theorem xs_scope (E : Cfg) (n : Nat) (b : Code) (st : St) : exec E (n + 1) (.scope b) st = exec E n b st := rfl
theorem xs_loop (E : Cfg) (n : Nat) (b : Code) (st : St) : exec E (n + 1) (.loop b) st = loopE E n b st.h.length st.t st := rfl
theorem xs_region (E : Cfg) (n : Nat) (id) (ops : Array Oper) (draw : Bool) (st : St) : exec E (n + 1) (.region id ops draw) st = pruneR id (regionE (stepOf draw (fun slot o st => opE E n slot o st)) ops draw st) := rfl
theorem xd_seq (E : Cfg) (n : Nat) (a b : Code) (st : St) (p : Option AV) : execD E (n + 1) (.seq a b) st p = (match execD E n a st p with | some (.normal, st, p) => execD E n b st p | r => r) := rfl
theorem xd_cond (E : Cfg) (n : Nat) (c : Operand) (a b : Code) (st : St) (p : Option AV) : execD E (n + 1) (.cond c a b) st p = (match ev E.G st.t c with | .v (.bool true) => execD E n a st p | .v (.bool false) => execD E n b st p | _ => none) := rfl
theorem xd_region (E : Cfg) (n : Nat) (id) (ops : Array Oper) (draw : Bool) (st : St) (p : Option AV) : execD E (n + 1) (.region id ops draw) st p = (match asks ops.toList && !draw with
      | true => match runOpsD (fun slot o st => opE E n slot o st) ops.toList st.h.length ops.toList 0 { st with h := grow st.h (countAllocs ops.toList) } p with
        | some (st, p) => some (.normal, st, p)
        | none => none
      | false => match exec E n (.region id ops draw) st with
        | some (ex, st) => some (ex, st, p)
        | none => none) := rfl
theorem fs_nil (E : Cfg) (n : Nat) (fn : Func) (t : T) (h : Heap) (k : Nat → Option (List Nat)) (p : Option AV) : finE E (n + 1) fn ⟨t, h, [], k⟩ p = (match p with | some x => some (.pan x, h) | none => finR E.P fn t h) := by
  cases p <;> rfl
theorem fs_cons (E : Cfg) (n : Nat) (fn : Func) (t : T) (h : Heap) (k : Nat → Option (List Nat)) (f : FuncId) (args : List AV) (ds : List (FuncId × List AV)) (p : Option AV) : finE E (n + 1) fn ⟨t, h, (f, args) :: ds, k⟩ p = (
      match E.P.funcs.toList[f]? with
      | none => none
      | some g => match g.body with
        | none => none
        | some c =>
          match execD E n c { t := T.e.ofList 0 args, h := h, d := [], k := E.keep f } p with
          | some (.normal, st', p') => (match st'.d, finR E.P g st'.t st'.h with | [], some _ => finE E n fn ⟨t, st'.h, ds, k⟩ p' | _, _ => none)
          | some (.ret, st', p') => (match st'.d, finR E.P g st'.t st'.h with | [], some _ => finE E n fn ⟨t, st'.h, ds, k⟩ p' | _, _ => none)
          | _ => none) := rfl

/-- Code of a deferred call that asks for nothing. -/
def quiet : Code → Bool
  | .seq _ _ => false
  | .cond _ _ _ => false
  | .region _ ops draw => !(asks ops.toList && !draw)
  | _ => true
theorem xd_quiet (E : Cfg) (n : Nat) (c : Code) (st : St) (p : Option AV) (hq : quiet c = true) : execD E (n + 1) c st p = (match exec E n c st with | some (ex, st) => some (ex, st, p) | none => none) := by
  cases c <;> first | rfl | (simp [quiet] at hq; done) | (rw [xd_region]; simp only [quiet, Bool.not_eq_true'] at hq; simp only [hq])

def MonoAll (E : Cfg) (n : Nat) : Prop :=
  (∀ c st r, exec E n c st = some r → exec E (n + 1) c st = some r) ∧
  (∀ b n0 t0 st r, loopE E n b n0 t0 st = some r → loopE E (n + 1) b n0 t0 st = some r) ∧
  (∀ slot o st r, opE E n slot o st = some r → opE E (n + 1) slot o st = some r) ∧
  (∀ f args h r, callE E n f args h = some r → callE E (n + 1) f args h = some r) ∧
  (∀ f args h r, callF E n f args h = some r → callF E (n + 1) f args h = some r) ∧
  (∀ fn st p r, finE E n fn st p = some r → finE E (n + 1) fn st p = some r) ∧
  (∀ c st p r, execD E n c st p = some r → execD E (n + 1) c st p = some r)

theorem mono_all (E : Cfg) : ∀ n, MonoAll E n
  | 0 => by
    refine ⟨?_, ?_, ?_, ?_, ?_, ?_, ?_⟩ <;> intros <;> rename_i e <;> cases e
  | n + 1 => by
    obtain ⟨hx, hl, ho, hc, hf, hi, hd⟩ := mono_all E n
    refine ⟨?_, ?_, ?_, ?_, ?_, ?_, ?_⟩
    · intro c st r e
      cases c with
      | seq a b =>
        rw [xs_seq] at e ⊢
        cases he : exec E n a st with
        | none => rw [he] at e; cases e
        | some q =>
          obtain ⟨ex, st'⟩ := q
          rw [he] at e
          rw [hx _ _ _ he]
          cases ex <;> first | exact hx _ _ _ e | exact e
      | cond c a b =>
        rw [xs_cond] at e ⊢
        split at e
        · exact hx _ _ _ e
        · exact hx _ _ _ e
        · cases e
      | block id b =>
        rw [xs_block] at e ⊢
        cases he : exec E n b st with
        | none => rw [he] at e; cases e
        | some q =>
          obtain ⟨ex, st'⟩ := q
          rw [he] at e
          rw [hx _ _ _ he]
          exact e
      | scope b => rw [xs_scope] at e ⊢; exact hx _ _ _ e
      | loop b => rw [xs_loop] at e ⊢; exact hl _ _ _ _ _ e
      | region id ops draw =>
        rw [xs_region] at e ⊢
        cases hr : regionE (stepOf draw (fun slot o st => opE E n slot o st)) ops draw st with
        | none => rw [hr] at e; cases e
        | some q => rw [regionE_mono (stepOf_mono (fun _ _ _ _ => ho _ _ _ _) draw) hr, ← hr]; exact e
      | _ => exact e
    · intro b n0 t0 st r e
      rw [loopE] at e ⊢
      cases he : exec E n b st with
      | none => rw [he] at e; cases e
      | some q =>
        obtain ⟨ex, st'⟩ := q
        rw [he] at e
        rw [hx _ _ _ he]
        cases ex with
        | normal =>
          try simp only at e ⊢
          split at e
          · exact hl _ _ _ _ _ e
          · cases e
        | _ => exact e
    · intro slot o st r e
      rw [opE] at e ⊢
      cases hk : kindOf o.op with
      | plain => rw [hk] at e; exact e
      | recover => rw [hk] at e; exact e
      | defer f args => rw [hk] at e; exact e
      | call f args =>
        rw [hk] at e
        try simp only at e ⊢
        split at e
        · next f caps hev =>
          try simp only
          cases hc' : callE E n f (evL E.G st.t args ++ caps) st.h with
          | none => rw [hc'] at e; cases e
          | some q => rw [hc'] at e; rw [hc _ _ _ _ hc']; exact e
        · cases e
    · intro f args h r e
      rw [callE] at e ⊢
      cases hg : E.ext f with
      | some g => rw [hg] at e; exact e
      | none => rw [hg] at e; exact callBy_mono (fun _ _ _ => hf _ _ _ _) e
    · intro f args h r e
      rw [callF] at e ⊢
      cases hg : E.nat f with
      | some g => rw [hg] at e; exact e
      | none =>
        rw [hg] at e
        try simp only at e ⊢
        cases hq : E.P.funcs.toList[f]? with
        | none => rw [hq] at e; cases e
        | some fn =>
          rw [hq] at e
          try simp only at e ⊢
          cases hb : fn.body with
          | none => rw [hb] at e; cases e
          | some c =>
            rw [hb] at e
            try simp only at e ⊢
            cases he : exec E n c { t := T.e.ofList 0 args, h := h, d := [], k := E.keep f } with
            | none => rw [he] at e; cases e
            | some q =>
              obtain ⟨ex, st'⟩ := q
              rw [he] at e
              rw [hx _ _ _ he]
              cases ex <;> first | exact hi _ _ _ _ e | exact e
    · intro fn st p r e
      obtain ⟨t, h, d, k⟩ := st
      cases d with
      | nil => rw [fs_nil] at e ⊢; exact e
      | cons q ds =>
        obtain ⟨f, args⟩ := q
        rw [fs_cons] at e ⊢
        cases hq : E.P.funcs.toList[f]? with
        | none => rw [hq] at e; cases e
        | some g =>
          rw [hq] at e
          try simp only at e ⊢
          cases hb : g.body with
          | none => rw [hb] at e; cases e
          | some c =>
            rw [hb] at e
            try simp only at e ⊢
            cases he : execD E n c { t := T.e.ofList 0 args, h := h, d := [], k := E.keep f } p with
            | none => rw [he] at e; cases e
            | some q =>
              obtain ⟨ex, st', p'⟩ := q
              rw [he] at e
              rw [hd _ _ _ _ he]
              cases ex with
              | normal =>
                try simp only at e ⊢
                split at e
                · next h1 h2 => (try simp only [h1, h2]); exact hi _ _ _ _ e
                · cases e
              | ret =>
                try simp only at e ⊢
                split at e
                · next h1 h2 => (try simp only [h1, h2]); exact hi _ _ _ _ e
                · cases e
              | _ => exact e
    · intro c st p r e
      have hplain : ∀ c, (match exec E n c st with | some (ex, st) => some (ex, st, p) | none => none) = some r →
          (match exec E (n + 1) c st with | some (ex, st) => some (ex, st, p) | none => none) = some r := by
        intro c e
        cases he : exec E n c st with
        | none => rw [he] at e; cases e
        | some q => rw [he] at e; rw [hx _ _ _ he]; exact e
      cases c with
      | seq a b =>
        rw [xd_seq] at e ⊢
        cases he : execD E n a st p with
        | none => rw [he] at e; cases e
        | some q =>
          obtain ⟨ex, st', p'⟩ := q
          rw [he] at e
          rw [hd _ _ _ _ he]
          cases ex <;> first | exact hd _ _ _ _ e | exact e
      | cond c a b =>
        rw [xd_cond] at e ⊢
        split at e
        · exact hd _ _ _ _ e
        · exact hd _ _ _ _ e
        · cases e
      | region id ops draw =>
        rw [xd_region] at e ⊢
        cases ha : (asks ops.toList && !draw) with
        | true =>
          rw [ha] at e
          try simp only at e ⊢
          cases hr : runOpsD (fun slot o st => opE E n slot o st) ops.toList st.h.length ops.toList 0 { st with h := grow st.h (countAllocs ops.toList) } p with
          | none => rw [hr] at e; cases e
          | some q => rw [hr] at e; rw [runOpsD_mono (fun _ _ _ _ => ho _ _ _ _) _ _ _ _ _ _ _ hr]; exact e
        | false =>
          rw [ha] at e
          try simp only at e ⊢
          exact hplain _ e
      | _ => exact hplain _ e

/-! The machine without fuel -/
noncomputable def execL (E : Cfg) (c : Code) (st : St) : Option (Ex × St) := lim fun n => exec E n c st
noncomputable def loopL (E : Cfg) (b : Code) (n0 : Nat) (t0 : T) (st : St) : Option (Ex × St) := lim fun n => loopE E n b n0 t0 st
noncomputable def opL (E : Cfg) (slot : Nat) (o : Oper) (st : St) : Option (R × List (FuncId × List AV)) := lim fun n => opE E n slot o st
noncomputable def callEL (E : Cfg) (f : FuncId) (args : List AV) (h : Heap) : Option R := lim fun n => callE E n f args h
noncomputable def callL (E : Cfg) (f : FuncId) (args : List AV) (h : Heap) : Option (Out × Heap) := lim fun n => callF E n f args h
noncomputable def finL (E : Cfg) (fn : Func) (st : St) (p : Option AV) : Option (Out × Heap) := lim fun n => finE E n fn st p
noncomputable def execDL (E : Cfg) (c : Code) (st : St) (p : Option AV) : Option (Ex × St × Option AV) := lim fun n => execD E n c st p

theorem callL_of {E : Cfg} {n : Nat} {f : FuncId} {args : List AV} {h : Heap} {r} (e : callF E n f args h = some r) : callL E f args h = some r :=
  lim_some (fun m => (mono_all E m).2.2.2.2.1 f args h) e

theorem of_callL {E : Cfg} {f : FuncId} {args : List AV} {h : Heap} {r} (e : callL E f args h = some r) : ∃ n, callF E n f args h = some r := of_lim e

theorem execL_iff {E : Cfg} {c : Code} {st : St} {r} : execL E c st = some r ↔ ∃ n, exec E n c st = some r := lim_iff fun m => (mono_all E m).1 c st
theorem loopL_iff {E : Cfg} {b : Code} {n0 : Nat} {t0 : T} {st : St} {r} : loopL E b n0 t0 st = some r ↔ ∃ n, loopE E n b n0 t0 st = some r := lim_iff fun m => (mono_all E m).2.1 b n0 t0 st
theorem opL_iff {E : Cfg} {slot : Nat} {o : Oper} {st : St} {r} : opL E slot o st = some r ↔ ∃ n, opE E n slot o st = some r := lim_iff fun m => (mono_all E m).2.2.1 slot o st
theorem callEL_iff {E : Cfg} {f : FuncId} {args : List AV} {h : Heap} {r} : callEL E f args h = some r ↔ ∃ n, callE E n f args h = some r := lim_iff fun m => (mono_all E m).2.2.2.1 f args h
theorem callL_iff {E : Cfg} {f : FuncId} {args : List AV} {h : Heap} {r} : callL E f args h = some r ↔ ∃ n, callF E n f args h = some r := lim_iff fun m => (mono_all E m).2.2.2.2.1 f args h
theorem finL_iff {E : Cfg} {fn : Func} {st : St} {p : Option AV} {r} : finL E fn st p = some r ↔ ∃ n, finE E n fn st p = some r := lim_iff fun m => (mono_all E m).2.2.2.2.2.1 fn st p
theorem execDL_iff {E : Cfg} {c : Code} {st : St} {p : Option AV} {r} : execDL E c st p = some r ↔ ∃ n, execD E n c st p = some r := lim_iff fun m => (mono_all E m).2.2.2.2.2.2 c st p

/-- From the step with fuel to that without: 'F' of what is called. -/
theorem lim_step {α : Type} {g : Nat → Option α} {x : Option α} (hm : Mono g) (h1 : ∀ n r, g n = some r → x = some r) (h2 : ∀ r, x = some r → ∃ n, g n = some r) : lim g = x :=
  opt_ext fun r => ⟨fun e => let ⟨n, hn⟩ := of_lim e; h1 n r hn, fun e => let ⟨n, hn⟩ := h2 r e; lim_some hm hn⟩

theorem exec_le {E : Cfg} {c : Code} {st : St} {r} {n m : Nat} (h : n ≤ m) (e : exec E n c st = some r) : exec E m c st = some r :=
  Mono.le (g := fun n => exec E n c st) (fun m => (mono_all E m).1 c st) h e
theorem loopE_le {E : Cfg} {b : Code} {n0 : Nat} {t0 : T} {st : St} {r} {n m : Nat} (h : n ≤ m) (e : loopE E n b n0 t0 st = some r) : loopE E m b n0 t0 st = some r :=
  Mono.le (g := fun n => loopE E n b n0 t0 st) (fun m => (mono_all E m).2.1 b n0 t0 st) h e
theorem opE_le {E : Cfg} {slot : Nat} {o : Oper} {st : St} {r} {n m : Nat} (h : n ≤ m) (e : opE E n slot o st = some r) : opE E m slot o st = some r :=
  Mono.le (g := fun n => opE E n slot o st) (fun m => (mono_all E m).2.2.1 slot o st) h e
theorem callE_le {E : Cfg} {f : FuncId} {args : List AV} {hp : Heap} {r} {n m : Nat} (h : n ≤ m) (e : callE E n f args hp = some r) : callE E m f args hp = some r :=
  Mono.le (g := fun n => callE E n f args hp) (fun m => (mono_all E m).2.2.2.1 f args hp) h e
theorem callF_le {E : Cfg} {f : FuncId} {args : List AV} {hp : Heap} {r} {n m : Nat} (h : n ≤ m) (e : callF E n f args hp = some r) : callF E m f args hp = some r :=
  Mono.le (g := fun n => callF E n f args hp) (fun m => (mono_all E m).2.2.2.2.1 f args hp) h e
theorem finE_le {E : Cfg} {fn : Func} {st : St} {p : Option AV} {r} {n m : Nat} (h : n ≤ m) (e : finE E n fn st p = some r) : finE E m fn st p = some r :=
  Mono.le (g := fun n => finE E n fn st p) (fun m => (mono_all E m).2.2.2.2.2.1 fn st p) h e
theorem execD_le {E : Cfg} {c : Code} {st : St} {p : Option AV} {r} {n m : Nat} (h : n ≤ m) (e : execD E n c st p = some r) : execD E m c st p = some r :=
  Mono.le (g := fun n => execD E n c st p) (fun m => (mono_all E m).2.2.2.2.2.2 c st p) h e
theorem execL_of {E : Cfg} {c : Code} {st : St} {r} {n : Nat} (e : exec E n c st = some r) : execL E c st = some r := execL_iff.2 ⟨n, e⟩
theorem loopL_of {E : Cfg} {b : Code} {n0 : Nat} {t0 : T} {st : St} {r} {n : Nat} (e : loopE E n b n0 t0 st = some r) : loopL E b n0 t0 st = some r := loopL_iff.2 ⟨n, e⟩
theorem opL_of {E : Cfg} {slot : Nat} {o : Oper} {st : St} {r} {n : Nat} (e : opE E n slot o st = some r) : opL E slot o st = some r := opL_iff.2 ⟨n, e⟩
theorem callEL_of {E : Cfg} {f : FuncId} {args : List AV} {h : Heap} {r} {n : Nat} (e : callE E n f args h = some r) : callEL E f args h = some r := callEL_iff.2 ⟨n, e⟩
theorem finL_of {E : Cfg} {fn : Func} {st : St} {p : Option AV} {r} {n : Nat} (e : finE E n fn st p = some r) : finL E fn st p = some r := finL_iff.2 ⟨n, e⟩
theorem execDL_of {E : Cfg} {c : Code} {st : St} {p : Option AV} {r} {n : Nat} (e : execD E n c st p = some r) : execDL E c st p = some r := execDL_iff.2 ⟨n, e⟩

theorem execL_skip (E : Cfg) (st : St) : execL E .skip st = some (.normal, st) := execL_of (n := 1) rfl
theorem execL_label (E : Cfg) (l) (st : St) : execL E (.label l) st = some (.normal, st) := execL_of (n := 1) rfl
theorem execL_exit (E : Cfg) (id) (st : St) : execL E (.exit id) st = some (.exit id, st) := execL_of (n := 1) rfl
theorem execL_ret (E : Cfg) (st : St) : execL E .ret st = some (.ret, st) := execL_of (n := 1) rfl

theorem execL_seq (E : Cfg) (a b : Code) (st : St) : execL E (.seq a b) st = (match execL E a st with | some (.normal, st) => execL E b st | r => r) := by
  refine lim_step (fun m => (mono_all E m).1 _ _) (fun n r e => ?_) (fun r e => ?_)
  · cases n with
    | zero => cases e
    | succ n =>
      rw [xs_seq] at e
      try simp only at e
      split at e
      · next he => rw [execL_of he]; exact execL_of e
      · next he =>
        rw [execL_of e]
        split
        · next h3 => cases h3; exact absurd e (he _)
        · rfl
  · split at e
    · next he =>
      obtain ⟨n, hn⟩ := execL_iff.1 he
      obtain ⟨m, hm⟩ := execL_iff.1 e
      refine ⟨max n m + 1, ?_⟩
      rw [xs_seq]
      simp only [exec_le (Nat.le_max_left n m) hn]
      exact exec_le (Nat.le_max_right n m) hm
    · next he =>
      obtain ⟨n, hn⟩ := execL_iff.1 e
      refine ⟨n + 1, ?_⟩
      rw [xs_seq]
      simp only [hn]
      split
      · next h3 => cases h3; exact absurd e (he _)
      · rfl

theorem execL_cond (E : Cfg) (c : Operand) (a b : Code) (st : St) : execL E (.cond c a b) st = (match ev E.G st.t c with | .v (.bool true) => execL E a st | .v (.bool false) => execL E b st | _ => none) := by
  refine lim_step (fun m => (mono_all E m).1 _ _) (fun n r e => ?_) (fun r e => ?_)
  · cases n with
    | zero => cases e
    | succ n =>
      rw [xs_cond] at e
      try simp only at e
      split at e
      · next he => (try rw [he]); exact execL_of e
      · next he => (try rw [he]); exact execL_of e
      · cases e
  · split at e
    · next he =>
      obtain ⟨n, hn⟩ := execL_iff.1 e
      exact ⟨n + 1, by rw [xs_cond]; simp only [he, hn]⟩
    · next he =>
      obtain ⟨n, hn⟩ := execL_iff.1 e
      exact ⟨n + 1, by rw [xs_cond]; simp only [he, hn]⟩
    · cases e

theorem execL_block (E : Cfg) (id) (b : Code) (st : St) : execL E (.block id b) st = (match execL E b st with | some (.exit id', st) => if id' = id then some (.normal, st) else some (.exit id', st) | r => r) := by
  refine lim_step (fun m => (mono_all E m).1 _ _) (fun n r e => ?_) (fun r e => ?_)
  · cases n with
    | zero => cases e
    | succ n =>
      rw [xs_block] at e
      try simp only at e
      split at e
      · next he => rw [execL_of he]; exact e
      · next he =>
        rw [execL_of e]
        split
        · next h3 => cases h3; exact absurd e (he _ _)
        · rfl
  · split at e
    · next he =>
      obtain ⟨n, hn⟩ := execL_iff.1 he
      refine ⟨n + 1, ?_⟩
      rw [xs_block]
      simp only [hn]
      exact e
    · next he =>
      obtain ⟨n, hn⟩ := execL_iff.1 e
      refine ⟨n + 1, ?_⟩
      rw [xs_block]
      simp only [hn]
      split
      · next h3 => cases h3; exact absurd e (he _ _)
      · rfl

theorem execL_scope (E : Cfg) (b : Code) (st : St) : execL E (.scope b) st = execL E b st := by
  refine lim_step (fun m => (mono_all E m).1 _ _) (fun n r e => ?_) (fun r e => ?_)
  · cases n with
    | zero => cases e
    | succ n => rw [xs_scope] at e; exact execL_of e
  · obtain ⟨n, hn⟩ := execL_iff.1 e
    exact ⟨n + 1, by rw [xs_scope]; exact hn⟩

theorem execL_loop (E : Cfg) (b : Code) (st : St) : execL E (.loop b) st = loopL E b st.h.length st.t st := by
  refine lim_step (fun m => (mono_all E m).1 _ _) (fun n r e => ?_) (fun r e => ?_)
  · cases n with
    | zero => cases e
    | succ n => rw [xs_loop] at e; exact loopL_of e
  · obtain ⟨n, hn⟩ := loopL_iff.1 e
    exact ⟨n + 1, by rw [xs_loop]; exact hn⟩

theorem loopL_eq (E : Cfg) (b : Code) (n0 : Nat) (t0 : T) (st : St) : loopL E b n0 t0 st = (match execL E b st with
    | some (.normal, st) => (match gc n0 { st with t := t0.like st.t } with | some st => loopL E b n0 t0 st | none => none)
    | r => r) := by
  refine lim_step (fun m => (mono_all E m).2.1 _ _ _ _) (fun n r e => ?_) (fun r e => ?_)
  · cases n with
    | zero => cases e
    | succ n =>
      rw [loopE] at e
      split at e
      · next he =>
        rw [execL_of he]
        try simp only
        split at e
        · next hg => (try rw [hg]); exact loopL_of e
        · cases e
      · next he =>
        rw [execL_of e]
        split
        · next h3 => cases h3; exact absurd e (he _)
        · rfl
  · split at e
    · next he =>
      obtain ⟨n, hn⟩ := execL_iff.1 he
      split at e
      · next hg =>
        obtain ⟨m, hm⟩ := loopL_iff.1 e
        refine ⟨max n m + 1, ?_⟩
        rw [loopE]
        simp only [exec_le (Nat.le_max_left n m) hn, hg]
        exact loopE_le (Nat.le_max_right n m) hm
      · cases e
    · next he =>
      obtain ⟨n, hn⟩ := execL_iff.1 e
      refine ⟨n + 1, ?_⟩
      rw [loopE]
      simp only [hn]
      split
      · next h3 => cases h3; exact absurd e (he _)
      · rfl

theorem runOps_lim {E : Cfg} {s1 : Nat → Nat → Oper → St → Option (R × List (FuncId × List AV))} {s2 : Nat → Oper → St → Option (R × List (FuncId × List AV))}
    (hm : ∀ n m, n ≤ m → ∀ slot o st r, s1 n slot o st = some r → s1 m slot o st = some r) (h : ∀ slot o st r, s2 slot o st = some r → ∃ n, s1 n slot o st = some r) (all : List Oper) :
    ∀ (ops : List Oper) (slot i : Nat) (st : St) r, runOps s2 all slot ops i st = some r → ∃ n, runOps (s1 n) all slot ops i st = some r
  | [], slot, i, st, r, e => ⟨0, e⟩
  | o :: rest, slot, i, st, r, e => by
    have ih := runOps_lim (E := E) hm h all rest
    unfold runOps at e
    split at e
    · cases e
    · next hw =>
      split at e
      · next he =>
        obtain ⟨n, hn⟩ := ih _ _ _ _ he
        exact ⟨n, by unfold runOps; simp only [hw, hn]; exact e⟩
      · cases e
    · next hw =>
      split at e
      · next he =>
        obtain ⟨n, hn⟩ := h _ _ _ _ he
        split at e
        · next hr =>
          obtain ⟨m, hm'⟩ := ih _ _ _ _ hr
          refine ⟨max n m, ?_⟩
          unfold runOps
          simp only [hw, hm _ _ (Nat.le_max_left n m) _ _ _ _ hn, runOps_mono (hm _ _ (Nat.le_max_right n m)) _ _ _ _ _ _ hm']
          exact e
        · cases e
      · next he =>
        obtain ⟨n, hn⟩ := h _ _ _ _ he
        exact ⟨n, by unfold runOps; simp only [hw, hn]; exact e⟩
      · cases e

theorem runOpsD_lim {E : Cfg} {s1 : Nat → Nat → Oper → St → Option (R × List (FuncId × List AV))} {s2 : Nat → Oper → St → Option (R × List (FuncId × List AV))}
    (hm : ∀ n m, n ≤ m → ∀ slot o st r, s1 n slot o st = some r → s1 m slot o st = some r) (h : ∀ slot o st r, s2 slot o st = some r → ∃ n, s1 n slot o st = some r) (all : List Oper) :
    ∀ (ops : List Oper) (slot i : Nat) (st : St) (p : Option AV) r, runOpsD s2 all slot ops i st p = some r → ∃ n, runOpsD (s1 n) all slot ops i st p = some r
  | [], slot, i, st, p, r, e => ⟨0, e⟩
  | o :: rest, slot, i, st, p, r, e => by
    have ih := runOpsD_lim (E := E) hm h all rest
    unfold runOpsD at e ⊢
    cases hw : wantedAV all st.t o with
    | none => rw [hw] at e; cases e
    | some b =>
      rw [hw] at e
      cases b with
      | false => exact ih _ _ _ _ _ e
      | true =>
        cases hk : kindOf o.op with
        | recover => rw [hk] at e; exact ih _ _ _ _ _ e
        | _ =>
          rw [hk] at e
          simp only at e ⊢
          cases he : s2 slot o st with
          | none => rw [he] at e; cases e
          | some q =>
            obtain ⟨q, d⟩ := q
            obtain ⟨n, hn⟩ := h _ _ _ _ he
            rw [he] at e
            cases q with
            | pan x hh => cases e
            | val x hh f =>
              obtain ⟨m, hm'⟩ := ih _ _ _ _ _ e
              refine ⟨max n m, ?_⟩
              rw [hm _ _ (Nat.le_max_left n m) _ _ _ _ hn]
              exact runOpsD_mono (hm _ _ (Nat.le_max_right n m)) _ _ _ _ _ _ _ hm'

theorem regionE_lim {E : Cfg} {ops : Array Oper} {draw : Bool} {st : St} {r} (e : regionE (stepOf draw (opL E)) ops draw st = some r) : ∃ n, regionE (stepOf draw (fun slot o st => opE E n slot o st)) ops draw st = some r := by
  unfold regionE at e
  split at e
  · next he =>
    obtain ⟨n, hn⟩ := runOps_lim (E := E) (s1 := fun n => stepOf draw (fun slot o st => opE E n slot o st))
      (fun n m hnm => stepOf_mono (fun _ _ _ _ => opE_le hnm) draw) (fun slot o st r h => by
        cases draw with
        | false => exact opL_iff.1 h
        | true =>
          simp only [stepOf, noDefer] at h ⊢
          split at h
          · cases h
          · exact opL_iff.1 h) _ _ _ _ _ _ he
    exact ⟨n, by unfold regionE; simp only [hn]; exact e⟩
  · cases e

theorem execL_region (E : Cfg) (id) (ops : Array Oper) (draw : Bool) (st : St) : execL E (.region id ops draw) st = pruneR id (regionE (stepOf draw (opL E)) ops draw st) := by
  refine lim_step (fun m => (mono_all E m).1 _ _) (fun n r e => ?_) (fun r e => ?_)
  · cases n with
    | zero => cases e
    | succ n =>
      rw [xs_region] at e
      cases hr : regionE (stepOf draw (fun slot o st => opE E n slot o st)) ops draw st with
      | none => rw [hr] at e; cases e
      | some q => rw [regionE_mono (stepOf_mono (fun _ _ _ _ h => opL_of h) draw) hr, ← hr]; exact e
  · cases hr : regionE (stepOf draw (opL E)) ops draw st with
    | none => rw [hr] at e; cases e
    | some q =>
      obtain ⟨n, hn⟩ := regionE_lim hr
      exact ⟨n + 1, by rw [xs_region, hn, ← hr]; exact e⟩

theorem opL_eq (E : Cfg) (slot : Nat) (o : Oper) (st : St) : opL E slot o st = (match kindOf o.op with
    | .plain => match opP E slot o.op st with
        | some r => some (r, st.d)
        | none => none
    | .call f args => match ev E.G st.t f with
        | .fn f caps => match callEL E f (evL E.G st.t args ++ caps) st.h with
          | some r => some (r, st.d)
          | none => none
        | _ => none
    | .defer f args => match ev E.G st.t f with
        | .fn f caps => some (.val (.tup []) st.h fp0, (f, evL E.G st.t args ++ caps) :: st.d)
        | _ => none
    | .recover => none) := by
  refine lim_step (fun m => (mono_all E m).2.2.1 _ _ _) (fun n r e => ?_) (fun r e => ?_)
  · cases n with
    | zero => cases e
    | succ n =>
      rw [opE] at e
      split at e
      · next hk => (try rw [hk]); exact e
      · next hk =>
        (try rw [hk])
        try simp only
        split at e
        · next hev =>
          (try rw [hev])
          try simp only
          split at e
          · next hc' => rw [callEL_of hc']; exact e
          · cases e
        · cases e
      · next hk => (try rw [hk]); exact e
      · cases e
  · split at e
    · next hk => exact ⟨1, by rw [opE]; simp only [hk]; exact e⟩
    · next hk =>
      split at e
      · next hev =>
        split at e
        · next hc =>
          obtain ⟨n, hn⟩ := callEL_iff.1 hc
          exact ⟨n + 1, by rw [opE]; simp only [hk, hev, hn]; exact e⟩
        · cases e
      · cases e
    · next hk => exact ⟨1, by rw [opE]; simp only [hk]; exact e⟩
    · cases e

theorem callBy_lim {g : Nat → List AV → Heap → Option (Out × Heap)} {x : List AV → Heap → Option (Out × Heap)} (h : ∀ a b r, x a b = some r → ∃ n, g n a b = some r) {way : Way} {args : List AV} {hp : Heap} {r}
    (e : callBy x way args hp = some r) : ∃ n, callBy (g n) way args hp = some r := by
  unfold callBy at e
  split at e
  · cases e
  · next hi =>
    split at e
    · cases e
    · next hr =>
      split at e
      · cases e
      · next hm =>
        split at e
        · next he =>
          obtain ⟨n, hn⟩ := h _ _ _ he
          exact ⟨n, by unfold callBy; simp only [hi, hr, hm, hn]; exact e⟩
        · next he =>
          obtain ⟨n, hn⟩ := h _ _ _ he
          exact ⟨n, by unfold callBy; simp only [hi, hr, hm, hn]; exact e⟩
        · cases e

theorem callEL_eq (E : Cfg) (f : FuncId) (args : List AV) (h : Heap) : callEL E f args h = (match E.ext f with
    | some g => match g args with
      | some x => some (.val x h fp0)
      | none => none
    | none => callBy (fun args h => callL E f args h) (E.way f) args h) := by
  refine lim_step (fun m => (mono_all E m).2.2.2.1 _ _ _) (fun n r e => ?_) (fun r e => ?_)
  · cases n with
    | zero => cases e
    | succ n =>
      rw [callE] at e
      split at e
      · next hg => (try rw [hg]); exact e
      · next hg => (try rw [hg]); exact callBy_mono (fun _ _ _ h => callL_of h) e
  · split at e
    · next hg => exact ⟨1, by rw [callE]; simp only [hg]; exact e⟩
    · next hg =>
      obtain ⟨n, hn⟩ := callBy_lim (g := fun n args h => callF E n f args h) (fun a b r h => callL_iff.1 h) e
      exact ⟨n + 1, by rw [callE]; simp only [hg]; exact hn⟩

theorem callL_eq (E : Cfg) (f : FuncId) (args : List AV) (h : Heap) : callL E f args h = (match E.nat f with
    | some g => g args h
    | none =>
    match E.P.funcs.toList[f]? with
    | none => none
    | some fn => match fn.body with
      | none => none
      | some c =>
        match execL E c { t := T.e.ofList 0 args, h := h, d := [], k := E.keep f } with
        | some (.normal, st) => finL E fn st none
        | some (.ret, st) => finL E fn st none
        | some (.pan x, st) => finL E fn st (some x)
        | _ => none) := by
  refine lim_step (fun m => (mono_all E m).2.2.2.2.1 _ _ _) (fun n r e => ?_) (fun r e => ?_)
  · cases n with
    | zero => cases e
    | succ n =>
      rw [callF] at e
      split at e
      · next hg => (try rw [hg]); exact e
      · next hg =>
        (try rw [hg])
        try simp only
        split at e
        · cases e
        · next hq =>
          (try rw [hq])
          try simp only
          split at e
          · cases e
          · next hb =>
            (try rw [hb])
            try simp only
            split at e
            · next he => rw [execL_of he]; exact finL_of e
            · next he => rw [execL_of he]; exact finL_of e
            · next he => rw [execL_of he]; exact finL_of e
            · cases e
  · split at e
    · next hg => exact ⟨1, by rw [callF]; simp only [hg]; exact e⟩
    · next hg =>
      split at e
      · cases e
      · next hq =>
        split at e
        · cases e
        · next hb =>
          split at e
          · next he =>
            obtain ⟨n, hn⟩ := execL_iff.1 he
            obtain ⟨m, hm⟩ := finL_iff.1 e
            refine ⟨max n m + 1, ?_⟩
            rw [callF]
            simp only [hg, hq, hb, exec_le (Nat.le_max_left n m) hn]
            exact finE_le (Nat.le_max_right n m) hm
          · next he =>
            obtain ⟨n, hn⟩ := execL_iff.1 he
            obtain ⟨m, hm⟩ := finL_iff.1 e
            refine ⟨max n m + 1, ?_⟩
            rw [callF]
            simp only [hg, hq, hb, exec_le (Nat.le_max_left n m) hn]
            exact finE_le (Nat.le_max_right n m) hm
          · next he =>
            obtain ⟨n, hn⟩ := execL_iff.1 he
            obtain ⟨m, hm⟩ := finL_iff.1 e
            refine ⟨max n m + 1, ?_⟩
            rw [callF]
            simp only [hg, hq, hb, exec_le (Nat.le_max_left n m) hn]
            exact finE_le (Nat.le_max_right n m) hm
          · cases e

theorem finL_nil (E : Cfg) (fn : Func) (t : T) (h : Heap) (k : Nat → Option (List Nat)) (p : Option AV) : finL E fn ⟨t, h, [], k⟩ p = (match p with | some x => some (.pan x, h) | none => finR E.P fn t h) := by
  refine lim_step (fun m => (mono_all E m).2.2.2.2.2.1 _ _ _) (fun n r e => ?_) (fun r e => ?_)
  · cases n with
    | zero => cases e
    | succ n => rw [fs_nil] at e; exact e
  · exact ⟨1, by rw [fs_nil]; exact e⟩

theorem finL_cons (E : Cfg) (fn : Func) (t : T) (h : Heap) (k : Nat → Option (List Nat)) (f : FuncId) (args : List AV) (ds : List (FuncId × List AV)) (p : Option AV) : finL E fn ⟨t, h, (f, args) :: ds, k⟩ p = (
      match E.P.funcs.toList[f]? with
      | none => none
      | some g => match g.body with
        | none => none
        | some c =>
          match execDL E c { t := T.e.ofList 0 args, h := h, d := [], k := E.keep f } p with
          | some (.normal, st', p') => (match st'.d, finR E.P g st'.t st'.h with | [], some _ => finL E fn ⟨t, st'.h, ds, k⟩ p' | _, _ => none)
          | some (.ret, st', p') => (match st'.d, finR E.P g st'.t st'.h with | [], some _ => finL E fn ⟨t, st'.h, ds, k⟩ p' | _, _ => none)
          | _ => none) := by
  refine lim_step (fun m => (mono_all E m).2.2.2.2.2.1 _ _ _) (fun n r e => ?_) (fun r e => ?_)
  · cases n with
    | zero => cases e
    | succ n =>
      rw [fs_cons] at e
      try simp only at e
      split at e
      · cases e
      · next hq =>
        (try rw [hq])
        try simp only
        split at e
        · cases e
        · next hb =>
          (try rw [hb])
          try simp only
          split at e
          · next he =>
            rw [execDL_of he]
            try simp only
            split at e
            · next h1 h2 => (try rw [h1, h2]); exact finL_of e
            · cases e
          · next he =>
            rw [execDL_of he]
            try simp only
            split at e
            · next h1 h2 => (try rw [h1, h2]); exact finL_of e
            · cases e
          · cases e
  · split at e
    · cases e
    · next hq =>
      split at e
      · cases e
      · next hb =>
        split at e
        · next he =>
          obtain ⟨n, hn⟩ := execDL_iff.1 he
          split at e
          · next h1 h2 =>
            obtain ⟨m, hm⟩ := finL_iff.1 e
            refine ⟨max n m + 1, ?_⟩
            rw [fs_cons]
            simp only [hq, hb, execD_le (Nat.le_max_left n m) hn, h1, h2]
            exact finE_le (Nat.le_max_right n m) hm
          · cases e
        · next he =>
          obtain ⟨n, hn⟩ := execDL_iff.1 he
          split at e
          · next h1 h2 =>
            obtain ⟨m, hm⟩ := finL_iff.1 e
            refine ⟨max n m + 1, ?_⟩
            rw [fs_cons]
            simp only [hq, hb, execD_le (Nat.le_max_left n m) hn, h1, h2]
            exact finE_le (Nat.le_max_right n m) hm
          · cases e
        · cases e

theorem execDL_seq (E : Cfg) (a b : Code) (st : St) (p : Option AV) : execDL E (.seq a b) st p = (match execDL E a st p with | some (.normal, st, p) => execDL E b st p | r => r) := by
  refine lim_step (fun m => (mono_all E m).2.2.2.2.2.2 _ _ _) (fun n r e => ?_) (fun r e => ?_)
  · cases n with
    | zero => cases e
    | succ n =>
      rw [xd_seq] at e
      try simp only at e
      split at e
      · next he => rw [execDL_of he]; exact execDL_of e
      · next he =>
        rw [execDL_of e]
        split
        · next h3 => cases h3; exact absurd e (he _ _)
        · rfl
  · split at e
    · next he =>
      obtain ⟨n, hn⟩ := execDL_iff.1 he
      obtain ⟨m, hm⟩ := execDL_iff.1 e
      refine ⟨max n m + 1, ?_⟩
      rw [xd_seq]
      simp only [execD_le (Nat.le_max_left n m) hn]
      exact execD_le (Nat.le_max_right n m) hm
    · next he =>
      obtain ⟨n, hn⟩ := execDL_iff.1 e
      refine ⟨n + 1, ?_⟩
      rw [xd_seq]
      simp only [hn]
      split
      · next h3 => cases h3; exact absurd e (he _ _)
      · rfl

theorem execDL_cond (E : Cfg) (c : Operand) (a b : Code) (st : St) (p : Option AV) : execDL E (.cond c a b) st p = (match ev E.G st.t c with | .v (.bool true) => execDL E a st p | .v (.bool false) => execDL E b st p | _ => none) := by
  refine lim_step (fun m => (mono_all E m).2.2.2.2.2.2 _ _ _) (fun n r e => ?_) (fun r e => ?_)
  · cases n with
    | zero => cases e
    | succ n =>
      rw [xd_cond] at e
      try simp only at e
      split at e
      · next he => (try rw [he]); exact execDL_of e
      · next he => (try rw [he]); exact execDL_of e
      · cases e
  · split at e
    · next he =>
      obtain ⟨n, hn⟩ := execDL_iff.1 e
      exact ⟨n + 1, by rw [xd_cond]; simp only [he, hn]⟩
    · next he =>
      obtain ⟨n, hn⟩ := execDL_iff.1 e
      exact ⟨n + 1, by rw [xd_cond]; simp only [he, hn]⟩
    · cases e

theorem execDL_asks (E : Cfg) (id) (ops : Array Oper) (st : St) (p : Option AV) (ha : asks ops.toList = true) : execDL E (.region id ops false) st p =
    (match runOpsD (opL E) ops.toList st.h.length ops.toList 0 { st with h := grow st.h (countAllocs ops.toList) } p with
        | some (st, p) => some (.normal, st, p)
        | none => none) := by
  refine lim_step (fun m => (mono_all E m).2.2.2.2.2.2 _ _ _) (fun n r e => ?_) (fun r e => ?_)
  · cases n with
    | zero => cases e
    | succ n =>
      rw [xd_region] at e
      simp only [ha, Bool.not_false, Bool.and_self] at e
      split at e
      · next he => rw [runOpsD_mono (fun _ _ _ _ h => opL_of h) _ _ _ _ _ _ _ he]; exact e
      · cases e
  · split at e
    · next he =>
      obtain ⟨n, hn⟩ := runOpsD_lim (E := E) (s1 := fun n => fun slot o st => opE E n slot o st) (fun n m hnm _ _ _ _ => opE_le hnm) (fun slot o st r h => opL_iff.1 h) _ _ _ _ _ _ _ he
      exact ⟨n + 1, by rw [xd_region]; simp only [ha, Bool.not_false, Bool.and_self, hn]; exact e⟩
    · cases e

theorem execDL_quiet (E : Cfg) (c : Code) (st : St) (p : Option AV) (hq : quiet c = true) : execDL E c st p = (match execL E c st with | some (ex, st) => some (ex, st, p) | none => none) := by
  refine lim_step (fun m => (mono_all E m).2.2.2.2.2.2 _ _ _) (fun n r e => ?_) (fun r e => ?_)
  · cases n with
    | zero => cases e
    | succ n =>
      rw [xd_quiet E n c st p hq] at e
      cases he : exec E n c st with
      | none => rw [he] at e; cases e
      | some q => rw [he] at e; rw [execL_of he]; exact e
  · cases he : execL E c st with
    | none => rw [he] at e; cases e
    | some q =>
      obtain ⟨n, hn⟩ := execL_iff.1 he
      exact ⟨n + 1, by rw [xd_quiet E n c st p hq, hn]; rw [he] at e; exact e⟩
end Go.AM
