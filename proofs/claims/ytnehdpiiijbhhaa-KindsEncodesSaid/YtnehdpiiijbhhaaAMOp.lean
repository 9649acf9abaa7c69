/- A part of the proof that the machine of AM is sound: each lemma is under its own hypotheses alone. -/
import Derived.Test.YtnehdpiiijbhhaaAMVal2
set_option autoImplicit false
set_option linter.unusedVariables false
set_option linter.unusedSimpArgs false
namespace Go.AM
open Go Go.RowKit
variable {P : Program}

/-! Slots -/
theorem beq0 (i : Nat) : Nat.beq i 0 = decide (i = 0) := by cases i <;> simp [Nat.beq]
theorem beq1 (i : Nat) : Nat.beq (i % 2) 1 = decide (i % 2 = 1) := by
  have : i % 2 < 2 := Nat.mod_lt _ (by omega)
  rcases (show i % 2 = 0 ∨ i % 2 = 1 by omega) with h | h <;> simp [h, Nat.beq]

theorem T.get_n (l : T) (x : AV) (r : T) (i : Nat) : (T.n l x r).get i = if i = 0 then x else if i % 2 = 1 then l.get (i / 2) else r.get (i / 2 - 1) := by
  rw [T.get, beq0, beq1]
  by_cases h : i = 0
  · simp [h]
  · by_cases h2 : i % 2 = 1 <;> simp [h, h2]

theorem T.get_e (i : Nat) : T.e.get i = .undef := by rw [T.get]

theorem T.get_one (x : AV) : ∀ (f i j : Nat), i < f → (T.one f i x).get j = if i = j then x else .undef
  | 0, i, j, h => by omega
  | f + 1, i, j, h => by
    rw [T.one, beq0, beq1]
    by_cases h0 : i = 0
    · subst h0
      simp only [decide_true, T.get_n, T.get_e, ite_self]
      by_cases hj : j = 0 <;> simp [hj, Ne.symm, eq_comm]
    · simp only [h0, decide_false]
      by_cases h1 : i % 2 = 1
      · simp only [h1, decide_true, T.get_n, T.get_e, T.get_one x f (i / 2) _ (by omega)]
        by_cases hj : j = 0
        · subst hj; simp; omega
        · simp only [if_neg hj]
          by_cases h2 : j % 2 = 1
          · simp only [h2, if_true]
            by_cases e : i = j
            · simp [e]
            · rw [if_neg (by omega), if_neg e]
          · simp only [h2, if_false]
            rw [if_neg (by omega)]
      · simp only [h1, decide_false, T.get_n, T.get_e, T.get_one x f (i / 2 - 1) _ (by omega)]
        by_cases hj : j = 0
        · subst hj; simp; omega
        · simp only [if_neg hj]
          by_cases h2 : j % 2 = 1
          · simp only [h2, if_true]
            rw [if_neg (by omega)]
          · simp only [h2, if_false]
            by_cases e : i = j
            · simp [e]
            · rw [if_neg (by omega), if_neg e]

theorem T.get_set (x : AV) : ∀ (t : T) (i j : Nat), (t.set i x).get j = if i = j then x else t.get j
  | .e, i, j => by rw [T.set, T.get_one x _ _ _ (by omega), T.get_e]
  | .n l y r, i, j => by
    rw [T.set, beq0, beq1]
    by_cases h0 : i = 0
    · subst h0
      simp only [decide_true, T.get_n]
      by_cases hj : j = 0
      · simp [hj]
      · simp only [if_neg hj, if_neg (Ne.symm hj)]
    · simp only [h0, decide_false]
      by_cases h1 : i % 2 = 1
      · simp only [h1, decide_true, T.get_n, T.get_set x l]
        by_cases hj : j = 0
        · subst hj; simp [h0]
        · simp only [if_neg hj]
          by_cases h2 : j % 2 = 1
          · simp only [h2, if_true]
            by_cases e : i = j
            · simp [e]
            · rw [if_neg (by omega), if_neg e]
          · simp only [h2, if_false]
            rw [if_neg (by omega)]
      · simp only [h1, decide_false, T.get_n, T.get_set x r]
        by_cases hj : j = 0
        · subst hj; simp [h0]
        · simp only [if_neg hj]
          by_cases h2 : j % 2 = 1
          · simp only [h2, if_true]
            rw [if_neg (by omega)]
          · simp only [h2, if_false]
            by_cases e : i = j
            · simp [e]
            · rw [if_neg (by omega), if_neg e]

/-- The slots. -/
def TR (c : Ctx) (t : T) (a : Act) : Prop := ∀ i, Rel c (t.get i) (a.tmps.getD i undef)

theorem TR.mono {c c' : Ctx} (h : Le c c') {t : T} {a : Act} (ht : TR c t a) : TR c' t a := fun i => (ht i).mono h

theorem TR.put {c : Ctx} {t : T} {a : Act} (ht : TR c t a) {x : AV} {v : Value} (hx : Rel c x v) (d : Option Tmp) (hd : ∀ i, d = some i → i < a.tmps.size) : TR c (putT t d x) (a.put d v) := by
  cases d with
  | none => exact ht
  | some d =>
    have hd := hd d rfl
    intro i
    simp only [putT, Act.put, T.get_set]
    by_cases e : d = i
    · subst e
      simpa [Array.getD, hd] using hx
    · have := ht i
      simp only [if_neg e]
      rw [show (a.tmps.setIfInBounds d v).getD i undef = a.tmps.getD i undef by
        simp [Array.getD_eq_getD_getElem?, Array.getElem?_setIfInBounds, e]]
      exact this

theorem ofCell_one (x : Value) : ofCell x = .undef ∨ one (ofCell x) = true := by
  unfold ofCell
  split <;> first | exact .inl rfl | exact .inr rfl

theorem rel_ofConst (c : Ctx) (x : Value) : Rel c (ofConst x) x := by
  unfold ofConst
  split
  · next cs =>
    split
    · next h =>
      refine ⟨cs.toList, rfl, relL_ofCells c _, ?_⟩
      rw [List.all_eq_true] at h ⊢
      intro y hy
      have := h y hy
      obtain ⟨z, hz, rfl⟩ := List.mem_map.1 hy
      rcases ofCell_one z with e | e
      · rw [e] at this; cases this
      · exact e
    · trivial
  · exact rel_ofCell c x

/-- The globals. -/
def GR (c : Ctx) (G : Nat → AV) : Prop := ∀ g, Rel c (G g) (.pointer (some ⟨g, 0, none⟩))

theorem ev_rel {c : Ctx} {G : Nat → AV} {t : T} {a : Act} (hg : GR c G) (ht : TR c t a) : ∀ x : Operand, Rel c (ev G t x) (a.eval x)
  | .tmp i => ht i
  | .const x => rel_ofConst c x
  | .func f => ⟨[], rfl, rfl⟩
  | .global g => hg g

theorem evL_rel {c : Ctx} {G : Nat → AV} {t : T} {a : Act} (hg : GR c G) (ht : TR c t a) : ∀ l : List Operand, RelL c (evL G t l) (l.map a.eval)
  | [] => rfl
  | x :: l => ⟨_, _, rfl, ev_rel hg ht x, evL_rel hg ht l⟩

theorem evP_rel {c : Ctx} {G : Nat → AV} {t : T} {a : Act} (hg : GR c G) (ht : TR c t a) : ∀ l : List (Nat × Operand), RelP c (evP G t l) (l.map fun (i, x) => (i, a.eval x))
  | [] => rfl
  | (i, x) :: l => ⟨_, _, rfl, ev_rel hg ht x, evP_rel hg ht l⟩

theorem evO_rel {c : Ctx} {G : Nat → AV} {t : T} {a : Act} (hg : GR c G) (ht : TR c t a) : ∀ x : Option Operand, RelO c (evO G t x) (x.map a.eval)
  | none => trivial
  | some x => ev_rel hg ht x

theorem GR.mono {c c' : Ctx} (h : Le c c') {G : Nat → AV} (hg : GR c G) : GR c' G := fun g => (hg g).mono h

/-- What a plain operation comes to. -/
def OpRes (P : Program) (B : Base) (c : Ctx) (h : Heap) (a : Act) (o : Oper) : R → Prop
  | .val x h' _ => ∃ nx c', (execOp a.eval o).run P c.w = .ok nx c'.w ∧ Le c c' ∧ HR c' h' ∧ BR B c' h' ∧ ((∃ v, nx = .value v ∧ Rel c' x v) ∨ (nx = .skip ∧ x = .tup []))
  | .pan x h' => ∃ v, (execOp a.eval o).run P c.w = .halt (.panic v) c.w ∧ Rel c x v ∧ h' = h

theorem OpRes.of {B : Base} {c : Ctx} {h h' : Heap} {a : Act} {o : Oper} {x : AV} {f : FP} {s : Sem Value} (hs : execOp a.eval o = (do pure (.value (← s)))) (hc : Comes B c h' x (s.run P c.w)) :
    OpRes P B c h a o (.val x h' f) := by
  obtain ⟨v, w', c', hr, rfl, h1, h2, h3, h4⟩ := hc
  exact ⟨.value v, c', by rw [hs, Sem.run_bind, hr]; rfl, h1, h2, h3, .inl ⟨v, rfl, h4⟩⟩

theorem OpRes.pure {B : Base} {c : Ctx} {h h' : Heap} {a : Act} {o : Oper} {x : AV} {f : FP} {s : Sem Value} (hs : execOp a.eval o = (do pure (.value (← s)))) (hh : HR c h) (hB : BR B c h)
    (he : h' = h) (hc : ∃ v, s.run P c.w = .ok v c.w ∧ Rel c x v) : OpRes P B c h a o (.val x h' f) := by
  obtain ⟨v, hr, hx⟩ := hc
  subst he
  exact .of hs (.same hr hh hB hx)

theorem vR_some {h : Heap} {x : Option AV} {r : R} (e : vR h x = some r) : ∃ y, x = some y ∧ r = .val y h fp0 := by
  cases x with
  | none => cases e
  | some y => cases e; exact ⟨y, rfl, rfl⟩

structure Env (P : Program) (B : Base) (c : Ctx) (h : Heap) (G : Nat → AV) (t : T) (a : Act) : Prop where
  hh : HR c h
  hB : BR B c h
  hg : GR c G
  ht : TR c t a

theorem op_sound {eqT : TypeId → List Bool} (hE : EqOk P eqT) {B : Base} {c : Ctx} {h : Heap} {G : Nat → AV} {t : T} {a : Act} (e : Env P B c h G t a) {slot : Nat} {o : Oper} {r : R}
    (hr : opV P G eqT slot o.op t h = some r) (hs : allocs o.op = true → h[slot]? = some .dead) : OpRes P B c h a o r := by
  have E := fun x => ev_rel e.hg e.ht x
  unfold opV at hr
  split at hr
  · next x ho => cases hr; exact ⟨.value (a.eval x), c, by simp [execOp, ho], .refl c, e.hh, e.hB, .inl ⟨_, rfl, E x⟩⟩
  · next x ho => cases hr; exact ⟨.value (a.eval x), c, by simp [execOp, ho], .refl c, e.hh, e.hB, .inl ⟨_, rfl, E x⟩⟩
  · next x y z ho =>
    obtain ⟨v, hv, rfl⟩ := vR_some hr
    refine .pure (s := do pure (if ← asBool (a.eval x) then a.eval y else a.eval z)) (by simp [execOp, ho]) e.hh e.hB rfl (pick_sound hv (E x) (E y) (E z))
  · next ty ho =>
    have hd := hs (by simp [ho, allocs])
    cases r with
    | val x h' f =>
      obtain ⟨y, w', c', k⟩ := alloc_sound e.hh e.hB hd hr
      exact .of (s := Instr.alloc ty true (.tuple #[])) (by simp only [execOp, ho]) ⟨y, w', c', k⟩
    | pan x h' => unfold opAlloc at hr; split at hr <;> simp [newVar] at hr
  · next ty x ho =>
    have hd := hs (by simp [ho, allocs])
    cases r with
    | val y h' f =>
      obtain ⟨y, w', c', k⟩ := box_sound (T := ty) e.hh e.hB hd hr (E x)
      exact .of (s := Instr.box ty (a.eval x)) (by simp only [execOp, ho]) ⟨y, w', c', k⟩
    | pan x h' => unfold opBox at hr; split at hr <;> simp [newVar] at hr
  · next ty parts ho =>
    obtain ⟨v, hv, rfl⟩ := vR_some hr
    exact .pure (s := Instr.build ty (parts.map fun (i, x) => (i, a.eval x))) (by simp only [execOp, ho]) e.hh e.hB rfl (build_sound hv (by simpa using evP_rel e.hg e.ht parts.toList))
  · next ty len parts ho =>
    have hd := hs (by simp [ho, allocs])
    cases r with
    | val y h' f =>
      obtain ⟨y, w', c', k⟩ := buildSlice_sound e.hh e.hB hd hr (ys := parts.map fun (i, x) => (i, a.eval x)) (by simpa using evP_rel e.hg e.ht parts.toList)
      exact .of (by simp only [execOp, ho]) ⟨y, w', c', k⟩
    | pan x h' =>
      unfold opBuildSlice at hr
      split at hr
      · split at hr
        · cases hr
        · split at hr
          · have := (ite_some hr).2; cases this
          · cases hr
      · cases hr
  · next ty x ho =>
    unfold opLoad at hr
    split at hr
    · next y f hl =>
      cases hr
      exact .pure (by simp only [execOp, ho]) e.hh e.hB rfl (load_sound hl (E x) e.hh)
    · cases hr
  · next ty x y ho =>
    unfold opStore at hr
    split at hr
    · next d h' f hd hst =>
      cases hr
      obtain ⟨w', h1, h2, h3, h4⟩ := store_sound hst (E x) (E y) e.hh e.hB hd
      exact ⟨.skip, { c with w := w' }, by simp [execOp, ho, Sem.run_bind, h1], h2, h3, h4, .inr ⟨rfl, rfl⟩⟩
    · cases hr
  · next x ho =>
    obtain ⟨v, hv, rfl⟩ := vR_some hr
    have hx := E x
    unfold nilCheckAV at hv
    split at hv
    · next e1 =>
      cases hv
      rw [e1] at hx
      obtain ⟨_, hu⟩ := id hx
      exact ⟨.value (a.eval x), c, by simp [execOp, ho, hu], .refl c, e.hh, e.hB, .inl ⟨_, rfl, hx⟩⟩
    · next e1 =>
      cases hv
      rw [e1] at hx
      obtain ⟨_, _, hu, _⟩ := id hx
      exact ⟨.value (a.eval x), c, by simp [execOp, ho, hu], .refl c, e.hh, e.hB, .inl ⟨_, rfl, hx⟩⟩
    · next e1 =>
      cases hv
      rw [e1] at hx
      obtain ⟨_, hu, _⟩ := id hx
      exact ⟨.value (a.eval x), c, by simp [execOp, ho, hu], .refl c, e.hh, e.hB, .inl ⟨_, rfl, hx⟩⟩
    · cases hv
  · next op ty x y yt ho =>
    obtain ⟨v, hv, rfl⟩ := vR_some hr
    exact .pure (s := do eqGuard op ty x y (a.eval x) (a.eval y); binOp op ty (a.eval x) (a.eval y)) (by simp only [execOp, ho]) e.hh e.hB rfl (bin_sound hE x y hv (E x) (E y) id)
  · next op ty x ho =>
    obtain ⟨v, hv, rfl⟩ := vR_some hr
    exact .pure (by simp only [execOp, ho]) e.hh e.hB rfl (un_sound hv (E x))
  · next s d x ho =>
    unfold opConv at hr
    split at hr
    · next y hy =>
      cases hr
      exact .pure (by simp only [execOp, ho]) e.hh e.hB rfl (conv_sound hy (E x) e.hh)
    · cases hr
  · next ty x ho =>
    obtain ⟨v, hv, rfl⟩ := vR_some hr
    exact .pure (by simp only [execOp, ho]) e.hh e.hB rfl (iface_sound hv (E x))
  · next fn first caps ho =>
    unfold opFunc at hr
    split at hr
    · next f hf =>
      cases hr
      have hf' : first = #[] := by
        obtain ⟨l⟩ := first
        simp at hf; simp [hf]
      subst hf'
      refine .pure (s := Instr.makeFunc (.func f) ((#[] : Array Operand).map a.eval) (caps.map a.eval)) (by simp only [execOp, ho]) e.hh e.hB rfl ⟨.func (.func f) #[] (caps.map a.eval), ?_, caps.toList.map a.eval, by congr 1; rw [← Array.toList_map], evL_rel e.hg e.ht caps.toList⟩
      simp [Instr.makeFunc]
    · cases hr
  · next ty l k ho =>
    have hd := hs (by simp [ho, allocs])
    cases r with
    | val y h' f => exact .of (by simp only [execOp, ho]) (make_sound e.hh e.hB hd hr (E l) (E k))
    | pan x h' =>
      unfold makeAV at hr
      split at hr
      · split at hr
        · have := (ite_some hr).2; cases this
        · cases hr
      · cases hr
  · next ty x lo hi mx ho =>
    unfold opSlice at hr
    split at hr
    · next y h' f hy =>
      cases hr
      exact .of (by simp only [execOp, ho]) (slice_sound e.hh e.hB hy (E x) (evO_rel e.hg e.ht lo) (evO_rel e.hg e.ht hi) (evO_rel e.hg e.ht mx))
    · cases hr
  · next s x f ho =>
    obtain ⟨v, hv, rfl⟩ := vR_some hr
    exact .pure (by simp only [execOp, ho]) e.hh e.hB rfl (fieldAddr_sound hv (E x))
  · next s x f ho =>
    obtain ⟨v, hv, rfl⟩ := vR_some hr
    exact .pure (by simp only [execOp, ho]) e.hh e.hB rfl (field_sound hv (E x))
  · next ty x i ho =>
    have hi := E i
    unfold opIndexAddr at hr
    split at hr
    · next k n e1 =>
      rw [e1] at hi
      obtain ⟨_, hi⟩ := hi
      split at hr
      · next y hy =>
        cases hr
        refine .pure (s := Instr.indexAt ty (a.eval x) (a.eval i)) (by simp only [execOp, ho]) e.hh e.hB rfl ?_
        rw [hi]
        exact indexAddr_sound hy (E x) e.hh
      · cases hr
    · cases hr
  · next ty x i ho =>
    obtain ⟨v, hv, rfl⟩ := vR_some hr
    have hi := E i
    unfold indexAV' at hv
    split at hv
    · next k n e1 =>
      rw [e1] at hi
      obtain ⟨_, hi⟩ := hi
      refine .pure (s := Instr.index ty (a.eval x) (a.eval i)) (by simp only [execOp, ho]) e.hh e.hB rfl ?_
      rw [hi]
      exact index_sound hv (E x)
    · cases hv
  · next x xt ty ok ho =>
    obtain ⟨v, hv, rfl⟩ := vR_some hr
    exact .pure (s := Instr.typeAssert (a.eval x) xt ty ok) (by simp only [execOp, ho]) e.hh e.hB rfl (assert_sound hv (E x))
  · next x i ho =>
    obtain ⟨v, hv, rfl⟩ := vR_some hr
    exact .pure (by simp only [execOp, ho]) e.hh e.hB rfl (extract_sound hv (E x))
  · next x ho =>
    have hx := E x
    unfold opPanic at hr
    split at hr
    · next ty y e1 =>
      cases hr
      rw [e1] at hx
      obtain ⟨z, hz, _⟩ := id hx
      exact ⟨a.eval x, by simp [execOp, ho, Instr.panic, hz, Sem.run_bind], hx, rfl⟩
    · cases hr
  · next cl ho =>
    unfold opCallee at hr
    split at hr
    case h_2 => cases hr
    case h_1 b hb =>
    have hx := evL_rel e.hg e.ht cl.args.toList
    rw [← Array.toList_map] at hx
    have hex : ∃ cs, execOp a.eval o = builtin b cl.argTypes o.type cs (cl.args.map a.eval) := ⟨_, by
      simp only [execOp, ho, resolve, hb]
      rfl⟩
    obtain ⟨cs, hex⟩ := hex
    generalize cl.args.map a.eval = ys at hx hex
    generalize evL G t cl.args.toList = l at hx hr
    unfold opBuiltin at hr
    split at hr
    · next ty x hh =>
      obtain ⟨y, ys', hy, h1, h2⟩ := hx
      rw [RelL] at h2
      obtain ⟨ys⟩ := ys
      simp at hy; subst h2; subst hy
      cases r with
      | val z h' f =>
        obtain ⟨v, k1, k2, rfl⟩ := len_sound hr h1 hh o.type
        exact .pure (s := Builtin.len_ cl.argTypes o.type #[y]) (by rw [hex]; rfl) e.hh e.hB rfl ⟨v, k1, k2⟩
      | pan x h' => unfold opLen at hr; (repeat' split at hr) <;> cases hr
    · next ty s x hh =>
      obtain ⟨hok, hr⟩ := ite_some hr
      obtain ⟨y, ys', hy, h1, h2⟩ := hx
      obtain ⟨y', ys'', hy', h1', h2'⟩ := h2
      rw [RelL] at h2'
      obtain ⟨ys⟩ := ys
      simp at hy; subst h2'; subst hy'; subst hy
      have hd := hs (by simp [ho, allocs, hb])
      cases r with
      | val z h' f => exact .of (s := Builtin.append_ cl.argTypes o.type #[y, y']) (by rw [hex]; rfl) (append_sound e.hh e.hB hd hr hok hh h1 h1')
      | pan x h' => unfold appendAV at hr; (repeat' split at hr) <;> cases hr
    · obtain ⟨v, hv, rfl⟩ := vR_some hr
      exact .pure (s := Builtin.min_ cl.argTypes o.type ys) (by rw [hex]; rfl) e.hh e.hB rfl (min_sound hv hx _ _)
    · obtain ⟨v, hv, rfl⟩ := vR_some hr
      exact .pure (s := Builtin.max_ cl.argTypes o.type ys) (by rw [hex]; rfl) e.hh e.hB rfl (max_sound hv hx _ _)
    · cases hr
  · cases hr
end Go.AM
