/- A part of the proof that the machine of AM is sound: each lemma is under its own hypotheses alone. -/
import Derived.Test.YtnehdpiiijbhhaaAMFrame2
set_option autoImplicit false
set_option linter.unusedVariables false
set_option linter.unusedSimpArgs false
namespace Go.AM
open Go Go.RowKit
variable {P : Program}

theorem T.one_indep (x : AV) : ∀ (f g i : Nat), i < f → i < g → T.one f i x = T.one g i x
  | 0, _, _, h, _ => by omega
  | _ + 1, 0, _, _, h => by omega
  | f + 1, g + 1, i, h, h' => by
    rw [T.one, T.one, beq0, beq1]
    by_cases h0 : i = 0
    · simp [h0]
    · by_cases h1 : i % 2 = 1
      · simp only [h0, h1, decide_true, decide_false]
        rw [T.one_indep x f g (i / 2) (by omega) (by omega)]
      · simp only [h0, h1, decide_false]
        rw [T.one_indep x f g (i / 2 - 1) (by omega) (by omega)]

theorem T.set_n (l : T) (y : AV) (r : T) (i : Nat) (x : AV) : (T.n l y r).set i x = if i = 0 then .n l x r else if i % 2 = 1 then .n (l.set (i / 2) x) y r else .n l y (r.set (i / 2 - 1) x) := by
  rw [T.set, beq0, beq1]
  by_cases h0 : i = 0
  · simp [h0]
  · by_cases h1 : i % 2 = 1 <;> simp [h0, h1]

theorem T.set_e (i : Nat) (x : AV) : T.e.set i x = (T.n .e .undef .e).set i x := by
  rw [T.set_n, T.set, T.one, beq0, beq1]
  by_cases h0 : i = 0
  · simp [h0]
  · by_cases h1 : i % 2 = 1
    · simp only [h0, h1, decide_true, decide_false, if_false, if_true, T.set]
      rw [T.one_indep x i (i / 2 + 1) (i / 2) (by omega) (by omega)]
    · simp only [h0, h1, decide_false, if_false, T.set]
      rw [T.one_indep x i (i / 2 - 1 + 1) (i / 2 - 1) (by omega) (by omega)]

theorem T.set_comm : ∀ (m i j : Nat) (t : T) (x y : AV), i < m → i ≠ j → (t.set i x).set j y = (t.set j y).set i x
  | 0, i, j, t, x, y, hn, hij => by omega
  | m + 1, i, j, t, x, y, hn, hij => by
    have main : ∀ (l : T) (z : AV) (r : T), ((T.n l z r).set i x).set j y = ((T.n l z r).set j y).set i x := by
      intro l z r
      simp only [T.set_n]
      by_cases hi : i = 0
      · have hj : j ≠ 0 := by omega
        by_cases hj1 : j % 2 = 1 <;> simp [hi, hj, hj1, T.set_n]
      · by_cases hj : j = 0
        · by_cases hi1 : i % 2 = 1 <;> simp [hi, hj, hi1, T.set_n]
        · by_cases hi1 : i % 2 = 1 <;> by_cases hj1 : j % 2 = 1
          · simp only [hi, hj, hi1, hj1, if_false, if_true, T.set_n]
            rw [T.set_comm m (i / 2) (j / 2) l x y (by omega) (by omega)]
          · simp [hi, hj, hi1, hj1, T.set_n]
          · simp [hi, hj, hi1, hj1, T.set_n]
          · simp only [hi, hj, hi1, hj1, if_false, T.set_n]
            rw [T.set_comm m (i / 2 - 1) (j / 2 - 1) r x y (by omega) (by omega)]
    cases t with
    | e => rw [T.set_e i x, main, T.set_e j y]
    | n l z r => exact main l z r

/-! One operation -/
abbrev Dfs := List (FuncId × List AV)

inductive S1 where
  | go (st : St) (f : FP)
  | pan (x : AV) (h : Heap)

abbrev Step := Nat → Oper → St → Option (R × Dfs)

def one1 (step : Step) (all : List Oper) (slotOf : Nat → Nat) (i : Nat) (st : St) : Option S1 :=
  match all[i]? with
  | none => none
  | some o => match wantedAV all st.t o with
    | none => none
    | some false => some (.go { st with t := putT st.t o.dst (.tup []) } fp0)
    | some true => match step (slotOf i) o st with
      | some (.val x h f, d) => some (.go { st with t := putT st.t o.dst x, h := h, d := d } f)
      | some (.pan x h, _) => some (.pan x h)
      | none => none

def runIx (step : Step) (all : List Oper) (slotOf : Nat → Nat) : List Nat → St → Option (Ex × St × List (Nat × FP))
  | [], st => some (.normal, st, [])
  | i :: rest, st => match one1 step all slotOf i st with
    | some (.go st' f) => (match runIx step all slotOf rest st' with
      | some (ex, st, tr) => some (ex, st, (i, f) :: tr)
      | none => none)
    | some (.pan x h) => some (.pan x, { st with h := h }, [(i, fp0)])
    | none => none

def slotAt (n : Nat) (all : List Oper) (i : Nat) : Nat := n + countAllocs (all.take i)

theorem countAllocs_append : ∀ l m : List Oper, countAllocs (l ++ m) = countAllocs l + countAllocs m
  | [], m => by simp [countAllocs]
  | o :: l, m => by
    simp only [List.cons_append, countAllocs, countAllocs_append l m]
    split <;> omega

theorem runOps_ix (step : Step) (all : List Oper) (n : Nat) : ∀ (l pre : List Oper) (st : St), all = pre ++ l →
    runOps step all (slotAt n all pre.length) l pre.length st = runIx step all (slotAt n all) (List.range' pre.length l.length) st
  | [], pre, st, e => by simp [runOps, runIx]
  | o :: l, pre, st, e => by
    have ho : all[pre.length]? = some o := by rw [e]; simp
    have e' : all = (pre ++ [o]) ++ l := by rw [e]; simp
    have ih := fun st' => runOps_ix step all n l (pre ++ [o]) st' e'
    have hs : slotAt n all (pre ++ [o]).length = nextSlot (slotAt n all pre.length) o := by
      have h1 : all.take (pre ++ [o]).length = pre ++ [o] := by rw [e']; exact List.take_left
      have h2 : all.take pre.length = pre := by rw [e]; simp
      simp only [slotAt, nextSlot, h1, h2, countAllocs_append, countAllocs]
      split <;> simp <;> omega
    have hl : (pre ++ [o]).length = pre.length + 1 := by simp
    rw [hs, hl] at ih
    rw [List.length_cons, List.range'_succ, runOps, runIx, one1]
    simp only [ho]
    split
    · next e1 => rw [e1]
    · next e1 => rw [e1]; simp only [ih]; rfl
    · next e1 =>
      rw [e1]
      simp only
      split
      · next e2 => rw [e2]; simp only [ih]; rfl
      · next e2 => rw [e2]
      · next e2 => rw [e2]

/-! Two operations in either order -/
theorem ev_put {G : Nat → AV} {t : T} {d : Option Tmp} {v : AV} {x : Operand} (h : ∀ i, d = some i → x ≠ .tmp i) : ev G (putT t d v) x = ev G t x := by
  cases d with
  | none => rfl
  | some d =>
    cases x with
    | tmp i =>
      simp only [ev, putT, T.get_set]
      rw [if_neg]
      rintro rfl
      exact h d rfl rfl
    | _ => rfl

structure Good (P : Program) (G : Nat → AV) (step : Step) : Prop where
  /-- of the slots, only the operands count -/
  tmps : ∀ s (o : Oper) (st : St) (t2 : T), (∀ x ∈ o.op.operands.toList, ev G t2 x = ev G st.t x) → step s o { st with t := t2 } = step s o st
  heap : ∀ s (o : Oper) (st : St) x h' f d', step s o st = some (.val x h' f, d') → (d' = st.d) ∧ Framed st.h f h' x (fun h2 => (step s o { st with h := h2 }).map (·.1)) ∧ ∀ h2 r2 d2, step s o { st with h := h2 } = some (r2, d2) → d2 = st.d

theorem wanted_put {all : List Oper} {t : T} {a b : Oper} (hb : blind all a b = true) (v : AV) : wantedAV all (putT t a.dst v) b = wantedAV all t b := by
  unfold wantedAV
  unfold blind at hb
  cases hd : a.dst with
  | none => rfl
  | some d =>
    rw [hd] at hb
    simp only [Bool.and_eq_true] at hb
    have hg := hb.2.2
    unfold gtmp at hg
    cases hgd : b.guard with
    | none => rfl
    | some p =>
      obtain ⟨j, w⟩ := p
      rw [hgd] at hg
      simp only at hg ⊢
      cases hj : all[j]? with
      | none => rfl
      | some q =>
        rw [hj] at hg
        simp only at hg ⊢
        cases hq : q.dst with
        | none => rfl
        | some i =>
          rw [hq] at hg
          simp only at hg ⊢
          have : d ≠ i := by
            rintro rfl
            simp [Nat.beq_refl] at hg
          simp only [putT, T.get_set, if_neg this]

theorem blind_ops {all : List Oper} {a b : Oper} (hb : blind all a b = true) : ∀ x ∈ b.op.operands.toList, ∀ i, a.dst = some i → x ≠ .tmp i := by
  intro x hx i hi
  unfold blind at hb
  rw [hi] at hb
  simp only [Bool.and_eq_true] at hb
  have := List.all_eq_true.1 hb.1 x hx
  rintro rfl
  simp [Nat.beq_refl] at this

theorem blind_dst {all : List Oper} {a b : Oper} (hb : blind all a b = true) : ∀ i j, a.dst = some i → b.dst = some j → i ≠ j := by
  intro i j hi hj
  unfold blind at hb
  rw [hi, hj] at hb
  simp only [Bool.and_eq_true] at hb
  rintro rfl
  have := hb.2.1
  simp [Nat.beq_refl] at this

theorem put_comm {t : T} {a b : Option Tmp} {x y : AV} (h : ∀ i j, a = some i → b = some j → i ≠ j) : putT (putT t a x) b y = putT (putT t b y) a x := by
  cases a with
  | none => rfl
  | some i => cases b with
    | none => rfl
    | some j => exact T.set_comm (i + 1) i j t x y (by omega) (h i j rfl rfl)

/-- 'i' at 'st' puts v into its slot and makes the memory h'. -/
def Does (step : Step) (all : List Oper) (slotOf : Nat → Nat) (i : Nat) (o : Oper) (st : St) (v : AV) (h' : Heap) (f : FP) : Prop :=
  (wantedAV all st.t o = some false ∧ v = .tup [] ∧ h' = st.h ∧ f = fp0) ∨ (wantedAV all st.t o = some true ∧ step (slotOf i) o st = some (.val v h' f, st.d))

theorem one1_go {G : Nat → AV} {step : Step} (hs : Good P G step) {all : List Oper} {slotOf : Nat → Nat} {i : Nat} {st st' : St} {f : FP} (e : one1 step all slotOf i st = some (.go st' f)) :
    ∃ o v, all[i]? = some o ∧ Does step all slotOf i o st v st'.h f ∧ st' = { st with t := putT st.t o.dst v, h := st'.h, d := st.d } := by
  unfold one1 at e
  split at e
  · cases e
  next o ho =>
  split at e
  · cases e
  · next hw => cases e; exact ⟨o, _, ho, .inl ⟨hw, rfl, rfl, rfl⟩, rfl⟩
  · next hw =>
    split at e
    · next x h f d hst =>
      cases e
      obtain ⟨hd, _, _⟩ := hs.heap _ _ _ _ _ _ _ hst
      subst hd
      exact ⟨o, x, ho, .inr ⟨hw, hst⟩, rfl⟩
    · cases e
    · cases e

theorem Does.one1 {step : Step} {all : List Oper} {slotOf : Nat → Nat} {i : Nat} {o : Oper} {st : St} {v : AV} {h' : Heap} {f : FP} (ho : all[i]? = some o) (d : Does step all slotOf i o st v h' f) :
    one1 step all slotOf i st = some (.go { st with t := putT st.t o.dst v, h := h', d := st.d } f) := by
  unfold AM.one1
  rw [ho]
  rcases d with ⟨hw, rfl, rfl, rfl⟩ | ⟨hw, hst⟩
  · simp only [hw]
  · simp only [hw, hst]

theorem Does.framed {G : Nat → AV} {step : Step} (hs : Good P G step) {all : List Oper} {slotOf : Nat → Nat} {i : Nat} {o : Oper} {st : St} {v : AV} {h' : Heap} {f : FP} (d : Does step all slotOf i o st v h' f) :
    st.h.length ≤ h'.length ∧ (f.app = false → h'.length = st.h.length) ∧ (∀ r < st.h.length, r ∉ f.wr → h'[r]? = st.h[r]?) ∧ (∀ r ∈ f.wr, r < st.h.length) ∧
    ∀ h2 : Heap, (∀ r ∈ f.rd, h2[r]? = st.h[r]?) → (∀ r ∈ f.wr, h2[r]? = st.h[r]?) → (f.app = true → h2.length = st.h.length) → ∃ h2', Does step all slotOf i o { st with h := h2 } v h2' f ∧
      h2'.length + st.h.length = h'.length + h2.length ∧ (∀ r < h2.length, r ∉ f.wr → h2'[r]? = h2[r]?) ∧ (∀ r ∈ f.wr, h2'[r]? = h'[r]?) ∧ (f.app = true → ∀ r, st.h.length ≤ r → h2'[r]? = h'[r]?) := by
  rcases d with ⟨hw, rfl, rfl, rfl⟩ | ⟨hw, hst⟩
  · exact ⟨Nat.le_refl _, fun _ => rfl, fun _ _ _ => rfl, fun r hr => (by cases hr), fun h2 _ _ _ => ⟨h2, .inl ⟨hw, rfl, rfl, rfl⟩, by omega, fun _ _ _ => rfl, fun r hr => (by cases hr), fun e => (by cases e)⟩⟩
  · obtain ⟨_, hf, hd⟩ := hs.heap _ _ _ _ _ _ _ hst
    refine ⟨hf.len, hf.app, hf.keep, hf.wlt, fun h2 h1 h3 h4 => ?_⟩
    obtain ⟨h2', k1, k2, k3, k4, k5⟩ := hf.go h2 h1 h3 h4
    refine ⟨h2', .inr ⟨hw, ?_⟩, k2, k3, k4, k5⟩
    simp only [Option.map_eq_some_iff] at k1
    obtain ⟨⟨r2, d2⟩, k1, rfl⟩ := k1
    rw [k1, hd _ _ _ k1]

theorem Does.tmps {G : Nat → AV} {step : Step} (hs : Good P G step) {all : List Oper} {slotOf : Nat → Nat} {i : Nat} {a o : Oper} {st : St} {v w : AV} {h' : Heap} {f : FP} (hb : blind all a o = true) :
    Does step all slotOf i o { st with t := putT st.t a.dst w } v h' f ↔ Does step all slotOf i o st v h' f := by
  unfold Does
  simp only [wanted_put hb]
  rw [hs.tmps _ o st (putT st.t a.dst w) fun x hx => ev_put fun i hi => blind_ops hb x hx i hi]

theorem clash_false {n : Nat} {a b : FP} (h : clash n a b = false) : (∀ r ∈ a.wr, r ∉ b.rd) ∧ (∀ r ∈ a.wr, r ∉ b.wr) ∧ (∀ r ∈ b.wr, r ∉ a.rd) ∧
    (a.app = true → (∀ r ∈ b.rd, r < n) ∧ (∀ r ∈ b.wr, r < n) ∧ b.app = false) ∧ (b.app = true → (∀ r ∈ a.rd, r < n) ∧ (∀ r ∈ a.wr, r < n) ∧ a.app = false) := by
  simp only [clash, Bool.or_eq_false_iff, meets_false, Bool.and_eq_false_iff, Bool.not_eq_false'] at h
  obtain ⟨h1, h2, h3, h4, h5⟩ := h
  have hw : ∀ f : FP, within n f = true → (∀ r ∈ f.rd, r < n) ∧ (∀ r ∈ f.wr, r < n) ∧ f.app = false := by
    intro f hf
    simp only [within, Bool.and_eq_true, allLt_iff, Bool.not_eq_true'] at hf
    exact ⟨hf.1, hf.2.1, hf.2.2⟩
  refine ⟨h1, h2, h3, fun e => ?_, fun e => ?_⟩
  · rcases h4 with h4 | h4
    · rw [e] at h4; cases h4
    · exact hw _ h4
  · rcases h5 with h5 | h5
    · rw [e] at h5; cases h5
    · exact hw _ h5

theorem swap {G : Nat → AV} {step : Step} (hs : Good P G step) {all : List Oper} {slotOf : Nat → Nat} {a b n : Nat} {oa ob : Oper} {st st1 st2 : St} {fa fb : FP}
    (hoa : all[a]? = some oa) (hob : all[b]? = some ob) (h1 : blind all oa ob = true) (h2 : blind all ob oa = true) (hn : n ≤ st.h.length)
    (ea : one1 step all slotOf a st = some (.go st1 fa)) (eb : one1 step all slotOf b st1 = some (.go st2 fb)) (hc : clash n fa fb = false) :
    ∃ st1', one1 step all slotOf b st = some (.go st1' fb) ∧ one1 step all slotOf a st1' = some (.go st2 fa) ∧ n ≤ st1'.h.length := by
  obtain ⟨oa', va, hoa', da, hst1⟩ := one1_go hs ea
  obtain ⟨ob', vb, hob', db, hst2⟩ := one1_go hs eb
  rw [hoa] at hoa'; cases hoa'
  rw [hob] at hob'; cases hob'
  obtain ⟨c1, c2, c3, c4, c5⟩ := clash_false hc
  generalize e1 : st1.h = H1 at da hst1 db hst2
  generalize e2 : st2.h = H2 at db hst2
  subst hst1 hst2
  simp only at db e1 e2
  have db := (Does.tmps hs (st := { st with h := H1 }) h1).1 db
  obtain ⟨la, pa, ka, wa, ga⟩ := da.framed hs
  obtain ⟨lb, pb, kb, wb, gb⟩ := db.framed hs
  simp only at lb pb kb wb gb
  -- what is older than both
  have old : ∀ r, (fa.app = true → r < n) → r ∉ fa.wr → H1[r]? = st.h[r]? := by
    intro r hr hw
    by_cases hl : r < st.h.length
    · exact ka r hl hw
    · have : fa.app = false := by
        cases h : fa.app with
        | false => rfl
        | true => have := hr h; omega
      have := pa this
      rw [List.getElem?_eq_none (by omega), List.getElem?_eq_none (by omega)]
  obtain ⟨Hb, db', q2, q3, q4, q5⟩ := gb st.h
    (fun r hr => (old r (fun h => (c4 h).1 r hr) (fun hw => c1 r hw hr)).symm)
    (fun r hr => (old r (fun h => (c4 h).2.1 r hr) (fun hw => c2 r hw hr)).symm)
    (fun h => (pa (c5 h).2.2).symm)
  have da' : ∃ Ha, Does step all slotOf a oa { st with h := Hb } va Ha fa ∧ _ := ga Hb
    (fun r hr => by
      by_cases hl : r < st.h.length
      · exact q3 r hl (fun hw => c3 r hw hr)
      · have hb0 : fb.app = false := by
          cases h : fb.app with
          | false => rfl
          | true => have := (c5 h).1 r hr; omega
        have := pb hb0
        rw [List.getElem?_eq_none (by omega), List.getElem?_eq_none (by omega)])
    (fun r hr => q3 r (wa r hr) (fun hw => c2 r hr hw))
    (fun h => by have := pb (c4 h).2.2; omega)
  obtain ⟨Ha, da', p2, p3, p4, p5⟩ := da'
  have hHa : Ha = H2 := by
    apply List.ext_getElem?
    intro r
    by_cases hwa : r ∈ fa.wr
    · rw [p4 r hwa, kb r (Nat.lt_of_lt_of_le (wa r hwa) la) (c2 r hwa)]
    · by_cases hrb : r < Hb.length
      · rw [p3 r hrb hwa]
        by_cases hwb : r ∈ fb.wr
        · exact q4 r hwb
        · by_cases hl : r < st.h.length
          · rw [q3 r hl hwb, kb r (by omega) hwb, ka r hl hwa]
          · have hb1 : fb.app = true := by
              cases h : fb.app with
              | true => rfl
              | false => have := pb h; omega
            have := pa (c5 hb1).2.2
            exact q5 hb1 r (by omega)
      · cases h : fa.app with
        | false =>
          have := pa h
          rw [List.getElem?_eq_none (by omega), List.getElem?_eq_none (by omega)]
        | true =>
          have h0 := (c4 h)
          have := pb h0.2.2
          rw [p5 h r (by omega)]
          by_cases hr1 : r < H1.length
          · rw [kb r hr1 (fun hw => by have := h0.2.1 r hw; omega)]
          · rw [List.getElem?_eq_none (by omega), List.getElem?_eq_none (by omega)]
  subst hHa
  refine ⟨_, db'.one1 hob, ?_, ?_⟩
  · have := ((Does.tmps hs (st := { st with h := Hb }) (w := vb) h2).2 da').one1 hoa
    simp only at this ⊢
    rw [this, put_comm (fun i j hi hj => blind_dst h2 i j hi hj)]
  · simp only; omega
end Go.AM
