/- A part of the proof that the machine of AM is sound: each lemma is under its own hypotheses alone. -/
import Derived.Test.YtnehdpiiijbhhaaAMSwap
set_option autoImplicit false
set_option linter.unusedVariables false
set_option linter.unusedSimpArgs false
namespace Go.AM
open Go Go.RowKit
variable {P : Program}

theorem runIx_cons {step : Step} {all : List Oper} {slotOf : Nat → Nat} {i : Nat} {l : List Nat} {st st' : St} {tr : List (Nat × FP)} (e : runIx step all slotOf (i :: l) st = some (.normal, st', tr)) :
    ∃ st1 f tr1, one1 step all slotOf i st = some (.go st1 f) ∧ runIx step all slotOf l st1 = some (.normal, st', tr1) ∧ tr = (i, f) :: tr1 := by
  rw [runIx] at e
  split at e
  · next st1 f h1 =>
    split at e
    · next ex st2 tr1 h2 => cases e; exact ⟨st1, f, tr1, h1, h2, rfl⟩
    · cases e
  · cases e
  · cases e

theorem runIx_cons' {step : Step} {all : List Oper} {slotOf : Nat → Nat} {i : Nat} {l : List Nat} {st st' st1 : St} {f : FP} {ex : Ex} {tr1 : List (Nat × FP)} (h1 : one1 step all slotOf i st = some (.go st1 f))
    (h2 : runIx step all slotOf l st1 = some (ex, st', tr1)) : runIx step all slotOf (i :: l) st = some (ex, st', (i, f) :: tr1) := by
  rw [runIx, h1]
  simp only [h2]

theorem runIx_append {step : Step} {all : List Oper} {slotOf : Nat → Nat} : ∀ {p q : List Nat} {st st' : St} {tr : List (Nat × FP)}, runIx step all slotOf (p ++ q) st = some (.normal, st', tr) →
    ∃ st1 tr1 tr2, runIx step all slotOf p st = some (.normal, st1, tr1) ∧ runIx step all slotOf q st1 = some (.normal, st', tr2) ∧ tr = tr1 ++ tr2
  | [], q, st, st', tr, e => ⟨st, [], tr, rfl, e, rfl⟩
  | i :: p, q, st, st', tr, e => by
    obtain ⟨st1, f, tr1, h1, h2, rfl⟩ := runIx_cons e
    obtain ⟨st2, tr2, tr3, h3, h4, rfl⟩ := runIx_append h2
    exact ⟨st2, _, tr3, runIx_cons' h1 h3, h4, rfl⟩

theorem runIx_append' {step : Step} {all : List Oper} {slotOf : Nat → Nat} : ∀ {p q : List Nat} {st st1 st' : St} {ex : Ex} {tr1 tr2 : List (Nat × FP)}, runIx step all slotOf p st = some (.normal, st1, tr1) →
    runIx step all slotOf q st1 = some (ex, st', tr2) → runIx step all slotOf (p ++ q) st = some (ex, st', tr1 ++ tr2)
  | [], q, st, st1, st', ex, tr1, tr2, h1, h2 => by
    simp only [runIx, Option.some.injEq, Prod.mk.injEq] at h1
    obtain ⟨_, rfl, rfl⟩ := h1
    exact h2
  | i :: p, q, st, st1, st', ex, tr1, tr2, h1, h2 => by
    obtain ⟨st2, f, tr3, k1, k2, rfl⟩ := runIx_cons h1
    exact runIx_cons' k1 (runIx_append' k2 h2)

theorem runIx_fst {step : Step} {all : List Oper} {slotOf : Nat → Nat} : ∀ {l : List Nat} {st st' : St} {tr : List (Nat × FP)}, runIx step all slotOf l st = some (.normal, st', tr) → tr.map (·.1) = l
  | [], st, st', tr, e => by
    simp only [runIx, Option.some.injEq, Prod.mk.injEq] at e
    obtain ⟨_, _, rfl⟩ := e; rfl
  | i :: l, st, st', tr, e => by
    obtain ⟨st1, f, tr1, h1, h2, rfl⟩ := runIx_cons e
    simp [runIx_fst h2]

theorem runIx_pan {step : Step} {all : List Oper} {slotOf : Nat → Nat} : ∀ {l : List Nat} {st st' : St} {x : AV} {tr : List (Nat × FP)}, runIx step all slotOf l st = some (.pan x, st', tr) →
    ∃ p i s st1 h tr1, l = p ++ i :: s ∧ runIx step all slotOf p st = some (.normal, st1, tr1) ∧ one1 step all slotOf i st1 = some (.pan x h) ∧ st' = { st1 with h := h } ∧ tr = tr1 ++ [(i, fp0)]
  | [], st, st', x, tr, e => by simp [runIx] at e
  | i :: l, st, st', x, tr, e => by
    rw [runIx] at e
    split at e
    · next st1 f h1 =>
      split at e
      · next ex st2 tr1 h2 =>
        cases e
        obtain ⟨p, j, s, st3, h, tr3, rfl, k1, k2, k3, rfl⟩ := runIx_pan h2
        exact ⟨i :: p, j, s, st3, h, _, rfl, runIx_cons' h1 k1, k2, k3, rfl⟩
      · cases e
    · next y h h1 =>
      cases e
      exact ⟨[], i, l, st, h, [], rfl, rfl, h1, rfl, rfl⟩
    · cases e

theorem one1_len {G : Nat → AV} {step : Step} (hs : Good P G step) {all : List Oper} {slotOf : Nat → Nat} {i : Nat} {st st' : St} {f : FP} (e : one1 step all slotOf i st = some (.go st' f)) : st.h.length ≤ st'.h.length := by
  obtain ⟨o, v, _, d, _⟩ := one1_go hs e
  exact (d.framed hs).1

theorem bubble {G : Nat → AV} {step : Step} (hs : Good P G step) {all : List Oper} {slotOf : Nat → Nat} {n : Nat} {i : Nat} {m2 : List Nat} : ∀ {m1 : List Nat} {st st' : St} {tr : List (Nat × FP)}, runIx step all slotOf (m1 ++ i :: m2) st = some (.normal, st', tr) → n ≤ st.h.length →
    (∀ k ∈ m1, ∀ fk fi, (k, fk) ∈ tr → (i, fi) ∈ tr → clash n fk fi = false) →
    (∀ k ∈ m1, ∀ ok oi, all[k]? = some ok → all[i]? = some oi → blind all ok oi = true ∧ blind all oi ok = true) →
    ∃ tr', runIx step all slotOf (i :: (m1 ++ m2)) st = some (.normal, st', tr') ∧ tr'.Perm tr
  | [], st, st', tr, e, _, _, _ => ⟨tr, e, .refl _⟩
  | k :: m1, st, st', tr, e, hn, hc, hb => by
    obtain ⟨st1, fk, tr1, h1, h2, rfl⟩ := runIx_cons e
    have hn1 : n ≤ st1.h.length := Nat.le_trans hn (one1_len hs h1)
    obtain ⟨tr1', h3, hp⟩ := bubble hs h2 hn1 (fun q hq fq fi h h' => hc q (by simp [hq]) fq fi (by simp [h]) (by simp [h'])) (fun q hq => hb q (by simp [hq]))
    obtain ⟨st2, fi, tr2, k1, k2, rfl⟩ := runIx_cons h3
    obtain ⟨ok, _, hok, _, _⟩ := one1_go hs h1
    obtain ⟨oi, _, hoi, _, _⟩ := one1_go hs k1
    have hbb := hb k (by simp) ok oi hok hoi
    obtain ⟨st1', s1, s2, s3⟩ := swap hs hok hoi hbb.1 hbb.2 hn h1 k1 (hc k (by simp) fk fi (by simp) (by
      have : (i, fi) ∈ tr1 := hp.mem_iff.1 (by simp)
      simp [this]))
    refine ⟨_, runIx_cons' s1 (runIx_cons' s2 k2), ?_⟩
    exact (List.Perm.swap (k, fk) (i, fi) tr2).trans (List.Perm.cons _ hp)

theorem perm {G : Nat → AV} {step : Step} (hs : Good P G step) {all : List Oper} {slotOf : Nat → Nat} {n : Nat} {W : Nat → Nat → Prop} : ∀ {l' m : List Nat} {st st' : St} {tr : List (Nat × FP)}, l'.Perm m → m.Pairwise (· < ·) → runIx step all slotOf m st = some (.normal, st', tr) → n ≤ st.h.length →
    (∀ a b fa fb, (a, fa) ∈ tr → (b, fb) ∈ tr → a < b → W a b → clash n fa fb = false) →
    (∀ a ∈ m, ∀ b ∈ m, a < b → W a b → ∀ oa ob, all[a]? = some oa → all[b]? = some ob → blind all oa ob = true ∧ blind all ob oa = true) →
    l'.Pairwise (fun j a => a < j → W a j) → ∃ tr', runIx step all slotOf l' st = some (.normal, st', tr') ∧ tr'.Perm tr
  | [], m, st, st', tr, hp, _, e, _, _, _, _ => by
    have : m = [] := hp.symm.eq_nil
    subst this
    exact ⟨tr, e, .refl _⟩
  | i :: s, m, st, st', tr, hp, hsort, e, hn, hc, hb, hr => by
    have him : i ∈ m := hp.mem_iff.1 (by simp)
    obtain ⟨m1, m2, rfl⟩ := List.append_of_mem him
    have hp' : s.Perm (m1 ++ m2) := (List.perm_cons i).1 (hp.trans List.perm_middle)
    rw [List.pairwise_append] at hsort
    obtain ⟨so1, so2, so3⟩ := hsort
    rw [List.pairwise_cons] at so2 hr
    have hlt : ∀ k ∈ m1, k < i := fun k hk => so3 k hk i (by simp)
    have hW : ∀ k ∈ m1, W k i := fun k hk => hr.1 k (hp'.mem_iff.2 (by simp [hk])) (hlt k hk)
    obtain ⟨tr', h1, hp1⟩ := bubble hs (n := n) e hn (fun k hk fk fi h h' => hc k i fk fi h h' (hlt k hk) (hW k hk)) (fun k hk ok oi hok hoi => hb k (by simp [hk]) i (by simp) (hlt k hk) (hW k hk) ok oi hok hoi)
    obtain ⟨st1, f, tr1, k1, k2, rfl⟩ := runIx_cons h1
    have hmem : ∀ p, p ∈ tr1 → p ∈ tr := fun p hp => hp1.mem_iff.1 (by simp [hp])
    obtain ⟨tr2, q1, q2⟩ := perm hs (l' := s) (m := m1 ++ m2) hp' (by
        rw [List.pairwise_append]
        exact ⟨so1, so2.2, fun a ha b hb => so3 a ha b (by simp [hb])⟩) k2 (Nat.le_trans hn (one1_len hs k1))
      (fun a b fa fb ha hb' => hc a b fa fb (hmem _ ha) (hmem _ hb'))
      (fun a ha b hb' => hb a (by simp at ha ⊢; rcases ha with ha | ha <;> simp [ha]) b (by simp at hb' ⊢; rcases hb' with hb' | hb' <;> simp [hb'])) hr.2
    exact ⟨_, runIx_cons' k1 q1, (List.Perm.cons _ q2).trans hp1⟩

theorem run_other {G : Nat → AV} {step : Step} (hs : Good P G step) {all : List Oper} {slotOf : Nat → Nat} : ∀ {l : List Nat} {st st' : St} {tr : List (Nat × FP)}, runIx step all slotOf l st = some (.normal, st', tr) →
    (∀ j, (∀ o ∈ all, o.dst ≠ some j) → st'.t.get j = st.t.get j) ∧ st'.d = st.d
  | [], st, st', tr, e => by
    simp only [runIx, Option.some.injEq, Prod.mk.injEq] at e
    obtain ⟨_, rfl, _⟩ := e
    exact ⟨fun _ _ => rfl, rfl⟩
  | i :: l, st, st', tr, e => by
    obtain ⟨st1, f, tr1, h1, h2, rfl⟩ := runIx_cons e
    obtain ⟨o, v, ho, d, hst⟩ := one1_go hs h1
    obtain ⟨k1, k2⟩ := run_other hs h2
    refine ⟨fun j hj => ?_, ?_⟩
    · rw [k1 j hj, hst]
      simp only
      cases hd : o.dst with
      | none => rfl
      | some q =>
        simp only [putT, T.get_set]
        rw [if_neg]
        rintro rfl
        exact hj o (List.mem_of_getElem? ho) hd
    · rw [k2, hst]

theorem run_light {G : Nat → AV} {step : Step} (hs : Good P G step) {all : List Oper} {slotOf : Nat → Nat} {i : Nat} {oi : Oper} (hoi : all[i]? = some oi) : ∀ {D : List Nat} {st st' : St} {tr : List (Nat × FP)}, runIx step all slotOf D st = some (.normal, st', tr) →
    (∀ k f, (k, f) ∈ tr → f.wr = [] ∧ f.app = false) → (∀ k ∈ D, ∀ ok, all[k]? = some ok → blind all ok oi = true) →
    st'.h = st.h ∧ ∀ x h, one1 step all slotOf i st' = some (.pan x h) → one1 step all slotOf i st = some (.pan x h)
  | [], st, st', tr, e, _, _ => by
    simp only [runIx, Option.some.injEq, Prod.mk.injEq] at e
    obtain ⟨_, rfl, _⟩ := e
    exact ⟨rfl, fun _ _ h => h⟩
  | k :: D, st, st', tr, e, hl, hb => by
    obtain ⟨st1, f, tr1, h1, h2, rfl⟩ := runIx_cons e
    obtain ⟨o, v, ho, d, hst⟩ := one1_go hs h1
    obtain ⟨k1, k2⟩ := run_light hs hoi h2 (fun k f h => hl k f (by simp [h])) (fun k hk => hb k (by simp [hk]))
    obtain ⟨l1, l2⟩ := hl k f (by simp)
    have hfr := d.framed hs
    have hh : st1.h = st.h := by
      apply List.ext_getElem?
      intro r
      by_cases hr : r < st.h.length
      · exact hfr.2.2.1 r hr (by rw [l1]; simp)
      · have := hfr.2.1 l2
        rw [List.getElem?_eq_none (by omega), List.getElem?_eq_none (by omega)]
    refine ⟨k1.trans hh, fun x h hp => ?_⟩
    have hp := k2 x h hp
    have hbl := hb k (by simp) o ho
    rw [hst, hh] at hp
    unfold one1 at hp ⊢
    rw [hoi] at hp ⊢
    simp only at hp ⊢
    rw [wanted_put hbl] at hp
    split at hp
    · cases hp
    · cases hp
    · next hw =>
      have := hs.tmps (slotOf i) oi st (putT st.t o.dst v) fun x hx => ev_put fun i hi => blind_ops hbl x hx i hi
      rw [this] at hp
      split at hp
      · cases hp
      · next y h' d' he => cases hp; rfl
      · cases hp

/-- The same panic in any order. -/
theorem perm_pan {G : Nat → AV} {step : Step} (hs : Good P G step) {all : List Oper} {slotOf : Nat → Nat} {n : Nat} {W : Nat → Nat → Prop} {N : Nat} {l' : List Nat} {st st' : St} {x : AV} {tr : List (Nat × FP)} {i : Nat} (hp : l'.Perm (List.range N))
    (e : runIx step all slotOf (List.range N) st = some (.pan x, st', tr)) (hi : ∃ tr1, tr = tr1 ++ [(i, fp0)]) (hn : n ≤ st.h.length)
    (hc : ∀ a b fa fb, (a, fa) ∈ tr → (b, fb) ∈ tr → a < b → W a b → clash n fa fb = false)
    (hb : ∀ a < N, ∀ b < N, a < b → W a b → ∀ oa ob, all[a]? = some oa → all[b]? = some ob → blind all oa ob = true ∧ blind all ob oa = true)
    (hr : l'.Pairwise (fun j a => a < j → W a j)) (ha1 : ∀ k < N, i < k → ¬ W i k) (ha2 : ∀ k f, (k, f) ∈ tr → k ≠ i → ¬ W k i ∨ (f.wr = [] ∧ f.app = false)) :
    ∃ st'' tr', runIx step all slotOf l' st = some (.pan x, st'', tr') ∧ st''.h = st'.h ∧ st''.d = st'.d ∧ (∀ j, (∀ o ∈ all, o.dst ≠ some j) → st''.t.get j = st.t.get j) := by
  obtain ⟨p, i', s, st1, h, tr1, hl, h1, h2, rfl, rfl⟩ := runIx_pan e
  have hii : i' = i := by
    obtain ⟨tr2, h⟩ := hi
    have := congrArg List.getLast? h
    simpa using this
  subst hii
  have hlen := congrArg List.length hl
  simp at hlen
  have hpl : p = List.range p.length := by
    have := congrArg (List.take p.length) hl
    rw [List.take_left, List.take_range, Nat.min_eq_left (by omega)] at this
    exact this.symm
  have hip : i' = p.length := by
    have := congrArg (fun l => l[p.length]?) hl
    simp only [List.getElem?_append_right (Nat.le_refl _), Nat.sub_self, List.getElem?_cons_zero] at this
    rw [List.getElem?_range (by omega)] at this
    exact (Option.some.inj this).symm
  obtain ⟨oi, hoi⟩ : ∃ oi, all[i']? = some oi := by
    unfold one1 at h2
    split at h2
    · cases h2
    · next o ho => exact ⟨o, ho⟩
  have hil : i' ∈ l' := hp.mem_iff.2 (List.mem_range.2 (by omega))
  obtain ⟨p', s', rfl⟩ := List.append_of_mem hil
  have hnd : (p' ++ i' :: s').Nodup := hp.nodup_iff.2 List.nodup_range
  rw [List.pairwise_append] at hr
  obtain ⟨r1, r2, r3⟩ := hr
  rw [List.pairwise_cons] at r2
  have hp'lt : ∀ k ∈ p', k < i' := by
    intro k hk
    have hkN : k < N := List.mem_range.1 (hp.mem_iff.1 (List.mem_append_left _ hk))
    rcases Nat.lt_trichotomy k i' with h | h | h
    · exact h
    · subst h
      rw [List.nodup_append] at hnd
      exact absurd rfl (hnd.2.2 k hk k (by simp))
    · exact absurd (r3 k hk i' (by simp) h) (ha1 k hkN h)
  obtain ⟨D, hD⟩ : ∃ D, D = (List.range i').filter (fun k => !(p'.contains k)) := ⟨_, rfl⟩
  have hDm : ∀ k, k ∈ D ↔ k < i' ∧ k ∉ p' := by
    intro k; rw [hD]; simp [List.mem_filter]
  have hDs : ∀ k ∈ D, k ∈ s' := by
    intro k hk
    obtain ⟨h1, h2⟩ := (hDm k).1 hk
    have : k ∈ p' ++ i' :: s' := hp.mem_iff.2 (List.mem_range.2 (by omega))
    rcases List.mem_append.1 this with h | h
    · exact absurd h h2
    · rcases List.mem_cons.1 h with h | h
      · omega
      · exact h
  have hDp : D.Pairwise (· < ·) := by rw [hD]; exact List.Pairwise.filter _ List.pairwise_lt_range
  have hq : (p' ++ D).Perm p := by
    rw [hpl, ← hip]
    refine (List.perm_ext_iff_of_nodup ?_ List.nodup_range).2 fun k => ?_
    · rw [List.nodup_append]
      refine ⟨(List.nodup_append.1 hnd).1, hDp.imp (fun h => Nat.ne_of_lt h), fun a ha b hb => ?_⟩
      rintro rfl
      exact ((hDm a).1 hb).2 ha
    · simp only [List.mem_append, hDm, List.mem_range]
      constructor
      · rintro (h | h)
        · exact hp'lt k h
        · exact h.1
      · intro h
        by_cases hk : k ∈ p'
        · exact .inl hk
        · exact .inr ⟨h, hk⟩
  have hWD : ∀ k ∈ D, W k i' := fun k hk => r2.1 k (hDs k hk) ((hDm k).1 hk).1
  obtain ⟨trq, q1, q2⟩ := perm hs (n := n) (W := W) hq (by rw [hpl]; exact List.pairwise_lt_range) h1 hn
    (fun a b fa fb ha hb' => hc a b fa fb (by simp [ha]) (by simp [hb']))
    (fun a ha b hb' => by
      rw [hpl] at ha hb'
      exact hb a (by have := List.mem_range.1 ha; omega) b (by have := List.mem_range.1 hb'; omega))
    (by
      rw [List.pairwise_append]
      exact ⟨r1, hDp.imp (fun h h' => absurd h (by omega)), fun j hj a ha => r3 j hj a (List.mem_cons_of_mem _ (hDs a ha))⟩)
  obtain ⟨stp, trp, trD, q3, q4, rfl⟩ := runIx_append q1
  obtain ⟨k1, k2⟩ := run_light hs hoi q4
    (fun k f hk => by
      have hm : (k, f) ∈ tr1 := q2.mem_iff.1 (by simp [hk])
      have hkD : k ∈ D := by rw [← runIx_fst q4]; exact List.mem_map.2 ⟨_, hk, rfl⟩
      rcases ha2 k f (by simp [hm]) (by have := ((hDm k).1 hkD).1; omega) with h | h
      · exact absurd (hWD k hkD) h
      · exact h)
    (fun k hk ok hok => (hb k (by have := ((hDm k).1 hk).1; omega) i' (by omega) ((hDm k).1 hk).1 (hWD k hk) ok oi hok hoi).1)
  have hpan := k2 _ _ h2
  obtain ⟨o1, o2⟩ := run_other hs q3
  refine ⟨{ stp with h := h }, trp ++ [(i', fp0)], runIx_append' q3 ?_, rfl, ?_, o1⟩
  · rw [runIx, hpan]
  · simp only
    rw [o2, (run_other hs h1).2]
end Go.AM
