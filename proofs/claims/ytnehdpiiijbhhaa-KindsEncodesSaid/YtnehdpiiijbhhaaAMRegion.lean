/- A part of the proof that the machine of AM is sound: each lemma is under its own hypotheses alone. -/
import Derived.Test.YtnehdpiiijbhhaaAMGc
set_option autoImplicit false
set_option linter.unusedVariables false
set_option linter.unusedSimpArgs false
namespace Go.AM
open Go Go.RowKit

theorem grow_eq (h : Heap) (k : Nat) : grow h k = h ++ List.replicate k .dead := by cases k <;> simp [grow]

theorem grow_get {h : Heap} {k i : Nat} {g : Reg} (e : (grow h k)[i]? = some g) : h[i]? = some g ∨ g = .dead := by
  rw [grow_eq] at e
  by_cases hi : i < h.length
  · rw [List.getElem?_append_left hi] at e; exact .inl e
  · rw [List.getElem?_append_right (by omega), List.getElem?_replicate] at e
    split at e
    · cases e; exact .inr rfl
    · cases e

theorem HR.grow {c : Ctx} {h : Heap} (hh : HR c h) (k : Nat) : HR c (grow h k) where
  arr := fun r ver ro sz rf l e => hh.arr _ _ _ _ _ _ ((grow_get e).resolve_right (by simp))
  nomap := fun r rf l e => hh.nomap _ _ _ ((grow_get e).resolve_right (by simp))
  sep := fun r r' g g' b e e' hb hb' => by
    obtain ⟨ver, sz, rf, l, rfl, _⟩ := blkM_some hb
    obtain ⟨ver', sz', rf', l', rfl, _⟩ := blkM_some hb'
    exact hh.sep _ _ _ _ _ ((grow_get e).resolve_right (by simp)) ((grow_get e').resolve_right (by simp)) hb hb'
  vb := fun r v hv => by
    obtain ⟨g, hg, h2⟩ := hh.vb r v hv
    exact ⟨g, by rw [grow_eq, List.getElem?_append_left (List.getElem?_eq_some_iff.1 hg).1]; exact hg, h2⟩
  im := hh.im

theorem BR.grow {B : Base} {c : Ctx} {h : Heap} (hB : BR B c h) (k : Nat) : BR B c (grow h k) := by
  refine ⟨hB.size, hB.os, hB.tape, hB.output, hB.frame, fun r g b e hb => ?_, hB.i0, hB.i1, hB.fz⟩
  obtain ⟨ver, sz, rf, l, rfl, _⟩ := blkM_some hb
  exact hB.mu _ _ _ ((grow_get e).resolve_right (by simp)) hb

/-- Another world with the same memory. -/
def Ctx.to (c : Ctx) (w : World) : Ctx := { c with w := w }

theorem Le.to {c : Ctx} {w : World} (e : w.heap = c.w.heap) : Le c (c.to w) := ⟨fun _ _ h => ⟨h, rfl⟩, fun b hb => ⟨hb, by simp only [Ctx.to]; rw [e]⟩⟩

theorem StR.to {E : Cfg} {B : Base} {c : Ctx} {st : St} {a : Act} (k : StR E B c st a) {w : World} (e : w.heap = c.w.heap) (e1 : w.os = c.w.os) (e2 : w.tape = c.w.tape) (e3 : w.output = c.w.output) : StR E B (c.to w) st a where
  hh :=
    { arr := fun r ver ro sz rf l hr => (k.hh.arr _ _ _ _ _ _ hr).mono (Le.to e) (by simp only [Ctx.to]; rw [e]) id
      nomap := k.hh.nomap
      sep := k.hh.sep
      vb := k.hh.vb
      im := fun b hb => by simp only [Ctx.to]; rw [e]; exact k.hh.im b hb }
  hB := ⟨by simp only [Ctx.to]; rw [e]; exact k.hB.size, e1.trans k.hB.os, e2.trans k.hB.tape, e3.trans k.hB.output, fun b h1 h2 => by simp only [Ctx.to]; rw [e]; exact k.hB.frame b h1 h2, k.hB.mu, k.hB.i0, k.hB.i1, fun a h => k.hB.fz a (by simpa [World.frozen?, Ctx.to, e] using h)⟩
  hg := k.hg.le (Le.to e)
  ht := k.ht.mono (Le.to e)
  hd := k.hd.mono (Le.to e)

theorem apart_pair {n : Nat} {bef : Array Nat} : ∀ {tr : List (Nat × FP)}, apart n bef tr = true → (tr.map (·.1)).Pairwise (· < ·) → ∀ a b fa fb, (a, fa) ∈ tr → (b, fb) ∈ tr → a < b → ¬ (bef.getD b 0).testBit a = true → clash n fa fb = false
  | [], _, _, a, b, fa, fb, ha, _, _, _ => by cases ha
  | (j, f) :: tr, h, hs, a, b, fa, fb, ha, hb, hab, hw => by
    simp only [apart, Bool.and_eq_true, List.all_eq_true] at h
    rw [List.map_cons, List.pairwise_cons] at hs
    rcases List.mem_cons.1 ha with e | ha
    · cases e
      rcases List.mem_cons.1 hb with e | hb
      · cases e; omega
      · have := h.1 _ hb
        simp only [Bool.or_eq_true, Bool.not_eq_true'] at this
        exact this.resolve_right hw
    · rcases List.mem_cons.1 hb with e | hb
      · cases e
        have := hs.1 a (List.mem_map.2 ⟨_, ha, rfl⟩)
        omega
      · exact apart_pair h.2 hs.2 a b fa fb ha hb hab hw

theorem drawOk_spec {ops : Array Oper} (h : drawOk ops = true) : (∀ j, ∀ d ∈ deps ops j, d < j) ∧
    (∀ a < ops.size, ∀ b < ops.size, a < b → ¬ BefB ops b a → ∀ oa ob, ops.toList[a]? = some oa → ops.toList[b]? = some ob → blind ops.toList oa ob = true ∧ blind ops.toList ob oa = true) := by
  simp only [drawOk, List.all_eq_true, List.mem_range] at h
  constructor
  · intro j d hd
    unfold deps at hd
    cases ho : ops.toList[j]? with
    | none => rw [ho] at hd; cases hd
    | some o =>
      rw [ho] at hd
      simp only at hd
      obtain ⟨e, he, rfl⟩ := List.mem_map.1 hd
      obtain ⟨he, hb⟩ := List.mem_filter.1 he
      have := h j (List.getElem?_eq_some_iff.1 ho).1
      rw [ho] at this
      simp only [Bool.and_eq_true, List.all_eq_true] at this
      have := this.1 e he
      rw [hb] at this
      simpa [Nat.blt_eq] using this
  · intro a ha b hb hab hn oa ob hoa hob
    have := h b (by simpa using hb)
    rw [hob] at this
    simp only [Bool.and_eq_true, List.all_eq_true, List.mem_range] at this
    have := this.2 a hab
    rw [hoa] at this
    simp only [Bool.or_eq_true, Bool.and_eq_true] at this
    exact this.resolve_left hn

theorem killDst_get : ∀ (l : List Oper) (t : T) (i : Nat), (killDst t l).get i = .undef ∨ ((∀ o ∈ l, o.dst ≠ some i) ∧ (killDst t l).get i = t.get i)
  | [], t, i => .inr ⟨fun o ho => (by cases ho), rfl⟩
  | o :: l, t, i => by
    rw [killDst]
    split
    · next d hd =>
      rcases killDst_get l (t.set d .undef) i with h | ⟨h1, h2⟩
      · exact .inl h
      · rw [h2, T.get_set]
        by_cases e : d = i
        · rw [if_pos e]; exact .inl rfl
        · rw [if_neg e]
          refine .inr ⟨fun o' ho' => ?_, rfl⟩
          rcases List.mem_cons.1 ho' with rfl | ho'
          · rw [hd]; simpa using e
          · exact h1 o' ho'
    · next hd =>
      rcases killDst_get l t i with h | ⟨h1, h2⟩
      · exact .inl h
      · refine .inr ⟨fun o' ho' => ?_, h2⟩
        rcases List.mem_cons.1 ho' with rfl | ho'
        · rw [hd]; simp
        · exact h1 o' ho'

theorem lastOf_append : ∀ (tr : List (Nat × FP)) (i : Nat) (f : FP), lastOf (tr ++ [(i, f)]) = i
  | [], i, f => rfl
  | [p], i, f => rfl
  | p :: q :: tr, i, f => by
    have := lastOf_append (q :: tr) i f
    simpa [lastOf] using this

theorem region_sound {E : Cfg} (hE : CfgOk E) {n : Nat} (ih : ∀ m < n, ∀ f, RunOk E.P E.G f (fun args h => callF E m f args h)) {id m : Nat} {ops : Array Oper} {draw : Bool} (hok : codeOk m (.region id ops draw) = true)
    {st st' : St} {ex : Ex} (e : regionE (stepOf draw (fun slot o st => opE E n slot o st)) ops draw st = some (ex, st'))
    {B : Base} {c : Ctx} {a : Act} (hst : StR E B c st a) (hm : m ≤ a.tmps.size) : (Code.region id ops draw).wp E.P (ExQ E B c st.h.length ex st' a.tmps.size) a c.w := by
  simp only [codeOk, Bool.and_eq_true, List.all_eq_true] at hok
  obtain ⟨hdst0, hdraw⟩ := hok
  have hdst : ∀ o ∈ ops.toList, ∀ i, o.dst = some i → i < a.tmps.size := by
    intro o ho i hi
    have := hdst0 o ho
    unfold dstOk at this
    rw [hi] at this
    have h1 : i < m := by simpa [Nat.blt_eq] using this
    exact Nat.lt_of_lt_of_le h1 hm
  have hgrow : StR E B c { st with h := grow st.h (countAllocs ops.toList) } a := ⟨hst.hh.grow _, hst.hB.grow _, hst.hg, hst.ht, hst.hd⟩
  have hlen : st.h.length ≤ (grow st.h (countAllocs ops.toList)).length := by rw [grow_eq]; simp
  have hlen2 : st.h.length + countAllocs ops.toList = (grow st.h (countAllocs ops.toList)).length := by rw [grow_eq]; simp
  have hix : ∀ step, runOps step ops.toList st.h.length ops.toList 0 { st with h := grow st.h (countAllocs ops.toList) } = runIx step ops.toList (slotAt st.h.length ops.toList) (List.range ops.size) { st with h := grow st.h (countAllocs ops.toList) } := by
    intro step
    have := runOps_ix step ops.toList st.h.length ops.toList [] { st with h := grow st.h (countAllocs ops.toList) } rfl
    simp only [List.length_nil, slotAt, List.take_zero, countAllocs, Nat.add_zero] at this
    rw [this, List.range_eq_range']
    simp
  unfold regionE at e
  split at e
  case h_2 => cases e
  next ex0 st0 tr hrun =>
  rw [hix] at hrun
  cases draw with
  | false =>
    simp only [stepOf] at e hrun
    cases e
    exact wp_region (ix_sound (opE_sound hE ih) hrun hgrow ((Le.refl c).k _) hlen rfl hdst fun _ _ _ h => h)
  | true =>
    simp only [Bool.not_true, Bool.false_or] at hdraw
    obtain ⟨hdep, hblind⟩ := drawOk_spec hdraw
    have hW : ∀ j a, ¬ BefB ops j a ↔ ¬ ((Region.before ops).getD j 0).testBit a = true := fun _ _ => Iff.rfl
    refine wp_region_draw fun t => ?_
    have hsch : Region.schedule (E.P.follows .mixedOrders) ops t = Region.linearise .any ops t := by
      rw [hE.follows]; simp [Region.schedule]
    rw [hsch]
    obtain ⟨hperm, hpw⟩ := linearise_ok hdep t
    have hgood := opE_good E n
    have hpw' : (Region.linearise .any ops t).Pairwise (fun j a => a < j → ¬ BefB ops j a) := hpw.imp (S := fun j a => a < j → ¬ BefB ops j a) fun h _ => h
    have hSt := hgrow.to (w := { c.w with drawn := c.w.drawn + 1 }) rfl rfl rfl rfl
    simp only [stepOf] at e hrun
    cases ex0 with
    | normal =>
      simp only at e
      obtain ⟨hap, e⟩ := ite_some e
      cases e
      have hfst := runIx_fst hrun
      obtain ⟨tr', hr', _⟩ := perm hgood (n := st.h.length + countAllocs ops.toList) (W := fun a b => ¬ BefB ops b a) hperm List.pairwise_lt_range hrun (by simp only; omega)
        (fun a b fa fb ha hb hab hw => apart_pair hap (by rw [hfst]; exact List.pairwise_lt_range) a b fa fb ha hb hab hw)
        (fun a ha b hb => hblind a (List.mem_range.1 ha) b (List.mem_range.1 hb)) hpw'
      exact ix_sound (noDefer_sound (opE_sound hE ih)) hr' (c := c.to _) hSt ((Le.to (c := c) (w := { c.w with drawn := c.w.drawn + 1 }) rfl).k _) hlen rfl hdst fun _ _ _ h => h
    | pan x =>
      simp only at e
      obtain ⟨hc, e⟩ := ite_some e
      cases e
      simp only [Bool.and_eq_true] at hc
      obtain ⟨hap, hal⟩ := hc
      obtain ⟨p, i, s, st1, h, tr1, hl, h1, h2, hst0, htr⟩ := runIx_pan hrun
      subst htr
      rw [lastOf_append] at hal
      simp only [alone, Bool.and_eq_true, List.all_eq_true, Bool.or_eq_true, List.mem_range] at hal
      have hsub : p ++ [i] = List.range (p.length + 1) := by
        have e2 : List.range ops.size = (p ++ [i]) ++ s := by rw [hl]; simp
        have hlen := congrArg List.length e2
        simp at hlen
        have := congrArg (List.take (p ++ [i]).length) e2
        rw [List.take_left, List.take_range, Nat.min_eq_left (by simp; omega)] at this
        rw [← this]; simp
      obtain ⟨st'', tr', hr', k1, k2, k3⟩ := perm_pan hgood (n := st.h.length + countAllocs ops.toList) (W := fun a b => ¬ BefB ops b a) hperm hrun ⟨tr1, rfl⟩ (by simp only; omega)
        (fun a b fa fb ha hb hab hw => apart_pair hap (by
          rw [List.map_append, runIx_fst h1]
          simp only [List.map_cons, List.map_nil]
          rw [hsub]; exact List.pairwise_lt_range) a b fa fb ha hb hab hw)
        (fun a ha b hb => hblind a ha b hb) hpw'
        (fun k hk hik hw => by
          rcases hal.1 k (by simpa using hk) with h | h
          · have := Nat.le_of_ble_eq_true h; omega
          · exact hw h)
        (fun k f hkf hne => by
          rcases hal.2 (k, f) hkf with h | h | h
          · exact absurd (Nat.eq_of_beq_eq_true h) hne
          · exact .inl fun hw => hw h
          · simp only [Bool.and_eq_true, List.isEmpty_iff, Bool.not_eq_true'] at h
            exact .inr h)
      refine ix_sound (noDefer_sound (opE_sound hE ih)) hr' (c := c.to _) hSt ((Le.to (c := c) (w := { c.w with drawn := c.w.drawn + 1 }) rfl).k _) hlen rfl hdst fun e' a' w' hq => ?_
      obtain ⟨c', q1, q2, q3, q4, q5, q6⟩ := hq
      refine ⟨c', q1, q2, ⟨?_, ?_, q3.hg, fun j => ?_, ?_⟩, q4, ?_, q6⟩
      · rw [← k1]; exact q3.hh
      · rw [← k1]; exact q3.hB
      · rcases killDst_get ops.toList st.t j with h | ⟨h1, h2⟩
        · simp only [h]; trivial
        · simp only [h2]
          have := q3.ht j
          rwa [k3 j h1] at this
      · rw [← k2]; exact q3.hd
      · simp only; rw [← k1]; exact q5
    | exit i => simp only at e; cases e
    | ret => simp only at e; cases e
end Go.AM
