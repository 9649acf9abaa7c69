/- A part of the proof that the machine of AM is sound: each lemma is under its own hypotheses alone. -/
import Derived.Test.YtnehdpiiijbhhaaAMLin
set_option autoImplicit false
set_option linter.unusedVariables false
set_option linter.unusedSimpArgs false
namespace Go.AM
open Go Go.RowKit

theorem renReg_id (g : Reg) (h : ∀ rf l, g ≠ .map rf l) : renReg id g = g := by
  cases g with
  | arr v ro sz rf l =>
    have e1 : l.map (renL id) = l := by
      induction l with
      | nil => rfl
      | cons a l ih => simp only [List.map_cons, renL_id id a (fun _ _ => rfl)]; rw [ih (by intro _ _ h; cases h)]
    cases rf with
    | nil => rfl
    | cons a rf => simp only [renReg, e1, List.map_id]
  | map rf l => exact absurd rfl (h rf l)
  | dead => rfl

def gκ (n0 : Nat) (live : List Nat) (i : Nat) : Nat := if i < n0 then i else getD0 live (i - n0)

def Ctx.gc (c : Ctx) (n0 : Nat) (live : List Nat) : Ctx :=
  { ρ := fun i v => c.ρ (gκ n0 live i) v, V := fun i v => i < n0 + live.length ∧ c.V (gκ n0 live i) v, imm := c.imm, w := c.w }

theorem gc_core {B : Base} {c : Ctx} {h H : Heap} (hh : HR c h) (hB : BR B c h) {n0 : Nat} {live : List Nat} {σ : Nat → Nat} (hn0 : n0 ≤ h.length) (hn : live.Nodup) (hge : ∀ r ∈ live, n0 ≤ r)
    (hσ1 : ∀ r < n0, σ r = r) (hσ2 : ∀ r ∈ live, σ r = n0 + idxOf r live)
    (hcl : ∀ r, (r < n0 ∨ r ∈ live) → ∀ g, h[r]? = some g → ∀ q ∈ regRefs g, q < n0 ∨ q ∈ live)
    (hH : ∀ i, H[i]? = if i < n0 then (h[i]?).map (renReg σ) else (live[i - n0]?).map (regOr h σ)) :
    LeK n0 c (c.gc n0 live) ∧ HR (c.gc n0 live) H ∧ BR B (c.gc n0 live) H ∧ ∀ l, (∀ r ∈ l, r < n0 ∨ r ∈ live) → Takes σ c (c.gc n0 live) l := by
  have hκσ : ∀ r, (r < n0 ∨ r ∈ live) → gκ n0 live (σ r) = r ∧ σ r < n0 + live.length := by
    intro r hr
    by_cases h1 : r < n0
    · rw [hσ1 r h1]; exact ⟨by simp [gκ, h1], by omega⟩
    · have h2 : r ∈ live := hr.resolve_left h1
      rw [hσ2 r h2]
      refine ⟨?_, by have := idxOf_lt h2; omega⟩
      simp only [gκ]
      rw [if_neg (by omega), Nat.add_sub_cancel_left, getD0_idx h2]
  have hT : ∀ l, (∀ r ∈ l, r < n0 ∨ r ∈ live) → Takes σ c (c.gc n0 live) l := by
    intro l hl r hr v hv
    obtain ⟨h1, h2⟩ := hκσ r (hl r hr)
    exact ⟨⟨h2, by rw [h1]; exact hv⟩, by simp only [Ctx.gc]; rw [h1]⟩
  have hkin : ∀ i < n0 + live.length, (gκ n0 live i < n0 ∨ gκ n0 live i ∈ live) := by
    intro i hi
    simp only [gκ]
    by_cases h1 : i < n0
    · rw [if_pos h1]; exact .inl h1
    · rw [if_neg h1]; exact .inr (getD0_mem (by omega))
  have hkinj : ∀ i < n0 + live.length, ∀ j < n0 + live.length, gκ n0 live i = gκ n0 live j → i = j := by
    intro i hi j hj e
    simp only [gκ] at e
    by_cases h1 : i < n0 <;> by_cases h2 : j < n0
    · simpa [h1, h2] using e
    · rw [if_pos h1, if_neg h2] at e
      have := hge _ (getD0_mem (l := live) (i := j - n0) (by omega))
      omega
    · rw [if_neg h1, if_pos h2] at e
      have := hge _ (getD0_mem (l := live) (i := i - n0) (by omega))
      omega
    · rw [if_neg h1, if_neg h2] at e
      have k1 := idxOf_getD0 hn (i := i - n0) (by omega)
      have k2 := idxOf_getD0 hn (i := j - n0) (by omega)
      rw [e] at k1
      omega
  -- what stands at i
  have hH2 : ∀ i g, H[i]? = some g → i < n0 + live.length ∧ g = regOr h σ (gκ n0 live i) := by
    intro i g hi
    rw [hH] at hi
    by_cases h1 : i < n0
    · rw [if_pos h1] at hi
      refine ⟨by omega, ?_⟩
      simp only [gκ, if_pos h1, regOr]
      cases hg : h[i]? with
      | none => rw [hg] at hi; cases hi
      | some g0 => rw [hg] at hi; simpa using hi.symm
    · rw [if_neg h1] at hi
      cases hl : live[i - n0]? with
      | none => rw [hl] at hi; cases hi
      | some q =>
        rw [hl] at hi
        have := (List.getElem?_eq_some_iff.1 hl).1
        refine ⟨by omega, ?_⟩
        simp only [gκ, if_neg h1, getD0_some hl]
        simpa using hi.symm
  have hat : ∀ {i ver sz : Nat} {ro : Bool} {rf : List Nat} {l : List (List AV)}, H[i]? = some (.arr ver ro sz rf l) → i < n0 + live.length ∧
      ∃ rf0 l0, h[gκ n0 live i]? = some (.arr ver ro sz rf0 l0) ∧ rf = rf0.map σ ∧ l = l0.map (renL σ) := by
    intro i ver sz ro rf l hi
    obtain ⟨h1, h2⟩ := hH2 i _ hi
    refine ⟨h1, ?_⟩
    unfold regOr at h2
    cases hg : h[gκ n0 live i]? with
    | none => rw [hg] at h2; cases h2
    | some g =>
      rw [hg] at h2
      cases g with
      | arr v0 ro0 sz0 rf0 l0 =>
        simp only [renReg_arr (hh.arr _ _ _ _ _ _ hg).hrf, Reg.arr.injEq] at h2
        obtain ⟨rfl, rfl, rfl, rfl, rfl⟩ := h2
        exact ⟨rf0, l0, rfl, rfl, rfl⟩
      | map => exact absurd hg (hh.nomap _ _ _)
      | dead => cases h2
  refine ⟨⟨fun r hr v hv => ?_, fun b hb => ⟨hb, rfl⟩⟩, ⟨?_, ?_, ?_, ?_, hh.im⟩, ⟨hB.size, hB.os, hB.tape, hB.output, hB.frame, ?_, hB.i0, hB.i1, hB.fz⟩, hT⟩
  · have : gκ n0 live r = r := by simp [gκ, hr]
    exact ⟨⟨by omega, by rw [this]; exact hv⟩, by simp only [Ctx.gc]; rw [this]⟩
  · intro i ver ro sz rf l hi
    obtain ⟨h1, rf0, l0, hg, rfl, rfl⟩ := hat hi
    have ok := hh.arr _ _ _ _ _ _ hg
    exact RegOk.ren ok (fun b hb => ⟨hb, rfl⟩) rfl rfl ⟨h1, ok.hv⟩ (hT _ fun q hq => hcl _ (hkin i h1) _ hg q hq) ok.im ok.mu
  · intro i rf l hi
    obtain ⟨h1, h2⟩ := hH2 i _ hi
    unfold regOr at h2
    cases hg : h[gκ n0 live i]? with
    | none => rw [hg] at h2; cases h2
    | some g =>
      rw [hg] at h2
      cases g with
      | arr v0 ro0 sz0 rf0 l0 =>
        simp only [renReg_arr (hh.arr _ _ _ _ _ _ hg).hrf] at h2
        cases h2
      | map => exact absurd hg (hh.nomap _ _ _)
      | dead => cases h2
  · intro i j g g' b hi hj hb hb'
    obtain ⟨ver, sz, rf, l, rfl, rfl⟩ := blkM_some hb
    obtain ⟨ver', sz', rf', l', rfl, e'⟩ := blkM_some hb'
    obtain ⟨h1, rf0, l0, hg, _, _⟩ := hat hi
    obtain ⟨h1', rf0', l0', hg', _, _⟩ := hat hj
    exact hkinj i h1 j h1' (hh.sep _ _ _ _ _ hg hg' rfl (by simp only [blkM]; exact congrArg some e'.symm))
  · rintro i v ⟨hi, hv⟩
    obtain ⟨g, hg, hvb⟩ := hh.vb _ _ hv
    rw [hH]
    by_cases h1 : i < n0
    · rw [if_pos h1]
      simp only [gκ, if_pos h1] at hg
      rw [hg]
      exact ⟨_, rfl, by rw [VB_ren]; exact hvb⟩
    · rw [if_neg h1]
      simp only [gκ, if_neg h1] at hg
      rw [get_of_lt (show i - n0 < live.length by omega)]
      simp only [Option.map_some, regOr, hg]
      exact ⟨_, rfl, by rw [VB_ren]; exact hvb⟩
  · intro i g b hi hb
    obtain ⟨ver, sz, rf, l, rfl, rfl⟩ := blkM_some hb
    obtain ⟨h1, rf0, l0, hg, _, _⟩ := hat hi
    exact hB.mu _ _ _ hg rfl

theorem T.get_refs : ∀ (t : T) (i : Nat), ∀ r ∈ AM.refs (t.get i), r ∈ t.refs
  | .e, i => by rw [T.get_e]; intro r hr; cases hr
  | .n l x rr, i => by
    rw [T.get_n]
    intro r hr
    simp only [T.refs, List.mem_append]
    split at hr
    · exact .inl hr
    · split at hr
      · exact .inr (.inl (T.get_refs l _ r hr))
      · exact .inr (.inr (T.get_refs rr _ r hr))

theorem T.get_ren (σ : Nat → Nat) : ∀ (t : T) (i : Nat), (t.ren σ).get i = AM.ren σ (t.get i)
  | .e, i => by simp only [T.ren, T.get_e, AM.ren]
  | .n l x rr, i => by
    simp only [T.ren, T.get_n, T.get_ren σ l, T.get_ren σ rr]
    split
    · rfl
    · split <;> rfl

theorem T.get_like : ∀ (t0 t : T) (i : Nat), (T.like t0 t).get i = .undef ∨ (T.like t0 t).get i = t.get i
  | .e, t, i => by rw [T.like, T.get_e]; exact .inl rfl
  | .n l x r, .e, i => by rw [T.like, T.get_e]; exact .inl rfl
  | .n l x r, .n l' x' r', i => by
    have e : ∃ y, T.like (.n l x r) (.n l' x' r') = .n (l.like l') y (r.like r') ∧ (y = .undef ∨ y = x') := by
      cases x <;> first | exact ⟨_, rfl, .inr rfl⟩ | exact ⟨_, rfl, .inl rfl⟩
    obtain ⟨y, e, hy⟩ := e
    rw [e, T.get_n, T.get_n]
    by_cases h0 : i = 0
    · simp only [if_pos h0]; exact hy
    · simp only [if_neg h0]
      by_cases h1 : i % 2 = 1
      · simp only [if_pos h1]; exact T.get_like l l' _
      · simp only [if_neg h1]; exact T.get_like r r' _

theorem TR.like {c : Ctx} {t0 t : T} {a : Act} (h : TR c t a) : TR c (T.like t0 t) a := fun i => by
  rcases T.get_like t0 t i with e | e
  · rw [e]; trivial
  · rw [e]; exact h i

theorem gc_sound {E : Cfg} (hG : Closed E.G) {B : Base} {c : Ctx} {st st' : St} {a : Act} {n0 : Nat} (hn0 : n0 ≤ st.h.length) (hst : StR E B c st a) (e : gc n0 st = some st') :
    ∃ c', c'.w = c.w ∧ LeK n0 c c' ∧ StR E B c' st' a ∧ n0 ≤ st'.h.length := by
  unfold gc at e
  split at e
  · cases e; exact ⟨c, rfl, (Le.refl c).k _, hst, hn0⟩
  · have hof : ∀ r, r ∉ (st.t.refs ++ (refsL (st.d.map (·.2)).flatten ++ ((st.h.take n0).map regRefs).flatten)).filter (fun r => Nat.ble n0 r) → (r ∈ st.t.refs ∨ r ∈ dRefs st.d ∨ ∃ q g, q < n0 ∧ st.h[q]? = some g ∧ r ∈ regRefs g) → r < n0 := by
      intro r hr h
      rw [List.mem_filter] at hr
      refine Nat.lt_of_not_le fun hle => hr ⟨?_, by simpa [Nat.ble_eq] using hle⟩
      simp only [List.mem_append]
      rcases h with h | h | ⟨q, g, hq, hg, hrg⟩
      · exact .inl h
      · exact .inr (.inl h)
      · refine .inr (.inr (List.mem_flatten.2 ⟨regRefs g, List.mem_map.2 ⟨g, List.mem_of_getElem? (i := q) ?_, rfl⟩, hrg⟩))
        rw [List.getElem?_take, if_pos hq]; exact hg
    split at e
    · next hnil =>
      cases e
      have hall := fun r => hof r (by rw [hnil]; simp)
      obtain ⟨k1, k2, k3, k4⟩ := gc_core (H := st.h.take n0) (live := []) (σ := id) hst.hh hst.hB hn0 List.nodup_nil (fun r hr => by cases hr) (fun r _ => rfl) (fun r hr => by cases hr)
        (fun r hr g hg q hq => .inl (hall q (.inr (.inr ⟨r, g, hr.resolve_right (by simp), hg, hq⟩)))) (fun i => by
          rw [List.getElem?_take]
          by_cases hi : i < n0
          · rw [if_pos hi, if_pos hi]
            cases hg : st.h[i]? with
            | none => rfl
            | some g => simp only [Option.map_some]; rw [renReg_id g (fun rf l h => hst.hh.nomap i rf l (by rw [hg, h]))]
          · rw [if_neg hi, if_neg hi]; rfl)
      refine ⟨c.gc n0 [], rfl, k1, ⟨k2, k3, hst.hg.closed hG k1.i, fun i => ?_, ?_⟩, by simp; omega⟩
      · have := Rel_ren (σ := id) k1.i _ _ (k4 _ fun r hr => .inl (hall r (.inl (T.get_refs st.t i r hr)))) (hst.ht i)
        rwa [ren_id id _ (fun _ _ => rfl)] at this
      · have := DR.ren (σ := id) k1.i (k4 _ fun r hr => .inl (hall r (.inr (.inl hr)))) hst.hd
        have e1 : (st.d.map fun (p : FuncId × List AV) => (p.1, renL id p.2)) = st.d := by
          clear this hst hall hof hnil
          induction st.d with
          | nil => rfl
          | cons p d ih => simp only [List.map_cons, renL_id id p.2 (fun _ _ => rfl)]; rw [ih]
        simp only at this ⊢
        rwa [e1] at this
    · next roots hne =>
      split at e
      · cases e
      · next all hall =>
        simp only [gcTo, Option.some.injEq] at e
        obtain ⟨a1, a2, a3, a4⟩ := reach_spec _ _ _ _ hall
        obtain ⟨live, hlive⟩ : ∃ live, live = all.filter (fun r => Nat.ble n0 r) := ⟨_, rfl⟩
        obtain ⟨σ, hσ⟩ : ∃ σ : Nat → Nat, σ = gcσ n0 live := ⟨_, rfl⟩
        rw [← hlive, ← hσ] at e
        have hlm : ∀ r, r ∈ live ↔ r ∈ all ∧ n0 ≤ r := by intro r; rw [hlive]; simp [List.mem_filter, Nat.ble_eq]
        have hin : ∀ r, (r ∈ st.t.refs ∨ r ∈ dRefs st.d ∨ ∃ q g, q < n0 ∧ st.h[q]? = some g ∧ r ∈ regRefs g) → r < n0 ∨ r ∈ live := by
          intro r hr
          by_cases hm : r ∈ (st.t.refs ++ (refsL (st.d.map (·.2)).flatten ++ ((st.h.take n0).map regRefs).flatten)).filter (fun r => Nat.ble n0 r)
          · refine .inr ((hlm r).2 ⟨a2 r hm, ?_⟩)
            have := (List.mem_filter.1 hm).2
            simpa [Nat.ble_eq] using this
          · exact .inl (hof r hm hr)
        have hcl : ∀ r, (r < n0 ∨ r ∈ live) → ∀ g, st.h[r]? = some g → ∀ q ∈ regRefs g, q < n0 ∨ q ∈ live := by
          intro r hr g hg q hq
          rcases hr with hr | hr
          · exact hin q (.inr (.inr ⟨r, g, hr, hg, hq⟩))
          · have := a3 r ((hlm r).1 hr).1 (by simp) g hg q hq
            by_cases h : q < n0
            · exact .inl h
            · exact .inr ((hlm q).2 ⟨this, by omega⟩)
        obtain ⟨k1, k2, k3, k4⟩ := gc_core (H := (st.h.take n0).map (renReg σ) ++ restrict st.h live σ) (live := live) (σ := σ) hst.hh hst.hB hn0 (by rw [hlive]; exact (a4 List.nodup_nil).filter _) (fun r hr => ((hlm r).1 hr).2)
          (fun r hr => by rw [hσ]; simp only [gcσ]; rw [show Nat.blt r n0 = true by simpa [Nat.blt_eq] using hr])
          (fun r hr => by
            rw [hσ]; simp only [gcσ]
            rw [show Nat.blt r n0 = false by
              cases hb : Nat.blt r n0 with
              | false => rfl
              | true => rw [Nat.blt_eq] at hb; have := ((hlm r).1 hr).2; omega])
          hcl (fun i => by
            have hl : ((st.h.take n0).map (renReg σ)).length = n0 := by simp; omega
            by_cases hi : i < n0
            · rw [List.getElem?_append_left (by omega), if_pos hi, List.getElem?_map, List.getElem?_take, if_pos hi]
            · rw [List.getElem?_append_right (by omega), if_neg hi, hl, restrict_get])
        subst e
        refine ⟨c.gc n0 live, rfl, k1, ⟨k2, k3, hst.hg.closed hG k1.i, fun i => ?_, ?_⟩, by simp; omega⟩
        · simp only [T.get_ren]
          exact Rel_ren k1.i _ _ (k4 _ fun r hr => hin r (.inl (T.get_refs st.t i r hr))) (hst.ht i)
        · exact DR.ren k1.i (k4 _ fun r hr => hin r (.inr (.inl hr))) hst.hd
end Go.AM
