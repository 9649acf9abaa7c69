/- A part of the proof that the machine of AM is sound: each lemma is under its own hypotheses alone. -/
import Derived.Test.YtnehdpiiijbhhaaAMCall
set_option autoImplicit false
set_option linter.unusedVariables false
set_option linter.unusedSimpArgs false
namespace Go.AM
open Go Go.RowKit

theorem VB_ren (σ : Nat → Nat) (g : Reg) (v : Nat) : VB (renReg σ g) v = VB g v := by
  unfold renReg
  split
  · split <;> rfl
  · rfl
  · rfl
theorem VB_roIn (S : List Nat) (r : Nat) (g : Reg) (v : Nat) : VB (roIn S r g) v = VB g v := by cases g <;> rfl
theorem VB_roFor (wr : Bool) (g : Reg) (v : Nat) : VB (roFor wr g) v = VB g v := by cases wr <;> cases g <;> rfl

theorem sameVer_get : ∀ {l l' : Heap} {i : Nat} {g g' : Reg} {v : Nat}, sameVer l l' = true → l[i]? = some g → l'[i]? = some g' → VB g' v → VB g v
  | [], l', i, g, g', v, h, hg, hg', hv => by simp at hg
  | .arr v0 a b c d :: l, [], i, g, g', v, h, hg, hg', hv => by simp at hg'
  | .map a b :: l, [], i, g, g', v, h, hg, hg', hv => by simp at hg'
  | .dead :: l, [], i, g, g', v, h, hg, hg', hv => by simp at hg'
  | .arr v0 a b c d :: l, .arr v1 a1 b1 c1 d1 :: l', i, g, g', v, h, hg, hg', hv => by
    simp only [sameVer, Bool.and_eq_true] at h
    cases i with
    | zero =>
      simp at hg hg'; subst hg hg'
      have := Nat.eq_of_beq_eq_true h.1
      simp only [VB] at hv ⊢; omega
    | succ i => exact sameVer_get h.2 (by simpa using hg) (by simpa using hg') hv
  | .dead :: l, .dead :: l', i, g, g', v, h, hg, hg', hv => by
    simp only [sameVer] at h
    cases i with
    | zero => simp at hg hg'; subst hg hg'; exact hv
    | succ i => exact sameVer_get h (by simpa using hg) (by simpa using hg') hv
  | .arr .. :: l, .dead :: l', i, g, g', v, h, hg, hg', hv => by simp [sameVer] at h
  | .arr .. :: l, .map .. :: l', i, g, g', v, h, hg, hg', hv => by simp [sameVer] at h
  | .dead :: l, .arr .. :: l', i, g, g', v, h, hg, hg', hv => by simp [sameVer] at h
  | .dead :: l, .map .. :: l', i, g, g', v, h, hg, hg', hv => by simp [sameVer] at h
  | .map .. :: l, _ :: l', i, g, g', v, h, hg, hg', hv => by simp [sameVer] at h

theorem or_false_l {a b : Bool} (h : false = (a || b)) : a = false := by cases a <;> simp_all

mutual
theorem Rel_nosl {c c' : Ctx} {σ : Nat → Nat} : ∀ (x : AV) (y : Value), hasSl x = false → Takes σ c c' (refs x) → Rel c x y → Rel c' (ren σ x) y
  | .undef, y, _, _, _ => by simp [ren, Rel]
  | .v x, y, _, _, h => by simpa [ren, Rel] using h
  | .agg l, y, hs, ht, h => by
    obtain ⟨ys, rfl, hl, ho⟩ := h
    exact ⟨ys, rfl, RelL_nosl l ys (by simpa [hasSl] using hs) (by simpa [refs] using ht) hl, by rw [all_one_renL]; exact ho⟩
  | .tup l, y, hs, ht, h => by
    obtain ⟨ys, rfl, hl⟩ := h
    exact ⟨ys, rfl, RelL_nosl l ys (by simpa [hasSl] using hs) (by simpa [refs] using ht) hl⟩
  | .sl full l, y, hs, ht, h => by
    have : l = [] := by simpa [hasSl] using hs
    subst this
    obtain ⟨a, cap, rfl, h1, h2, h3, h4⟩ := h
    exact ⟨a, cap, rfl, h1, h2, h3, .inl rfl⟩
  | .ref r ver off len, y, hs, ht, h => by
    obtain ⟨hv, hcap, a, cap', rfl, h2, h3⟩ := h
    obtain ⟨hv', hr'⟩ := ht r (by simp [refs]) ver hv
    exact ⟨hv', by rw [hr']; exact hcap, a, cap', rfl, by rw [hr']; exact h2, by rw [hr']; exact h3⟩
  | .ptr r ver i off, y, hs, ht, h => by
    obtain ⟨hv, rfl⟩ := h
    obtain ⟨hv', hr'⟩ := ht r (by simp [refs]) ver hv
    exact ⟨hv', by rw [hr']⟩
  | .imm l, y, hs, _, h => by simp [hasSl] at hs
  | .fn f l, y, hs, ht, h => by
    obtain ⟨ys, rfl, hl⟩ := h
    exact ⟨ys, rfl, RelL_nosl l ys (by simpa [hasSl] using hs) (by simpa [refs] using ht) hl⟩
  | .iface t x, y, hs, ht, h => by
    obtain ⟨z, rfl, hz⟩ := h
    exact ⟨z, rfl, Rel_nosl x z (by simpa [hasSl] using hs) (by simpa [refs] using ht) hz⟩
  | .map r, y, hs, ht, h => by
    obtain ⟨hv, rfl⟩ := h
    obtain ⟨hv', hr'⟩ := ht r (by simp [refs]) 0 hv
    exact ⟨hv', by rw [hr']⟩
theorem RelL_nosl {c c' : Ctx} {σ : Nat → Nat} : ∀ (l : List AV) (ys : List Value), hasSlL l = false → Takes σ c c' (refsL l) → RelL c l ys → RelL c' (renL σ l) ys
  | [], ys, _, _, h => by simpa [renL, RelL] using h
  | x :: l, ys, hs, ht, h => by
    simp only [hasSlL, Bool.or_eq_false_iff] at hs
    obtain ⟨y, ys', rfl, hx, hl⟩ := h
    exact ⟨y, ys', rfl, Rel_nosl x y hs.1 (ht.sub (by intro r hr; simp [refsL, hr])) hx, RelL_nosl l ys' hs.2 (ht.sub (by intro r hr; simp [refsL, hr])) hl⟩
end

/-- The caller's regions behind a call. -/
def Ctx.leave (c c1 : Ctx) (b : Nat) (roots live : List Nat) (im : Nat → Prop) : Ctx where
  ρ := fun r v => if r < b then (if r ∈ roots then c1.ρ (idxOf r roots) v else c.ρ r v) else c1.ρ (getD0 live (r - b)) v
  V := fun r v => if r < b then (if r ∈ roots then c1.V (idxOf r roots) v else c.V r v) else (r - b < live.length ∧ c1.V (getD0 live (r - b)) v)
  imm := im
  w := c1.w

/-- The frozen blocks too. -/
def Ctx.with (c : Ctx) (h : Heap) (S : List Nat) : Ctx := { c with imm := fun b => c.imm b ∨ Frz c h S b }

theorem Le.with (c : Ctx) (h : Heap) (S : List Nat) : Le c (c.with h S) := ⟨fun _ _ h => ⟨h, rfl⟩, fun _ h => ⟨.inl h, rfl⟩⟩

theorem outσ_lt {roots live : List Nat} {b r : Nat} (h : r < roots.length) : outσ roots live b r = getD0 roots r := by
  unfold outσ
  rw [show Nat.blt r roots.length = true from by simpa [Nat.blt_eq] using h]
theorem outσ_ge {roots live : List Nat} {b r : Nat} (h : ¬ r < roots.length) : outσ roots live b r = b + idxOf r live := by
  unfold outσ
  rw [show Nat.blt r roots.length = false from by
    cases hb : Nat.blt r roots.length with
    | false => rfl
    | true => rw [Nat.blt_eq] at hb; exact absurd hb h]

structure BackIn (B : Base) (c : Ctx) (h : Heap) (S roots : List Nat) (wr : Bool) (c1 : Ctx) (h' : Heap) (S2 all : List Nat) (x : AV) : Prop where
  hh : HR c h
  hB : BR B c h
  hn : roots.Nodup
  hlt : ∀ r ∈ roots, r < h.length
  hh1 : HR c1 h'
  hB1 : BR (baseIn c h S roots wr) c1 h'
  hK : ∀ i < roots.length, ∀ v, c.V (getD0 roots i) v → c1.V i v ∧ c1.ρ i v = c.ρ (getD0 roots i) v
  hI : ∀ b, immIn c h S roots wr b → c1.imm b ∧ c1.w.heap[b]? = c.w.heap[b]?
  hx : ∀ r ∈ refs x, r ∈ all
  hin : ∀ i < roots.length, i ∈ all
  hcl : ∀ r ∈ all, (r < roots.length → wr = true) → ∀ g, h'[r]? = some g → ∀ q ∈ regRefs g, q ∈ all
  hna : all.Nodup
  hS2 : ∀ r ∈ S2, r ∉ all
  hlen : roots.length ≤ h'.length
  hver : wr = true ∨ sameVer (memFor wr roots h) h' = true

theorem back_sound {B : Base} {c : Ctx} {h : Heap} {S roots : List Nat} {wr : Bool} {c1 : Ctx} {h' : Heap} {S2 all : List Nat} {x y : AV} {v : Value} {h3 : Heap} {f : FP}
    (k : BackIn B c h S roots wr c1 h' S2 all x) (hxv : Rel (c1.with h' S2) x v) (e : backTo wr S roots (all.filter fun r => Nat.ble roots.length r) h h' x = (y, h3, f)) :
    ∃ c2, c2.w = c1.w ∧ Le c c2 ∧ HR c2 h3 ∧ BR B c2 h3 ∧ Rel c2 y v := by
  have hlive : ∀ r, r ∈ all.filter (fun r => Nat.ble roots.length r) ↔ r ∈ all ∧ ¬ r < roots.length := by
    intro r
    simp [List.mem_filter, Nat.ble_eq, Nat.not_lt]
  have hnl : (all.filter fun r => Nat.ble roots.length r).Nodup := k.hna.filter _
  generalize all.filter (fun r => Nat.ble roots.length r) = live at e hlive hnl
  obtain ⟨mark, hmark⟩ : ∃ mark, mark = (wr || (hasSl x || !live.isEmpty)) := ⟨_, rfl⟩
  obtain ⟨mk, hmk0⟩ : ∃ mk, mk = marksOf wr (hasSl x) live S roots := ⟨_, rfl⟩
  have hmk1 : mark = true → wr = true → mk = S := by
    intro h1 h2
    rw [hmk0]; unfold marksOf; rw [← hmark, h1, h2]
  have hmk2 : mark = true → wr = false → mk = S ++ roots := by
    intro h1 h2
    rw [hmk0]; unfold marksOf; rw [← hmark, h1, h2]
  have hmk3 : mark = false → mk = [] := by
    intro h1
    rw [hmk0]; unfold marksOf; rw [← hmark, h1]
  obtain ⟨b0, hb0⟩ : ∃ b0, b0 = baseOf live h.length := ⟨_, rfl⟩
  have hb0' : live ≠ [] → b0 = h.length := by
    intro hne
    rw [hb0]
    cases live with
    | nil => exact absurd rfl hne
    | cons => rfl
  have e' : (ren (outσ roots live b0) x, wroteBack wr (markRo h mk) (outσ roots live b0) roots h' ++ restrict h' live (outσ roots live b0)) = (y, h3) := by
    rw [hmk0, hb0]
    unfold backTo at e
    simp only [Prod.mk.injEq] at e ⊢
    exact ⟨e.1, e.2.1⟩
  obtain ⟨σ, hσ⟩ : ∃ σ, σ = outσ roots live b0 := ⟨_, rfl⟩
  rw [← hσ] at e'
  simp only [Prod.mk.injEq] at e'
  obtain ⟨rfl, e3⟩ := e'
  obtain ⟨c2, hc2⟩ : ∃ c2, c2 = c.leave c1 h.length roots live (fun b => c.imm b ∨ (mark = true ∧ (c1.with h' S2).imm b)) := ⟨_, rfl⟩
  have hw : c2.w = c1.w := by rw [hc2]; rfl
  -- the heap
  have hget : ∀ r, h3[r]? = if r < h.length then (if wr = true ∧ r ∈ roots then (h'[idxOf r roots]?).map (renReg σ) else (h[r]?).map (roIn mk r)) else (live[r - h.length]?).map (regOr h' σ) := by
    intro r
    have hl2 : (wroteBack wr (markRo h mk) σ roots h').length = h.length := by
      cases wr
      · exact markRo_length _ _
      · simp only [wroteBack]; rw [writeBack_length, markRo_length]
    rw [← e3]
    by_cases hr : r < h.length
    · rw [List.getElem?_append_left (by rw [hl2]; exact hr), if_pos hr]
      cases wr with
      | true =>
        simp only [true_and, wroteBack]
        rw [writeBack_get _ _ _ _ _ k.hn (fun q hq => by rw [markRo_length]; exact k.hlt q hq) k.hlen, markRo_get]
      | false => simp [markRo_get, wroteBack]
    · rw [List.getElem?_append_right (by rw [hl2]; omega), if_neg hr, hl2, restrict_get]
  -- names
  have hσ1 : ∀ q ∈ all, (q < roots.length ∧ σ q = getD0 roots q ∧ σ q < h.length ∧ σ q ∈ roots ∧ idxOf (σ q) roots = q) ∨
      (¬ q < roots.length ∧ ¬ σ q < h.length ∧ σ q - h.length < live.length ∧ getD0 live (σ q - h.length) = q) := by
    intro q hq
    by_cases hm : q < roots.length
    · have e1 : σ q = getD0 roots q := by rw [hσ, outσ_lt hm]
      refine .inl ⟨hm, e1, ?_, ?_, ?_⟩
      · rw [e1]; exact k.hlt _ (getD0_mem hm)
      · rw [e1]; exact getD0_mem hm
      · rw [e1]; exact idxOf_getD0 k.hn hm
    · have hql : q ∈ live := (hlive q).2 ⟨hq, hm⟩
      have e1 : σ q = h.length + idxOf q live := by rw [hσ, outσ_ge hm, hb0' (List.ne_nil_of_mem hql)]
      refine .inr ⟨hm, by omega, ?_, ?_⟩
      · rw [e1, Nat.add_sub_cancel_left]; exact idxOf_lt hql
      · rw [e1, Nat.add_sub_cancel_left]; exact getD0_idx hql
  have hV : ∀ q ∈ all, ∀ v, (c2.V (σ q) v ↔ c1.V q v) ∧ c2.ρ (σ q) v = c1.ρ q v := by
    intro q hq v
    rw [hc2]
    simp only [Ctx.leave]
    rcases hσ1 q hq with ⟨h1, h2, h3, h4, h5⟩ | ⟨h1, h2, h3, h4⟩
    · simp only [if_pos h3, if_pos h4, h5, and_self]
    · simp only [if_neg h2, h4, h3, true_and, and_self]
  have hinj : ∀ q ∈ all, ∀ q' ∈ all, σ q = σ q' → q = q' := by
    intro q hq q' hq' e
    rcases hσ1 q hq with ⟨h1, h2, h3, h4, h5⟩ | ⟨h1, h2, h3, h4⟩ <;> rcases hσ1 q' hq' with ⟨h1', h2', h3', h4', h5'⟩ | ⟨h1', h2', h3', h4'⟩
    · rw [← h5, ← h5', e]
    · omega
    · omega
    · rw [← h4, ← h4', e]
  have hle : Le c c2 := by
    refine ⟨fun r v hv => ?_, fun b hb => ⟨by rw [hc2]; exact .inl hb, ?_⟩⟩
    · obtain ⟨g, hg, _⟩ := k.hh.vb _ _ hv
      have hr : r < h.length := (List.getElem?_eq_some_iff.1 hg).1
      rw [hc2]
      simp only [Ctx.leave, if_pos hr]
      by_cases hrr : r ∈ roots
      · simp only [if_pos hrr]
        have := k.hK (idxOf r roots) (idxOf_lt hrr) v (by rw [getD0_idx hrr]; exact hv)
        rwa [getD0_idx hrr] at this
      · simp only [if_neg hrr]; exact ⟨hv, trivial⟩
    · rw [hw]; exact (k.hI b (.inl hb)).2
  have hT : Takes σ c1 c2 all := fun q hq v hv => ⟨((hV q hq v).1).2 hv, (hV q hq v).2⟩
  have hF1 : ∀ b, (c1.with h' S2).imm b → (baseIn c h S roots wr).imm b ∨ (baseIn c h S roots wr).own b ∨ c.w.heap.size ≤ b := by
    rintro b (hb | hb)
    · exact k.hB1.i1 b hb
    · obtain ⟨r, _, ver, ro, sz, rf, l, hg, rfl⟩ := hb
      exact k.hB1.blk k.hh1 hg
  have hF2 : ∀ {r ver sz : Nat} {rf : List Nat} {l : List (List AV)}, h[r]? = some (.arr ver false sz rf l) → (wr = true → r ∉ roots) → r ∉ mk → ¬ c2.imm (c.ρ r ver).blk := by
    intro r ver sz rf l hg hr hm hb
    have ok := k.hh.arr _ _ _ _ _ _ hg
    rw [hc2] at hb
    rcases hb with hb | ⟨hmt, hb⟩
    · exact ok.mu rfl hb
    · rcases hF1 _ hb with (hb | hb | ⟨hw0, hb⟩) | ⟨hw1, q, hq, g, hgq, hbq⟩ | hb
      · exact ok.mu rfl hb
      · apply hm
        cases hw0 : wr with
        | false => rw [hmk2 hmt hw0]; exact List.mem_append_left _ (hb.mem_of k.hh hg)
        | true => rw [hmk1 hmt hw0]; exact hb.mem_of k.hh hg
      · apply hm; rw [hmk2 hmt hw0]
        exact List.mem_append_right _ (hb.mem_of k.hh hg)
      · exact hr hw1 (k.hh.sep r q _ _ _ hg hgq rfl hbq ▸ hq)
      · exact absurd ok.blk_lt (by omega)
  have hF3 : ∀ {r ver sz : Nat} {ro : Bool} {rf : List Nat} {l : List (List AV)}, h[r]? = some (.arr ver ro sz rf l) → (wr = true → r ∉ roots) →
      c1.w.heap[(c.ρ r ver).blk]? = c.w.heap[(c.ρ r ver).blk]? := by
    intro r ver sz ro rf l hg hr
    have ok := k.hh.arr _ _ _ _ _ _ hg
    refine k.hB1.frame _ ok.blk_lt ?_
    rintro ⟨hw1, q, hq, g, hgq, hbq⟩
    cases ro with
    | true => exact k.hh.not_imm hgq hbq (ok.im rfl)
    | false => exact hr hw1 (k.hh.sep r q _ _ _ hg hgq rfl hbq ▸ hq)
  -- what stands at r
  have hat : ∀ {r ver sz : Nat} {ro : Bool} {rf : List Nat} {l : List (List AV)}, h3[r]? = some (.arr ver ro sz rf l) →
      ((wr = true → r ∉ roots) ∧ ∃ ro0, h[r]? = some (.arr ver ro0 sz rf l) ∧ ro = (ro0 || mem r mk)) ∨
      (∃ q rf0 l0, q ∈ all ∧ σ q = r ∧ (q < roots.length → wr = true) ∧ h'[q]? = some (.arr ver ro sz rf0 l0) ∧ rf = rf0.map σ ∧ l = l0.map (renL σ)) := by
    intro r ver sz ro rf l hr
    rw [hget] at hr
    have hof : ∀ q : Nat, (h'[q]?).map (renReg σ) = some (Reg.arr ver ro sz rf l) → ∃ (rf0 : List Nat) (l0 : List (List AV)), h'[q]? = some (Reg.arr ver ro sz rf0 l0) ∧ rf = rf0.map σ ∧ l = l0.map (renL σ) := by
      intro q hq
      cases hg : h'[q]? with
      | none => rw [hg] at hq; cases hq
      | some g =>
        rw [hg] at hq
        simp only [Option.map_some, Option.some.injEq] at hq
        cases g with
        | arr ver0 ro0 sz0 rf0 l0 =>
          rw [renReg_arr (k.hh1.arr _ _ _ _ _ _ hg).hrf] at hq
          simp only [Reg.arr.injEq] at hq
          obtain ⟨rfl, rfl, rfl, rfl, rfl⟩ := hq
          exact ⟨rf0, l0, rfl, rfl, rfl⟩
        | map => cases hq
        | dead => cases hq
    split at hr
    · next hlt =>
      split at hr
      · next hw1 =>
        obtain ⟨rf0, l0, hg, hrf, hl⟩ := hof _ hr
        have hi := idxOf_lt hw1.2
        have : σ (idxOf r roots) = r := by rw [hσ, outσ_lt hi, getD0_idx hw1.2]
        exact .inr ⟨idxOf r roots, rf0, l0, k.hin _ hi, this, fun _ => hw1.1, hg, hrf, hl⟩
      · next hw1 =>
        left
        refine ⟨fun h1 h2 => hw1 ⟨h1, h2⟩, ?_⟩
        cases hg : h[r]? with
        | none => rw [hg] at hr; cases hr
        | some g =>
          rw [hg] at hr
          cases g with
          | arr ver0 ro0 sz0 rf0 l0 =>
            simp only [Option.map_some, roIn, Option.some.injEq, Reg.arr.injEq] at hr
            obtain ⟨rfl, rfl, rfl, rfl, rfl⟩ := hr
            exact ⟨ro0, rfl, rfl⟩
          | map => cases hr
          | dead => cases hr
    · next hge =>
      cases hq : live[r - h.length]? with
      | none => rw [hq] at hr; cases hr
      | some q =>
        rw [hq] at hr
        have hql := (hlive q).1 (List.mem_of_getElem? hq)
        have hr' : (h'[q]?).map (renReg σ) = some (Reg.arr ver ro sz rf l) := by
          simp only [Option.map_some, regOr, Option.some.injEq] at hr
          cases hg : h'[q]? with
          | none => rw [hg] at hr; cases hr
          | some g => rw [hg] at hr; simp only [Option.map_some]; rw [← hr]
        obtain ⟨rf0, l0, hg, hrf, hl⟩ := hof _ hr'
        have : σ q = r := by
          rw [hσ, outσ_ge hql.2, idxOf_eq hnl hq, hb0' (List.ne_nil_of_mem (List.mem_of_getElem? hq))]; omega
        exact .inr ⟨q, rf0, l0, hql.1, this, fun h => absurd h hql.2, hg, hrf, hl⟩
  have hmt : ∀ q ∈ all, (q < roots.length → wr = true) → mark = true := by
    intro q hq hw1
    rw [hmark]
    by_cases hm : q < roots.length
    · rw [hw1 hm]; rfl
    · have : live ≠ [] := by rintro rfl; exact absurd ((hlive q).2 ⟨hq, hm⟩) (by simp)
      have : live.isEmpty = false := by cases live with | nil => exact absurd rfl this | cons a l => rfl
      simp [this]
  have hI1 : mark = true → ImmLe c1 c2 := by
    intro hm b hb
    exact ⟨by rw [hc2]; exact .inr ⟨hm, .inl hb⟩, by rw [hw]⟩
  have hHR : HR c2 h3 := by
    refine ⟨?_, ?_, ?_, ?_, ?_⟩
    · intro r ver ro sz rf l hr
      rcases hat hr with ⟨hnr, ro0, hg, hro⟩ | ⟨q, rf0, l0, hq, hqr, hqw, hg, rfl, rfl⟩
      · have ok := k.hh.arr _ _ _ _ _ _ hg
        have := RegOk.ren (σ := id) (i := r) (ro' := ro) ok hle.i (by rw [hw]; exact hF3 hg hnr) (hle.v r ver ok.hv).2 (hle.v r ver ok.hv).1 (hle.takes _) ?_ ?_
        · have e1 : l.map (renL id) = l := by
            clear this hr hg ok
            induction l with
            | nil => rfl
            | cons a l ih => simp [renL_id id a (fun _ _ => rfl), ih]
          simpa [e1] using this
        · intro he
          rw [he] at hro
          cases hro0 : ro0 with
          | true => exact (hle.i _ (ok.im hro0)).1
          | false =>
            rw [hro0] at hro
            have hm : r ∈ mk := (mem_iff _ _).1 (by simpa using hro.symm)
            have hmark1 : mark = true := by
              cases hmm : mark with
              | true => rfl
              | false => rw [hmk3 hmm] at hm; cases hm
            rw [hc2]
            refine .inr ⟨hmark1, .inl (k.hI _ ?_).1⟩
            cases hw1 : wr with
            | true => rw [hmk1 hmark1 hw1] at hm; exact .inr (.inl ⟨r, hm, _, _, _, _, _, hg, rfl⟩)
            | false =>
              rw [hmk2 hmark1 hw1] at hm
              rcases List.mem_append.1 hm with hm | hm
              · exact .inr (.inl ⟨r, hm, _, _, _, _, _, hg, rfl⟩)
              · exact .inr (.inr ⟨rfl, r, hm, _, _, _, _, _, hg, rfl⟩)
        · intro he
          rw [he] at hro
          have hro0 : ro0 = false := or_false_l hro
          have hnm : r ∉ mk := mem_false.1 (by rw [hro0] at hro; simpa using hro.symm)
          subst hro0
          exact hF2 hg hnr hnm
      · have ok := k.hh1.arr _ _ _ _ _ _ hg
        have hm := hmt q hq hqw
        subst hqr
        refine RegOk.ren ok (hI1 hm) (by rw [hw]) (hV q hq ver).2 (((hV q hq ver).1).2 ok.hv) (hT.sub fun p hp => k.hcl q hq hqw _ hg p hp) ?_ ?_
        · intro he; exact (hI1 hm _ (ok.im he)).1
        · intro he hb
          rw [hc2] at hb
          subst he
          rcases hb with hb | ⟨_, hb | hb⟩
          · exact ok.mu rfl (k.hI _ (.inl hb)).1
          · exact ok.mu rfl hb
          · exact k.hS2 q (hb.mem_of k.hh1 hg) hq
    · intro r rf l hr
      rw [hget] at hr
      have hof : ∀ q : Nat, (h'[q]?).map (renReg σ) = some (Reg.map rf l) → False := by
        intro q hq
        cases hg : h'[q]? with
        | none => rw [hg] at hq; cases hq
        | some g =>
          rw [hg] at hq
          cases g with
          | arr ver0 ro0 sz0 rf0 l0 =>
            rw [Option.map_some, renReg_arr (k.hh1.arr _ _ _ _ _ _ hg).hrf] at hq
            cases hq
          | map => exact k.hh1.nomap _ _ _ hg
          | dead => cases hq
      split at hr
      · split at hr
        · exact hof _ hr
        · cases hg : h[r]? with
          | none => rw [hg] at hr; cases hr
          | some g =>
            rw [hg] at hr
            cases g with
            | arr => cases hr
            | map => exact k.hh.nomap _ _ _ hg
            | dead => cases hr
      · cases hq : live[r - h.length]? with
        | none => rw [hq] at hr; cases hr
        | some q =>
          rw [hq] at hr
          apply hof q
          simp only [Option.map_some, regOr, Option.some.injEq] at hr
          cases hg : h'[q]? with
          | none => rw [hg] at hr; cases hr
          | some g => rw [hg] at hr; simp only [Option.map_some]; rw [← hr]
    · intro r r' g g' b hr hr' hb hb'
      obtain ⟨ver, sz, rf, l, rfl, rfl⟩ := blkM_some hb
      obtain ⟨ver', sz', rf', l', rfl, e'⟩ := blkM_some hb'
      have hold : ∀ {r ver sz : Nat} {rf : List Nat} {l : List (List AV)}, h[r]? = some (.arr ver false sz rf l) → (wr = true → r ∉ roots) → ∀ {q ver' sz' : Nat} {rf' : List Nat} {l' : List (List AV)}, q ∈ all → (q < roots.length → wr = true) →
          h'[q]? = some (.arr ver' false sz' rf' l') → (c.ρ r ver).blk = (c1.ρ q ver').blk → False := by
        intro r ver sz rf l hg hnr q ver' sz' rf' l' hq hqw hgq e
        have ok := k.hh.arr _ _ _ _ _ _ hg
        rcases k.hB1.mu q _ _ hgq rfl with ⟨hw1, p, hp, g, hgp, hbp⟩ | hb
        · rw [← e] at hbp
          exact hnr hw1 (k.hh.sep r p _ _ _ hg hgp rfl hbp ▸ hp)
        · have := ok.blk_lt
          simp only [baseIn] at hb
          omega
      rcases hat hr with ⟨hnr, ro0, hg, hro⟩ | ⟨q, rf0, l0, hq, hqr, hqw, hg, rfl, rfl⟩ <;> rcases hat hr' with ⟨hnr', ro0', hg', hro'⟩ | ⟨q', rf0', l0', hq', hqr', hqw', hg', rfl, rfl⟩
      · have h0 : ro0 = false := or_false_l hro
        have h0' : ro0' = false := or_false_l hro'
        subst h0 h0'
        rw [(hle.v _ _ (k.hh.arr _ _ _ _ _ _ hg).hv).2, (hle.v _ _ (k.hh.arr _ _ _ _ _ _ hg').hv).2] at e'
        exact k.hh.sep r r' _ _ _ hg hg' rfl (by simp only [blkM]; rw [e'])
      · have h0 : ro0 = false := or_false_l hro
        subst h0
        subst hqr'
        rw [(hle.v _ _ (k.hh.arr _ _ _ _ _ _ hg).hv).2, (hV q' hq' _).2] at e'
        exact (hold hg hnr hq' hqw' hg' e').elim
      · have h0 : ro0' = false := or_false_l hro'
        subst h0
        subst hqr
        rw [(hle.v _ _ (k.hh.arr _ _ _ _ _ _ hg').hv).2, (hV q hq _).2] at e'
        exact (hold hg' hnr' hq hqw hg e'.symm).elim
      · subst hqr hqr'
        rw [(hV q hq _).2, (hV q' hq' _).2] at e'
        rw [k.hh1.sep q q' _ _ _ hg hg' rfl (by simp only [blkM]; rw [e'])]
    · intro r v hv
      rw [hget]
      rw [hc2] at hv
      simp only [Ctx.leave] at hv
      by_cases hr : r < h.length
      · simp only [if_pos hr] at hv ⊢
        by_cases hrr : r ∈ roots
        · simp only [if_pos hrr] at hv
          obtain ⟨g, hg, hvb⟩ := k.hh1.vb _ _ hv
          cases hw1 : wr with
          | true =>
            simp only [true_and, if_pos hrr, hg, Option.map_some]
            exact ⟨_, rfl, by rw [VB_ren]; exact hvb⟩
          | false =>
            rcases k.hver with hk | hk
            · rw [hw1] at hk; cases hk
            · have hm : (memFor wr roots h)[idxOf r roots]? = some (roFor wr (regOr h (fun r => idxOf r roots) r)) := by
                rw [memFor_get, idxOf_get hrr]; rfl
              have := sameVer_get hk hm hg hvb
              rw [VB_roFor] at this
              unfold regOr at this
              cases hgr : h[r]? with
              | none => rw [hgr] at this; exact this.elim
              | some g0 =>
                rw [hgr] at this
                rw [VB_ren] at this
                simp only [Bool.false_eq_true, false_and, if_false, Option.map_some]
                exact ⟨_, rfl, by rw [VB_roIn]; exact this⟩
        · simp only [if_neg hrr] at hv
          obtain ⟨g, hg, hvb⟩ := k.hh.vb _ _ hv
          simp only [hrr, and_false, if_false, hg, Option.map_some]
          exact ⟨_, rfl, by rw [VB_roIn]; exact hvb⟩
      · simp only [if_neg hr] at hv ⊢
        obtain ⟨g, hg, hvb⟩ := k.hh1.vb _ _ hv.2
        rw [get_of_lt hv.1]
        simp only [Option.map_some, regOr, hg]
        exact ⟨_, rfl, by rw [VB_ren]; exact hvb⟩
    · intro b hb
      rw [hw]
      rw [hc2] at hb
      rcases hb with hb | ⟨_, hb | hb⟩
      · exact k.hh1.im b (k.hI b (.inl hb)).1
      · exact k.hh1.im b hb
      · exact hb.lt k.hh1
  have hBR : BR B c2 h3 := by
    have hlift : ∀ b, (baseIn c h S roots wr).own b → B.own b ∨ B.w.heap.size ≤ b := by
      rintro b ⟨_, q, _, g, hgq, hbq⟩
      exact k.hB.mu q g b hgq hbq
    refine ⟨?_, ?_, ?_, ?_, ?_, ?_, ?_, ?_, fun a h => k.hB.fz a (k.hB1.fz a (by rw [hw] at h; exact h))⟩
    · rw [hw]; exact Nat.le_trans k.hB.size k.hB1.size
    · rw [hw]; exact k.hB1.os.trans k.hB.os
    · rw [hw]; exact k.hB1.tape.trans k.hB.tape
    · rw [hw]; exact k.hB1.output.trans k.hB.output
    · intro b hb hno
      rw [hw]
      refine (k.hB1.frame b (Nat.lt_of_lt_of_le hb k.hB.size) fun ho => ?_).trans (k.hB.frame b hb hno)
      rcases hlift b ho with h1 | h1
      · exact hno h1
      · omega
    · intro r g b hr hb
      obtain ⟨ver, sz, rf, l, rfl, rfl⟩ := blkM_some hb
      rcases hat hr with ⟨hnr, ro0, hg, hro⟩ | ⟨q, rf0, l0, hq, hqr, hqw, hg, rfl, rfl⟩
      · have h0 : ro0 = false := or_false_l hro
        subst h0
        rw [(hle.v _ _ (k.hh.arr _ _ _ _ _ _ hg).hv).2]
        exact k.hB.mu r _ _ hg rfl
      · subst hqr
        rw [(hV q hq _).2]
        rcases k.hB1.mu q _ _ hg rfl with h1 | h1
        · exact hlift _ h1
        · exact .inr (Nat.le_trans k.hB.size h1)
    · intro b hb; rw [hc2]; exact .inl (k.hB.i0 b hb)
    · intro b hb
      rw [hc2] at hb
      rcases hb with hb | ⟨_, hb⟩
      · exact k.hB.i1 b hb
      · rcases hF1 b hb with (hb | ⟨r, _, ver, ro, sz, rf, l, hg, rfl⟩ | ⟨_, r, _, ver, ro, sz, rf, l, hg, rfl⟩) | hb | hb
        · exact k.hB.i1 b hb
        · exact k.hB.blk k.hh hg
        · exact k.hB.blk k.hh hg
        · exact .inr (hlift b hb)
        · exact .inr (.inr (Nat.le_trans k.hB.size hb))
  refine ⟨c2, hw, hle, hHR, hBR, ?_⟩
  have hTx : Takes σ (c1.with h' S2) c2 (refs x) := (show Takes σ (c1.with h' S2) c2 all from hT).sub k.hx
  cases hm : mark with
  | true => exact Rel_ren (fun b hb => ⟨by rw [hc2]; exact .inr ⟨hm, hb⟩, by rw [hw]; rfl⟩) x v hTx hxv
  | false =>
    rw [hm] at hmark
    have hs : hasSl x = false := by cases hx : hasSl x <;> simp_all
    exact Rel_nosl x v hs hTx hxv
end Go.AM
