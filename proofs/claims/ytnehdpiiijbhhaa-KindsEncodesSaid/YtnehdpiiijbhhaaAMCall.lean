/- A part of the proof that the machine of AM is sound: each lemma is under its own hypotheses alone. -/
import Derived.Test.YtnehdpiiijbhhaaAMSub
set_option autoImplicit false
set_option linter.unusedVariables false
set_option linter.unusedSimpArgs false
namespace Go.AM
open Go Go.RowKit

/-! Places -/
theorem beq_ne {x r : Nat} (h : x ≠ r) : Nat.beq x r = false := by
  cases hb : Nat.beq x r with
  | false => rfl
  | true => exact absurd (Nat.eq_of_beq_eq_true hb) h

theorem mem_cons_ne {x r : Nat} {l : List Nat} (h : r ≠ x) : mem r (x :: l) = mem r l := by
  rw [mem, beq_ne h]; rfl
theorem mem_cons_self {r : Nat} {l : List Nat} : mem r (r :: l) = true := by simp [mem, Nat.beq_refl]

theorem or_not_false {a w : Bool} (h : false = (a || !w)) : a = false ∧ w = true := by cases a <;> cases w <;> simp_all

theorem idxOf_get : ∀ {l : List Nat} {r : Nat}, r ∈ l → l[idxOf r l]? = some r
  | [], r, h => by cases h
  | x :: l, r, h => by
    unfold idxOf
    by_cases e : x = r
    · subst e; simp [Nat.beq_refl]
    · rw [beq_ne (Ne.symm e)]
      have hl : r ∈ l := by rcases List.mem_cons.1 h with h | h; exact absurd h.symm e; exact h
      simpa using idxOf_get hl

theorem idxOf_lt {l : List Nat} {r : Nat} (h : r ∈ l) : idxOf r l < l.length := by
  have := idxOf_get h
  exact (List.getElem?_eq_some_iff.1 this).1

theorem get_inj {l : List Nat} (hn : l.Nodup) {i j r : Nat} (hi : l[i]? = some r) (hj : l[j]? = some r) : i = j := by
  obtain ⟨h1, e1⟩ := List.getElem?_eq_some_iff.1 hi
  obtain ⟨h2, e2⟩ := List.getElem?_eq_some_iff.1 hj
  exact (List.getElem_inj hn).1 (e1.trans e2.symm)

theorem idxOf_eq {l : List Nat} (hn : l.Nodup) {i r : Nat} (h : l[i]? = some r) : idxOf r l = i :=
  get_inj hn (idxOf_get (List.mem_of_getElem? h)) h

theorem getD0_some {l : List Nat} {i r : Nat} (h : l[i]? = some r) : getD0 l i = r := by simp [getD0, h]

theorem getD0_idx {l : List Nat} {r : Nat} (h : r ∈ l) : getD0 l (idxOf r l) = r := getD0_some (idxOf_get h)

theorem get_of_lt {l : List Nat} {i : Nat} (h : i < l.length) : l[i]? = some (getD0 l i) := by
  have : l[i]? = some l[i] := List.getElem?_eq_getElem h
  rw [this, getD0_some this]

theorem getD0_mem {l : List Nat} {i : Nat} (h : i < l.length) : getD0 l i ∈ l := List.mem_of_getElem? (get_of_lt h)

theorem idxOf_getD0 {l : List Nat} (hn : l.Nodup) {i : Nat} (h : i < l.length) : idxOf (getD0 l i) l = i := idxOf_eq hn (get_of_lt h)

theorem meets_false {a b : List Nat} : meets a b = false ↔ ∀ r ∈ a, r ∉ b := by
  induction a with
  | nil => simp [meets]
  | cons x l ih => simp [meets, ih, mem_false]

theorem allLt_iff {n : Nat} {l : List Nat} : allLt n l = true ↔ ∀ r ∈ l, r < n := by
  induction l with
  | nil => simp [allLt]
  | cons x l ih => simp [allLt, ih, Nat.blt_eq]

/-! Heaps -/
def regOr (H : Heap) (σ : Nat → Nat) (r : Nat) : Reg := match H[r]? with | some g => renReg σ g | none => .dead

theorem restrict_get (H : Heap) (keep : List Nat) (σ : Nat → Nat) (i : Nat) : (restrict H keep σ)[i]? = (keep[i]?).map (regOr H σ) := by
  unfold restrict
  rw [List.getElem?_map]
  rfl

theorem length_restrict (H : Heap) (keep : List Nat) (σ : Nat → Nat) : (restrict H keep σ).length = keep.length := by simp [restrict]

def roIn (S : List Nat) (r : Nat) : Reg → Reg
  | .arr v ro sz rf l => .arr v (ro || mem r S) sz rf l
  | g => g

theorem markRo_get : ∀ (S : List Nat) (H : Heap) (r : Nat), (markRo H S)[r]? = (H[r]?).map (roIn S r)
  | [], H, r => by
    simp only [markRo]
    cases H[r]? with
    | none => rfl
    | some g => cases g <;> simp [roIn, mem]
  | x :: S, H, r => by
    rw [markRo]
    split
    · next v ro sz rf e he =>
      rw [markRo_get S, get_set]
      have hx : x < H.length := (List.getElem?_eq_some_iff.1 he).1
      by_cases hxr : x = r
      · subst hxr
        rw [he]
        simp [hx, roIn, mem_cons_self]
      · simp only [if_neg hxr]
        cases H[r]? with
        | none => rfl
        | some g =>
          have := mem_cons_ne (l := S) (Ne.symm hxr)
          cases g <;> simp [roIn, this]
    · next hno =>
      rw [markRo_get S]
      cases hg : H[r]? with
      | none => rfl
      | some g =>
        cases g with
        | arr v ro sz rf l =>
          by_cases hxr : x = r
          · subst hxr; exact absurd hg (hno _ _ _ _ _)
          · have := mem_cons_ne (l := S) (Ne.symm hxr)
            simp [roIn, this]
        | map => simp [roIn]
        | dead => simp [roIn]

theorem markRo_length (S : List Nat) : ∀ H : Heap, (markRo H S).length = H.length := by
  induction S with
  | nil => intro H; rfl
  | cons x S ih =>
    intro H
    rw [markRo]
    split
    · rw [ih, List.length_set]
    · exact ih H

theorem writeBack_length (back : Nat → Nat) : ∀ (rs : List Nat) (gs H : Heap), (writeBack H back rs gs).length = H.length
  | [], gs, H => by simp [writeBack]
  | r :: rs, [], H => by simp [writeBack]
  | r :: rs, g :: gs, H => by rw [writeBack, writeBack_length back rs gs, List.length_set]

theorem writeBack_get (back : Nat → Nat) : ∀ (rs : List Nat) (gs H : Heap) (r : Nat), rs.Nodup → (∀ q ∈ rs, q < H.length) → rs.length ≤ gs.length →
    (writeBack H back rs gs)[r]? = if r ∈ rs then (gs[idxOf r rs]?).map (renReg back) else H[r]?
  | [], gs, H, r, _, _, _ => by simp [writeBack]
  | x :: rs, [], H, r, _, _, h => by simp at h
  | x :: rs, g :: gs, H, r, hn, hl, h => by
    obtain ⟨hx, hn⟩ := List.nodup_cons.1 hn
    rw [writeBack, writeBack_get back rs gs _ r hn (fun q hq => by rw [List.length_set]; exact hl q (List.mem_cons_of_mem _ hq)) (by simpa using h)]
    by_cases e : x = r
    · subst e
      rw [if_neg hx, if_pos (by simp), get_set]
      simp [hl x (by simp), idxOf, Nat.beq_refl]
    · by_cases hr : r ∈ rs
      · rw [if_pos hr, if_pos (List.mem_cons_of_mem _ hr), idxOf, beq_ne (Ne.symm e)]
        simp
      · rw [if_neg hr, if_neg (by simp [hr, Ne.symm e]), get_set, if_neg e]

/-! Into a call -/
def Ctx.enter (c : Ctx) (roots : List Nat) (im : Nat → Prop) : Ctx :=
  { ρ := fun i v => c.ρ (getD0 roots i) v, V := fun i v => i < roots.length ∧ c.V (getD0 roots i) v, imm := im, w := c.w }

def immIn (c : Ctx) (h : Heap) (S roots : List Nat) (wr : Bool) : Nat → Prop := fun b => c.imm b ∨ Frz c h S b ∨ (wr = false ∧ Frz c h roots b)

def baseIn (c : Ctx) (h : Heap) (S roots : List Nat) (wr : Bool) : Base :=
  ⟨c.w, fun b => wr = true ∧ ∃ r ∈ roots, ∃ g, h[r]? = some g ∧ blkM c r g = some b, immIn c h S roots wr⟩

theorem Frz.lt {c : Ctx} {h : Heap} (hh : HR c h) {S : List Nat} {b : Nat} (hb : Frz c h S b) : b < c.w.heap.size := by
  obtain ⟨r, _, ver, ro, sz, rf, l, hg, rfl⟩ := hb
  exact (hh.arr _ _ _ _ _ _ hg).blk_lt

/-- A region that may be written lies in a frozen one's block only if it is one of them. -/
theorem Frz.mem_of {c : Ctx} {h : Heap} (hh : HR c h) {S : List Nat} {r ver sz : Nat} {rf : List Nat} {l : List (List AV)} (hg : h[r]? = some (.arr ver false sz rf l))
    (hb : Frz c h S (c.ρ r ver).blk) : r ∈ S := by
  obtain ⟨q, hq, ver', ro, sz', rf', l', hgq, e⟩ := hb
  cases ro with
  | true => exact absurd (e ▸ (hh.arr _ _ _ _ _ _ hgq).im rfl) ((hh.arr _ _ _ _ _ _ hg).mu rfl)
  | false =>
    have := hh.sep r q _ _ (c.ρ r ver).blk hg hgq rfl (by simp only [blkM]; rw [e])
    exact this ▸ hq

theorem BR.blk {B : Base} {c : Ctx} {h : Heap} (hh : HR c h) (hB : BR B c h) {r ver sz : Nat} {ro : Bool} {rf : List Nat} {l : List (List AV)} (hg : h[r]? = some (.arr ver ro sz rf l)) :
    B.imm (c.ρ r ver).blk ∨ B.own (c.ρ r ver).blk ∨ B.w.heap.size ≤ (c.ρ r ver).blk := by
  cases ro with
  | true => exact hB.i1 _ ((hh.arr _ _ _ _ _ _ hg).im rfl)
  | false => exact .inr (hB.mu r _ _ hg rfl)

def roFor (wr : Bool) : Reg → Reg := match wr with | true => id | false => roReg

theorem memFor_get {wr : Bool} {roots : List Nat} {h : Heap} {i : Nat} : (memFor wr roots h)[i]? = (roots[i]?).map fun r => roFor wr (regOr h (fun r => idxOf r roots) r) := by
  cases wr with
  | true =>
    simp only [memFor, restrict_get, roFor, id]
  | false =>
    simp only [memFor, List.getElem?_map, restrict_get, roFor, Option.map_map]
    rfl

theorem enter_sound {B : Base} {c : Ctx} {h : Heap} (hh : HR c h) (hB : BR B c h) {S roots : List Nat} (hc : ∀ r ∈ roots, ∀ g, h[r]? = some g → ∀ q ∈ regRefs g, q ∈ roots) (hn : roots.Nodup)
    (hd : meets S roots = false) (wr : Bool) :
    HR (c.enter roots (immIn c h S roots wr)) (memFor wr roots h) ∧ BR (baseIn c h S roots wr) (c.enter roots (immIn c h S roots wr)) (memFor wr roots h) ∧
      Takes (fun r => idxOf r roots) c (c.enter roots (immIn c h S roots wr)) roots ∧ ImmLe c (c.enter roots (immIn c h S roots wr)) := by
  have hT : Takes (fun r => idxOf r roots) c (c.enter roots (immIn c h S roots wr)) roots := by
    intro r hr v hv
    have e := getD0_idx hr
    exact ⟨⟨idxOf_lt hr, by rw [e]; exact hv⟩, by simp only [Ctx.enter]; rw [e]⟩
  have hI : ImmLe c (c.enter roots (immIn c h S roots wr)) := fun b hb => ⟨.inl hb, rfl⟩
  -- what stands at i
  have hat : ∀ {i : Nat} {ver : Nat} {ro : Bool} {sz : Nat} {rf : List Nat} {l : List (List AV)}, (memFor wr roots h)[i]? = some (.arr ver ro sz rf l) →
      ∃ r ro0 rf0 l0, roots[i]? = some r ∧ h[r]? = some (.arr ver ro0 sz rf0 l0) ∧ rf = rf0.map (fun r => idxOf r roots) ∧ l = l0.map (renL fun r => idxOf r roots) ∧ (ro = (ro0 || !wr)) := by
    intro i ver ro sz rf l hi
    rw [memFor_get] at hi
    cases hr : roots[i]? with
    | none => rw [hr] at hi; cases hi
    | some r =>
      rw [hr] at hi
      simp only [Option.map_some, Option.some.injEq] at hi
      unfold regOr at hi
      cases hg : h[r]? with
      | none => rw [hg] at hi; cases wr <;> simp [roFor, roReg] at hi
      | some g =>
        rw [hg] at hi
        cases g with
        | arr ver0 ro0 sz0 rf0 l0 =>
          simp only [renReg_arr (hh.arr _ _ _ _ _ _ hg).hrf] at hi
          cases wr with
          | true =>
            simp only [roFor, id, Reg.arr.injEq] at hi
            obtain ⟨rfl, rfl, rfl, rfl, rfl⟩ := hi
            exact ⟨r, ro0, rf0, l0, rfl, hg, rfl, rfl, by simp⟩
          | false =>
            simp only [roFor, roReg, Reg.arr.injEq] at hi
            obtain ⟨rfl, rfl, rfl, rfl, rfl⟩ := hi
            exact ⟨r, ro0, rf0, l0, rfl, hg, rfl, rfl, by simp⟩
        | map rf0 l0 => exact absurd hg (hh.nomap _ _ _)
        | dead => cases wr <;> simp [renReg, roFor, roReg] at hi
  refine ⟨⟨?_, ?_, ?_, ?_, ?_⟩, ⟨?_, rfl, rfl, rfl, ?_, ?_, ?_, ?_, fun _ h => h⟩, hT, hI⟩
  · intro i ver ro sz rf l hi
    obtain ⟨r, ro0, rf0, l0, hr, hg, rfl, rfl, hro⟩ := hat hi
    have ok := hh.arr _ _ _ _ _ _ hg
    have hrm := List.mem_of_getElem? hr
    have hir := idxOf_eq hn hr
    have e0 : (c.enter roots (immIn c h S roots wr)).ρ i ver = c.ρ r ver := by simp only [Ctx.enter]; rw [getD0_some hr]
    refine RegOk.ren ok hI rfl e0 ?_ (hT.sub fun q hq => hc r hrm _ hg q hq) ?_ ?_
    · refine ⟨(List.getElem?_eq_some_iff.1 hr).1, ?_⟩
      rw [getD0_some hr]; exact ok.hv
    · intro e
      rw [e] at hro
      cases hro0 : ro0 with
      | true => exact .inl (ok.im hro0)
      | false =>
        rw [hro0] at hro
        refine .inr (.inr ⟨by simpa using hro.symm, r, hrm, _, _, _, _, _, hg, rfl⟩)
    · intro e
      rw [e] at hro
      obtain ⟨hro0, hwr⟩ := or_not_false hro
      subst hro0
      rintro (hi' | hi' | hi')
      · exact ok.mu rfl hi'
      · exact (meets_false.1 hd) r (hi'.mem_of hh hg) hrm
      · rw [hwr] at hi'; cases hi'.1
  · intro i rf l hi
    rw [memFor_get] at hi
    cases hr : roots[i]? with
    | none => rw [hr] at hi; cases hi
    | some r =>
      rw [hr] at hi
      simp only [Option.map_some, Option.some.injEq] at hi
      unfold regOr at hi
      cases hg : h[r]? with
      | none => rw [hg] at hi; cases wr <;> simp [roFor, roReg] at hi
      | some g =>
        rw [hg] at hi
        cases g with
        | arr ver0 ro0 sz0 rf0 l0 =>
          simp only [renReg_arr (hh.arr _ _ _ _ _ _ hg).hrf] at hi
          cases wr <;> simp [roFor, roReg] at hi
        | map rf0 l0 => exact hh.nomap _ _ _ hg
        | dead => cases wr <;> simp [renReg, roFor, roReg] at hi
  · intro i i' g g' b hi hi' hb hb'
    obtain ⟨ver, sz, rf, l, rfl, rfl⟩ := blkM_some hb
    obtain ⟨ver', sz', rf', l', rfl, e'⟩ := blkM_some hb'
    obtain ⟨r, ro0, rf0, l0, hr, hg, _, _, hro⟩ := hat hi
    obtain ⟨r', ro0', rf0', l0', hr', hg', _, _, hro'⟩ := hat hi'
    obtain ⟨h0, _⟩ := or_not_false hro
    obtain ⟨h0', _⟩ := or_not_false hro'
    subst h0 h0'
    simp only [Ctx.enter, getD0_some hr, getD0_some hr'] at e'
    have := hh.sep r r' _ _ _ hg hg' rfl (by simp only [blkM]; rw [e'])
    subst this
    exact get_inj hn hr hr'
  · rintro i v ⟨hi, hv⟩
    obtain ⟨g, hg, hvb⟩ := hh.vb _ _ hv
    have hr := get_of_lt hi
    refine ⟨_, by rw [memFor_get, hr]; rfl, ?_⟩
    simp only [regOr, hg]
    cases g with
    | arr ver ro sz rf l =>
      simp only [renReg_arr (hh.arr _ _ _ _ _ _ hg).hrf]
      cases wr <;> exact hvb
    | map => exact hvb.elim
    | dead => exact hvb.elim
  · rintro b (hb | hb | hb)
    · exact hh.im b hb
    · exact hb.lt hh
    · exact hb.2.lt hh
  · exact Nat.le_refl _
  · intro b _ _; rfl
  · intro i g b hi hb
    obtain ⟨ver, sz, rf, l, rfl, rfl⟩ := blkM_some hb
    obtain ⟨r, ro0, rf0, l0, hr, hg, _, _, hro⟩ := hat hi
    obtain ⟨h0, hwr⟩ := or_not_false hro
    subst h0
    refine .inl ⟨hwr, r, List.mem_of_getElem? hr, _, hg, ?_⟩
    simp only [blkM, Ctx.enter, getD0_some hr]
  · intro b hb; exact hb
  · intro b hb; exact .inl hb
end Go.AM
