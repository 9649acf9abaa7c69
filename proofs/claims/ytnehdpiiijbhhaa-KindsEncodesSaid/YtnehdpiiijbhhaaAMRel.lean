/- What a value of the machine and one of the model have to do with one another; renaming a region keeps it. -/
import Derived.Test.YtnehdpiiijbhhaaAM
import Derived.Below
import Derived.Defers
import Derived.Recover
import Derived.Scope
import Derived.Laws.Append
import Derived.ArgAppend
import Derived.Laws.MakeOwn
set_option autoImplicit false
set_option linter.unusedVariables false
set_option linter.unusedSimpArgs false
namespace Go.AM
open Go Go.RowKit

/-- Where a region lies: its block, the first cell there, the cells of an element, and how many elements have room. -/
structure RI where
  blk : Nat
  off : Nat
  sz : Nat
  cap : Nat

/-- Where all regions lie, at all their versions; which blocks are not written; the world. -/
structure Ctx where
  ρ : Nat → Nat → RI
  V : Nat → Nat → Prop
  imm : Nat → Prop
  w : World

mutual
/-- A value of the machine and one of the model. -/
def Rel (c : Ctx) : AV → Value → Prop
  | .undef => fun _ => True
  | .v x => fun y => plain x = true ∧ y = x
  | .agg l => fun y => ∃ ys : List Value, y = .agg ys.toArray ∧ RelL c l ys ∧ l.all one = true
  | .tup l => fun y => ∃ ys : List Value, y = .tuple ys.toArray ∧ RelL c l ys
  | .sl full l => fun y => ∃ (a : Option Addr) (cap : Nat), y = .slice a l.length cap ∧ l.length ≤ cap ∧ (full = true → cap = l.length) ∧ refsE l = [] ∧
      (l = [] ∨ ∃ b o sz, a = some ⟨b, o, none⟩ ∧ c.imm b ∧ RelE c b sz o l)
  | .ref r ver off len => fun y => c.V r ver ∧ off + len ≤ (c.ρ r ver).cap ∧ ∃ (a : Option Addr) (cap' : Nat), y = .slice a len cap' ∧ cap' + off = (c.ρ r ver).cap ∧
      (cap' = 0 ∨ a = some ⟨(c.ρ r ver).blk, (c.ρ r ver).off + off * (c.ρ r ver).sz, none⟩)
  | .ptr r ver i off => fun y => c.V r ver ∧ y = .pointer (some ⟨(c.ρ r ver).blk, (c.ρ r ver).off + i * (c.ρ r ver).sz + off, none⟩)
  | .imm l => fun y => ∃ b o, y = .pointer (some ⟨b, o, none⟩) ∧ c.imm b ∧ refsL l = [] ∧ RelM c b o l
  | .fn f l => fun y => ∃ ys : List Value, y = .func (.func f) #[] ys.toArray ∧ RelL c l ys
  | .iface t x => fun y => ∃ z, y = .iface t z ∧ Rel c x z
  | .map r => fun y => c.V r 0 ∧ y = .map (some (c.ρ r 0).blk)
def RelL (c : Ctx) : List AV → List Value → Prop
  | [] => fun ys => ys = []
  | x :: l => fun ys => ∃ y ys', ys = y :: ys' ∧ Rel c x y ∧ RelL c l ys'
/-- The cells of block b from o on. -/
def RelM (c : Ctx) (b : Nat) (o : Nat) : List AV → Prop
  | [] => True
  | x :: l => (∃ y, c.w.cell? ⟨b, o, none⟩ = some y ∧ Rel c x y ∧ one x = true) ∧ RelM c b (o + 1) l
def RelE (c : Ctx) (b : Nat) (sz : Nat) (o : Nat) : List (List AV) → Prop
  | [] => True
  | e :: l => e.length = sz ∧ RelM c b o e ∧ RelE c b sz (o + sz) l
end

/-! Renaming -/
mutual
theorem ren_closed (σ : Nat → Nat) : ∀ x : AV, refs x = [] → ren σ x = x
  | .undef, _ => rfl
  | .v _, _ => rfl
  | .agg l, h => by simp only [ren]; rw [renL_closed σ l (by simpa [refs] using h)]
  | .tup l, h => by simp only [ren]; rw [renL_closed σ l (by simpa [refs] using h)]
  | .sl _ _, _ => rfl
  | .ref _ _ _ _, h => by simp [refs] at h
  | .ptr _ _ _ _, h => by simp [refs] at h
  | .imm _, _ => rfl
  | .fn f l, h => by simp only [ren]; rw [renL_closed σ l (by simpa [refs] using h)]
  | .iface t x, h => by simp only [ren]; rw [ren_closed σ x (by simpa [refs] using h)]
  | .map _, h => by simp [refs] at h
theorem renL_closed (σ : Nat → Nat) : ∀ l : List AV, refsL l = [] → renL σ l = l
  | [], _ => rfl
  | x :: l, h => by
    simp only [refsL, List.append_eq_nil_iff] at h
    simp only [renL]
    rw [ren_closed σ x h.1, renL_closed σ l h.2]
end

theorem renE_closed (σ : Nat → Nat) : ∀ l : List (List AV), refsE l = [] → l.map (renL σ) = l
  | [], _ => rfl
  | x :: l, h => by
    simp only [refsE, List.append_eq_nil_iff] at h
    simp only [List.map_cons]
    rw [renL_closed σ x h.1, renE_closed σ l h.2]

mutual
theorem ren_id (σ : Nat → Nat) : ∀ x : AV, (∀ r ∈ refs x, σ r = r) → ren σ x = x
  | .undef, _ => rfl
  | .v _, _ => rfl
  | .agg l, h => by simp only [ren]; rw [renL_id σ l (by simpa [refs] using h)]
  | .tup l, h => by simp only [ren]; rw [renL_id σ l (by simpa [refs] using h)]
  | .sl _ _, _ => rfl
  | .ref _ _ _ _, h => by simp only [ren]; rw [h _ (by simp [refs])]
  | .ptr _ _ _ _, h => by simp only [ren]; rw [h _ (by simp [refs])]
  | .imm _, _ => rfl
  | .fn f l, h => by simp only [ren]; rw [renL_id σ l (by simpa [refs] using h)]
  | .iface t x, h => by simp only [ren]; rw [ren_id σ x (by simpa [refs] using h)]
  | .map _, h => by simp only [ren]; rw [h _ (by simp [refs])]
theorem renL_id (σ : Nat → Nat) : ∀ l : List AV, (∀ r ∈ refsL l, σ r = r) → renL σ l = l
  | [], _ => rfl
  | x :: l, h => by
    simp only [renL]
    rw [ren_id σ x (fun r hr => h r (by simp [refsL, hr])), renL_id σ l (fun r hr => h r (by simp [refsL, hr]))]
end

theorem one_ren (σ : Nat → Nat) (x : AV) : one (ren σ x) = one x := by cases x <;> simp [ren, one]

theorem all_one_renL (σ : Nat → Nat) (l : List AV) : (renL σ l).all one = l.all one := by
  induction l with
  | nil => rfl
  | cons x l ih => simp [renL, one_ren, ih]

theorem length_renL (σ : Nat → Nat) (l : List AV) : (renL σ l).length = l.length := by
  induction l with
  | nil => rfl
  | cons x l ih => simp [renL, ih]

/-- What is not written in c is not written in c', and is as it was. -/
def ImmLe (c c' : Ctx) : Prop := ∀ b, c.imm b → c'.imm b ∧ c'.w.heap[b]? = c.w.heap[b]?

theorem ImmLe.refl (c : Ctx) : ImmLe c c := fun _ h => ⟨h, rfl⟩
theorem ImmLe.trans {a b c : Ctx} (h : ImmLe a b) (k : ImmLe b c) : ImmLe a c :=
  fun i hi => ⟨(k i (h i hi).1).1, ((k i (h i hi).1).2).trans (h i hi).2⟩

theorem cell?_of_heap {w w' : World} {b o : Nat} (h : w'.heap[b]? = w.heap[b]?) : w'.cell? ⟨b, o, none⟩ = w.cell? ⟨b, o, none⟩ := by
  simp [World.cell?, h]

/-- 'σ' takes c's regions to those of c'. -/
def Takes (σ : Nat → Nat) (c c' : Ctx) (l : List Nat) : Prop := ∀ r ∈ l, ∀ v, c.V r v → c'.V (σ r) v ∧ c'.ρ (σ r) v = c.ρ r v

theorem Takes.sub {σ : Nat → Nat} {c c' : Ctx} {l m : List Nat} (h : Takes σ c c' l) (hs : ∀ r ∈ m, r ∈ l) : Takes σ c c' m :=
  fun r hr => h r (hs r hr)

mutual
theorem Rel_ren {c c' : Ctx} {σ : Nat → Nat} (hi : ImmLe c c') : ∀ (x : AV) (y : Value), Takes σ c c' (refs x) → Rel c x y → Rel c' (ren σ x) y
  | .undef, y, _, _ => by simp [ren, Rel]
  | .v x, y, _, h => by simpa [ren, Rel] using h
  | .agg l, y, ht, h => by
    obtain ⟨ys, rfl, hl, ho⟩ := h
    exact ⟨ys, rfl, RelL_ren hi l ys (by simpa [refs] using ht) hl, by rw [all_one_renL]; exact ho⟩
  | .tup l, y, ht, h => by
    obtain ⟨ys, rfl, hl⟩ := h
    exact ⟨ys, rfl, RelL_ren hi l ys (by simpa [refs] using ht) hl⟩
  | .sl full l, y, ht, h => by
    obtain ⟨a, cap, rfl, h1, h2, h3, h4⟩ := h
    refine ⟨a, cap, rfl, h1, h2, h3, ?_⟩
    rcases h4 with h4 | ⟨b, o, sz, rfl, hb, he⟩
    · exact .inl h4
    · refine .inr ⟨b, o, sz, rfl, (hi b hb).1, ?_⟩
      have := RelE_ren (σ := σ) hi (hi b hb).2 l o sz (by rw [h3]; intro r hr; cases hr) he
      rwa [renE_closed σ l h3] at this
  | .ref r ver off len, y, ht, h => by
    obtain ⟨hv, hcap, a, cap', rfl, h2, h3⟩ := h
    obtain ⟨hv', hr'⟩ := ht r (by simp [refs]) ver hv
    exact ⟨hv', by rw [hr']; exact hcap, a, cap', rfl, by rw [hr']; exact h2, by rw [hr']; exact h3⟩
  | .ptr r ver i off, y, ht, h => by
    obtain ⟨hv, rfl⟩ := h
    obtain ⟨hv', hr'⟩ := ht r (by simp [refs]) ver hv
    exact ⟨hv', by rw [hr']⟩
  | .imm l, y, _, h => by
    obtain ⟨b, o, rfl, hb, hc, hm⟩ := h
    refine ⟨b, o, rfl, (hi b hb).1, hc, ?_⟩
    have := RelM_ren (σ := σ) hi (hi b hb).2 l o (by rw [hc]; intro r hr; cases hr) hm
    rwa [renL_closed σ l hc] at this
  | .fn f l, y, ht, h => by
    obtain ⟨ys, rfl, hl⟩ := h
    exact ⟨ys, rfl, RelL_ren hi l ys (by simpa [refs] using ht) hl⟩
  | .iface t x, y, ht, h => by
    obtain ⟨z, rfl, hz⟩ := h
    exact ⟨z, rfl, Rel_ren hi x z (by simpa [refs] using ht) hz⟩
  | .map r, y, ht, h => by
    obtain ⟨hv, rfl⟩ := h
    obtain ⟨hv', hr'⟩ := ht r (by simp [refs]) 0 hv
    exact ⟨hv', by rw [hr']⟩
theorem RelL_ren {c c' : Ctx} {σ : Nat → Nat} (hi : ImmLe c c') : ∀ (l : List AV) (ys : List Value), Takes σ c c' (refsL l) → RelL c l ys → RelL c' (renL σ l) ys
  | [], ys, _, h => by simpa [renL, RelL] using h
  | x :: l, ys, ht, h => by
    obtain ⟨y, ys', rfl, hx, hl⟩ := h
    exact ⟨y, ys', rfl, Rel_ren hi x y (ht.sub (by intro r hr; simp [refsL, hr])) hx, RelL_ren hi l ys' (ht.sub (by intro r hr; simp [refsL, hr])) hl⟩
theorem RelM_ren {c c' : Ctx} {σ : Nat → Nat} (hi : ImmLe c c') {b : Nat} (hb : c'.w.heap[b]? = c.w.heap[b]?) : ∀ (l : List AV) (o : Nat), Takes σ c c' (refsL l) → RelM c b o l → RelM c' b o (renL σ l)
  | [], o, _, _ => by simp [renL, RelM]
  | x :: l, o, ht, h => by
    obtain ⟨⟨y, hy, hx, ho⟩, hl⟩ := h
    exact ⟨⟨y, by rw [cell?_of_heap hb]; exact hy, Rel_ren hi x y (ht.sub (by intro r hr; simp [refsL, hr])) hx, by rw [one_ren]; exact ho⟩, RelM_ren hi hb l (o + 1) (ht.sub (by intro r hr; simp [refsL, hr])) hl⟩
theorem RelE_ren {c c' : Ctx} {σ : Nat → Nat} (hi : ImmLe c c') {b : Nat} (hb : c'.w.heap[b]? = c.w.heap[b]?) : ∀ (l : List (List AV)) (o sz : Nat), Takes σ c c' (refsE l) → RelE c b sz o l → RelE c' b sz o (l.map (renL σ))
  | [], o, sz, _, _ => by simp [RelE]
  | e :: l, o, sz, ht, h => by
    obtain ⟨h1, h2, h3⟩ := h
    exact ⟨by rw [length_renL]; exact h1, RelM_ren hi hb e o (ht.sub (by intro r hr; simp [refsE, hr])) h2, RelE_ren hi hb l (o + sz) sz (ht.sub (by intro r hr; simp [refsE, hr])) h3⟩
end

/-- Nothing that was known is lost. -/
structure Le (c c' : Ctx) : Prop where
  v : ∀ r v, c.V r v → c'.V r v ∧ c'.ρ r v = c.ρ r v
  i : ImmLe c c'

theorem Le.refl (c : Ctx) : Le c c := ⟨fun _ _ h => ⟨h, rfl⟩, .refl c⟩
theorem Le.trans {a b c : Ctx} (h : Le a b) (k : Le b c) : Le a c :=
  ⟨fun r v hv => let ⟨h1, h2⟩ := h.v r v hv; let ⟨k1, k2⟩ := k.v r v h1; ⟨k1, k2.trans h2⟩, h.i.trans k.i⟩

theorem Le.takes {c c' : Ctx} (h : Le c c') (l : List Nat) : Takes id c c' l := fun r _ v hv => h.v r v hv

theorem Rel.mono {c c' : Ctx} (h : Le c c') {x : AV} {y : Value} (hx : Rel c x y) : Rel c' x y := by
  have := Rel_ren (σ := id) h.i x y (h.takes _) hx
  rwa [ren_id id x (fun _ _ => rfl)] at this
theorem RelL.mono {c c' : Ctx} (h : Le c c') {l : List AV} {ys : List Value} (hx : RelL c l ys) : RelL c' l ys := by
  have := RelL_ren (σ := id) h.i l ys (h.takes _) hx
  rwa [renL_id id l (fun _ _ => rfl)] at this
theorem RelM.mono {c c' : Ctx} (h : Le c c') {b o : Nat} (hb : c'.w.heap[b]? = c.w.heap[b]?) {l : List AV} (hx : RelM c b o l) : RelM c' b o l := by
  have := RelM_ren (σ := id) h.i hb l o (h.takes _) hx
  rwa [renL_id id l (fun _ _ => rfl)] at this
theorem RelE.mono {c c' : Ctx} (h : Le c c') {b sz o : Nat} (hb : c'.w.heap[b]? = c.w.heap[b]?) {l : List (List AV)} (hx : RelE c b sz o l) : RelE c' b sz o l := by
  have := RelE_ren (σ := id) h.i hb l o sz (h.takes _) hx
  have e : l.map (renL id) = l := by
    clear hx this
    induction l with
    | nil => rfl
    | cons x l ih => simp [renL_id id x (fun _ _ => rfl), ih]
  rwa [e] at this
/-- A value without a reference. -/
theorem Rel.closed {c c' : Ctx} (h : ImmLe c c') {x : AV} {y : Value} (hr : refs x = []) (hx : Rel c x y) : Rel c' x y := by
  have := Rel_ren (σ := id) h x y (by rw [hr]; intro r hr; cases hr) hx
  rwa [ren_id id x (fun _ _ => rfl)] at this
theorem RelL.closed {c c' : Ctx} (h : ImmLe c c') {x : List AV} {y : List Value} (hr : refsL x = []) (hx : RelL c x y) : RelL c' x y := by
  have := RelL_ren (σ := id) h x y (by rw [hr]; intro r hr; cases hr) hx
  rwa [renL_id id x (fun _ _ => rfl)] at this
end Go.AM
