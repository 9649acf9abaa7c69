/- A part of the proof that the machine of AM is sound: each lemma is under its own hypotheses alone. -/
import Derived.Test.YtnehdpiiijbhhaaAMRel
set_option autoImplicit false
set_option linter.unusedVariables false
set_option linter.unusedSimpArgs false
namespace Go.AM
open Go Go.RowKit

/-! Lists, cell by cell -/
theorem RelL.length {c : Ctx} : ∀ {l : List AV} {ys : List Value}, RelL c l ys → ys.length = l.length
  | [], ys, h => by simp [RelL] at h; simp [h]
  | x :: l, ys, h => by
    obtain ⟨y, ys', rfl, _, hl⟩ := h
    simp [RelL.length hl]

theorem RelL.get {c : Ctx} : ∀ {l : List AV} {ys : List Value}, RelL c l ys → ∀ {i : Nat} {x : AV}, l[i]? = some x → ∃ y, ys[i]? = some y ∧ Rel c x y
  | [], ys, h, i, x, hx => by simp at hx
  | x :: l, ys, h, i, x', hx => by
    obtain ⟨y, ys', rfl, h1, hl⟩ := h
    cases i with
    | zero => simp at hx; subst hx; exact ⟨y, rfl, h1⟩
    | succ i => simp at hx; simpa using RelL.get hl hx

theorem RelL.of_get {c : Ctx} : ∀ {l : List AV} {ys : List Value}, ys.length = l.length → (∀ (i : Nat) (x : AV) (y : Value), l[i]? = some x → ys[i]? = some y → Rel c x y) → RelL c l ys
  | [], [], _, _ => rfl
  | [], _ :: _, h, _ => by simp at h
  | _ :: _, [], h, _ => by simp at h
  | x :: l, y :: ys, h, hg => ⟨y, ys, rfl, hg 0 x y rfl rfl, RelL.of_get (by simpa using h) fun i x' y' hx hy => hg (i + 1) x' y' (by simpa using hx) (by simpa using hy)⟩

theorem RelL.nil {c : Ctx} : RelL c [] [] := rfl
theorem RelL.cons {c : Ctx} {x : AV} {l : List AV} {y : Value} {ys : List Value} (h : Rel c x y) (hl : RelL c l ys) : RelL c (x :: l) (y :: ys) := ⟨y, ys, rfl, h, hl⟩

theorem RelL.append {c : Ctx} : ∀ {l m : List AV} {ys zs : List Value}, RelL c l ys → RelL c m zs → RelL c (l ++ m) (ys ++ zs)
  | [], m, ys, zs, h, k => by simp [RelL] at h; subst h; simpa using k
  | x :: l, m, ys, zs, h, k => by
    obtain ⟨y, ys', rfl, h1, hl⟩ := h
    exact ⟨y, ys' ++ zs, rfl, h1, RelL.append hl k⟩

theorem RelL.take {c : Ctx} {l : List AV} {ys : List Value} (h : RelL c l ys) (n : Nat) : RelL c (l.take n) (ys.take n) :=
  RelL.of_get (by simp [h.length]) fun i x y hx hy => by
    rw [List.getElem?_take] at hx hy
    split at hx
    · rw [if_pos (by assumption)] at hy
      obtain ⟨y', hy', hr⟩ := h.get hx
      rw [hy'] at hy; cases hy; exact hr
    · cases hx

theorem RelL.drop {c : Ctx} {l : List AV} {ys : List Value} (h : RelL c l ys) (n : Nat) : RelL c (l.drop n) (ys.drop n) :=
  RelL.of_get (by simp [h.length]) fun i x y hx hy => by
    rw [List.getElem?_drop] at hx hy
    obtain ⟨y', hy', hr⟩ := h.get hx
    rw [hy'] at hy; cases hy; exact hr

theorem RelL.slice {c : Ctx} {l : List AV} {ys : List Value} (h : RelL c l ys) (off n : Nat) : RelL c (slice l off n) (AM.slice ys off n) := (h.drop off).take n

theorem all_get {l : List AV} {p : AV → Bool} (h : l.all p = true) {i : Nat} {x : AV} (hx : l[i]? = some x) : p x = true :=
  List.all_eq_true.1 h x (List.mem_of_getElem? hx)

theorem all_slice {l : List AV} {p : AV → Bool} (h : l.all p = true) (off n : Nat) : (slice l off n).all p = true := by
  rw [List.all_eq_true] at h ⊢
  intro x hx
  exact h x (List.mem_of_mem_drop (List.mem_of_mem_take hx))

theorem RelM_iff {c : Ctx} {b : Nat} : ∀ {l : List AV} {o : Nat}, RelM c b o l ↔ ∀ i x, l[i]? = some x → ∃ y, c.w.cell? ⟨b, o + i, none⟩ = some y ∧ Rel c x y ∧ one x = true
  | [], o => by simp [RelM]
  | x :: l, o => by
    simp only [RelM]
    constructor
    · rintro ⟨h, hl⟩ i x' hx
      cases i with
      | zero => simp at hx; subst hx; simpa using h
      | succ i =>
        simp at hx
        obtain ⟨y, hy, hr⟩ := (RelM_iff.1 hl) i x' hx
        exact ⟨y, by rw [show o + (i + 1) = o + 1 + i by omega]; exact hy, hr⟩
    · intro h
      refine ⟨by simpa using h 0 x rfl, RelM_iff.2 fun i x' hx => ?_⟩
      have := h (i + 1) x' (by simpa using hx)
      rwa [show o + (i + 1) = o + 1 + i by omega] at this

theorem RelE_iff {c : Ctx} {b sz : Nat} : ∀ {l : List (List AV)} {o : Nat}, RelE c b sz o l ↔ ∀ k e, l[k]? = some e → e.length = sz ∧ RelM c b (o + k * sz) e
  | [], o => by simp [RelE]
  | e :: l, o => by
    simp only [RelE]
    constructor
    · rintro ⟨h1, h2, hl⟩ k e' he
      cases k with
      | zero => simp at he; subst he; simpa using ⟨h1, h2⟩
      | succ k =>
        simp at he
        have := (RelE_iff.1 hl) k e' he
        rwa [show o + sz + k * sz = o + (k + 1) * sz by rw [Nat.add_mul]; omega] at this
    · intro h
      have h0 := h 0 e rfl
      simp at h0
      refine ⟨h0.1, h0.2, RelE_iff.2 fun k e' he => ?_⟩
      have := h (k + 1) e' (by simpa using he)
      rwa [show o + (k + 1) * sz = o + sz + k * sz by rw [Nat.add_mul]; omega] at this

theorem slice_get {α : Type} (l : List α) (off n i : Nat) : (slice l off n)[i]? = if i < n then l[off + i]? else none := by
  unfold slice
  rw [List.getElem?_take, List.getElem?_drop]

theorem length_slice {α : Type} (l : List α) (off n : Nat) (h : off + n ≤ l.length) : (slice l off n).length = n := by
  unfold slice; simp; omega

theorem RelM.slice {c : Ctx} {b o : Nat} {l : List AV} (h : RelM c b o l) (off n : Nat) : RelM c b (o + off) (slice l off n) :=
  RelM_iff.2 fun i x hx => by
    rw [slice_get] at hx
    split at hx
    · have := RelM_iff.1 h _ _ hx
      rwa [← Nat.add_assoc] at this
    · cases hx

theorem RelM.drop {c : Ctx} {b o : Nat} {l : List AV} (h : RelM c b o l) (n : Nat) : RelM c b (o + n) (l.drop n) :=
  RelM_iff.2 fun i x hx => by
    rw [List.getElem?_drop] at hx
    have := RelM_iff.1 h _ _ hx
    rwa [← Nat.add_assoc] at this

theorem RelE.slice {c : Ctx} {b sz o : Nat} {l : List (List AV)} (h : RelE c b sz o l) (off n : Nat) : RelE c b sz (o + off * sz) (slice l off n) :=
  RelE_iff.2 fun k e he => by
    rw [slice_get] at he
    split at he
    · have := RelE_iff.1 h _ _ he
      rwa [Nat.add_mul, ← Nat.add_assoc] at this
    · cases he

theorem mem_refsL {l : List AV} {x : AV} (h : x ∈ l) {r : Nat} (hr : r ∈ refs x) : r ∈ refsL l := by
  induction l with
  | nil => cases h
  | cons y l ih =>
    simp only [refsL, List.mem_append]
    cases h with
    | head => exact .inl hr
    | tail _ h => exact .inr (ih h)

theorem mem_refsE {l : List (List AV)} {e : List AV} (h : e ∈ l) {r : Nat} (hr : r ∈ refsL e) : r ∈ refsE l := by
  induction l with
  | nil => cases h
  | cons y l ih =>
    simp only [refsE, List.mem_append]
    cases h with
    | head => exact .inl hr
    | tail _ h => exact .inr (ih h)

theorem of_mem_refsL {l : List AV} {r : Nat} (h : r ∈ refsL l) : ∃ x ∈ l, r ∈ refs x := by
  induction l with
  | nil => cases h
  | cons y l ih =>
    simp only [refsL, List.mem_append] at h
    rcases h with h | h
    · exact ⟨y, by simp, h⟩
    · obtain ⟨x, hx, hr⟩ := ih h; exact ⟨x, by simp [hx], hr⟩

theorem of_mem_refsE {l : List (List AV)} {r : Nat} (h : r ∈ refsE l) : ∃ e ∈ l, r ∈ refsL e := by
  induction l with
  | nil => cases h
  | cons y l ih =>
    simp only [refsE, List.mem_append] at h
    rcases h with h | h
    · exact ⟨y, by simp, h⟩
    · obtain ⟨x, hx, hr⟩ := ih h; exact ⟨x, by simp [hx], hr⟩

theorem refsE_slice {l : List (List AV)} {off n r : Nat} (h : r ∈ refsE (slice l off n)) : r ∈ refsE l := by
  obtain ⟨e, he, hr⟩ := of_mem_refsE h
  exact mem_refsE (List.mem_of_mem_drop (List.mem_of_mem_take he)) hr

theorem refsL_slice {l : List AV} {off n r : Nat} (h : r ∈ refsL (slice l off n)) : r ∈ refsL l := by
  obtain ⟨e, he, hr⟩ := of_mem_refsL h
  exact mem_refsL (List.mem_of_mem_drop (List.mem_of_mem_take he)) hr

theorem eq_nil_of_sub {l m : List Nat} (h : ∀ r ∈ l, r ∈ m) (hm : m = []) : l = [] := by
  cases l with
  | nil => rfl
  | cons x l => have := h x (by simp); rw [hm] at this; cases this

theorem refsE_slice_nil {l : List (List AV)} {off n : Nat} (h : refsE l = []) : refsE (slice l off n) = [] := eq_nil_of_sub (fun _ => refsE_slice) h
theorem refsL_slice_nil {l : List AV} {off n : Nat} (h : refsL l = []) : refsL (slice l off n) = [] := eq_nil_of_sub (fun _ => refsL_slice) h
theorem refsL_drop_nil {l : List AV} {n : Nat} (h : refsL l = []) : refsL (l.drop n) = [] := eq_nil_of_sub (fun r hr => by
  obtain ⟨e, he, hr⟩ := of_mem_refsL hr; exact mem_refsL (List.mem_of_mem_drop he) hr) h

/-- The values in a row of cells. -/
theorem RelM.load {c : Ctx} {b o : Nat} : ∀ {l : List AV} {o : Nat}, RelM c b o l → ∃ ys : List Value, ys.length = l.length ∧ RelL c l ys ∧ (∀ j v, ys[j]? = some v → c.w.cell? ⟨b, o + j, none⟩ = some v)
  | [], o, _ => ⟨[], rfl, rfl, by simp⟩
  | x :: l, o, h => by
    obtain ⟨⟨y, hy, hr, _⟩, hl⟩ := h
    obtain ⟨ys, h1, h2, h3⟩ := RelM.load (b := b) (o := o) hl
    refine ⟨y :: ys, by simp [h1], ⟨y, ys, rfl, hr, h2⟩, fun j v hv => ?_⟩
    cases j with
    | zero => simp at hv; subst hv; simpa using hy
    | succ j =>
      simp at hv
      have := h3 j v hv
      rwa [show o + 1 + j = o + (j + 1) by omega] at this

theorem addr_add (b o n : Nat) : (⟨b, o, none⟩ : Addr).add n = ⟨b, o + n, none⟩ := by
  unfold Addr.add
  split
  · next h => simp [h]
  · rfl

theorem run_load_row {P : Program} {c : Ctx} {b o : Nat} {l : List AV} {n : Nat} (h : RelM c b o l) (hn : l.length = n) :
    ∃ ys : List Value, ys.length = n ∧ RelL c l ys ∧ (loadCells ⟨b, o, none⟩ n).run P c.w = .ok ys.toArray c.w := by
  obtain ⟨ys, h1, h2, h3⟩ := RelM.load (b := b) (o := o) h
  refine ⟨ys, by omega, h2, ?_⟩
  have := run_loadCells_list (P := P) c.w ⟨b, o, none⟩ ys (fun j v hv => by rw [addr_add]; exact h3 j v hv)
  rwa [show ys.length = n by omega] at this

/-! Values that fit a cell -/
theorem one_value {c : Ctx} {x : AV} {y : Value} (h : Rel c x y) (ho : one x = true) : y.oneCell' = true := by
  cases x <;> simp [one] at ho <;> simp only [Rel] at h
  case v x => obtain ⟨hp, rfl⟩ := h; revert hp; cases y <;> simp [plain, Value.oneCell']
  case sl => obtain ⟨a, cap, rfl, _⟩ := h; rfl
  case ref => obtain ⟨_, _, a, cap, rfl, _⟩ := h; rfl
  case ptr => obtain ⟨_, rfl⟩ := h; rfl
  case imm => obtain ⟨_, _, rfl, _⟩ := h; rfl
  case fn => obtain ⟨_, rfl, _⟩ := h; rfl
  case iface => obtain ⟨_, rfl, _⟩ := h; rfl
  case map => obtain ⟨_, rfl⟩ := h; rfl

theorem cells_value {c : Ctx} {x : AV} {y : Value} {l : List AV} (h : Rel c x y) (hc : cells x = some l) :
    RelL c l y.cells.toList ∧ l.all one = true := by
  cases x <;> simp [cells] at hc <;> try subst hc
  case agg l => obtain ⟨ys, rfl, hl, ho⟩ := h; exact ⟨by simpa [Value.cells] using hl, ho⟩
  all_goals
    have h1 := one_value h (by rfl)
    have hy : y.cells = #[y] := by cases y <;> simp [Value.oneCell'] at h1 <;> rfl
    rw [hy]
    exact ⟨⟨y, [], rfl, h, rfl⟩, by simp [one]⟩
end Go.AM
namespace Go.AM
open Go Go.RowKit

/-- A region of elements lies in the world. -/
structure RegOk (c : Ctx) (r ver : Nat) (ro : Bool) (sz : Nat) (rf : List Nat) (l : List (List AV)) : Prop where
  hv : c.V r ver
  hsz : (c.ρ r ver).sz = sz
  blk : ∃ cs T, c.w.heap[(c.ρ r ver).blk]? = some (.cells cs T (0, 0)) ∧ (c.ρ r ver).off + (c.ρ r ver).cap * sz ≤ cs.size
  cap : l.length ≤ (c.ρ r ver).cap
  mem : RelE c (c.ρ r ver).blk sz (c.ρ r ver).off l
  hrf : ∀ q ∈ refsE l, q ∈ rf
  im : ro = true → c.imm (c.ρ r ver).blk
  mu : ro = false → ¬ c.imm (c.ρ r ver).blk

/-- Which versions of a region may be referred to. -/
def VB : Reg → Nat → Prop
  | .arr ver _ _ _ _, v => v ≤ ver
  | .map _ _, _ => False
  | .dead, _ => False

/-- The block of a region that may be written. -/
def blkM (c : Ctx) (r : Nat) : Reg → Option Nat
  | .arr ver false _ _ _ => some (c.ρ r ver).blk
  | _ => none

structure HR (c : Ctx) (H : Heap) : Prop where
  arr : ∀ r ver ro sz rf l, H[r]? = some (.arr ver ro sz rf l) → RegOk c r ver ro sz rf l
  nomap : ∀ (r : Nat) (rf : List Nat) (l : List (AV × AV)), ¬ H[r]? = some (Reg.map rf l)
  sep : ∀ r r' g g' b, H[r]? = some g → H[r']? = some g' → blkM c r g = some b → blkM c r' g' = some b → r = r'
  vb : ∀ (r v : Nat), c.V r v → ∃ g, H[r]? = some g ∧ VB g v
  im : ∀ b, c.imm b → b < c.w.heap.size

/-- What a call began with: the world, and which of its blocks it may write. -/
structure Base where
  w : World
  own : Nat → Prop
  imm : Nat → Prop

/-- What has become of the world since. -/
structure BR (B : Base) (c : Ctx) (H : Heap) : Prop where
  size : B.w.heap.size ≤ c.w.heap.size
  os : c.w.os = B.w.os
  tape : c.w.tape = B.w.tape
  output : c.w.output = B.w.output
  frame : ∀ b, b < B.w.heap.size → ¬ B.own b → c.w.heap[b]? = B.w.heap[b]?
  mu : ∀ r g b, H[r]? = some g → blkM c r g = some b → B.own b ∨ B.w.heap.size ≤ b
  i0 : ∀ b, B.imm b → c.imm b
  i1 : ∀ b, c.imm b → B.imm b ∨ B.own b ∨ B.w.heap.size ≤ b
  fz : ∀ a, c.w.frozen? a = true → B.w.frozen? a = true

theorem frozen_of {w w' : World} {k : Nat} {cs : Array Value} {T : TypeId} (ho : ∀ b, b ≠ k → w'.heap[b]? = w.heap[b]?) (hn : w'.heap[k]? = some (.cells cs T (0, 0))) (a : Addr) (h : w'.frozen? a = true) : w.frozen? a = true := by
  by_cases e : a.block = k
  · simp [World.frozen?, e, hn] at h
  · simpa [World.frozen?, ho _ e] using h

theorem RegOk.blk_lt {c : Ctx} {r ver : Nat} {ro : Bool} {sz : Nat} {rf : List Nat} {l : List (List AV)} (h : RegOk c r ver ro sz rf l) : (c.ρ r ver).blk < c.w.heap.size := by
  obtain ⟨cs, T, hb, _⟩ := h.blk
  exact (Array.getElem?_eq_some_iff.1 hb).1

theorem get_set {α : Type} (l : List α) (i j : Nat) (x : α) : (l.set i x)[j]? = if i = j then (if j < l.length then some x else none) else l[j]? := by
  rw [List.getElem?_set]
  by_cases h : i = j
  · subst h; rfl
  · rw [if_neg h, if_neg h]

theorem get_set_some {α : Type} {l : List α} {i j : Nat} {x y : α} (h : (l.set i x)[j]? = some y) : (i = j ∧ j < l.length ∧ y = x) ∨ (i ≠ j ∧ l[j]? = some y) := by
  rw [get_set] at h
  split at h
  · split at h
    · exact .inl ⟨by assumption, by assumption, by cases h; rfl⟩
    · cases h
  · exact .inr ⟨by assumption, h⟩

theorem mem_iff (r : Nat) (l : List Nat) : mem r l = true ↔ r ∈ l := by
  induction l with
  | nil => simp [mem]
  | cons x l ih =>
    simp only [mem, List.mem_cons]
    by_cases h : r = x
    · simp [h, Nat.beq_eq]
    · have : Nat.beq r x = false := by
        cases hb : Nat.beq r x
        · rfl
        · exact absurd (Nat.eq_of_beq_eq_true hb) h
      simp [this, ih, h]

theorem mem_addNew {r : Nat} : ∀ {l acc : List Nat}, r ∈ addNew acc l ↔ r ∈ acc ∨ r ∈ l
  | [], acc => by simp [addNew]
  | x :: l, acc => by
    simp only [addNew]
    split
    · next h =>
      rw [mem_addNew]
      have := (mem_iff _ _).1 h
      constructor
      · rintro (h1 | h1)
        · exact .inl h1
        · exact .inr (by simp [h1])
      · rintro (h1 | h1)
        · exact .inl h1
        · rcases List.mem_cons.1 h1 with rfl | h1
          · exact .inl this
          · exact .inr h1
    · rw [mem_addNew]
      simp [or_assoc]

/-- A segment of cells written. -/
theorem seg_get (cs : Array Value) (o : Nat) (ys : List Value) (h : o + ys.length ≤ cs.size) (p : Nat) :
    (cs.toList.take o ++ ys ++ cs.toList.drop (o + ys.length)).toArray[p]? = if o ≤ p ∧ p < o + ys.length then ys[p - o]? else cs[p]? := by
  rw [List.getElem?_toArray, List.append_assoc, List.getElem?_append]
  simp only [List.length_take, Array.length_toList]
  have hm : min o cs.size = o := by omega
  rw [hm]
  by_cases h1 : p < o
  · rw [if_pos h1, if_neg (by omega), List.getElem?_take, if_pos h1, Array.getElem?_toList]
  · rw [if_neg h1, List.getElem?_append]
    by_cases h2 : p - o < ys.length
    · rw [if_pos h2, if_pos (by omega)]
    · rw [if_neg h2, if_neg (by omega), List.getElem?_drop, Array.getElem?_toList]
      congr 1; omega

theorem cell_of_block {w : World} {b : Nat} {cs : Array Value} {T : TypeId} {fr : Nat × Nat} (h : w.heap[b]? = some (.cells cs T fr)) (o : Nat) :
    w.cell? ⟨b, o, none⟩ = cs[o]? := by simp [World.cell?, h]

theorem seg_size (cs : Array Value) (o : Nat) (ys : List Value) (h : o + ys.length ≤ cs.size) :
    (cs.toList.take o ++ ys ++ cs.toList.drop (o + ys.length)).toArray.size = cs.size := by
  simp; omega
end Go.AM
namespace Go.AM
open Go Go.RowKit

theorem RegOk.mono {c c' : Ctx} {r ver : Nat} {ro : Bool} {sz : Nat} {rf : List Nat} {l : List (List AV)} (h : RegOk c r ver ro sz rf l) (hle : Le c c')
    (hb : c'.w.heap[(c.ρ r ver).blk]? = c.w.heap[(c.ρ r ver).blk]?) (hn : ¬ c.imm (c.ρ r ver).blk → ¬ c'.imm (c.ρ r ver).blk) : RegOk c' r ver ro sz rf l := by
  obtain ⟨hv', hρ⟩ := hle.v r ver h.hv
  obtain ⟨cs, T, h1, h2⟩ := h.blk
  exact ⟨hv', by rw [hρ]; exact h.hsz, by rw [hρ]; exact ⟨cs, T, by rw [hb]; exact h1, h2⟩, by rw [hρ]; exact h.cap,
    by rw [hρ]; exact h.mem.mono hle hb, h.hrf, fun e => by rw [hρ]; exact (hle.i _ (h.im e)).1, fun e => by rw [hρ]; exact hn (h.mu e)⟩

/-- A region, laid anew or at a new version. -/
def Ctx.put (c : Ctx) (r ver : Nat) (ri : RI) (w' : World) : Ctx :=
  { ρ := fun r' v' => if r' = r ∧ v' = ver then ri else c.ρ r' v', V := fun r' v' => c.V r' v' ∨ (r' = r ∧ v' = ver), imm := c.imm, w := w' }

theorem Ctx.put_self (c : Ctx) (r ver : Nat) (ri : RI) (w' : World) : (c.put r ver ri w').ρ r ver = ri := by simp [Ctx.put]

theorem Le.put {c : Ctx} {r ver : Nat} {ri : RI} {w' : World} (hf : ¬ c.V r ver) (hi : ∀ b, c.imm b → w'.heap[b]? = c.w.heap[b]?) : Le c (c.put r ver ri w') :=
  ⟨fun r' v' hv => ⟨.inl hv, by
    simp only [Ctx.put]
    rw [if_neg]
    rintro ⟨rfl, rfl⟩
    exact hf hv⟩, fun b hb => ⟨hb, hi b hb⟩⟩

theorem blkM_some {c : Ctx} {r : Nat} {g : Reg} {b : Nat} (h : blkM c r g = some b) : ∃ ver sz rf l, g = .arr ver false sz rf l ∧ b = (c.ρ r ver).blk := by
  cases g with
  | arr ver ro sz rf l =>
    cases ro
    · simp only [blkM] at h; cases h; exact ⟨ver, sz, rf, l, rfl, rfl⟩
    · simp [blkM] at h
  | map rf l => simp [blkM] at h
  | dead => simp [blkM] at h

theorem HR.not_imm {c : Ctx} {H : Heap} (h : HR c H) {r : Nat} {g : Reg} {b : Nat} (hg : H[r]? = some g) (hb : blkM c r g = some b) : ¬ c.imm b := by
  obtain ⟨ver, sz, rf, l, rfl, rfl⟩ := blkM_some hb
  exact (h.arr _ _ _ _ _ _ hg).mu rfl

theorem HR.blkM_lt {c : Ctx} {H : Heap} (h : HR c H) {r : Nat} {g : Reg} {b : Nat} (hg : H[r]? = some g) (hb : blkM c r g = some b) : b < c.w.heap.size := by
  obtain ⟨ver, sz, rf, l, rfl, rfl⟩ := blkM_some hb
  exact RegOk.blk_lt (h.arr _ _ _ _ _ _ hg)

theorem HR.put {c : Ctx} {H : Heap} (h : HR c H) {r ver sz : Nat} {rf : List Nat} {l : List (List AV)} {ri : RI} {w' : World} {g0 : Reg}
    (h0 : H[r]? = some g0) (hf : ¬ c.V r ver) (hvb : ∀ v, c.V r v → v ≤ ver)
    (hw : ∀ b, b < c.w.heap.size → b ≠ ri.blk → w'.heap[b]? = c.w.heap[b]?) (hsz : c.w.heap.size ≤ w'.heap.size)
    (hb : c.w.heap.size ≤ ri.blk ∨ blkM c r g0 = some ri.blk)
    (hs : ri.sz = sz) (hblk : ∃ cs T, w'.heap[ri.blk]? = some (.cells cs T (0, 0)) ∧ ri.off + ri.cap * sz ≤ cs.size) (hcap : l.length ≤ ri.cap)
    (hmem : RelE (c.put r ver ri w') ri.blk sz ri.off l) (hrf : ∀ q ∈ refsE l, q ∈ rf) :
    HR (c.put r ver ri w') (H.set r (.arr ver false sz rf l)) ∧ Le c (c.put r ver ri w') := by
  have hni : ¬ c.imm ri.blk := by
    rcases hb with hb | hb
    · intro hi; have := h.im _ hi; omega
    · exact h.not_imm h0 hb
  have hle : Le c (c.put r ver ri w') := Le.put hf fun b hb' => hw b (h.im b hb') (fun e => hni (e ▸ hb'))
  have hother : ∀ r' g' b, r' ≠ r → H[r']? = some g' → blkM c r' g' = some b → b ≠ ri.blk := by
    intro r' g' b hne hg hb' e
    rcases hb with hb | hb
    · have := h.blkM_lt hg hb'; omega
    · exact hne (h.sep _ _ _ _ _ hg h0 hb' (e ▸ hb))
  have hρ : ∀ r' v, r' ≠ r → (c.put r ver ri w').ρ r' v = c.ρ r' v := by
    intro r' v hne; simp only [Ctx.put]; rw [if_neg (fun e => hne e.1)]
  have hnew : RegOk (c.put r ver ri w') r ver false sz rf l :=
    ⟨.inr ⟨rfl, rfl⟩, by rw [c.put_self]; exact hs, by rw [c.put_self]; exact hblk, by rw [c.put_self]; exact hcap, by rw [c.put_self]; exact hmem, hrf, by simp,
      fun _ => by rw [c.put_self]; exact hni⟩
  have hbM : ∀ r' g, r' ≠ r → blkM (c.put r ver ri w') r' g = blkM c r' g := by
    intro r' g hne
    cases g with
    | arr v ro _ _ _ => cases ro <;> simp [blkM, hρ r' v hne]
    | map _ _ => rfl
    | dead => rfl
  refine ⟨⟨?_, ?_, ?_, ?_, ?_⟩, hle⟩
  · intro r' ver' ro' sz' rf' l' hg
    rcases get_set_some hg with ⟨rfl, _, e⟩ | ⟨hne, hg⟩
    · cases e; exact hnew
    · have hk := h.arr _ _ _ _ _ _ hg
      refine hk.mono hle ?_ (fun hn => hn)
      refine hw _ (RegOk.blk_lt hk) ?_
      cases ro'
      · exact hother r' _ _ (Ne.symm hne) hg rfl
      · intro e; exact hni (e ▸ hk.im rfl)
  · intro r' rf' l' hg
    rcases get_set_some hg with ⟨rfl, _, e⟩ | ⟨hne, hg⟩
    · cases e
    · exact h.nomap _ _ _ hg
  · intro r1 r2 g1 g2 b h1 h2 hb1 hb2
    rcases get_set_some h1 with ⟨rfl, _, rfl⟩ | ⟨hne1, h1⟩ <;> rcases get_set_some h2 with ⟨rfl, _, rfl⟩ | ⟨hne2, h2⟩
    · rfl
    · simp only [blkM, c.put_self] at hb1
      cases hb1
      rw [hbM _ _ (Ne.symm hne2)] at hb2
      exact absurd rfl (hother _ _ _ (Ne.symm hne2) h2 hb2)
    · simp only [blkM, c.put_self] at hb2
      cases hb2
      rw [hbM _ _ (Ne.symm hne1)] at hb1
      exact absurd rfl (hother _ _ _ (Ne.symm hne1) h1 hb1)
    · rw [hbM _ _ (Ne.symm hne1)] at hb1
      rw [hbM _ _ (Ne.symm hne2)] at hb2
      exact h.sep _ _ _ _ _ h1 h2 hb1 hb2
  · intro r' v hv
    have hlt : r < H.length := (List.getElem?_eq_some_iff.1 h0).1
    by_cases hr : r' = r
    · subst hr
      refine ⟨.arr ver false sz rf l, by rw [get_set, if_pos rfl, if_pos hlt], ?_⟩
      rcases hv with hv | ⟨_, rfl⟩
      · exact hvb v hv
      · exact Nat.le_refl _
    · rcases hv with hv | ⟨e, _⟩
      · obtain ⟨g, hg, hvb'⟩ := h.vb r' v hv
        exact ⟨g, by rw [get_set, if_neg (Ne.symm hr)]; exact hg, hvb'⟩
      · exact absurd e hr
  · intro b hb'
    exact Nat.lt_of_lt_of_le (h.im b hb') hsz

theorem BR.put {B : Base} {c : Ctx} {H : Heap} (hB : BR B c H) (h : HR c H) {r ver sz : Nat} {rf : List Nat} {l : List (List AV)} {ri : RI} {w' : World} {g0 : Reg}
    (h0 : H[r]? = some g0) (hw : ∀ b, b < c.w.heap.size → b ≠ ri.blk → w'.heap[b]? = c.w.heap[b]?) (hsz : c.w.heap.size ≤ w'.heap.size)
    (hb : c.w.heap.size ≤ ri.blk ∨ blkM c r g0 = some ri.blk) (hos : w'.os = c.w.os) (htape : w'.tape = c.w.tape) (hout : w'.output = c.w.output) (hfz : ∀ a, w'.frozen? a = true → c.w.frozen? a = true) :
    BR B (c.put r ver ri w') (H.set r (.arr ver false sz rf l)) := by
  refine ⟨Nat.le_trans hB.size hsz, hos.trans hB.os, htape.trans hB.tape, hout.trans hB.output, ?_, ?_, hB.i0, hB.i1, fun a h => hB.fz a (hfz a h)⟩
  · intro b hlt hno
    have hne : b ≠ ri.blk := by
      rcases hb with hb | hb
      · have := hB.size; omega
      · intro e
        rcases hB.mu _ _ _ h0 hb with h1 | h1
        · exact hno (e ▸ h1)
        · omega
    have := hw b (Nat.lt_of_lt_of_le hlt hB.size) hne
    exact this.trans (hB.frame b hlt hno)
  · intro r' g b hg hb'
    rcases get_set_some hg with ⟨rfl, _, rfl⟩ | ⟨hne, hg⟩
    · simp only [blkM, c.put_self] at hb'
      cases hb'
      rcases hb with hb | hb
      · exact .inr (Nat.le_trans hB.size hb)
      · exact hB.mu _ _ _ h0 hb
    · refine hB.mu _ _ _ hg ?_
      cases g with
      | arr v ro _ _ _ =>
        cases ro
        · simp only [blkM, Ctx.put] at hb' ⊢
          rw [if_neg (fun e => hne e.1.symm)] at hb'
          exact hb'
        · simp [blkM] at hb'
      | map _ _ => simp [blkM] at hb'
      | dead => simp [blkM] at hb'

/-- The same region, other contents. -/
theorem HR.store {c : Ctx} {H : Heap} (h : HR c H) {r ver sz : Nat} {rf rf' : List Nat} {l l' : List (List AV)} {w' : World}
    (h0 : H[r]? = some (.arr ver false sz rf l))
    (hw : ∀ b, b ≠ (c.ρ r ver).blk → w'.heap[b]? = c.w.heap[b]?) (hsz : c.w.heap.size = w'.heap.size)
    (hblk : ∃ cs T, w'.heap[(c.ρ r ver).blk]? = some (.cells cs T (0, 0)) ∧ (c.ρ r ver).off + (c.ρ r ver).cap * sz ≤ cs.size) (hcap : l'.length ≤ (c.ρ r ver).cap)
    (hmem : RelE { c with w := w' } (c.ρ r ver).blk sz (c.ρ r ver).off l') (hrf : ∀ q ∈ refsE l', q ∈ rf') :
    HR { c with w := w' } (H.set r (.arr ver false sz rf' l')) ∧ Le c { c with w := w' } := by
  have h0k := h.arr _ _ _ _ _ _ h0
  have hni := h0k.mu rfl
  have hle : Le c { c with w := w' } := ⟨fun _ _ hv => ⟨hv, rfl⟩, fun b hb => ⟨hb, hw b (fun e => hni (e ▸ hb))⟩⟩
  have hbM : ∀ r' g, blkM { c with w := w' } r' g = blkM c r' g := by
    intro r' g
    cases g with
    | arr v ro _ _ _ => cases ro <;> rfl
    | map _ _ => rfl
    | dead => rfl
  have hbset : ∀ r' g b, (H.set r (.arr ver false sz rf' l'))[r']? = some g → blkM c r' g = some b → ∃ g', H[r']? = some g' ∧ blkM c r' g' = some b := by
    intro r' g b hg hb
    rcases get_set_some hg with ⟨rfl, _, rfl⟩ | ⟨_, hg⟩
    · exact ⟨_, h0, hb⟩
    · exact ⟨_, hg, hb⟩
  refine ⟨⟨?_, ?_, ?_, ?_, ?_⟩, hle⟩
  · intro r' ver' ro' sz' rf'' l'' hg
    rcases get_set_some hg with ⟨rfl, _, e⟩ | ⟨hne, hg⟩
    · cases e
      exact ⟨h0k.hv, h0k.hsz, hblk, hcap, hmem, hrf, by simp, fun _ => hni⟩
    · have hk := h.arr _ _ _ _ _ _ hg
      refine hk.mono hle (hw _ ?_) (fun hn => hn)
      cases ro'
      · intro e
        exact hne (h.sep r r' _ _ _ h0 hg rfl (by rw [← e]; rfl))
      · intro e; exact hni (e ▸ hk.im rfl)
  · intro r' rf'' l'' hg
    rcases get_set_some hg with ⟨rfl, _, e⟩ | ⟨hne, hg⟩
    · cases e
    · exact h.nomap _ _ _ hg
  · intro r1 r2 g1 g2 b h1 h2 hb1 hb2
    rw [hbM] at hb1 hb2
    obtain ⟨g1', h1', hb1'⟩ := hbset _ _ _ h1 hb1
    obtain ⟨g2', h2', hb2'⟩ := hbset _ _ _ h2 hb2
    exact h.sep _ _ _ _ _ h1' h2' hb1' hb2'
  · intro r' v hv
    obtain ⟨g, hg, hvb⟩ := h.vb r' v hv
    by_cases hr : r = r'
    · subst hr
      rw [h0] at hg; cases hg
      exact ⟨.arr ver false sz rf' l', by rw [get_set, if_pos rfl, if_pos (List.getElem?_eq_some_iff.1 h0).1], hvb⟩
    · exact ⟨g, by rw [get_set, if_neg hr]; exact hg, hvb⟩
  · intro b hb
    have := h.im b hb
    show b < w'.heap.size
    omega

theorem BR.store {B : Base} {c : Ctx} {H : Heap} (hB : BR B c H) {r ver sz : Nat} {rf rf' : List Nat} {l l' : List (List AV)} {w' : World}
    (h0 : H[r]? = some (.arr ver false sz rf l)) (hw : ∀ b, b ≠ (c.ρ r ver).blk → w'.heap[b]? = c.w.heap[b]?) (hsz : c.w.heap.size = w'.heap.size)
    (hos : w'.os = c.w.os) (htape : w'.tape = c.w.tape) (hout : w'.output = c.w.output) (hfz : ∀ a, w'.frozen? a = true → c.w.frozen? a = true) :
    BR B { c with w := w' } (H.set r (.arr ver false sz rf' l')) := by
  refine ⟨by have := hB.size; show _ ≤ w'.heap.size; omega, hos.trans hB.os, htape.trans hB.tape, hout.trans hB.output, ?_, ?_, hB.i0, hB.i1, fun a h => hB.fz a (hfz a h)⟩
  · intro b hlt hno
    refine (hw b ?_).trans (hB.frame b hlt hno)
    intro e
    rcases hB.mu _ _ _ h0 rfl with h1 | h1
    · exact hno (e ▸ h1)
    · omega
  · intro r' g b hg hb
    rcases get_set_some hg with ⟨rfl, _, rfl⟩ | ⟨_, hg⟩
    · exact hB.mu _ _ _ h0 hb
    · refine hB.mu _ _ _ hg ?_
      cases g with
      | arr v ro _ _ _ => cases ro <;> exact hb
      | map _ _ => exact hb
      | dead => exact hb
end Go.AM
