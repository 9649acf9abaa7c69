/- What comes in, as the machine sees it: whatever value the model reads of a type without pointers and maps, the machine has one that it goes with; under the hypotheses that each names. -/
import Derived.Test.YtnehdpiiijbhhaaAMLaw
import Derived.SizedLaws
import Derived.OpenShut
import Derived.ChangeOld
set_option autoImplicit false
set_option linter.unusedVariables false
set_option linter.unusedSimpArgs false
namespace Go.AM
open Go Go.RowKit

/-- Fields that lie one behind the other, from o to e. -/
def tiles (P : Program) : List Field → Nat → Nat → Bool
  | [], o, e => decide (o = e)
  | f :: fs, o, e => decide (f.offset = o) && tiles P fs (o + P.cellsOf f.type) e

/-- A type without pointers, maps and the like. -/
def plT (P : Program) : Nat → TypeId → Bool
  | 0, _ => false
  | n + 1, t => match P.underlying t with
    | some .bool => true
    | some (.int _) => true
    | some (.float _) => true
    | some .string => true
    | some (.slice e) => decide (P.cellsOf e ≠ 0) && plT P n e
    | some (.struct fs) => tiles P fs.toList 0 (P.cellsOf t) && fs.toList.all (fun f => plT P n f.type)
    | some (.array m e) => decide (m * P.cellsOf e = P.cellsOf t) && plT P n e
    | _ => false

/-- Cells of a type. -/
def Tyd (P : Program) : Nat → TypeId → List AV → Prop
  | 0, _, _ => False
  | n + 1, t, cs => match P.underlying t with
    | some .bool => ∃ b, cs = [.v (.bool b)]
    | some (.int k) => ∃ m, cs = [.v (.int k m)] ∧ (Lit.int k m).wf = true
    | some (.float k) => ∃ b, cs = [.v (.float k b)] ∧ (Lit.float k b).wf = true
    | some .string => ∃ s, cs = [.v (.string s)] ∧ s.size ≤ maxLen
    | some (.slice e) => ∃ f l, cs = [.sl f l] ∧ l.length ≤ maxLen ∧ ∀ x ∈ l, Tyd P n e x
    | some (.struct fs) => cs.length = P.cellsOf t ∧ ∀ f ∈ fs.toList, Tyd P n f.type ((cs.drop f.offset).take (P.cellsOf f.type))
    | some (.array m e) => cs.length = P.cellsOf t ∧ ∀ i, i < m → Tyd P n e ((cs.drop (i * P.cellsOf e)).take (P.cellsOf e))
    | _ => False

theorem Tyd.bool {P : Program} {k : Nat} {t : TypeId} {cs : List AV} (hu : P.underlying t = some .bool) (h : Tyd P k t cs) : ∃ b, cs = [.v (.bool b)] := by
  cases k with
  | zero => exact h.elim
  | succ k => simp only [Tyd, hu] at h; exact h
theorem Tyd.int {P : Program} {k : Nat} {t : TypeId} {cs : List AV} {kk : IntKind} (hu : P.underlying t = some (.int kk)) (h : Tyd P k t cs) : ∃ m, cs = [.v (.int kk m)] ∧ (Lit.int kk m).wf = true := by
  cases k with
  | zero => exact h.elim
  | succ k => simp only [Tyd, hu] at h; exact h
theorem Tyd.string {P : Program} {k : Nat} {t : TypeId} {cs : List AV} (hu : P.underlying t = some .string) (h : Tyd P k t cs) : ∃ s, cs = [.v (.string s)] ∧ s.size ≤ maxLen := by
  cases k with
  | zero => exact h.elim
  | succ k => simp only [Tyd, hu] at h; exact h
theorem Tyd.slice {P : Program} {k : Nat} {t e : TypeId} {cs : List AV} (hu : P.underlying t = some (.slice e)) (h : Tyd P (k + 1) t cs) : ∃ f l, cs = [.sl f l] ∧ l.length ≤ maxLen ∧ ∀ x ∈ l, Tyd P k e x := by
  simp only [Tyd, hu] at h; exact h
theorem Tyd.struct {P : Program} {k : Nat} {t : TypeId} {cs : List AV} {fs : Array Field} (hu : P.underlying t = some (.struct fs)) (h : Tyd P (k + 1) t cs) :
    cs.length = P.cellsOf t ∧ ∀ f ∈ fs.toList, Tyd P k f.type ((cs.drop f.offset).take (P.cellsOf f.type)) := by
  simp only [Tyd, hu] at h; exact h
theorem Tyd.array {P : Program} {k m : Nat} {t e : TypeId} {cs : List AV} (hu : P.underlying t = some (.array m e)) (h : Tyd P (k + 1) t cs) :
    cs.length = P.cellsOf t ∧ ∀ i, i < m → Tyd P k e ((cs.drop (i * P.cellsOf e)).take (P.cellsOf e)) := by
  simp only [Tyd, hu] at h; exact h

theorem mapM_get {α β : Type} {f : α → Option β} : ∀ {l : List α} {xs : List β}, l.mapM f = some xs → xs.length = l.length ∧ ∀ (i : Nat) (a : α), l[i]? = some a → ∃ y, xs[i]? = some y ∧ f a = some y
  | [], xs, h => by
    simp at h; subst h; simp
  | a :: l, xs, h => by
    rw [List.mapM_cons] at h
    cases ha : f a with
    | none => rw [ha] at h; cases h
    | some y =>
      cases hl : l.mapM f with
      | none => rw [ha, hl] at h; cases h
      | some ys =>
        rw [ha, hl] at h
        cases h
        obtain ⟨h1, h2⟩ := mapM_get hl
        refine ⟨by simp [h1], fun i b hb => ?_⟩
        cases i with
        | zero => simp at hb; subst hb; exact ⟨y, by simp, ha⟩
        | succ i => simp at hb; obtain ⟨z, hz, hf⟩ := h2 i b hb; exact ⟨z, by simpa using hz, hf⟩

theorem RelL_len {c : Ctx} : ∀ {xs : List AV} {cs : List Value}, RelL c xs cs → xs.length = cs.length
  | [], cs, h => by simp only [RelL] at h; subst h; rfl
  | x :: xs, cs, h => by
    obtain ⟨y, ys, rfl, _, hl⟩ := h
    simp [RelL_len hl]
theorem RelL_app {c : Ctx} : ∀ {xs ys : List AV} {cs ds : List Value}, RelL c xs cs → RelL c ys ds → RelL c (xs ++ ys) (cs ++ ds)
  | [], ys, cs, ds, h, k => by simp only [RelL] at h; subst h; exact k
  | x :: xs, ys, cs, ds, h, k => by
    obtain ⟨y, zs, rfl, hx, hl⟩ := h
    exact ⟨y, zs ++ ds, rfl, hx, RelL_app hl k⟩
theorem refsL_app' : ∀ (xs ys : List AV), refsL (xs ++ ys) = refsL xs ++ refsL ys
  | [], ys => by simp [refsL]
  | x :: xs, ys => by simp [refsL, refsL_app' xs ys]

/-- What is known of cells that came in. -/
structure In (c : Ctx) (P : Program) (k : Nat) (t : TypeId) (xs : List AV) (cs : List Value) : Prop where
  rel : RelL c xs cs
  one : xs.all one = true
  refs : refsL xs = []
  ty : Tyd P k t xs

theorem fields_in {c : Ctx} {P : Program} {k : Nat} {cs : List Value} : ∀ (fs : List Field) (o e : Nat), tiles P fs o e = true → e ≤ cs.length →
    (∀ f ∈ fs, ∃ xs, In c P k f.type xs ((cs.drop f.offset).take (P.cellsOf f.type))) →
    o ≤ e ∧ ∃ xs, RelL c xs ((cs.drop o).take (e - o)) ∧ xs.all one = true ∧ refsL xs = [] ∧ ∀ f ∈ fs, o ≤ f.offset ∧ Tyd P k f.type ((xs.drop (f.offset - o)).take (P.cellsOf f.type))
  | [], o, e, ht, he, hf => by
    simp only [tiles, decide_eq_true_eq] at ht
    subst ht
    exact ⟨Nat.le_refl _, [], by simp [RelL], rfl, by simp [refsL], fun f h => by simp at h⟩
  | f :: fs, o, e, ht, he, hf => by
    simp only [tiles, Bool.and_eq_true, decide_eq_true_eq] at ht
    obtain ⟨h1, h2⟩ := ht
    obtain ⟨hoe, ys, r1, r2, r3, r4⟩ := fields_in fs (o + P.cellsOf f.type) e h2 he (fun g hg => hf g (List.mem_cons_of_mem _ hg))
    obtain ⟨xs, hx⟩ := hf f List.mem_cons_self
    have hl : xs.length = P.cellsOf f.type := by
      rw [RelL_len hx.rel]; simp; omega
    refine ⟨by omega, xs ++ ys, ?_, by simp [hx.one, r2], by rw [refsL_app', hx.refs, r3]; rfl, ?_⟩
    · have : e - o = P.cellsOf f.type + (e - (o + P.cellsOf f.type)) := by omega
      rw [this, List.take_add, List.drop_drop]
      have hx' := hx.rel
      rw [h1] at hx'
      exact RelL_app hx' r1
    · intro g hg
      rcases List.mem_cons.1 hg with rfl | hg
      · refine ⟨by omega, ?_⟩
        rw [h1, Nat.sub_self, List.drop_zero, ← hl, List.take_left']
        · exact hx.ty
        · rfl
      · obtain ⟨q1, q2⟩ := r4 g hg
        refine ⟨by omega, ?_⟩
        rw [List.drop_append, List.drop_of_length_le (by omega), List.nil_append]
        have : g.offset - o - xs.length = g.offset - (o + P.cellsOf f.type) := by omega
        rw [this]
        exact q2

theorem elems_in {c : Ctx} {P : Program} {k : Nat} {t : TypeId} {cs : List Value} (s : Nat) : ∀ (m o : Nat), o + m * s ≤ cs.length →
    (∀ i, i < m → ∃ xs, In c P k t xs ((cs.drop (o + i * s)).take s)) →
    ∃ xs, RelL c xs ((cs.drop o).take (m * s)) ∧ xs.all one = true ∧ refsL xs = [] ∧ ∀ i, i < m → Tyd P k t ((xs.drop (i * s)).take s)
  | 0, o, he, hf => ⟨[], by simp [RelL], rfl, by simp [refsL], fun i h => by omega⟩
  | m + 1, o, he, hf => by
    have hm : (m + 1) * s = s + m * s := by rw [Nat.add_mul]; omega
    rw [hm] at he
    obtain ⟨ys, r1, r2, r3, r4⟩ := elems_in (c := c) (P := P) (k := k) (t := t) (cs := cs) s m (o + s) (by omega) (fun i hi => by
      have := hf (i + 1) (by omega)
      have e : o + (i + 1) * s = o + s + i * s := by rw [Nat.add_mul]; omega
      rwa [e] at this)
    obtain ⟨xs, hx⟩ := hf 0 (by omega)
    have hl : xs.length = s := by
      rw [RelL_len hx.rel]; simp; omega
    refine ⟨xs ++ ys, ?_, by simp [hx.one, r2], by rw [refsL_app', hx.refs, r3]; rfl, ?_⟩
    · rw [hm, List.take_add, List.drop_drop]
      have hx' := hx.rel
      simp only [Nat.zero_mul, Nat.add_zero] at hx'
      exact RelL_app hx' r1
    · intro i hi
      cases i with
      | zero =>
        rw [Nat.zero_mul, List.drop_zero, List.take_left' hl]
        exact hx.ty
      | succ i =>
        have h2 : (i + 1) * s = i * s + s := by rw [Nat.add_mul]; omega
        rw [List.drop_append, List.drop_of_length_le (by omega), List.nil_append]
        have : (i + 1) * s - xs.length = i * s := by omega
        rw [this]
        exact r4 i (by omega)

theorem relM_of {c : Ctx} {b : Nat} : ∀ {xs : List AV} {vs : List Value} {o : Nat}, RelL c xs vs → xs.all one = true → (∀ (i : Nat) (y : Value), vs[i]? = some y → c.w.cell? ⟨b, o + i, none⟩ = some y) → RelM c b o xs
  | [], vs, o, h, _, _ => trivial
  | x :: xs, vs, o, h, h1, hc => by
    obtain ⟨y, ys, rfl, hx, hl⟩ := h
    simp only [List.all_cons, Bool.and_eq_true] at h1
    refine ⟨⟨y, by simpa using hc 0 y rfl, hx, h1.1⟩, relM_of hl h1.2 fun i z hz => ?_⟩
    have := hc (i + 1) z (by simpa using hz)
    have e : o + (i + 1) = o + 1 + i := by omega
    rwa [e] at this

theorem relE_of {c : Ctx} {P : Program} {k : Nat} {t : TypeId} {b o s : Nat} : ∀ (m j : Nat), (∀ i, i < m → ∃ xs, xs.length = s ∧ RelM c b (o + (j + i) * s) xs ∧ refsL xs = [] ∧ Tyd P k t xs) →
    ∃ l : List (List AV), l.length = m ∧ RelE c b s (o + j * s) l ∧ refsE l = [] ∧ ∀ x ∈ l, Tyd P k t x
  | 0, j, h => ⟨[], rfl, trivial, rfl, fun x hx => by simp at hx⟩
  | m + 1, j, h => by
    obtain ⟨xs, h1, h2, h3, h4⟩ := h 0 (by omega)
    obtain ⟨l, k1, k2, k3, k4⟩ := relE_of (c := c) (P := P) (k := k) (t := t) (b := b) (o := o) (s := s) m (j + 1) (fun i hi => by
      have := h (i + 1) (by omega)
      have e : j + (i + 1) = j + 1 + i := by omega
      rwa [e] at this)
    have e : o + (j + 1) * s = o + j * s + s := by rw [Nat.add_mul]; omega
    rw [e] at k2
    refine ⟨xs :: l, by simp [k1], ⟨h1, by simpa using h2, k2⟩, by simp [refsE, h3, k3], fun x hx => ?_⟩
    rcases List.mem_cons.1 hx with rfl | hx
    · exact h4
    · exact k4 x hx

/-- Ahead of a law: what is there is not written. -/
def Ctx.all (W : World) : Ctx := Ctx.at W (fun b => b < W.heap.size)

theorem cells_get {w : World} {a : Addr} {n : Nat} {vs : List Value} (h : w.cells? 0 a n = some vs) : vs.length = n ∧ ∀ (i : Nat) (y : Value), vs[i]? = some y → w.cell? (a.add i) = some y := by
  unfold World.cells? at h
  rw [if_pos (Nat.zero_le _)] at h
  obtain ⟨h1, h2⟩ := mapM_get h
  refine ⟨by simpa using h1, fun i y hy => ?_⟩
  have hi : i < n := by
    have := (List.getElem?_eq_some_iff.1 hy).1
    rw [h1] at this; simpa using this
  obtain ⟨z, hz, hc⟩ := h2 i i (by simp [hi])
  rw [hy] at hz; cases hz
  exact hc

theorem cell_lt {w : World} {a : Addr} {y : Value} (h : w.cell? a = some y) : a.block < w.heap.size ∧ a.spot = none := by
  unfold World.cell? at h
  cases hb : w.heap[a.block]? with
  | none => rw [hb] at h; cases h
  | some o =>
    refine ⟨(Array.getElem?_eq_some_iff.1 hb).1, ?_⟩
    rw [hb] at h
    cases o with
    | cells c t z =>
      simp only at h
      cases hs : a.spot with
      | none => rfl
      | some x => rw [hs] at h; cases h
    | _ => cases h

theorem trod_in {H : Type} {enc : TypeId × Value → H} {P : Program} {W : World} : ∀ (n k : Nat) (t : TypeId) (cs : List Value) (d : DataW H) (ps : List MemPlace),
    DataW.trod enc P W 0 (fun _ => true) true n t cs = some (d, ps) → plT P k t = true → ∃ xs, In (Ctx.all W) P k t xs cs
  | 0, k, t, cs, d, ps, h, hp => by simp [DataW.trod] at h
  | n + 1, 0, t, cs, d, ps, h, hp => by simp [plT] at hp
  | n + 1, k + 1, t, cs, d, ps, h, hp => by
    have ih := fun e cs d ps => trod_in (H := H) (enc := enc) (P := P) (W := W) n k e cs d ps
    unfold plT at hp
    cases hu : P.underlying t with
    | none => rw [hu] at hp; cases hp
    | some u =>
      rw [hu] at hp
      cases u with
      | bool =>
        obtain ⟨b, rfl, _⟩ := DataW.trod_bool hu h
        exact ⟨[.v (.bool b)], ⟨⟨.bool b, [], rfl, ⟨rfl, rfl⟩, rfl⟩, rfl, rfl, by simp only [Tyd, hu]; exact ⟨b, rfl⟩⟩⟩
      | int kk =>
        obtain ⟨m, rfl, _, hw⟩ := DataW.trod_int hu h
        exact ⟨[.v (.int kk m)], ⟨⟨.int kk m, [], rfl, ⟨rfl, rfl⟩, rfl⟩, rfl, rfl, by simp only [Tyd, hu]; exact ⟨m, rfl, hw⟩⟩⟩
      | float kk =>
        obtain ⟨m, rfl, hw⟩ : ∃ m, cs = [.float kk m] ∧ (Lit.float kk m).wf = true := by
          unfold DataW.trod at h
          rw [hu] at h
          split at h <;> simp_all
        exact ⟨[.v (.float kk m)], ⟨⟨.float kk m, [], rfl, ⟨rfl, rfl⟩, rfl⟩, rfl, rfl, by simp only [Tyd, hu]; exact ⟨m, rfl, hw⟩⟩⟩
      | string =>
        obtain ⟨s, rfl, _, hw⟩ := DataW.trod_string hu h
        exact ⟨[.v (.string s)], ⟨⟨.string s, [], rfl, ⟨rfl, rfl⟩, rfl⟩, rfl, rfl, by simp only [Tyd, hu]; exact ⟨s, rfl, hw⟩⟩⟩
      | slice e =>
        simp only [Bool.and_eq_true, decide_eq_true_eq] at hp
        rcases DataW.trod_slice hu h with ⟨rfl, _⟩ | ⟨a, len, cap, elems, rest, n', hn, rfl, _, _, hlc, hcm, hel0, hel1, _⟩
        · exact ⟨[.sl true []], ⟨⟨.slice none 0 0, [], rfl, ⟨none, 0, rfl, Nat.le_refl _, fun _ => rfl, rfl, .inl rfl⟩, rfl⟩, rfl, rfl, by simp only [Tyd, hu]; exact ⟨true, [], rfl, Nat.zero_le _, fun x hx => by simp at hx⟩⟩⟩
        · have hn' : n' = n := by omega
          subst hn'
          have hel : ∀ i, i < len → ∃ vs xs, W.cells? 0 (a.add (i * P.cellsOf e)) (P.cellsOf e) = some vs ∧ In (Ctx.all W) P k e xs vs := by
            intro i hi
            have hy := hel1 i hi
            rw [List.getElem?_eq_getElem (by omega)] at hy
            cases hv : W.cells? 0 (a.add (i * P.cellsOf e)) (P.cellsOf e) with
            | none => rw [hv] at hy; cases hy
            | some vs =>
              rw [hv] at hy
              obtain ⟨xs, hx⟩ := ih e vs _ _ hy hp.2
              exact ⟨vs, xs, rfl, hx⟩
          cases len with
          | zero =>
            exact ⟨[.sl (decide (cap = 0)) []], ⟨⟨.slice (some a) 0 cap, [], rfl, ⟨some a, cap, rfl, Nat.zero_le _, fun hf => by simpa using hf, rfl, .inl rfl⟩, rfl⟩, rfl, rfl,
              by simp only [Tyd, hu]; exact ⟨_, [], rfl, Nat.zero_le _, fun x hx => by simp at hx⟩⟩⟩
          | succ len =>
            have hs : a.block < W.heap.size ∧ a.spot = none := by
              obtain ⟨vs, xs, hv, _⟩ := hel 0 (by omega)
              obtain ⟨v1, v2⟩ := cells_get hv
              have : 0 < vs.length := by rw [v1]; omega
              have := v2 0 vs[0] (List.getElem?_eq_getElem this)
              simp only [Nat.zero_mul, Addr.add, if_true] at this
              exact cell_lt this
            obtain ⟨ab, ao, asp⟩ := a
            simp only at hs
            obtain ⟨hb, rfl⟩ := hs
            obtain ⟨l, l1, l2, l3, l4⟩ := relE_of (c := Ctx.all W) (P := P) (k := k) (t := e) (b := ab) (o := ao) (s := P.cellsOf e) (len + 1) 0 (fun i hi => by
              obtain ⟨vs, xs, hv, hx⟩ := hel i hi
              obtain ⟨v1, v2⟩ := cells_get hv
              refine ⟨xs, by rw [RelL_len hx.rel, v1], relM_of hx.rel hx.one fun j y hy => ?_, hx.refs, hx.ty⟩
              have := v2 j y hy
              have ea : (Addr.add (Addr.add ⟨ab, ao, none⟩ (i * P.cellsOf e)) j) = ⟨ab, ao + (0 + i) * P.cellsOf e + j, none⟩ := by
                unfold Addr.add
                by_cases h1 : i * P.cellsOf e = 0
                · by_cases h2 : j = 0
                  · simp [h1, h2]
                  · simp [h1, h2]
                · by_cases h2 : j = 0
                  · simp [h1, h2]
                  · simp [h1, h2]
              rw [ea] at this
              exact this)
            simp only [Nat.zero_mul, Nat.add_zero] at l2
            refine ⟨[.sl (decide (cap = len + 1)) l], ⟨⟨.slice (some ⟨ab, ao, none⟩) (len + 1) cap, [], rfl, ⟨some ⟨ab, ao, none⟩, cap, by rw [l1], by omega, fun hf => by rw [l1]; simpa using hf, l3, .inr ⟨ab, ao, P.cellsOf e, rfl, hb, l2⟩⟩, rfl⟩, rfl, by simp [refsL, refs], ?_⟩⟩
            simp only [Tyd, hu]
            exact ⟨_, l, rfl, by omega, l4⟩
      | struct fs =>
        simp only [Bool.and_eq_true, List.all_eq_true] at hp
        obtain ⟨ys, n', hn, _, hl, m1, m2⟩ := DataW.trod_struct hu h
        have hn' : n' = n := by omega
        subst hn'
        have hf : ∀ f ∈ fs.toList, ∃ xs, In (Ctx.all W) P k f.type xs ((cs.drop f.offset).take (P.cellsOf f.type)) := by
          intro f hf
          obtain ⟨i, hi, he⟩ := List.mem_iff_getElem.1 hf
          have hi' : i < fs.size := by simpa using hi
          have hy := m2 i f (by rw [Array.getElem?_eq_getElem hi']; simpa using he)
          rw [List.getElem?_eq_getElem (by omega)] at hy
          exact ih f.type _ _ _ hy (hp.2 f hf)
        obtain ⟨_, xs, r1, r2, r3, r4⟩ := fields_in fs.toList 0 (P.cellsOf t) hp.1 (by omega) hf
        simp only [List.drop_zero, Nat.sub_zero, ← hl, List.take_length] at r1
        refine ⟨xs, ⟨r1, r2, r3, ?_⟩⟩
        simp only [Tyd, hu]
        exact ⟨by rw [RelL_len r1, hl], fun f hf => (r4 f hf).2⟩
      | array m e =>
        simp only [Bool.and_eq_true, decide_eq_true_eq] at hp
        obtain ⟨hl, ys, hm⟩ : cs.length = P.cellsOf t ∧ ∃ ys, (List.range m).mapM (fun i => DataW.trod enc P W 0 (fun _ => true) true n e ((cs.drop (i * P.cellsOf e)).take (P.cellsOf e))) = some ys := by
          unfold DataW.trod at h
          rw [hu] at h
          simp only at h
          split at h
          · next hl =>
            refine ⟨hl, ?_⟩
            cases hm : (List.range m).mapM (fun i => DataW.trod enc P W 0 (fun _ => true) true n e ((cs.drop (i * P.cellsOf e)).take (P.cellsOf e))) with
            | none => rw [hm] at h; cases h
            | some ys => exact ⟨ys, rfl⟩
          · cases h
        obtain ⟨m1, m2⟩ := mapM_get hm
        obtain ⟨xs, r1, r2, r3, r4⟩ := elems_in (c := Ctx.all W) (P := P) (k := k) (t := e) (cs := cs) (P.cellsOf e) m 0 (by omega) (fun i hi => by
          obtain ⟨y, _, hy⟩ := m2 i i (by simp [hi])
          have := ih e _ y.1 y.2 hy hp.2
          simpa using this)
        rw [hp.1, ← hl] at r1
        simp only [List.drop_zero, List.take_length] at r1
        refine ⟨xs, ⟨r1, r2, r3, ?_⟩⟩
        simp only [Tyd, hu]
        exact ⟨by rw [RelL_len r1, hl], r4⟩
      | _ => cases hp

/-! The arguments of a law -/
theorem arg_agg {H : Type} {enc : TypeId × Value → H} {P : Program} {W : World} {t : TypeId} {v : Value} {d : DataW H} {ps : List MemPlace} {k : Nat} {cs : Array Value} (hv : v = .agg cs)
    (h : DataW.Trod enc P W 0 (fun _ => true) true t v d ps) (hp : plT P k t = true) : ∃ xs, Rel (Ctx.all W) (.agg xs) v ∧ Tyd P k t xs := by
  obtain ⟨n, hn⟩ := h
  subst hv
  obtain ⟨xs, hx⟩ := trod_in n k t _ d ps hn hp
  exact ⟨xs, ⟨cs.toList, by simp, hx.rel, hx.one⟩, hx.ty⟩
theorem arg_one {H : Type} {enc : TypeId × Value → H} {P : Program} {W : World} {t : TypeId} {v : Value} {d : DataW H} {ps : List MemPlace} {k : Nat} (hv : v.cells = #[v])
    (h : DataW.Trod enc P W 0 (fun _ => true) true t v d ps) (hp : plT P k t = true) : ∃ x, Rel (Ctx.all W) x v ∧ Tyd P k t [x] := by
  obtain ⟨n, hn⟩ := h
  rw [hv] at hn
  obtain ⟨xs, hx⟩ := trod_in n k t _ d ps hn hp
  cases xs with
  | nil => have := hx.rel; simp [RelL] at this
  | cons x xs =>
    obtain ⟨y, ys, h1, h2, h3⟩ := hx.rel
    cases h1
    try simp only [RelL] at h3
    cases xs with
    | nil => exact ⟨x, h2, hx.ty⟩
    | cons z zs => obtain ⟨_, _, h4, _⟩ := h3; cases h4

theorem below_of {W : World} {imm : Nat → Prop} {c : Ctx} {h : Heap} (k : BR ⟨W, fun _ => False, imm⟩ c h) : Below W.heap.size W c.w :=
  ⟨k.os, k.tape, k.output, k.size, fun b hb => k.frame b hb (fun h => h)⟩

/-- A law that the machine finds true is true, and what was there is as it was. -/
theorem calls_below {E : Cfg} (hE : CfgOk E) (hP : progOk' E.P) {f : FuncId} {args : List AV} (e : ∃ n h', callF E n f args [] = some (.ret (.v (.bool true)), h')) {W : World}
    (hg : GR (Ctx.all W) E.G) {ys : Array Value} (hx : RelL (Ctx.all W) args ys.toList) :
    Calls E.P f ys W fun e w' => e = .returned (.bool true) ∧ Below W.heap.size W w' := by
  obtain ⟨n, h', e⟩ := e
  refine Calls.mono (((sound hE hP n).1 n (Nat.le_refl _)) f args [] _ _ e (Ctx.all W) ⟨W, fun _ => False, fun b => b < W.heap.size⟩ ys (HR.at (fun _ h => h)) BR.at hg hx) ?_
  rintro en w' ⟨c', rfl, _, _, hB, ho⟩
  cases en with
  | returned v =>
    obtain ⟨_, rfl⟩ := ho
    exact ⟨rfl, below_of hB⟩
  | panicked ch => exact ho.elim
  | outgrown => exact ho.elim
end Go.AM
