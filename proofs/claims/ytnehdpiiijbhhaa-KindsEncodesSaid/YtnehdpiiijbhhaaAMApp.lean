/- A part of the proof that the machine of AM is sound: each lemma is under its own hypotheses alone. -/
import Derived.Test.YtnehdpiiijbhhaaAMOps
set_option autoImplicit false
set_option linter.unusedVariables false
set_option linter.unusedSimpArgs false
namespace Go.AM
open Go Go.RowKit
variable {P : Program}

theorem allLen_iff {n : Nat} : ∀ {l : List (List AV)}, allLen n l = true ↔ ∀ e ∈ l, e.length = n
  | [] => by simp [allLen]
  | e :: l => by
    simp only [allLen, Bool.and_eq_true, Nat.beq_eq, allLen_iff (l := l), List.mem_cons, forall_eq_or_imp]

theorem relE_flatten {c : Ctx} {b sz : Nat} : ∀ {l : List (List AV)} {o : Nat}, RelE c b sz o l → RelM c b o l.flatten
  | [], o, _ => by simp [RelM]
  | e :: l, o, h => by
    obtain ⟨h1, h2, h3⟩ := h
    refine RelM_iff.2 fun i x hx => ?_
    rw [List.flatten_cons, List.getElem?_append] at hx
    split at hx
    · exact RelM_iff.1 h2 i x hx
    · have := RelM_iff.1 (relE_flatten h3) _ _ hx
      rwa [show o + sz + (i - e.length) = o + i by omega] at this

theorem length_flatten_of {n : Nat} : ∀ {l : List (List AV)}, (∀ e ∈ l, e.length = n) → l.flatten.length = l.length * n
  | [], _ => by simp
  | e :: l, h => by
    rw [List.flatten_cons, List.length_append, length_flatten_of (fun x hx => h x (by simp [hx])), h e (by simp), List.length_cons, Nat.add_mul]
    omega

theorem flatten_get {n : Nat} : ∀ {l : List (List AV)}, (∀ e ∈ l, e.length = n) → ∀ {k j : Nat} {e : List AV} {x : AV}, l[k]? = some e → e[j]? = some x → l.flatten[k * n + j]? = some x
  | [], _, k, j, e, x, hk, _ => by simp at hk
  | e0 :: l, h, 0, j, e, x, hk, hj => by
    simp at hk; subst hk
    have hlt : j < e0.length := (List.getElem?_eq_some_iff.1 hj).1
    rw [List.flatten_cons, List.getElem?_append, if_pos (by omega)]
    simpa using hj
  | e0 :: l, h, k + 1, j, e, x, hk, hj => by
    simp at hk
    have h0 := h e0 (by simp)
    rw [List.flatten_cons, List.getElem?_append, Nat.add_mul, if_neg (by omega)]
    have := flatten_get (fun x hx => h x (by simp [hx])) hk hj
    rwa [show k * n + 1 * n + j - e0.length = k * n + j by omega]

/-- The elements of a slice, or the bytes of a string, as the model reads them. -/
theorem elems_sound {c : Ctx} {h : Heap} {x : AV} {u : Value} {l : List (List AV)} {n : Nat} (hx : Rel c x u) (hh : HR c h) (he : elemsOf h x = some l) (hn : allLen n l = true) (hne : l ≠ []) :
    ∃ ys : List Value, RelL c l.flatten ys ∧ l.flatten.all one = true ∧ (∀ w : World, (Builtin.lenOf u).run P w = .ok l.length w) ∧
      (∀ w : World, w.heap = c.w.heap → (Builtin.firstCells n l.length u).run P w = .ok ys.toArray w) := by
  have hall := allLen_iff.1 hn
  have key : ∀ (b o sz : Nat) (hE : RelE c b sz o l) (a : Option Addr) (ln cap : Nat), u = .slice a ln cap → ln = l.length → a = some ⟨b, o, none⟩ → 
      ∃ ys : List Value, RelL c l.flatten ys ∧ l.flatten.all one = true ∧ (∀ w : World, (Builtin.lenOf u).run P w = .ok l.length w) ∧
      (∀ w : World, w.heap = c.w.heap → (Builtin.firstCells n l.length u).run P w = .ok ys.toArray w) := by
    intro b o sz hE a ln cap hu hl ha
    subst hu hl ha
    have hm := relE_flatten hE
    obtain ⟨ys, h1, h2, h3⟩ := RelM.load (b := b) (o := o) hm
    refine ⟨ys, h2, ?_, fun w => rfl, fun w hw => ?_⟩
    · rw [List.all_eq_true]
      intro z hz
      obtain ⟨i, hi⟩ := List.mem_iff_getElem?.1 hz
      obtain ⟨_, _, _, h⟩ := RelM_iff.1 hm _ _ hi
      exact h
    · have hl := run_loadCells_list (P := P) w ⟨b, o, none⟩ ys (fun j v hv => by
        rw [addr_add]
        have := h3 j v hv
        rw [← this]
        simp [World.cell?, hw])
      have e : l.length * n = ys.length := by rw [h1, length_flatten_of hall]
      simp only [Builtin.firstCells]
      rw [e]; exact hl
  cases x <;> simp [elemsOf, readElems] at he
  case sl full l' =>
    subst he
    obtain ⟨a, cap, rfl, _, _, _, h4⟩ := hx
    rcases h4 with h4 | ⟨b, o, sz, rfl, _, hE⟩
    · exact absurd h4 hne
    · exact key b o sz hE _ _ _ rfl rfl rfl
  case ref r ver off len =>
    split at he
    case h_2 => cases he
    case h_1 ver' ro sz rf l0 hr =>
    split at he
    case isFalse => cases he
    case isTrue hc =>
    obtain ⟨rfl, hc2⟩ := hc
    cases he
    obtain ⟨hv, hcap, a, cap', rfl, h2, h3⟩ := hx
    have hk := hh.arr _ _ _ _ _ _ hr
    have hll := length_slice l0 off len hc2
    rcases h3 with h3 | rfl
    · have h0 : len = 0 := by omega
      subst h0
      exact absurd (by simp [slice]) hne
    · refine key (c.ρ r ver').blk ((c.ρ r ver').off + off * sz) sz (hk.mem.slice off len) _ _ _ rfl hll.symm (by rw [hk.hsz])
end Go.AM
namespace Go.AM
open Go Go.RowKit
variable {P : Program}

theorem appOk_zeros {tys : Array TypeId} (h : appOk P tys.toList = true) (w : World) :
    ∃ t0 t1 d1, tys = #[t0, t1] ∧ P.underlying t1 = some d1 ∧ (∀ k, d1 ≠ .int k) := by
  obtain ⟨l⟩ := tys
  simp only at h
  unfold appOk at h
  split at h
  case h_2 => cases h
  case h_1 a b =>
  split at h
  · cases h
  · next d hu hd => exact ⟨a, b, d, rfl, hd, fun k e => hu k e⟩
  · cases h

theorem run_zeros {t1 : TypeId} {d1 : TypeDesc} (hu : P.underlying t1 = some d1) (hk : ∀ k, d1 ≠ .int k) (w : World) :
    ((do pure ((← underlying t1) matches .int _) : Sem Bool)).run P w = .ok false w := by
  simp only [Sem.run_bind, run_underlying hu, Result.andThen_ok]
  cases d1 <;> first | (exact absurd rfl (hk _)) | rfl

theorem notInt {d1 : TypeDesc} (hk : ∀ k, d1 ≠ .int k) : (match d1 with | .int _ => true | _ => false) = false := by
  cases d1 <;> first | (exact absurd rfl (hk _)) | rfl

/-- Where there is room. -/
theorem run_append_room' {t0 t1 ty elem : TypeId} {d1 : TypeDesc} (h0 : P.underlying t0 = some (.slice elem)) (h1 : P.underlying t1 = some d1) (hk : ∀ k, d1 ≠ .int k) (he : (P.info? elem).isSome = true)
    {base : Option Addr} {sLen sCap n : Nat} {u : Value} {ys : List Value} {w w' : World} (hl : (Builtin.lenOf u).run P w = .ok n w)
    (hf : (Builtin.firstCells (P.cellsOf elem) n u).run P w = .ok ys.toArray w) (hroom : sLen + n ≤ sCap)
    (hst : ∀ a, base = some a → (storeCells (a.add (sLen * P.cellsOf elem)) ys).run P w = .ok () w') (hno : base = none → w' = w) :
    (Builtin.append_ #[t0, t1] ty #[.slice base sLen sCap, u]).run P w = .ok (.slice base (sLen + n) sCap) w' := by
  have hm := notInt hk
  simp [Builtin.append_, run_underlying h0, run_underlying h1, run_sizeOf' he, hl, hroom, hf]
  cases base with
  | none => simp [hno rfl]
  | some a => simp [hst a rfl]
end Go.AM
namespace Go.AM
open Go Go.RowKit
variable {P : Program}

/-- Where there is none. -/
theorem run_append_new' {t0 t1 ty elem : TypeId} {d1 : TypeDesc} (h0 : P.underlying t0 = some (.slice elem)) (h1 : P.underlying t1 = some d1) (hk : ∀ k, d1 ≠ .int k)
    {i : TypeInfo} {z : Value} (hi : P.info? elem = some i) (hz : i.zero = some z)
    {base : Option Addr} {sLen sCap n : Nat} {u : Value} {os ys : List Value} {w : World} (hl : (Builtin.lenOf u).run P w = .ok n w)
    (hfo : (Builtin.firstCells i.size sLen (.slice base sLen sCap)).run P w.drew = .ok os.toArray w.drew)
    (hf : (Builtin.firstCells i.size n u).run P w.drew = .ok ys.toArray w.drew) (hroom : sCap < sLen + n)
    (hb1 : (sLen + n) * i.bytes ≤ 140737488355328) (hb2 : sLen + n ≤ 140737488355328) :
    ∃ cap, sLen + n ≤ cap ∧ (Builtin.append_ #[t0, t1] ty #[.slice base sLen sCap, u]).run P w =
      .ok (.slice (some ⟨w.heap.size, 0, none⟩) (sLen + n) cap) (w.drew.alloc (.cells (os.toArray ++ ys.toArray ++ Builtin.zeroCells z.cells (cap - (sLen + n))) elem)) := by
  have hm := notInt hk
  have he : (P.info? elem).isSome = true := by simp [hi]
  have hsize := cellsOf_info hi
  refine ⟨grownCap w (sLen + n) sCap elem, grownCap_ge w _ _ _, ?_⟩
  have hg : ¬ (281474976710656 < Builtin.nextslicecap (sLen + n) sCap * i.bytes) := by
    have := growslice_fits hroom hb1; omega
  have hno : ¬ (sLen + n ≤ sCap) := by omega
  have h63 : ¬ ((9223372036854775807 : Int) < (sLen : Int) + (n : Int)) := by omega
  simp [Builtin.append_, run_underlying h0, run_underlying h1, sizeOf, typeInfo, hi, hl, hno, hg, h63, Question.forced, run_zeroValue hi hz]
  simp [hfo, hf, grownCap, newRow]
  congr 2
  apply Array.ext'
  simp
end Go.AM
namespace Go.AM
open Go Go.RowKit
variable {P : Program}

theorem refsE_append {l m : List (List AV)} : refsE (l ++ m) = refsE l ++ refsE m := by
  induction l with
  | nil => rfl
  | cons e l ih => simp [refsE, ih]

theorem room_iff {elem : TypeId} {n : Nat} : room P elem n = true ↔ n * P.bytesOf elem ≤ 140737488355328 ∧ n ≤ 140737488355328 := by simp [room]

theorem readElems_nil {c : Ctx} {h : Heap} {x : AV} {u : Value} (hx : Rel c x u) (hh : HR c h) (he : elemsOf h x = some []) :
    (∀ w : World, (Builtin.lenOf u).run P w = .ok 0 w) ∧ (∀ (n : Nat) (w : World), (Builtin.firstCells n 0 u).run P w = .ok #[] w) := by
  cases x <;> simp [elemsOf, readElems] at he
  case sl full l' =>
    subst he
    obtain ⟨a, cap, rfl, _⟩ := hx
    refine ⟨fun w => rfl, fun n w => ?_⟩
    cases a <;> simp [Builtin.firstCells, loadCells, loadCellsFrom]
  case ref r ver off len =>
    split at he
    case h_2 => cases he
    case h_1 ver' ro sz rf l0 hr =>
    split at he
    case isFalse => cases he
    case isTrue hc =>
    obtain ⟨rfl, hc2⟩ := hc
    obtain ⟨hv, hcap, a, cap', rfl, h2, h3⟩ := hx
    have h0 : len = 0 := by
      have := length_slice l0 off len hc2
      simp at he
      rw [he] at this
      simpa using this.symm
    subst h0
    refine ⟨fun w => rfl, fun n w => ?_⟩
    cases a <;> simp [Builtin.firstCells, loadCells, loadCellsFrom]

/-- The cells of a row of elements, and behind them whatever. -/
theorem elems_cells {c : Ctx} {l : List (List AV)} {sz : Nat} (hsz : ∀ e ∈ l, e.length = sz) {ys : List Value} (hl : RelL c l.flatten ys) (ho : l.flatten.all one = true) {cs : Array Value}
    (hcs : ∀ (j : Nat) (y : Value), ys[j]? = some y → cs[j]? = some y) :
    ∀ k e, l[k]? = some e → e.length = sz ∧ ∀ j x, e[j]? = some x → one x = true ∧ ∃ y, cs[k * sz + j]? = some y ∧ Rel c x y := by
  intro k e he
  refine ⟨hsz e (List.mem_of_getElem? he), fun j x hx => ?_⟩
  have hf := flatten_get hsz he hx
  obtain ⟨y, hy, hr⟩ := hl.get hf
  exact ⟨all_get ho hf, y, hcs _ _ hy, hr⟩
end Go.AM
namespace Go.AM
open Go Go.RowKit
variable {P : Program}

/-- What an operation comes to. -/
def Comes (B : Base) (c : Ctx) (H' : Heap) (x : AV) (r : Result Value) : Prop :=
  ∃ v w' c', r = .ok v w' ∧ c'.w = w' ∧ Le c c' ∧ HR c' H' ∧ BR B c' H' ∧ Rel c' x v

theorem Comes.same {B : Base} {c : Ctx} {H : Heap} {x : AV} {v : Value} {r : Result Value} (hr : r = .ok v c.w) (hh : HR c H) (hB : BR B c H) (hx : Rel c x v) : Comes B c H x r :=
  ⟨v, c.w, c, hr, rfl, .refl c, hh, hB, hx⟩

theorem append_sound {B : Base} {c : Ctx} {H H' : Heap} (hh : HR c H) (hB : BR B c H) {slot : Nat} (hslot : H[slot]? = some .dead) {t : TypeId} {tys : Array TypeId} {ty : TypeId} {s x y : AV} {us ux : Value} {f : FP}
    (ha : appendAV P H slot t s x = some (.val y H' f)) (hok : appOk P tys.toList = true) (ht : tys.toList.head? = some t) (hs : Rel c s us) (hx : Rel c x ux) :
    Comes B c H' y ((Builtin.append_ tys ty #[us, ux]).run P c.w) := by
  obtain ⟨t0, t1, d1, rfl, hu1, hk⟩ := appOk_zeros hok c.w
  simp at ht; subst ht
  unfold appendAV at ha
  split at ha
  case h_2 => cases ha
  case h_1 elem hu =>
  split at ha
  · cases ha
  next z hz =>
  obtain ⟨i, v, hi, hv, rfl, hone, hcl⟩ := zeroCells_sound hz
  have hsome : (P.info? elem).isSome = true := by simp [hi]
  split at ha
  · cases ha
  · next he =>
    obtain ⟨hl, hf⟩ := readElems_nil (P := P) hx hh he
    have key : ∀ base sLen sCap, us = .slice base sLen sCap → sLen ≤ sCap →
        (Builtin.append_ #[t0, t1] ty #[us, ux]).run P c.w = .ok us c.w := by
      intro base sLen sCap e hle
      subst e
      have := run_append_room' (P := P) (ty := ty) (ys := []) (w' := c.w) hu hu1 hk hsome (base := base) (hl c.w) (hf _ c.w) (by simpa using hle) (by intro a _; simp [storeCells]) (fun _ => rfl)
      simpa using this
    split at ha
    · next a b =>
      cases ha
      obtain ⟨a', cap, rfl, h1, h2⟩ := hs
      exact .same (key _ _ _ rfl h1) hh hB ⟨a', cap, rfl, h1, h2⟩
    · next a b c' d =>
      cases ha
      obtain ⟨h1, h2, a', cap', rfl, h3, h4⟩ := hs
      exact .same (key _ _ _ rfl (by omega)) hh hB ⟨h1, h2, a', cap', rfl, h3, h4⟩
    · cases ha
  next new hne he =>
  split at ha
  case isFalse => cases ha
  case isTrue hcond =>
  simp only [Bool.and_eq_true, Nat.beq_eq, Bool.not_eq_true'] at hcond
  obtain ⟨hn1, hn2, hn3⟩ := hcond
  have hne' : new ≠ [] := fun e => by subst e; exact hne rfl
  have hpos : 0 < new.length := List.length_pos_iff.2 hne'
  have hsz : v.cells.size = P.cellsOf elem := by simpa using hn2
  have hsi := cellsOf_info hi
  have hbi := bytesOf_info hi
  have hnl := allLen_iff.1 hn1
  obtain ⟨ys, hy1, hy2, hy3, hy4⟩ := elems_sound (P := P) hx hh he hn1 hne'
  have hyl : ys.length = new.length * P.cellsOf elem := by rw [hy1.length, length_flatten_of hnl]
  split at ha
  · next full l =>
    split at ha
    case isFalse => cases ha
    case isTrue hc =>
    simp only [Bool.and_eq_true] at hc
    obtain ⟨hfull, hroom, hll⟩ := hc
    obtain ⟨hr1, hr2⟩ := room_iff.1 hroom
    cases ha
    have hllen := allLen_iff.1 hll
    have hs0 := hs
    obtain ⟨a, cap, rfl, h1, h2, h3, h4⟩ := hs
    have hcap := h2 hfull
    obtain ⟨os, ho1, ho2, ho3⟩ : ∃ os : List Value, RelL c l.flatten os ∧ l.flatten.all one = true ∧ (Builtin.firstCells i.size l.length (.slice a l.length cap)).run P c.w.drew = .ok os.toArray c.w.drew := by
      by_cases hl0 : l = []
      · subst hl0
        refine ⟨[], rfl, rfl, ?_⟩
        cases a <;> simp [Builtin.firstCells, loadCells, loadCellsFrom]
      · obtain ⟨os, k1, k2, k3, k4⟩ := elems_sound (P := P) (l := l) hs0 hh rfl hll hl0
        exact ⟨os, k1, k2, by rw [← hsi]; exact k4 c.w.drew rfl⟩
    have hol : os.length = l.length * P.cellsOf elem := by rw [ho1.length, length_flatten_of hllen]
    obtain ⟨newCap, hnc, hrun⟩ := run_append_new' (P := P) (ty := ty) hu hu1 hk hi hv (w := c.w) (hy3 c.w) ho3 (by rw [← hsi]; exact hy4 c.w.drew rfl) (by omega) (by rw [← hbi]; exact hr1) hr2
    obtain ⟨g1, g2, g3⟩ := fresh_sound (cs := os.toArray ++ ys.toArray ++ Builtin.zeroCells v.cells (newCap - (l.length + new.length))) (T := elem)
      (w' := c.w.drew.alloc (.cells (os.toArray ++ ys.toArray ++ Builtin.zeroCells v.cells (newCap - (l.length + new.length))) elem)) (ver := 0) (sz := P.cellsOf elem) (cap := newCap) (l := l ++ new) (rf := addNew [] (refsE new))
      hh hB hslot (hh.no_v hslot 0) (fun v hv => absurd hv (hh.no_v hslot v)) rfl rfl rfl rfl (by simpa using hnc)
      (by
        simp only [Array.size_append, List.size_toArray, size_zeroCells, hsz, hol, hyl, ← Nat.add_mul]
        exact Nat.mul_le_mul_right _ (by omega))
      (elems_cells (by intro e he; rcases List.mem_append.1 he with he | he; exact hllen e he; exact hnl e he) (ys := os ++ ys) (by rw [List.flatten_append]; exact ho1.append hy1)
        (by rw [List.flatten_append, List.all_append, ho2, hy2]; rfl)
        (by
          intro j y hj
          have hjl : j < (os ++ ys).length := (List.getElem?_eq_some_iff.1 hj).1
          simp only [List.length_append] at hjl
          rw [Array.getElem?_append_left (by simp; omega)]
          rw [show os.toArray ++ ys.toArray = (os ++ ys).toArray by simp]
          simpa using hj))
      (by
        intro q hq
        rw [refsE_append, h3] at hq
        rw [mem_addNew]; right; simpa using hq)
    refine ⟨_, _, _, hrun, rfl, g1, g2, g3, ?_⟩
    refine ⟨.inr ⟨rfl, rfl⟩, by rw [c.put_self]; simpa using hnc, some ⟨c.w.heap.size, 0, none⟩, newCap, rfl, by rw [c.put_self]; simp, .inr (by rw [c.put_self]; simp)⟩
  · next r ver off len =>
    split at ha
    case h_2 => cases ha
    case h_1 ver' sz rf l hr =>
    split at ha
    case isFalse => cases ha
    case isTrue hc =>
    obtain ⟨⟨rfl, rfl⟩, ⟨hlen, rfl⟩, hroom⟩ := hc
    obtain ⟨hr1, hr2⟩ := room_iff.1 hroom
    cases ha
    have hk' := hh.arr _ _ _ _ _ _ hr
    have hs0 := hs
    obtain ⟨h1, h2, a, cap', rfl, h3, h4⟩ := hs
    have hf : ¬ c.V r (ver' + 1) := by
      intro hv'
      obtain ⟨g, hg, hvb⟩ := hh.vb _ _ hv'
      rw [hr] at hg; cases hg
      exact absurd hvb (by simp [VB])
    have hvb : ∀ v, c.V r v → v ≤ ver' + 1 := by
      intro v' hv'
      obtain ⟨g, hg, hvb⟩ := hh.vb _ _ hv'
      rw [hr] at hg; cases hg
      simp only [VB] at hvb; omega
    have htk : ∀ e ∈ l.take len, e.length = P.cellsOf elem := by
      intro e he'
      obtain ⟨k, hk2⟩ := List.mem_iff_getElem?.1 (List.mem_of_mem_take he')
      exact (RelE_iff.1 hk'.mem _ _ hk2).1
    have hrf : ∀ q ∈ refsE (l.take len ++ new), q ∈ addNew rf (refsE new) := by
      intro q hq
      rw [refsE_append] at hq
      rw [mem_addNew]
      rcases List.mem_append.1 hq with hq | hq
      · left
        obtain ⟨e, he', hq⟩ := of_mem_refsE hq
        exact hk'.hrf q (mem_refsE (List.mem_of_mem_take he') hq)
      · exact .inr hq
    by_cases hrm : len + new.length ≤ cap'
    · -- in place
      have ha : a = some ⟨(c.ρ r ver').blk, (c.ρ r ver').off + 0 * (c.ρ r ver').sz, none⟩ := by
        rcases h4 with h4 | h4
        · omega
        · exact h4
      subst ha
      obtain ⟨cs0, T, hblk, hfit⟩ := hk'.blk
      have hszρ := hk'.hsz
      have hmul : (len + new.length) * P.cellsOf elem ≤ (c.ρ r ver').cap * P.cellsOf elem := Nat.mul_le_mul_right _ (by omega)
      rw [Nat.add_mul] at hmul
      generalize ho : (c.ρ r ver').off + len * P.cellsOf elem = o
      have hpl : o + ys.length ≤ cs0.size := by omega
      have honeV : ∀ y ∈ ys, y.oneCell' = true := by
        intro y hy
        obtain ⟨j, hj⟩ := List.mem_iff_getElem?.1 hy
        have hjl : j < new.flatten.length := by have := (List.getElem?_eq_some_iff.1 hj).1; rw [hy1.length] at this; exact this
        obtain ⟨y', hy', hr'⟩ := hy1.get (List.getElem?_eq_getElem hjl)
        rw [hj] at hy'; cases hy'
        exact one_value hr' (all_get hy2 (List.getElem?_eq_getElem hjl))
      have hst := run_storeCells_at P (c.ρ r ver').blk o T ys 0 cs0 c.w hblk (by simpa using hpl) honeV
      simp only [Nat.add_zero] at hst
      have hrun := run_append_room' (P := P) (ty := ty) (w' := c.w.setRow (c.ρ r ver').blk (cs0.toList.take o ++ ys ++ cs0.toList.drop (o + ys.length)).toArray) hu hu1 hk hsome
        (base := some ⟨(c.ρ r ver').blk, (c.ρ r ver').off + 0 * (c.ρ r ver').sz, none⟩) (hy3 c.w) (hy4 c.w rfl) hrm
        (by
          intro a ha
          cases ha
          rw [addr_add]
          have e : (c.ρ r ver').off + 0 * (c.ρ r ver').sz + len * P.cellsOf elem = o := by omega
          rw [e]; exact hst) (by intro e; cases e)
      have hnew := setRow_heap c.w (c.ρ r ver').blk cs0 (cs0.toList.take o ++ ys ++ cs0.toList.drop (o + ys.length)).toArray T (0, 0) hblk
      generalize hw' : c.w.setRow (c.ρ r ver').blk (cs0.toList.take o ++ ys ++ cs0.toList.drop (o + ys.length)).toArray = w' at hnew hrun
      have hother : ∀ b, b ≠ (c.ρ r ver').blk → w'.heap[b]? = c.w.heap[b]? := by intro b hb; rw [← hw']; exact setRow_other _ _ _ _ hb
      have hsize : c.w.heap.size = w'.heap.size := by rw [← hw']; exact (setRow_size _ _ _).symm
      have hni := hk'.mu rfl
      have hle : Le c (c.put r (ver' + 1) (c.ρ r ver') w') := Le.put hf fun b hb => hother b (fun e => hni (e ▸ hb))
      have hget := seg_get cs0 o ys hpl
      have hmem : RelE (c.put r (ver' + 1) (c.ρ r ver') w') (c.ρ r ver').blk (P.cellsOf elem) (c.ρ r ver').off (l.take len ++ new) := by
        refine RelE_iff.2 fun k e he' => ?_
        rw [List.getElem?_append] at he'
        have hlt : (l.take len).length = len := by simp; omega
        rw [hlt] at he'
        split at he'
        · next hkl =>
          rw [List.getElem?_take, if_pos hkl] at he'
          obtain ⟨e1, e2⟩ := RelE_iff.1 hk'.mem _ _ he'
          refine ⟨e1, RelM_iff.2 fun j x hx => ?_⟩
          have hjl : j < e.length := (List.getElem?_eq_some_iff.1 hx).1
          obtain ⟨z, hz, hrz, hz1⟩ := RelM_iff.1 e2 _ _ hx
          rw [cell_of_block hblk] at hz
          refine ⟨z, ?_, hrz.mono hle, hz1⟩
          show w'.cell? _ = _
          have hm2 : (k + 1) * P.cellsOf elem ≤ len * P.cellsOf elem := Nat.mul_le_mul_right _ hkl
          rw [Nat.add_mul] at hm2
          rw [cell_of_block hnew, hget, if_neg (by omega)]
          exact hz
        · next hkl =>
          refine ⟨hnl e (List.mem_of_getElem? he'), RelM_iff.2 fun j x hx => ?_⟩
          have hjl : j < e.length := (List.getElem?_eq_some_iff.1 hx).1
          have hel := hnl e (List.mem_of_getElem? he')
          have hfg := flatten_get hnl he' hx
          obtain ⟨z, hz, hrz⟩ := hy1.get hfg
          refine ⟨z, ?_, hrz.mono hle, all_get hy2 hfg⟩
          show w'.cell? _ = _
          have hzl : (k - len) * P.cellsOf elem + j < ys.length := (List.getElem?_eq_some_iff.1 hz).1
          have hks : k * P.cellsOf elem = len * P.cellsOf elem + (k - len) * P.cellsOf elem := by rw [← Nat.add_mul]; congr 1; omega
          rw [cell_of_block hnew, hget, if_pos (by omega), ← hz]
          congr 1; omega
      obtain ⟨g1, g2⟩ := hh.put (ri := c.ρ r ver') (w' := w') hr hf hvb (fun b _ hb => hother b hb) (Nat.le_of_eq hsize) (.inr rfl) hszρ ⟨_, T, hnew, by rw [seg_size _ _ _ hpl]; exact hfit⟩
        (by simp; omega) hmem hrf
      refine ⟨_, _, _, hrun, rfl, g2, g1, ?_, ?_⟩
      · exact hB.put hh hr (fun b _ hb => hother b hb) (Nat.le_of_eq hsize) (.inr rfl) (by rw [← hw']; rfl) (by rw [← hw']; rfl) (by rw [← hw']; rfl) (fun a h => frozen_of hother hnew a h)
      · refine ⟨.inr ⟨rfl, rfl⟩, by rw [c.put_self]; omega, _, cap', rfl, by rw [c.put_self]; omega, .inr (by rw [c.put_self])⟩
    · obtain ⟨os, ho1, ho2, ho3⟩ : ∃ os : List Value, RelL c (l.take len).flatten os ∧ (l.take len).flatten.all one = true ∧ (Builtin.firstCells i.size len (.slice a len cap')).run P c.w.drew = .ok os.toArray c.w.drew := by
        by_cases hl0 : len = 0
        · subst hl0
          refine ⟨[], by simp [RelL], by simp, ?_⟩
          cases a <;> simp [Builtin.firstCells, loadCells, loadCellsFrom]
        · have hlt : (l.take len).length = len := by simp; omega
          obtain ⟨os, k1, k2, k3, k4⟩ := elems_sound (P := P) (l := l.take len) hs0 hh (by
            simp only [elemsOf, readElems, hr]
            rw [if_pos (by constructor <;> first | trivial | omega)]
            simp [slice]) (allLen_iff.2 htk) (by intro e; rw [e] at hlt; simp at hlt; omega)
          rw [hlt] at k4
          exact ⟨os, k1, k2, by rw [← hsi]; exact k4 c.w.drew rfl⟩
      have hlt : (l.take len).length = len := by simp; omega
      have hol : os.length = len * P.cellsOf elem := by rw [ho1.length, length_flatten_of htk, hlt]
      obtain ⟨newCap, hnc, hrun⟩ := run_append_new' (P := P) (ty := ty) hu hu1 hk hi hv (w := c.w) (hy3 c.w) ho3 (by rw [← hsi]; exact hy4 c.w.drew rfl) (by omega) (by rw [← hbi]; exact hr1) hr2
      obtain ⟨g1, g2, g3⟩ := fresh_sound (cs := os.toArray ++ ys.toArray ++ Builtin.zeroCells v.cells (newCap - (len + new.length))) (T := elem)
        (w' := c.w.drew.alloc (.cells (os.toArray ++ ys.toArray ++ Builtin.zeroCells v.cells (newCap - (len + new.length))) elem)) (ver := ver' + 1) (sz := P.cellsOf elem) (cap := newCap) (l := l.take len ++ new) (rf := addNew rf (refsE new))
        hh hB hr hf hvb rfl rfl rfl rfl (by simp; omega)
        (by
          simp only [Array.size_append, List.size_toArray, size_zeroCells, hsz, hol, hyl, ← Nat.add_mul]
          exact Nat.mul_le_mul_right _ (by omega))
        (elems_cells (by intro e he; rcases List.mem_append.1 he with he | he; exact htk e he; exact hnl e he) (ys := os ++ ys) (by rw [List.flatten_append]; exact ho1.append hy1)
          (by rw [List.flatten_append, List.all_append, ho2, hy2]; rfl)
          (by
            intro j y hj
            have hjl : j < (os ++ ys).length := (List.getElem?_eq_some_iff.1 hj).1
            simp only [List.length_append] at hjl
            rw [Array.getElem?_append_left (by simp; omega)]
            rw [show os.toArray ++ ys.toArray = (os ++ ys).toArray by simp]
            simpa using hj))
        hrf
      refine ⟨_, _, _, hrun, rfl, g1, g2, g3, ?_⟩
      refine ⟨.inr ⟨rfl, rfl⟩, by rw [c.put_self]; simpa using hnc, some ⟨c.w.heap.size, 0, none⟩, newCap, rfl, by rw [c.put_self]; simp, .inr (by rw [c.put_self]; simp)⟩
  · cases ha
end Go.AM
