/- A part of the proof that the machine of AM is sound: each lemma is under its own hypotheses alone. -/
import Derived.Test.YtnehdpiiijbhhaaAMHeap
set_option autoImplicit false
set_option linter.unusedVariables false
set_option linter.unusedSimpArgs false
namespace Go.AM
open Go Go.RowKit

variable {P : Program}

theorem info_of_underlying {t : TypeId} {d : TypeDesc} (h : P.underlying t = some d) : ∃ i, P.info? t = some i := by
  unfold Program.underlying at h
  cases hi : P.info? t with
  | none => rw [hi] at h; cases h
  | some i => exact ⟨i, rfl⟩

theorem cellsOf_info {t : TypeId} {i : TypeInfo} (h : P.info? t = some i) : P.cellsOf t = i.size := by simp [Program.cellsOf, h]
theorem bytesOf_info {t : TypeId} {i : TypeInfo} (h : P.info? t = some i) : P.bytesOf t = i.bytes := by simp [Program.bytesOf, h]

theorem run_sizeOf {t : TypeId} {d : TypeDesc} (h : P.underlying t = some d) (w : World) : (sizeOf t).run P w = .ok (P.cellsOf t) w := by
  obtain ⟨i, hi⟩ := info_of_underlying h
  simp [sizeOf, typeInfo, hi, cellsOf_info hi]

theorem run_isAgg {t : TypeId} {b : Bool} (h : aggT P t = some b) (w : World) : (isAgg t).run P w = .ok b w := by
  unfold aggT at h
  cases hu : P.underlying t with
  | none => simp [hu] at h
  | some d =>
    simp only [isAgg, Sem.run_bind, run_underlying hu, Result.andThen_ok]
    cases d <;> simp [hu] at h <;> subst h <;> rfl

theorem aggT_underlying {t : TypeId} {b : Bool} (h : aggT P t = some b) : ∃ d, P.underlying t = some d := by
  unfold aggT at h
  cases hu : P.underlying t with
  | none => simp [hu] at h
  | some d => exact ⟨d, rfl⟩

/-- A variable, or a part of one, is read. -/
theorem run_loadVar_part {c : Ctx} {t : TypeId} {e : List AV} {off b o : Nat} {x : AV} (h : part P t e off = some x) (hm : RelM c b o e) (a : Nat) (ha : a = o + off) :
    ∃ y, (loadVar t ⟨b, a, none⟩).run P c.w = .ok y c.w ∧ Rel c x y := by
  subst ha
  unfold part at h
  cases hg : aggT P t with
  | none => simp [hg] at h
  | some g =>
    obtain ⟨d, hd⟩ := aggT_underlying hg
    cases g with
    | true =>
      simp only [hg] at h
      split at h
      · cases h
        obtain ⟨ys, h1, h2, h3⟩ := run_load_row (P := P) (hm.slice off (P.cellsOf t)) (length_slice e off _ (by assumption))
        refine ⟨.agg ys.toArray, ?_, ys, rfl, h2, ?_⟩
        · simp [loadVar, run_isAgg hg, run_sizeOf hd, h3]
        · rw [List.all_eq_true]
          intro z hz
          obtain ⟨i, hi⟩ := List.mem_iff_getElem?.1 hz
          obtain ⟨_, _, _, h⟩ := RelM_iff.1 (hm.slice off (P.cellsOf t)) _ _ hi
          exact h
      · cases h
    | false =>
      simp only [hg] at h
      obtain ⟨y, hy, hr, _⟩ := RelM_iff.1 hm off x h
      exact ⟨y, by simp [loadVar, run_isAgg hg, hy], hr⟩

/-- The same of a value. -/
theorem run_part {c : Ctx} {t : TypeId} {e : List AV} {off : Nat} {x : AV} {ys : List Value} (h : part P t e off = some x) (hl : RelL c e ys) (ho : e.all one = true) (w : World) :
    ∃ y, (Go.part t ys.toArray off).run P w = .ok y w ∧ Rel c x y := by
  unfold part at h
  cases hg : aggT P t with
  | none => simp [hg] at h
  | some g =>
    obtain ⟨d, hd⟩ := aggT_underlying hg
    cases g with
    | true =>
      simp only [hg] at h
      split at h
      · cases h
        refine ⟨.agg (slice ys off (P.cellsOf t)).toArray, ?_, _, rfl, hl.slice off (P.cellsOf t), all_slice ho _ _⟩
        have e : ys.toArray.extract off (off + P.cellsOf t) = (slice ys off (P.cellsOf t)).toArray := by
          apply Array.ext'
          simp [slice, List.extract_eq_take_drop]
        simp [Go.part, run_isAgg hg, run_sizeOf hd, slice]
      · cases h
    | false =>
      simp only [hg] at h
      obtain ⟨y, hy, hr⟩ := hl.get h
      exact ⟨y, by simp [Go.part, run_isAgg hg, hy], hr⟩

theorem rel_ofCell (c : Ctx) (x : Value) : Rel c (ofCell x) x := by
  unfold ofCell
  split <;> simp [Rel, plain, RelL, refsE]

theorem relL_ofCells (c : Ctx) : ∀ l : List Value, RelL c (l.map ofCell) l
  | [] => rfl
  | x :: l => ⟨x, l, rfl, rel_ofCell c x, relL_ofCells c l⟩

theorem zeroCells_sound {t : TypeId} {z : List AV} (h : zeroCells P t = some z) :
    ∃ i v, P.info? t = some i ∧ i.zero = some v ∧ z = v.cells.toList.map ofCell ∧ z.all one = true ∧ refsL z = [] := by
  unfold zeroCells at h
  cases hi : P.info? t with
  | none => simp [hi] at h
  | some i =>
    cases hz : i.zero with
    | none => simp [hi, hz] at h
    | some v =>
      simp only [hi, hz] at h
      split at h
      · cases h
        refine ⟨i, v, rfl, hz, rfl, by assumption, ?_⟩
        refine eq_nil_of_sub (m := []) (fun r hr => ?_) rfl
        obtain ⟨x, hx, hr⟩ := of_mem_refsL hr
        obtain ⟨u, _, rfl⟩ := List.mem_map.1 hx
        revert hr
        unfold ofCell
        split <;> simp [refs, refsL]
      · cases h

theorem run_zeroValue {t : TypeId} {i : TypeInfo} {v : Value} (hi : P.info? t = some i) (hz : i.zero = some v) (w : World) : (zeroValue t).run P w = .ok v w := by
  simp [zeroValue, typeInfo, hi, hz]
end Go.AM
namespace Go.AM
open Go Go.RowKit
variable {P : Program}

theorem load_sound {c : Ctx} {h : Heap} {t : TypeId} {p x : AV} {f : FP} {v : Value} (hl : loadAV P h t p = some (x, f)) (hp : Rel c p v) (hh : HR c h) :
    ∃ y, (Instr.loadAt t v).run P c.w = .ok y c.w ∧ Rel c x y := by
  cases p <;> simp [loadAV] at hl
  case ptr r ver i off =>
    obtain ⟨hv, rfl⟩ := hp
    split at hl
    · next ver' ro sz rf l hr =>
      split at hl
      · next hver =>
        subst hver
        split at hl
        · next e he =>
          split at hl
          · next y hy =>
            cases hl
            have hk := hh.arr _ _ _ _ _ _ hr
            obtain ⟨h1, h2⟩ := RelE_iff.1 hk.mem _ _ he
            obtain ⟨u, hu, hru⟩ := run_loadVar_part (P := P) hy h2 ((c.ρ r ver').off + i * (c.ρ r ver').sz + off) (by rw [hk.hsz])
            exact ⟨u, by simp [Instr.loadAt, Instr.sureAddr, hu], hru⟩
          · cases hl
        · cases hl
      · cases hl
    · cases hl
  case imm l =>
    obtain ⟨b, o, rfl, hb, hc, hm⟩ := hp
    split at hl
    · next y hy =>
      cases hl
      obtain ⟨u, hu, hru⟩ := run_loadVar_part (P := P) hy hm o rfl
      exact ⟨u, by simp [Instr.loadAt, Instr.sureAddr, hu], hru⟩
    · cases hl

theorem setRow_other (w : World) (g k : Nat) (cs : Array Value) (h : k ≠ g) : (w.setRow g cs).heap[k]? = w.heap[k]? := by
  unfold World.setRow
  simp only [Array.getElem?_modify]
  rw [if_neg (by omega)]

theorem setRow_size (w : World) (g : Nat) (cs : Array Value) : (w.setRow g cs).heap.size = w.heap.size := by simp [World.setRow]

theorem length_setSeg (e : List AV) (off : Nat) (cs : List AV) (h : off + cs.length ≤ e.length) : (setSeg e off cs).length = e.length := by
  unfold setSeg; simp; omega

theorem get_setSeg (e : List AV) (off : Nat) (cs : List AV) (h : off + cs.length ≤ e.length) (i : Nat) :
    (setSeg e off cs)[i]? = if off ≤ i ∧ i < off + cs.length then cs[i - off]? else e[i]? := by
  unfold setSeg
  rw [List.getElem?_append]
  simp only [List.length_take]
  have hm : min off e.length = off := by omega
  rw [hm]
  by_cases h1 : i < off
  · rw [if_pos h1, if_neg (by omega), List.getElem?_take, if_pos h1]
  · rw [if_neg h1, List.getElem?_append]
    by_cases h2 : i - off < cs.length
    · rw [if_pos h2, if_pos (by omega)]
    · rw [if_neg h2, if_neg (by omega), List.getElem?_drop]
      congr 1; omega

/-- Two places of a row of elements. -/
theorem place_ne {i k sz j off n : Nat} (hne : k ≠ i) (hj : j < sz) (hn : off + n ≤ sz) : ¬ (i * sz + off ≤ k * sz + j ∧ k * sz + j < i * sz + off + n) := by
  rintro ⟨h1, h2⟩
  rcases Nat.lt_or_gt_of_ne hne with h | h
  · have : (k + 1) * sz ≤ i * sz := Nat.mul_le_mul_right _ h
    rw [Nat.add_mul] at this
    omega
  · have : (i + 1) * sz ≤ k * sz := Nat.mul_le_mul_right _ h
    rw [Nat.add_mul] at this
    omega

theorem store_sound {B : Base} {c : Ctx} {h h' : Heap} {t : TypeId} {p x : AV} {f : FP} {v u : Value} (hs : storeAV P h t p x = some (h', f)) (hp : Rel c p v) (hx : Rel c x u)
    (hh : HR c h) (hB : BR B c h) {d : TypeDesc} (hd : P.underlying t = some d) :
    ∃ w', (Instr.storeAt t v u).run P c.w = .ok () w' ∧ Le c { c with w := w' } ∧ HR { c with w := w' } h' ∧ BR B { c with w := w' } h' := by
  unfold storeAV at hs
  split at hs
  case h_2 => cases hs
  case h_1 r ver i off cs hc =>
  obtain ⟨hv, rfl⟩ := hp
  split at hs
  case h_2 => cases hs
  case h_1 ver' sz rf l hr =>
  split at hs
  case isFalse => cases hs
  case isTrue hver =>
  subst hver
  split at hs
  case h_2 => cases hs
  case h_1 e he =>
  split at hs
  case isFalse => cases hs
  case isTrue hlen =>
  obtain ⟨hlen1, hlen2⟩ := hlen
  cases hs
  have hk := hh.arr _ _ _ _ _ _ hr
  obtain ⟨hel, hem⟩ := RelE_iff.1 hk.mem _ _ he
  obtain ⟨cs0, T, hblk, hfit⟩ := hk.blk
  obtain ⟨hcl, hone⟩ := cells_value hx hc
  have hcap := hk.cap
  have hi : i < l.length := (List.getElem?_eq_some_iff.1 he).1
  have hys : u.cells.toList.length = cs.length := hcl.length
  have hsz := hk.hsz
  -- the place
  have hmul : (i + 1) * sz ≤ (c.ρ r ver').cap * sz := Nat.mul_le_mul_right _ (by omega)
  rw [Nat.add_mul] at hmul
  have hpl : (c.ρ r ver').off + i * sz + off + u.cells.toList.length ≤ cs0.size := by omega
  generalize ho : (c.ρ r ver').off + i * sz + off = o at hpl
  have honeV : ∀ y ∈ u.cells.toList, y.oneCell' = true := by
    intro y hy
    obtain ⟨j, hj⟩ := List.mem_iff_getElem?.1 hy
    have hjl : j < cs.length := by have := (List.getElem?_eq_some_iff.1 hj).1; omega
    obtain ⟨y', hy', hr'⟩ := hcl.get (List.getElem?_eq_getElem hjl)
    rw [hj] at hy'; cases hy'
    exact one_value hr' (all_get hone (List.getElem?_eq_getElem hjl))
  have hst := run_storeCells_at P (c.ρ r ver').blk o T u.cells.toList 0 cs0 c.w hblk (by simpa using hpl) honeV
  simp only [Nat.add_zero] at hst
  refine ⟨c.w.setRow (c.ρ r ver').blk (cs0.toList.take o ++ u.cells.toList ++ cs0.toList.drop (o + u.cells.toList.length)).toArray, ?_, ?_⟩
  · have e1 : u.cells.size = P.cellsOf t := by rw [← hlen1, ← hys]; simp
    rw [hsz, ho]
    simp [Instr.storeAt, Instr.sureAddr, storeVar, run_sizeOf hd, e1, hst]
  · have hnew := setRow_heap c.w (c.ρ r ver').blk cs0 (cs0.toList.take o ++ u.cells.toList ++ cs0.toList.drop (o + u.cells.toList.length)).toArray T (0, 0) hblk
    generalize hw' : c.w.setRow (c.ρ r ver').blk (cs0.toList.take o ++ u.cells.toList ++ cs0.toList.drop (o + u.cells.toList.length)).toArray = w' at hnew
    have hother : ∀ b, b ≠ (c.ρ r ver').blk → w'.heap[b]? = c.w.heap[b]? := by intro b hb; rw [← hw']; exact setRow_other _ _ _ _ hb
    have hsize : c.w.heap.size = w'.heap.size := by rw [← hw']; exact (setRow_size _ _ _).symm
    have hni := hk.mu rfl
    have hle : Le c { c with w := w' } := ⟨fun _ _ hv => ⟨hv, rfl⟩, fun b hb => ⟨hb, hother b (fun e => hni (e ▸ hb))⟩⟩
    have hget := seg_get cs0 o u.cells.toList hpl
    have hmem : RelE { c with w := w' } (c.ρ r ver').blk sz (c.ρ r ver').off (l.set i (setSeg e off cs)) := by
      refine RelE_iff.2 fun k e' he' => ?_
      rcases get_set_some he' with ⟨rfl, _, rfl⟩ | ⟨hne, he'⟩
      · refine ⟨by rw [length_setSeg _ _ _ hlen2, hel], RelM_iff.2 fun j y hy => ?_⟩
        rw [get_setSeg _ _ _ hlen2] at hy
        rw [cell_of_block hnew, hget]
        split at hy
        · next hj =>
          obtain ⟨z, hz, hrz⟩ := hcl.get hy
          refine ⟨z, ?_, hrz.mono hle, all_get hone hy⟩
          rw [if_pos (by omega), ← hz]
          congr 1; omega
        · next hj =>
          have hjl : j < e.length := (List.getElem?_eq_some_iff.1 hy).1
          obtain ⟨z, hz, hrz, h1⟩ := RelM_iff.1 hem _ _ hy
          rw [cell_of_block hblk] at hz
          exact ⟨z, by rw [if_neg (by omega)]; exact hz, hrz.mono hle, h1⟩
      · obtain ⟨hel', hem'⟩ := RelE_iff.1 hk.mem _ _ he'
        refine ⟨hel', RelM_iff.2 fun j y hy => ?_⟩
        have hjl : j < e'.length := (List.getElem?_eq_some_iff.1 hy).1
        obtain ⟨z, hz, hrz, h1⟩ := RelM_iff.1 hem' _ _ hy
        rw [cell_of_block hblk] at hz
        refine ⟨z, ?_, hrz.mono hle, h1⟩
        rw [cell_of_block hnew, hget, if_neg ?_]
        · exact hz
        · have := place_ne (off := off) (n := cs.length) (i := i) (k := k) (sz := sz) (j := j) (Ne.symm hne) (by omega) (by omega)
          omega
    have hrf : ∀ q ∈ refsE (l.set i (setSeg e off cs)), q ∈ addNew rf (refsL cs) := by
      intro q hq
      rw [mem_addNew]
      obtain ⟨e', he', hq⟩ := of_mem_refsE hq
      rcases List.mem_or_eq_of_mem_set he' with he' | rfl
      · exact .inl (hk.hrf q (mem_refsE he' hq))
      · obtain ⟨y, hy, hq⟩ := of_mem_refsL hq
        unfold setSeg at hy
        rcases List.mem_append.1 hy with hy | hy
        · exact .inl (hk.hrf q (mem_refsE (List.mem_of_getElem? he) (mem_refsL (List.mem_of_mem_take hy) hq)))
        · rcases List.mem_append.1 hy with hy | hy
          · exact .inr (mem_refsL hy hq)
          · exact .inl (hk.hrf q (mem_refsE (List.mem_of_getElem? he) (mem_refsL (List.mem_of_mem_drop hy) hq)))
    obtain ⟨hr1, hr2⟩ := hh.store hr hother hsize ⟨_, T, hnew, by rw [seg_size _ _ _ hpl]; exact hfit⟩ (by simpa using hcap) hmem hrf
    refine ⟨hr2, hr1, ?_⟩
    exact hB.store hr hother hsize (by rw [← hw']; rfl) (by rw [← hw']; rfl) (by rw [← hw']; rfl) (fun a h => frozen_of hother hnew a h)
end Go.AM
namespace Go.AM
open Go Go.RowKit
variable {P : Program}

/-- A region in a new block. -/
theorem fresh_sound {B : Base} {c : Ctx} {H : Heap} (hh : HR c H) (hB : BR B c H) {r ver : Nat} {g0 : Reg} (h0 : H[r]? = some g0) (hf : ¬ c.V r ver) (hvb : ∀ v, c.V r v → v ≤ ver)
    {cs : Array Value} {T : TypeId} {w' : World} (hw : w'.heap = c.w.heap.push (.cells cs T)) (hos : w'.os = c.w.os) (htape : w'.tape = c.w.tape) (hout : w'.output = c.w.output)
    {sz cap : Nat} {l : List (List AV)} {rf : List Nat} (hcap : l.length ≤ cap) (hfit : cap * sz ≤ cs.size)
    (hl : ∀ k e, l[k]? = some e → e.length = sz ∧ ∀ j x, e[j]? = some x → one x = true ∧ ∃ y, cs[k * sz + j]? = some y ∧ Rel c x y)
    (hrf : ∀ q ∈ refsE l, q ∈ rf) :
    Le c (c.put r ver ⟨c.w.heap.size, 0, sz, cap⟩ w') ∧ HR (c.put r ver ⟨c.w.heap.size, 0, sz, cap⟩ w') (H.set r (.arr ver false sz rf l)) ∧
      BR B (c.put r ver ⟨c.w.heap.size, 0, sz, cap⟩ w') (H.set r (.arr ver false sz rf l)) := by
  have hold : ∀ b, b < c.w.heap.size → w'.heap[b]? = c.w.heap[b]? := by
    intro b hb; rw [hw, Array.getElem?_push, if_neg (by omega)]
  have hnew : w'.heap[c.w.heap.size]? = some (.cells cs T) := by rw [hw, Array.getElem?_push, if_pos rfl]
  have hsize : c.w.heap.size ≤ w'.heap.size := by rw [hw]; simp
  have hle : Le c (c.put r ver ⟨c.w.heap.size, 0, sz, cap⟩ w') := Le.put hf fun b hb => hold b (hh.im b hb)
  have hput := hh.put (ri := ⟨c.w.heap.size, 0, sz, cap⟩) (rf := rf) (l := l) (sz := sz) h0 hf hvb (fun b hb _ => hold b hb) hsize (.inl (Nat.le_refl _)) rfl
    ⟨cs, T, hnew, by simpa using hfit⟩ hcap
    (RelE_iff.2 fun k e he => by
      obtain ⟨h1, h2⟩ := hl k e he
      refine ⟨h1, RelM_iff.2 fun j x hx => ?_⟩
      obtain ⟨h3, y, hy, hr⟩ := h2 j x hx
      refine ⟨y, ?_, hr.mono hle, h3⟩
      show w'.cell? _ = _
      rw [cell_of_block hnew, ← hy]
      congr 1; simp) hrf
  exact ⟨hput.2, hput.1, hB.put hh h0 (fun b hb _ => hold b hb) hsize (.inl (Nat.le_refl _)) hos htape hout (fun a h => frozen_of (fun b hb => by rw [hw, Array.getElem?_push, if_neg hb]) hnew a h)⟩

theorem HR.no_v {c : Ctx} {H : Heap} (hh : HR c H) {slot : Nat} (h0 : H[slot]? = some .dead) (v : Nat) : ¬ c.V slot v := by
  intro hv
  obtain ⟨g, hg, hb⟩ := hh.vb slot v hv
  rw [h0] at hg; cases hg
  exact hb

theorem newVar_sound {B : Base} {c : Ctx} {H H' : Heap} (hh : HR c H) (hB : BR B c H) {slot : Nat} (h0 : H[slot]? = some .dead) {cs : List AV} {x : AV} {f : FP} {T : TypeId} {u : Value}
    (hn : newVar H slot cs = .val x H' f) (hc : RelL c cs u.cells.toList) (ho : cs.all one = true) :
    ∃ w' c', (Go.newVar T u).run P c.w = .ok (⟨c.w.heap.size, 0, none⟩) w' ∧ c'.w = w' ∧ Le c c' ∧ HR c' H' ∧ BR B c' H' ∧ Rel c' x (.pointer (some ⟨c.w.heap.size, 0, none⟩)) := by
  unfold AM.newVar at hn
  cases hn
  have hlen := hc.length
  obtain ⟨h1, h2, h3⟩ := fresh_sound (cs := u.cells) (T := T) (w' := c.w.alloc (.cells u.cells T)) (ver := 0) (sz := cs.length) (cap := 1) (l := [cs]) (rf := addNew [] (refsL cs))
    hh hB h0 (hh.no_v h0 0) (fun v hv => absurd hv (hh.no_v h0 v)) rfl rfl rfl rfl (by simp) (by simpa using Nat.le_of_eq hlen.symm)
    (by
      intro k e he
      cases k with
      | zero =>
        simp at he; subst he
        refine ⟨rfl, fun j x hx => ⟨all_get ho hx, ?_⟩⟩
        obtain ⟨y, hy, hr⟩ := hc.get hx
        exact ⟨y, by simpa using hy, hr⟩
      | succ k => simp at he)
    (by intro q hq; rw [mem_addNew]; right; simpa [refsE] using hq)
  refine ⟨_, _, ?_, rfl, h1, h2, h3, ?_⟩
  · simp [Go.newVar, newRow]; rfl
  · refine ⟨.inr ⟨rfl, rfl⟩, ?_⟩
    rw [c.put_self]
    simp

theorem alloc_sound {B : Base} {c : Ctx} {H H' : Heap} (hh : HR c H) (hB : BR B c H) {slot : Nat} (h0 : H[slot]? = some .dead) {x : AV} {f : FP} {T : TypeId}
    (hn : opAlloc P slot H T = some (.val x H' f)) :
    ∃ y w' c', (Instr.alloc T true (.tuple #[])).run P c.w = .ok y w' ∧ c'.w = w' ∧ Le c c' ∧ HR c' H' ∧ BR B c' H' ∧ Rel c' x y := by
  unfold opAlloc at hn
  split at hn
  · next z hz =>
    obtain ⟨i, v, hi, hv, rfl, hone, hcl⟩ := zeroCells_sound hz
    obtain ⟨w', c', h1, h2, h3, h4, h5, h6⟩ := newVar_sound (P := P) (T := T) (u := v) hh hB h0 (Option.some.inj hn) (relL_ofCells c _) hone
    exact ⟨_, w', c', by simp [Instr.alloc, run_zeroValue hi hv, h1], h2, h3, h4, h5, h6⟩
  · cases hn

theorem box_sound {B : Base} {c : Ctx} {H H' : Heap} (hh : HR c H) (hB : BR B c H) {slot : Nat} (h0 : H[slot]? = some .dead) {x z : AV} {u : Value} {f : FP} {T : TypeId}
    (hn : opBox slot H z = some (.val x H' f)) (hz : Rel c z u) :
    ∃ y w' c', (Instr.box T u).run P c.w = .ok y w' ∧ c'.w = w' ∧ Le c c' ∧ HR c' H' ∧ BR B c' H' ∧ Rel c' x y := by
  unfold opBox at hn
  split at hn
  · next cs hcs =>
    obtain ⟨hcl, hone⟩ := cells_value hz hcs
    obtain ⟨w', c', h1, h2, h3, h4, h5, h6⟩ := newVar_sound (P := P) (T := T) (u := u) hh hB h0 (Option.some.inj hn) hcl hone
    exact ⟨_, w', c', by simp [Instr.box, h1], h2, h3, h4, h5, h6⟩
  · cases hn
end Go.AM
namespace Go.AM
open Go Go.RowKit
variable {P : Program}

theorem run_sizeOf' {t : TypeId} (h : (P.info? t).isSome = true) (w : World) : (sizeOf t).run P w = .ok (P.cellsOf t) w := by
  obtain ⟨i, hi⟩ := Option.isSome_iff_exists.1 h
  simp [sizeOf, typeInfo, hi, cellsOf_info hi]

theorem run_listMapM {α β : Type} (f : α → Sem β) (g : α → β) (w : World) : ∀ l : List α, (∀ x ∈ l, (f x).run P w = .ok (g x) w) → (l.mapM f).run P w = .ok (l.map g) w
  | [], _ => by simp
  | x :: l, h => by
    have h1 := h x (by simp)
    have h2 := run_listMapM f g w l (fun y hy => h y (by simp [hy]))
    simp [List.mapM_cons, h1, h2]

theorem run_arrayMapM {α β : Type} (f : α → Sem β) (g : α → β) (w : World) (l : Array α) (h : ∀ x ∈ l.toList, (f x).run P w = .ok (g x) w) : (l.mapM f).run P w = .ok (l.map g) w := by
  rw [Array.mapM_eq_mapM_toList]
  simp only [Sem.run_map, run_listMapM f g w l.toList h, Result.andThen_ok]
  congr 1
  apply Array.ext'
  simp

theorem fill_fold (off : Nat) : ∀ (v : List Value) (k : Nat) (cs : Array Value), off + k + v.length ≤ cs.size →
    ((v.zipIdx k).foldl (fun cs p => cs.setIfInBounds (off + p.2) p.1) cs).toList = cs.toList.take (off + k) ++ (v ++ cs.toList.drop (off + k + v.length))
  | [], k, cs, _ => by simp
  | x :: v, k, cs, h => by
    simp only [List.length_cons] at h
    rw [List.zipIdx_cons, List.foldl_cons, fill_fold off v (k + 1) _ (by simp; omega)]
    simp only [Array.toList_setIfInBounds]
    apply List.ext_getElem?
    intro j
    have hm : min (off + (k + 1)) cs.size = off + (k + 1) := by omega
    have hm' : min (off + k) cs.size = off + k := by omega
    simp only [List.getElem?_append, List.length_take, List.length_set, Array.length_toList, hm, hm', List.getElem?_take, List.getElem?_drop, List.length_cons]
    by_cases h1 : j < off + k
    · rw [if_pos (by omega), if_pos (by omega), if_pos h1, if_pos h1, List.getElem?_set_ne (by omega)]
    · rw [if_neg h1]
      by_cases h2 : j = off + k
      · subst h2
        rw [if_pos (by omega), if_pos (by omega), List.getElem?_set_self (by simp; omega), if_pos (by omega)]
        simp
      · rw [if_neg (by omega)]
        have e : j - (off + k) = j - (off + (k + 1)) + 1 := by omega
        by_cases h3 : j - (off + (k + 1)) < v.length
        · rw [if_pos h3, if_pos (by omega), e, List.getElem?_cons_succ]
        · rw [if_neg h3, if_neg (by omega), List.getElem?_set_ne (by omega)]
          congr 1; omega

theorem fill_seg (off : Nat) (v cs : Array Value) (h : off + v.size ≤ cs.size) :
    (v.zipIdx.foldl (fun cs (p : Value × Nat) => cs.setIfInBounds (off + p.2) p.1) cs).toList = cs.toList.take off ++ (v.toList ++ cs.toList.drop (off + v.size)) := by
  have := fill_fold off v.toList 0 cs (by simpa using h)
  rw [← Array.foldl_toList, Array.toList_zipIdx]
  simpa using this

theorem RelL.setSeg {c : Ctx} {cs part : List AV} {zs ys : List Value} {off : Nat} (h : RelL c cs zs) (hp : RelL c part ys) :
    RelL c (setSeg cs off part) (zs.take off ++ (ys ++ zs.drop (off + ys.length))) := by
  unfold AM.setSeg
  rw [hp.length]
  exact (h.take off).append (hp.append (h.drop _))

theorem all_setSeg {cs part : List AV} {off : Nat} (h : cs.all one = true) (hp : part.all one = true) : (setSeg cs off part).all one = true := by
  unfold AM.setSeg
  rw [List.all_eq_true] at *
  intro x hx
  rcases List.mem_append.1 hx with hx | hx
  · exact h x (List.mem_of_mem_take hx)
  · rcases List.mem_append.1 hx with hx | hx
    · exact hp x hx
    · exact h x (List.mem_of_mem_drop hx)

/-- Parts with their places. -/
def RelP (c : Ctx) : List (Nat × AV) → List (Nat × Value) → Prop
  | [], ys => ys = []
  | (i, x) :: l, ys => ∃ y ys', ys = (i, y) :: ys' ∧ Rel c x y ∧ RelP c l ys'

theorem fill_sound {c : Ctx} {place place' : Nat → Option (Nat × Nat)} (hpl : ∀ i p, place i = some p → place' i = some p) :
    ∀ (ps : List (Nat × AV)) (ys : List (Nat × Value)) (cs cs' : List AV) (zs : Array Value), RelP c ps ys → RelL c cs zs.toList → cs.all one = true → fillAV place cs ps = some cs' →
      ∃ zs', Instr.fill place' zs ys = some zs' ∧ RelL c cs' zs'.toList ∧ cs'.all one = true
  | [], ys, cs, cs', zs, hp, hl, ho, hf => by
    simp only [RelP] at hp; subst hp
    simp only [fillAV] at hf; cases hf
    exact ⟨zs, rfl, hl, ho⟩
  | (i, x) :: ps, ys, cs, cs', zs, hp, hl, ho, hf => by
    obtain ⟨y, ys', rfl, hx, hp⟩ := hp
    unfold fillAV at hf
    split at hf
    case h_2 => cases hf
    case h_1 off size c' hpi hc =>
    split at hf
    case isTrue => cases hf
    case isFalse hn =>
    simp only [not_or, Nat.not_lt, Decidable.not_not] at hn
    obtain ⟨hn1, hn2⟩ := hn
    obtain ⟨hcl, hone⟩ := cells_value hx hc
    have e1 : y.cells.size = c'.length := by rw [← hcl.length]; simp
    have e2 : zs.size = cs.length := by rw [← hl.length]; simp
    have hseg := fill_seg off y.cells zs (by omega)
    obtain ⟨zs', h1, h2, h3⟩ := fill_sound hpl ps ys' (AM.setSeg cs off c') cs' (y.cells.zipIdx.foldl (fun cs (p : Value × Nat) => cs.setIfInBounds (off + p.2) p.1) zs) hp
      (by rw [hseg]; have := hl.setSeg (off := off) hcl; simpa using this) (all_setSeg ho hone) hf
    refine ⟨zs', ?_, h2, h3⟩
    unfold Instr.fill
    rw [hpl i _ hpi]
    have hneg : ¬ ((decide (y.cells.size ≠ size) || decide (off + y.cells.size > zs.size)) = true) := by simp; omega
    simp only [if_neg hneg]
    exact h1

theorem build_sound {c : Ctx} {ty : TypeId} {ps : List (Nat × AV)} {ys : Array (Nat × Value)} {x : AV} (hb : buildAV P ty ps = some x) (hp : RelP c ps ys.toList) :
    ∃ y, (Instr.build ty ys).run P c.w = .ok y c.w ∧ Rel c x y := by
  unfold buildAV at hb
  split at hb
  · cases hb
  next z hz =>
  obtain ⟨i, v, hi, hv, rfl, hone, hcl⟩ := zeroCells_sound hz
  have hzr := relL_ofCells c v.cells.toList
  split at hb
  · next fs hu =>
    split at hb
    case isFalse => cases hb
    case isTrue hok =>
    split at hb
    case h_2 => cases hb
    case h_1 l hf =>
    cases hb
    obtain ⟨zs', h1, h2, h3⟩ := fill_sound (place' := ((fs.map fun f => (f.offset, P.cellsOf f.type))[·]?)) (fun i p h => by
      revert h
      cases hfi : fs[i]? with
      | none => simp
      | some f => simp [hfi]) _ _ _ _ v.cells hp hzr hone hf
    refine ⟨.agg zs', ?_, zs'.toList, by simp, h2, h3⟩
    have hm := run_arrayMapM (P := P) (fun f : Field => do pure (f.offset, ← sizeOf f.type)) (fun f => (f.offset, P.cellsOf f.type)) c.w fs (fun f hf' => by
      have := List.all_eq_true.1 hok f hf'
      simp [run_sizeOf' this])
    simp only [Instr.build, Sem.run_bind, run_zeroValue hi hv, Result.andThen_ok, run_underlying hu, hm]
    rw [h1]
    simp
  · next n elem hu =>
    split at hb
    case isFalse => cases hb
    case isTrue hok =>
    split at hb
    case h_2 => cases hb
    case h_1 l hf =>
    cases hb
    obtain ⟨zs', h1, h2, h3⟩ := fill_sound (place' := fun i => some (i * P.cellsOf elem, P.cellsOf elem)) (fun i p h => h) _ _ _ _ v.cells hp hzr hone hf
    refine ⟨.agg zs', ?_, zs'.toList, by simp, h2, h3⟩
    simp only [Instr.build, Sem.run_bind, run_zeroValue hi hv, Result.andThen_ok, run_underlying hu, run_sizeOf' hok]
    rw [h1]
    simp
  · cases hb
end Go.AM
namespace Go.AM
open Go Go.RowKit
variable {P : Program}

theorem flat_get {α : Type} (z : List α) (hz : z ≠ []) : ∀ (n j : Nat), ((List.replicate n z).flatten)[j]? = if j < n * z.length then z[j % z.length]? else none
  | 0, j => by simp
  | n + 1, j => by
    have hs : 0 < z.length := List.length_pos_iff.2 hz
    rw [List.replicate_succ, List.flatten_cons, List.getElem?_append, Nat.add_mul]
    by_cases h : j < z.length
    · rw [if_pos h, if_pos (by omega), Nat.mod_eq_of_lt h]
    · rw [if_neg h, flat_get z hz n]
      have e : j % z.length = (j - z.length) % z.length := by rw [Nat.mod_eq_sub_mod (by omega)]
      rw [e]
      by_cases h2 : j - z.length < n * z.length
      · rw [if_pos h2, if_pos (by omega)]
      · rw [if_neg h2, if_neg (by omega)]

theorem made_get (z : Array Value) (hz : z.size ≠ 0) (n j : Nat) : ((Array.range n).map (z[· % z.size]!))[j]? = if j < n then z[j % z.size]? else none := by
  have hm : j % z.size < z.size := Nat.mod_lt _ (by omega)
  by_cases h : j < n
  · rw [if_pos h]
    simp [h, hm, getElem!_pos]
  · rw [if_neg h]
    simp [h]

theorem made_flat (z : Array Value) (hz : z.size ≠ 0) (n : Nat) : ((Array.range (n * z.size)).map (z[· % z.size]!)).toList = (List.replicate n z.toList).flatten := by
  apply List.ext_getElem?
  intro j
  rw [Array.getElem?_toList, made_get z hz, flat_get z.toList (by intro e; apply hz; simpa using congrArg List.length e)]
  simp

theorem map_flat (n : Nat) (l : List Value) : (List.replicate n (l.map ofCell)).flatten = ((List.replicate n l).flatten).map ofCell := by
  induction n with
  | zero => rfl
  | succ n ih => rw [List.replicate_succ, List.flatten_cons, ih, List.replicate_succ, List.flatten_cons, List.map_append]

theorem chunks_get (s : Nat) : ∀ (n : Nat) (l : List AV) (k : Nat), k < n → (chunks s n l)[k]? = some (slice l (k * s) s)
  | 0, _, _, h => by omega
  | n + 1, l, 0, _ => by simp [chunks, slice]
  | n + 1, l, k + 1, h => by
    simp only [chunks, List.getElem?_cons_succ]
    rw [chunks_get s n (l.drop s) k (by omega)]
    simp only [slice, List.drop_drop]
    rw [show s + k * s = (k + 1) * s by rw [Nat.add_mul]; omega]

theorem length_chunks (s : Nat) : ∀ (n : Nat) (l : List AV), (chunks s n l).length = n
  | 0, _ => rfl
  | n + 1, l => by simp [chunks, length_chunks s n]

theorem refsE_chunks {s n : Nat} {l : List AV} {q : Nat} (h : q ∈ refsE (chunks s n l)) : q ∈ refsL l := by
  obtain ⟨e, he, hq⟩ := of_mem_refsE h
  obtain ⟨k, hk⟩ := List.mem_iff_getElem?.1 he
  have hlt : k < n := by have := (List.getElem?_eq_some_iff.1 hk).1; rwa [length_chunks] at this
  rw [chunks_get s n l k hlt] at hk
  cases hk
  exact refsL_slice hq

theorem all_flat {z : List AV} (h : z.all one = true) (n : Nat) : ((List.replicate n z).flatten).all one = true := by
  rw [List.all_eq_true] at *
  intro x hx
  obtain ⟨l, hl, hx⟩ := List.mem_flatten.1 hx
  rw [List.eq_of_mem_replicate hl] at hx
  exact h x hx

theorem length_fillAV {place : Nat → Option (Nat × Nat)} : ∀ {ps : List (Nat × AV)} {cs l : List AV}, fillAV place cs ps = some l → l.length = cs.length
  | [], cs, l, h => by simp [fillAV] at h; rw [h]
  | (i, x) :: ps, cs, l, h => by
    unfold fillAV at h
    split at h
    case h_2 => cases h
    case h_1 =>
    split at h
    case isTrue => cases h
    case isFalse hn =>
    simp only [not_or, Nat.not_lt, Decidable.not_not] at hn
    rw [length_fillAV h, length_setSeg _ _ _ (by omega)]

theorem buildSlice_sound {B : Base} {c : Ctx} {H H' : Heap} (hh : HR c H) (hB : BR B c H) {slot : Nat} (h0 : H[slot]? = some .dead) {ty : TypeId} {len : Nat} {ps : List (Nat × AV)} {ys : Array (Nat × Value)} {x : AV} {f : FP}
    (hb : opBuildSlice P slot H ty len ps = some (.val x H' f)) (hp : RelP c ps ys.toList) :
    ∃ y w' c', (Instr.buildSlice ty len ys).run P c.w = .ok y w' ∧ c'.w = w' ∧ Le c c' ∧ HR c' H' ∧ BR B c' H' ∧ Rel c' x y := by
  unfold opBuildSlice at hb
  split at hb
  case h_2 => cases hb
  case h_1 elem hu =>
  split at hb
  · cases hb
  next z hz =>
  obtain ⟨i, v, hi, hv, rfl, hone, hcl⟩ := zeroCells_sound hz
  split at hb
  case h_2 => cases hb
  case h_1 l hf =>
  split at hb
  case isFalse => cases hb
  case isTrue hcond =>
  obtain ⟨⟨hc1, hc2⟩, hc3⟩ := hcond
  cases hb
  have hsz : v.cells.size = P.cellsOf elem := by simpa using hc1
  have hne : v.cells.size ≠ 0 := by simpa using hc2
  have hz0 : (if len * P.cellsOf elem = 0 then (#[] : Array Value) else v.cells) = v.cells ∨ len = 0 := by
    by_cases h : len * P.cellsOf elem = 0
    · right
      rcases Nat.mul_eq_zero.1 h with h | h
      · exact h
      · omega
    · left; rw [if_neg h]
  have hcells : ∀ zz : Array Value, zz = (if len * P.cellsOf elem = 0 then (#[] : Array Value) else v.cells) →
      ((Array.range (len * P.cellsOf elem)).map (zz[· % zz.size]!)).toList = (List.replicate len v.cells.toList).flatten := by
    intro zz hzz
    rcases hz0 with h | h
    · rw [hzz, h, ← hsz]; exact made_flat v.cells hne len
    · subst h; simp
  obtain ⟨zs', h1, h2, h3⟩ := fill_sound (place' := fun i => some (i * P.cellsOf elem, P.cellsOf elem)) (fun i p h => h) ps ys.toList _ _
    ((Array.range (len * P.cellsOf elem)).map ((if len * P.cellsOf elem = 0 then (#[] : Array Value) else v.cells)[· % (if len * P.cellsOf elem = 0 then (#[] : Array Value) else v.cells).size]!))
    hp (by rw [hcells _ rfl, map_flat]; exact relL_ofCells c _) (all_flat hone len) hf
  have hll : l.length = len * P.cellsOf elem := by
    rw [length_fillAV hf, List.length_flatten]
    simp [hsz]
  have hzs : zs'.size = l.length := by rw [← h2.length]; simp
  obtain ⟨g1, g2, g3⟩ := fresh_sound (cs := zs') (T := elem) (w' := c.w.alloc (.cells zs' elem)) (ver := 0) (sz := (v.cells.toList.map ofCell).length) (cap := len) (l := chunks (v.cells.toList.map ofCell).length len l) (rf := addNew [] (refsL l))
    hh hB h0 (hh.no_v h0 0) (fun v hv => absurd hv (hh.no_v h0 v)) rfl rfl rfl rfl (by rw [length_chunks]; exact Nat.le_refl _)
    (by rw [hzs, hll, hc1]; exact Nat.le_refl _)
    (by
      intro k e he
      have hlt : k < len := by have := (List.getElem?_eq_some_iff.1 he).1; rwa [length_chunks] at this
      rw [chunks_get _ _ _ _ hlt] at he
      cases he
      have hmul : (k + 1) * P.cellsOf elem ≤ len * P.cellsOf elem := Nat.mul_le_mul_right _ hlt
      rw [Nat.add_mul] at hmul
      refine ⟨length_slice _ _ _ (by rw [hc1]; omega), fun j x hx => ?_⟩
      rw [slice_get] at hx
      split at hx
      · refine ⟨all_get h3 hx, ?_⟩
        obtain ⟨y, hy, hr⟩ := h2.get hx
        exact ⟨y, by simpa using hy, hr⟩
      · cases hx)
    (by intro q hq; rw [mem_addNew]; right; exact refsE_chunks hq)
  refine ⟨.slice (some ⟨c.w.heap.size, 0, none⟩) len len, _, _, ?_, rfl, g1, g2, g3, ?_⟩
  · have hlim : ¬ (len * P.cellsOf elem > 2 ^ 24) := by simpa using hc3
    have hsome : (P.info? elem).isSome = true := by simp [hi]
    simp only [Instr.buildSlice, Sem.run_bind, run_underlying hu, Result.andThen_ok, run_sizeOf' hsome]
    rw [if_neg hlim]
    by_cases h : len * P.cellsOf elem = 0
    · rw [if_pos h]
      simp only [if_pos h] at h1
      simp only [pure_bind]
      rw [h1]
      simp [newRow]
      rfl
    · rw [if_neg h]
      simp only [if_neg h] at h1
      simp only [Sem.run_bind, run_zeroValue hi hv, Result.andThen_ok, Sem.run_pure]
      rw [h1]
      simp [newRow]
      rfl
  · refine ⟨.inr ⟨rfl, rfl⟩, by rw [c.put_self]; simp, some ⟨c.w.heap.size, 0, none⟩, len, rfl, by rw [c.put_self]; simp, .inr (by rw [c.put_self]; simp)⟩
end Go.AM
