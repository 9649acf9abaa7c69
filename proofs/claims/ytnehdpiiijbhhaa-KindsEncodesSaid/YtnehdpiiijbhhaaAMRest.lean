/- A part of the proof that the machine of AM is sound: each lemma is under its own hypotheses alone. -/
import Derived.Test.YtnehdpiiijbhhaaAMApp
set_option autoImplicit false
set_option linter.unusedVariables false
set_option linter.unusedSimpArgs false
namespace Go.AM
open Go Go.RowKit
variable {P : Program}

theorem make_sound {B : Base} {c : Ctx} {H H' : Heap} (hh : HR c H) (hB : BR B c H) {slot : Nat} (hslot : H[slot]? = some .dead) {t : TypeId} {l k y : AV} {ul uk : Value} {f : FP}
    (hm : makeAV P H slot t l k = some (.val y H' f)) (hl : Rel c l ul) (hk : Rel c k uk) : Comes B c H' y ((Instr.makeSlice t ul uk).run P c.w) := by
  unfold makeAV at hm
  split at hm
  case h_2 => cases hm
  case h_1 elem kl l kc n hu =>
  obtain ⟨_, rfl⟩ := hl
  obtain ⟨_, rfl⟩ := hk
  split at hm
  case h_2 => cases hm
  case h_1 z hz =>
  obtain ⟨i, v, hi, hv, rfl, hone, hcl⟩ := zeroCells_sound hz
  split at hm
  case isFalse => cases hm
  case isTrue hc =>
  obtain ⟨⟨h0, h1⟩, ⟨h2, h3⟩, h4⟩ := hc
  obtain ⟨hr1, hr2⟩ := room_iff.1 h4
  cases hm
  have hsz : v.cells.size = P.cellsOf elem := by simpa using h2
  have hne : v.cells.size ≠ 0 := by simpa using h3
  have hsi := cellsOf_info hi
  have hbi := bytesOf_info hi
  have hby : (i.bytes : Int) * n ≤ 281474976710656 := by
    have e : ((n.toNat * i.bytes : Nat) : Int) ≤ 140737488355328 := by
      rw [← hbi]
      generalize n.toNat * P.bytesOf elem = q at hr1 ⊢
      omega
    have e2 : (n.toNat : Int) = n := Int.toNat_of_nonneg (by omega)
    rw [Int.natCast_mul, e2, Int.mul_comm] at e
    omega
  have hrun := run_make (P := P) c.w t elem i v hu hi hv kl kc l n h0 h1 hby (by omega)
  have hcs : ∀ j, (madeCells v.cells (n.toNat * i.size))[j]? = if j < n.toNat * i.size then v.cells[j % v.cells.size]? else none := fun j => made_get v.cells hne _ j
  obtain ⟨g1, g2, g3⟩ := fresh_sound (cs := madeCells v.cells (n.toNat * i.size)) (T := elem) (w' := c.w.alloc (.cells (madeCells v.cells (n.toNat * i.size)) elem)) (ver := 0)
    (sz := (v.cells.toList.map ofCell).length) (cap := n.toNat) (l := List.replicate l.toNat (v.cells.toList.map ofCell)) (rf := [])
    hh hB hslot (hh.no_v hslot 0) (fun v hv => absurd hv (hh.no_v hslot v)) rfl rfl rfl rfl (by rw [List.length_replicate]; omega)
    (by rw [size_madeCells, h2, hsi]; exact Nat.le_refl (n.toNat * i.size))
    (by
      intro k e he
      have hkl : k < l.toNat := by have := (List.getElem?_eq_some_iff.1 he).1; simpa using this
      have hee : e = v.cells.toList.map ofCell := by
        rw [List.getElem?_replicate, if_pos hkl] at he; cases he; rfl
      subst hee
      refine ⟨rfl, fun j x hx => ⟨all_get hone hx, ?_⟩⟩
      obtain ⟨y, hy, hr⟩ := (relL_ofCells c v.cells.toList).get hx
      have hjl : j < v.cells.size := by have := (List.getElem?_eq_some_iff.1 hy).1; simpa using this
      refine ⟨y, ?_, hr⟩
      have hmul : (k + 1) * v.cells.size ≤ n.toNat * v.cells.size := Nat.mul_le_mul_right _ (by omega)
      rw [Nat.add_mul] at hmul
      rw [hcs, h2, ← hsz]
      rw [if_pos (by rw [← hsi, ← hsz]; omega)]
      have e : (k * v.cells.size + j) % v.cells.size = j := by rw [Nat.mul_comm, Nat.mul_add_mod]; exact Nat.mod_eq_of_lt hjl
      rw [e]
      simpa using hy)
    (by
      intro q hq
      obtain ⟨e, he, hq⟩ := of_mem_refsE hq
      rw [List.eq_of_mem_replicate he, hcl] at hq
      cases hq)
  refine ⟨_, _, _, hrun, rfl, g1, g2, g3, ?_⟩
  refine ⟨.inr ⟨rfl, rfl⟩, by rw [c.put_self]; simp; omega, some ⟨c.w.heap.size, 0, none⟩, n.toNat, rfl, by rw [c.put_self]; simp, .inr (by rw [c.put_self]; simp)⟩

/-! Addresses -/
theorem moveBy_sound {c : Ctx} {n : Nat} {x y : AV} {u : Value} (hm : moveBy n x = some y) (hx : Rel c x u) :
    ∃ b o, u = .pointer (some ⟨b, o, none⟩) ∧ Rel c y (.pointer (some ⟨b, o + n, none⟩)) := by
  cases x <;> simp [moveBy] at hm
  case ptr r ver i off =>
    subst hm
    obtain ⟨hv, rfl⟩ := hx
    exact ⟨_, _, rfl, hv, by rw [Nat.add_assoc]⟩
  case imm l =>
    subst hm
    obtain ⟨b, o, rfl, h1, h2, h3⟩ := hx
    exact ⟨b, o, rfl, b, o + n, rfl, h1, refsL_drop_nil h2, h3.drop n⟩

theorem fieldAddr_sound {c : Ctx} {s : TypeId} {f : Nat} {x y : AV} {u : Value} (hf : fieldAddrAV P s f x = some y) (hx : Rel c x u) :
    ∃ v, (Instr.fieldAt s u f).run P c.w = .ok v c.w ∧ Rel c y v := by
  unfold fieldAddrAV at hf
  split at hf
  case h_2 => cases hf
  case h_1 off ty ho =>
  split at hf
  · cases hf
  next hne =>
  obtain ⟨b, o, rfl, hr⟩ := moveBy_sound hf hx
  unfold fieldOff at ho
  split at ho
  case h_2 => cases ho
  case h_1 fs hu =>
  split at ho
  case h_2 => cases ho
  case h_1 g hg =>
  cases ho
  have hsome : (P.info? g.type).isSome = true := by
    cases hi : P.info? g.type with
    | none => exact absurd (by simp [Program.cellsOf, hi]) hne
    | some i => rfl
  refine ⟨_, ?_, hr⟩
  simp [Instr.fieldAt, run_underlying hu, hg, Instr.sureAddr, fieldPlace, run_sizeOf' hsome, hne, addr_add]

theorem field_sound {c : Ctx} {s : TypeId} {f : Nat} {x y : AV} {u : Value} (hf : fieldAV P s f x = some y) (hx : Rel c x u) :
    ∃ v, (Instr.field s u f).run P c.w = .ok v c.w ∧ Rel c y v := by
  unfold fieldAV at hf
  split at hf
  case h_2 => cases hf
  case h_1 off ty l ho =>
  obtain ⟨ys, rfl, hl, hone⟩ := hx
  unfold fieldOff at ho
  split at ho
  case h_2 => cases ho
  case h_1 fs hu =>
  split at ho
  case h_2 => cases ho
  case h_1 g hg =>
  cases ho
  obtain ⟨v, h1, h2⟩ := run_part (P := P) hf hl hone c.w
  exact ⟨v, by simp [Instr.field, run_underlying hu, hg, asAgg, h1], h2⟩

theorem idx_some {i : Int} {len n : Nat} (h : idx i len = some n) : 0 ≤ i ∧ i < len ∧ n = i.toNat ∧ n < len := by
  unfold idx at h
  split at h
  · next hc => cases h; exact ⟨hc.1, hc.2, rfl, by omega⟩
  · cases h

theorem indexAddr_sound {c : Ctx} {H : Heap} {t : TypeId} {x y : AV} {k : IntKind} {i : Int} {u : Value} (hf : indexAddrAV P H t x i = some y) (hx : Rel c x u) (hh : HR c H) :
    ∃ v, (Instr.indexAt t u (.int k i)).run P c.w = .ok v c.w ∧ Rel c y v := by
  unfold indexAddrAV at hf
  split at hf
  · next len elem hu =>
    split at hf
    case h_2 => cases hf
    case h_1 n hn =>
    obtain ⟨h1, h2, rfl, h3⟩ := idx_some hn
    split at hf
    case isFalse => cases hf
    case isTrue hs =>
    obtain ⟨b, o, rfl, hr⟩ := moveBy_sound hf hx
    refine ⟨_, ?_, hr⟩
    simp [Instr.indexAt, asIntOf, run_underlying hu, Instr.sureAddr, h1, h2, run_sizeOf' hs, addr_add]
  · next elem hu =>
    split at hf
    · next full l =>
      split at hf
      case h_2 => cases hf
      case h_1 n hn =>
      obtain ⟨h1, h2, rfl, h3⟩ := idx_some hn
      split at hf
      case h_2 => cases hf
      case h_1 e he =>
      split at hf
      case isFalse => cases hf
      case isTrue hel =>
      obtain ⟨hel, hs⟩ := hel
      cases hf
      obtain ⟨a, cap, rfl, k1, k2, k3, k4⟩ := hx
      rcases k4 with k4 | ⟨b, o, sz, rfl, hb, hE⟩
      · subst k4; simp at he
      · obtain ⟨e1, e2⟩ := RelE_iff.1 hE _ _ he
        have hsz : sz = P.cellsOf elem := by omega
        subst hsz
        refine ⟨.pointer (some ⟨b, o + i.toNat * P.cellsOf elem, none⟩), ?_, b, _, rfl, hb, ?_, e2⟩
        · simp [Instr.indexAt, asIntOf, run_underlying hu, h1, h2, run_sizeOf' hs, addr_add]
        · exact eq_nil_of_sub (fun r hr => mem_refsE (List.mem_of_getElem? he) hr) k3
    · next r ver off len =>
      split at hf
      case h_2 => cases hf
      case h_1 n hn =>
      obtain ⟨h1, h2, rfl, h3⟩ := idx_some hn
      split at hf
      case h_2 => cases hf
      case h_1 ver' ro sz rf l hr =>
      split at hf
      case isFalse => cases hf
      case isTrue hel =>
      obtain ⟨⟨rfl, rfl⟩, hs⟩ := hel
      cases hf
      obtain ⟨hv, hcap, a, cap', rfl, k1, k2⟩ := hx
      have hk := hh.arr _ _ _ _ _ _ hr
      have ha : a = some ⟨(c.ρ r ver').blk, (c.ρ r ver').off + off * (c.ρ r ver').sz, none⟩ := by
        rcases k2 with k2 | k2
        · omega
        · exact k2
      subst ha
      refine ⟨_, ?_, hv, rfl⟩
      have e : (c.ρ r ver').off + off * (c.ρ r ver').sz + i.toNat * P.cellsOf elem = (c.ρ r ver').off + (off + i.toNat) * (c.ρ r ver').sz + 0 := by
        rw [hk.hsz, Nat.add_mul]; omega
      simp [Instr.indexAt, asIntOf, run_underlying hu, h1, h2, run_sizeOf' hs, addr_add]
      omega
    · cases hf
  · cases hf
end Go.AM
