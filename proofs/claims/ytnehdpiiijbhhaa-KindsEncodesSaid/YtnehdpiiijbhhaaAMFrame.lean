/- A part of the proof that the machine of AM is sound: each lemma is under its own hypotheses alone. -/
import Derived.Test.YtnehdpiiijbhhaaAMBy
set_option autoImplicit false
set_option linter.unusedVariables false
set_option linter.unusedSimpArgs false
namespace Go.AM
open Go Go.RowKit
variable {P : Program}

/-! What an operation depends on -/
theorem evL_congr {G : Nat → AV} {t t2 : T} : ∀ {l : List Operand}, (∀ x ∈ l, ev G t2 x = ev G t x) → evL G t2 l = evL G t l
  | [], _ => rfl
  | x :: l, h => by simp only [evL]; rw [h x (by simp), evL_congr fun y hy => h y (by simp [hy])]

theorem evP_congr {G : Nat → AV} {t t2 : T} : ∀ {l : List (Nat × Operand)}, (∀ x ∈ l.map (·.2), ev G t2 x = ev G t x) → evP G t2 l = evP G t l
  | [], _ => rfl
  | (i, x) :: l, h => by simp only [evP]; rw [h x (by simp), evP_congr fun y hy => h y (by simp at hy ⊢; exact .inr hy)]

theorem evO_congr {G : Nat → AV} {t t2 : T} {x : Option Operand} (h : ∀ y ∈ x.toArray.toList, ev G t2 y = ev G t y) : evO G t2 x = evO G t x := by
  cases x with
  | none => rfl
  | some x => simp only [evO]; rw [h x (by simp)]

theorem opV_congr {G : Nat → AV} {eqT : TypeId → List Bool} {slot : Nat} {op : Op} {t t2 : T} {h : Heap} (ha : ∀ x ∈ op.operands.toList, ev G t2 x = ev G t x) :
    opV P G eqT slot op t2 h = opV P G eqT slot op t h := by
  cases op with
  | build ty parts =>
    simp only [opV]
    rw [evP_congr (fun x hx => ha x (by simpa [Op.operands] using hx))]
  | buildSlice ty n parts =>
    simp only [opV]
    rw [evP_congr (fun x hx => ha x (by simpa [Op.operands] using hx))]
  | makeFunc fn first caps =>
    simp only [opV, opFunc]
    rw [evL_congr (fun x hx => ha x (by simp only [Op.operands, Array.toList_append]; exact List.mem_append_right _ hx))]
  | slice ty x lo hi mx =>
    simp only [opV]
    rw [ha x (by simp [Op.operands]), evO_congr (x := lo) (fun y hy => ha y (by simp only [Op.operands, Array.toList_append, List.mem_append]; exact .inl (.inl (.inr hy)))),
      evO_congr (x := hi) (fun y hy => ha y (by simp only [Op.operands, Array.toList_append, List.mem_append]; exact .inl (.inr hy))),
      evO_congr (x := mx) (fun y hy => ha y (by simp only [Op.operands, Array.toList_append, List.mem_append]; exact .inr hy))]
  | call c =>
    simp only [opV]
    rw [evL_congr (fun x hx => ha x (by simp only [Op.operands, Call.operands, Array.toList_append]; exact List.mem_append_right _ hx))]
  | _ => simp [opV, Op.operands] at ha ⊢ <;> simp [ha]

/-- What an operation reads and turns. -/
def HF (h : Heap) (f : FP) (h' : Heap) (x : AV) (F : Heap → Option R) : Prop :=
  f.app = false ∧ ((f.wr = [] ∧ h' = h ∧ ∀ h2 : Heap, (∀ r ∈ f.rd, h2[r]? = h[r]?) → F h2 = some (.val x h2 f)) ∨
    ∃ r g, f.wr = [r] ∧ r < h.length ∧ h' = h.set r g ∧ ∀ h2 : Heap, (∀ q ∈ f.rd, h2[q]? = h[q]?) → h2[r]? = h[r]? → F h2 = some (.val x (h2.set r g) f))

theorem HF.vR {h h' : Heap} {f : FP} {x : AV} {y : Option AV} (e : AM.vR h y = some (.val x h' f)) : HF h f h' x (fun h2 => AM.vR h2 y) := by
  obtain ⟨z, rfl, e⟩ := vR_some e
  cases e
  exact ⟨rfl, .inl ⟨rfl, rfl, fun h2 _ => rfl⟩⟩

theorem HF.newVar {h h' : Heap} {f : FP} {x : AV} {slot : Nat} {cs : List AV} (hl : slot < h.length) (e : newVar h slot cs = .val x h' f) : HF h f h' x (fun h2 => some (AM.newVar h2 slot cs)) := by
  cases e
  exact ⟨rfl, .inr ⟨slot, _, rfl, hl, rfl, fun h2 _ _ => rfl⟩⟩

theorem readElems_congr {h h2 : Heap} {x : AV} (hr : ∀ r ∈ rdOf x, h2[r]? = h[r]?) : readElems h2 x = readElems h x := by
  cases x <;> simp only [readElems]
  next r ver off len => rw [hr r (by simp [rdOf])]

theorem opV_frame {G : Nat → AV} {eqT : TypeId → List Bool} {slot : Nat} {op : Op} {t : T} {h h' : Heap} {x : AV} {f : FP} (hs : allocs op = true → slot < h.length)
    (e : opV P G eqT slot op t h = some (.val x h' f)) : HF h f h' x (fun h2 => opV P G eqT slot op t h2) := by
  cases op with
  | move y => simp only [opV] at e ⊢; cases e; exact ⟨rfl, .inl ⟨rfl, rfl, fun h2 _ => rfl⟩⟩
  | assign y => simp only [opV] at e ⊢; cases e; exact ⟨rfl, .inl ⟨rfl, rfl, fun h2 _ => rfl⟩⟩
  | pick => exact HF.vR e
  | alloc ty =>
    simp only [opV, opAlloc] at e ⊢
    split at e
    · next z hz => exact HF.newVar (hs rfl) (by simpa using e)
    · cases e
  | box ty y =>
    simp only [opV, opBox] at e ⊢
    split at e
    · next z hz => exact HF.newVar (hs rfl) (by simpa using e)
    · cases e
  | build => exact HF.vR e
  | buildSlice ty n parts =>
    simp only [opV, opBuildSlice] at e ⊢
    split at e
    case h_2 => cases e
    next elem hu =>
    split at e
    · cases e
    next z hz =>
    split at e
    case h_2 => cases e
    next l hl =>
    obtain ⟨hc, e⟩ := ite_some e
    cases e
    exact ⟨rfl, .inr ⟨slot, _, rfl, hs rfl, rfl, fun h2 _ _ => by simp only [if_pos hc]⟩⟩
  | load ty a =>
    simp only [opV, opLoad] at e ⊢
    split at e
    case h_2 => cases e
    next y fp hl =>
    cases e
    have : ∀ h2 : Heap, (∀ r ∈ f.rd, h2[r]? = h[r]?) → loadAV P h2 ty (ev G t a) = some (x, f) := by
      intro h2 hr
      generalize ev G t a = p at hl
      cases p <;> simp only [loadAV] at hl ⊢ <;> try cases hl
      · next r ver i off =>
        split at hl
        case h_2 => cases hl
        next ver' ro sz rf l hg =>
        obtain ⟨hv, hl'⟩ := ite_some hl
        split at hl'
        case h_2 => cases hl'
        next e' he =>
        split at hl'
        case h_2 => cases hl'
        next y hy =>
        cases hl'
        rw [hr r (by simp), hg]
        simp [hv, he, hy]
      · exact hl
    refine ⟨?_, .inl ⟨?_, rfl, fun h2 hr => by simp only [this h2 hr]⟩⟩
    · generalize ev G t a = p at hl
      cases p <;> simp only [loadAV] at hl <;> try cases hl
      · (repeat' split at hl) <;> first | (cases hl; done) | (cases hl; rfl)
      · split at hl <;> cases hl; rfl
    · generalize ev G t a = p at hl
      cases p <;> simp only [loadAV] at hl <;> try cases hl
      · (repeat' split at hl) <;> first | (cases hl; done) | (cases hl; rfl)
      · split at hl <;> cases hl; rfl
  | store ty a y =>
    simp only [opV, opStore] at e ⊢
    split at e
    case h_2 => cases e
    next d h1 f1 hd hst =>
    cases e
    unfold storeAV at hst
    split at hst
    case h_2 => cases hst
    next r ver i off cs hp hcs =>
    split at hst
    case h_2 => cases hst
    next ver' sz rf l hg =>
    obtain ⟨hv, hst⟩ := ite_some hst
    split at hst
    case h_2 => cases hst
    next e' he =>
    obtain ⟨hc, hst⟩ := ite_some hst
    cases hst
    refine ⟨rfl, .inr ⟨r, _, rfl, (List.getElem?_eq_some_iff.1 hg).1, rfl, fun h2 _ hr => ?_⟩⟩
    simp only [hd, storeAV, hp, hcs, hr, hg, hv, if_true, he, if_pos hc]
  | nilCheck => exact HF.vR e
  | binOp => exact HF.vR e
  | unOp => exact HF.vR e
  | convert s d y =>
    simp only [opV, opConv] at e ⊢
    split at e
    case h_2 => cases e
    next z hz =>
    cases e
    refine ⟨rfl, .inl ⟨rfl, rfl, fun h2 hr => ?_⟩⟩
    have : convAV P h2 s d (ev G t y) = convAV P h s d (ev G t y) := by
      have hr' := readElems_congr hr
      unfold convAV
      generalize ev G t y = p at hr'
      split <;> first | rfl | (rw [hr'])
    simp only [this, hz]
  | makeInterface => exact HF.vR e
  | makeFunc fn first caps =>
    simp only [opV, opFunc] at e ⊢
    split at e
    · cases e; exact ⟨rfl, .inl ⟨rfl, rfl, fun h2 _ => rfl⟩⟩
    · cases e
  | makeSlice ty l c =>
    simp only [opV, makeAV] at e ⊢
    split at e
    case h_2 => cases e
    split at e
    case h_2 => cases e
    obtain ⟨hc, e⟩ := ite_some e
    cases e
    exact ⟨rfl, .inr ⟨slot, _, rfl, hs rfl, rfl, fun h2 _ _ => by simp only [if_pos hc]⟩⟩
  | slice ty y lo hi mx =>
    simp only [opV, opSlice] at e ⊢
    split at e
    case h_2 => cases e
    next z h1 f1 hz =>
    cases e
    unfold sliceAV at hz
    split at hz
    · next hu hy =>
      split at hz
      · cases hz
      next hm =>
      split at hz
      case h_2 => cases hz
      next m hm2 =>
      split at hz
      case h_2 => cases hz
      next b hb =>
      split at hz
      case h_2 => cases hz
      next a ha =>
      obtain ⟨hc, hz⟩ := ite_some hz
      cases hz
      refine ⟨rfl, .inl ⟨rfl, rfl, fun h2 _ => ?_⟩⟩
      simp only [sliceAV, hu, hy, hm, hm2, hb, ha, hc]
      rfl
    · next r ver off len hu hy =>
      split at hz
      · cases hz
      next hm =>
      split at hz
      case h_2 => cases hz
      next b hb =>
      split at hz
      case h_2 => cases hz
      next a ha =>
      split at hz
      case h_2 => cases hz
      next ver' ro sz rf l hg =>
      obtain ⟨hc, hz⟩ := ite_some hz
      cases hz
      refine ⟨rfl, .inl ⟨rfl, rfl, fun h2 hr => ?_⟩⟩
      simp only [sliceAV, hu, hy, hm, hb, ha, hr r (by simp), hg, if_pos hc]
    · next n elem r ver i off hu hy =>
      split at hz
      case h_2 => cases hz
      next ver' ro sz l b hg hm hb =>
      split at hz
      case h_2 => cases hz
      next e' a he ha =>
      obtain ⟨hc, hz⟩ := ite_some hz
      cases hz
      refine ⟨rfl, .inr ⟨r, _, rfl, (List.getElem?_eq_some_iff.1 hg).1, rfl, fun h2 _ hr => ?_⟩⟩
      simp only [sliceAV, hu, hy, hm, hb, hr, hg, he, ha, if_pos hc]
    · next s hu hy =>
      split at hz
      case h_2 => cases hz
      next b hm hb =>
      split at hz
      case h_2 => cases hz
      next a ha =>
      cases hz
      refine ⟨rfl, .inl ⟨rfl, rfl, fun h2 _ => ?_⟩⟩
      simp only [sliceAV, hu, hy, hm, hb, ha]
    · cases hz
  | fieldAddr => exact HF.vR e
  | field => exact HF.vR e
  | indexAddr ty y i =>
    simp only [opV, opIndexAddr] at e ⊢
    split at e
    case h_2 => cases e
    next k n hi =>
    split at e
    case h_2 => cases e
    next z hz =>
    cases e
    refine ⟨rfl, .inl ⟨rfl, rfl, fun h2 hr => ?_⟩⟩
    have : indexAddrAV P h2 ty (ev G t y) n = indexAddrAV P h ty (ev G t y) n := by
      unfold indexAddrAV
      generalize ev G t y = p at hr
      cases p <;> try rfl
      next r ver off len => simp only [hr r (by simp [rdOf])]
    simp only [this, hz]
  | index => exact HF.vR e
  | typeAssert => exact HF.vR e
  | extract => exact HF.vR e
  | panic y =>
    simp only [opV, opPanic] at e
    split at e <;> cases e
  | call c =>
    simp only [opV, opCallee] at e ⊢
    split at e
    case h_2 => cases e
    next b hb =>
    unfold opBuiltin at e ⊢
    split at e
    · next ty y _ _ =>
      simp only [opLen] at e ⊢
      split at e
      · cases e; exact ⟨rfl, .inl ⟨rfl, rfl, fun h2 _ => rfl⟩⟩
      · split at e
        · cases e; exact ⟨rfl, .inl ⟨rfl, rfl, fun h2 _ => rfl⟩⟩
        · cases e
      · split at e
        · cases e; exact ⟨rfl, .inl ⟨rfl, rfl, fun h2 _ => rfl⟩⟩
        · cases e
      · cases e
    · next ty s y _ _ =>
      obtain ⟨hok, e⟩ := ite_some e
      simp only [if_pos hok]
      have hslot : slot < h.length := hs (by simp [allocs, hb])
      unfold appendAV at e
      split at e
      case h_2 => cases e
      next elem hu =>
      split at e
      · cases e
      next z hz =>
      split at e
      · cases e
      · next hel =>
        have he2 : ∀ h2 : Heap, (∀ q ∈ rdOf y, h2[q]? = h[q]?) → elemsOf h2 y = some [] := fun h2 hr => by unfold elemsOf; rw [readElems_congr hr]; exact hel
        split at e
        · cases e; exact ⟨rfl, .inl ⟨rfl, rfl, fun h2 hr => by simp only [appendAV, hu, hz, he2 h2 hr]⟩⟩
        · cases e; exact ⟨rfl, .inl ⟨rfl, rfl, fun h2 hr => by simp only [appendAV, hu, hz, he2 h2 hr]⟩⟩
        · cases e
      · next new hne hel =>
        have he2 : ∀ h2 : Heap, (∀ q ∈ rdOf y, h2[q]? = h[q]?) → elemsOf h2 y = some new := fun h2 hr => by unfold elemsOf; rw [readElems_congr hr]; exact hel
        obtain ⟨a0, new', rfl⟩ : ∃ a0 new', new = a0 :: new' := by
          cases new with
          | nil => exact absurd rfl hne
          | cons a l => exact ⟨a, l, rfl⟩
        obtain ⟨hc, e⟩ := ite_some e
        split at e
        · next full l =>
          obtain ⟨hc2, e⟩ := ite_some e
          cases e
          refine ⟨rfl, .inr ⟨slot, _, rfl, hslot, rfl, fun h2 hr _ => ?_⟩⟩
          simp only [appendAV, hu, hz, he2 h2 hr, if_pos hc, if_pos hc2]
        · next r ver off len =>
          split at e
          case h_2 => cases e
          next ver' sz rf l hg =>
          obtain ⟨hc2, e⟩ := ite_some e
          cases e
          refine ⟨rfl, .inr ⟨_, _, rfl, (List.getElem?_eq_some_iff.1 hg).1, rfl, fun h2 hr hr2 => ?_⟩⟩
          simp only [appendAV, hu, hz, he2 h2 hr, if_pos hc, hr2, hg, if_pos hc2]
        · cases e
    · exact HF.vR e
    · exact HF.vR e
    · cases e
  | _ => cases e
end Go.AM
