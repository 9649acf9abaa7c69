/- A part of the proof that the machine of AM is sound: each lemma is under its own hypotheses alone. -/
import Derived.Test.YtnehdpiiijbhhaaAMFrame
set_option autoImplicit false
set_option linter.unusedVariables false
set_option linter.unusedSimpArgs false
namespace Go.AM
open Go Go.RowKit
variable {P : Program}

/-- 'F' at h comes to x and h', and on another memory to the like. -/
structure Framed (h : Heap) (f : FP) (h' : Heap) (x : AV) (F : Heap → Option R) : Prop where
  len : h.length ≤ h'.length
  app : f.app = false → h'.length = h.length
  keep : ∀ r < h.length, r ∉ f.wr → h'[r]? = h[r]?
  wlt : ∀ r ∈ f.wr, r < h.length
  go : ∀ h2 : Heap, (∀ r ∈ f.rd, h2[r]? = h[r]?) → (∀ r ∈ f.wr, h2[r]? = h[r]?) → (f.app = true → h2.length = h.length) → ∃ h2', F h2 = some (.val x h2' f) ∧
    h2'.length + h.length = h'.length + h2.length ∧ (∀ r < h2.length, r ∉ f.wr → h2'[r]? = h2[r]?) ∧ (∀ r ∈ f.wr, h2'[r]? = h'[r]?) ∧ (f.app = true → ∀ r, h.length ≤ r → h2'[r]? = h'[r]?)

theorem HF.framed {h h' : Heap} {f : FP} {x : AV} {F : Heap → Option R} (k : HF h f h' x F) : Framed h f h' x F := by
  obtain ⟨ha, ⟨hw, rfl, hF⟩ | ⟨r, g, hw, hr, rfl, hF⟩⟩ := k
  · exact ⟨Nat.le_refl _, fun _ => rfl, fun _ _ _ => rfl, fun r hr => (by rw [hw] at hr; cases hr), fun h2 h1 _ _ => ⟨h2, hF h2 h1, by omega, fun _ _ _ => rfl, fun r hr => (by rw [hw] at hr; cases hr), fun e => absurd (ha.symm.trans e) (by simp)⟩⟩
  · refine ⟨by simp, fun _ => by simp, fun q _ hq => ?_, fun q hq => ?_, fun h2 h1 h3 _ => ?_⟩
    · rw [hw] at hq
      rw [get_set, if_neg (by rintro rfl; simp at hq)]
    · rw [hw] at hq; simp at hq; omega
    · have h3r := h3 r (by simp [hw])
      have hr2 : r < h2.length := by
        rw [List.getElem?_eq_getElem hr] at h3r
        exact (List.getElem?_eq_some_iff.1 h3r).1
      refine ⟨h2.set r g, hF h2 h1 h3r, by simp; omega, fun q _ hq => ?_, fun q hq => ?_, fun e => absurd (ha.symm.trans e) (by simp)⟩
      · rw [hw] at hq
        rw [get_set, if_neg (by rintro rfl; simp at hq)]
      · rw [hw] at hq; simp at hq; subst hq
        rw [get_set, get_set]; simp [hr, hr2]

theorem freeze_frame {H H2 : Heap} {S : List Nat} (hS : ∀ r ∈ S, H2[r]? = H[r]?) : ∀ n : Nat,
    (∀ x, freezeN H2 S n x = freezeN H S n x) ∧ (∀ l, freezeC H2 S n l = freezeC H S n l) ∧ (∀ l, freezeE H2 S n l = freezeE H S n l)
  | 0 => ⟨fun x => by simp [freezeN], fun l => by simp [freezeC], fun l => by simp [freezeE]⟩
  | n + 1 => by
    obtain ⟨hN, hC, hE⟩ := freeze_frame hS n
    refine ⟨fun x => ?_, fun l => ?_, fun l => ?_⟩
    · cases x with
      | ref r ver off len =>
        rw [freezeN, freezeN]
        cases hm : mem r S with
        | false => rfl
        | true => simp only [hS r ((mem_iff _ _).1 hm), hE]
      | agg l => rw [freezeN, freezeN, hC]
      | tup l => rw [freezeN, freezeN, hC]
      | _ => rw [freezeN, freezeN] <;> simp
    · cases l with
      | nil => rw [freezeC, freezeC]
      | cons x l => rw [freezeC, freezeC, hN, hC]
    · cases l with
      | nil => rw [freezeE, freezeE]
      | cons x l => rw [freezeE, freezeE, hC, hE]

theorem inOf_frame {way : Way} {args args' : List AV} {h h2 : Heap} {S : List Nat} (e : inOf way args h = some (S, args')) (hS : ∀ r ∈ S, h2[r]? = h[r]?) : inOf way args h2 = some (S, args') := by
  unfold inOf at e ⊢
  split at e
  · exact e
  · split at e
    · cases e
    · next S' hr =>
      split at e
      · next l hl =>
        cases e
        rw [reach_frame _ _ _ _ hr hS]
        simp only [(freeze_frame hS much).2.1, hl]
      · cases e

theorem restrict_frame {h h2 : Heap} {keep : List Nat} {σ : Nat → Nat} (hk : ∀ r ∈ keep, h2[r]? = h[r]?) : restrict h2 keep σ = restrict h keep σ := by
  unfold restrict
  refine List.map_congr_left fun r hr => ?_
  rw [hk r hr]

theorem memFor_frame {h h2 : Heap} {roots : List Nat} {wr : Bool} (hk : ∀ r ∈ roots, h2[r]? = h[r]?) : memFor wr roots h2 = memFor wr roots h := by
  unfold memFor
  rw [restrict_frame hk]

theorem lt_of_agree {h h2 : Heap} {r : Nat} (e : h2[r]? = h[r]?) (hr : r < h.length) : r < h2.length := by
  rw [List.getElem?_eq_getElem hr] at e
  exact (List.getElem?_eq_some_iff.1 e).1

theorem roIn_not {S : List Nat} {r : Nat} (h : r ∉ S) (g : Reg) : roIn S r g = g := by
  cases g <;> simp [roIn, mem_false.2 h]

/-- The memory behind a call, region by region. -/
theorem backTo_get {wr : Bool} {S roots live : List Nat} {h h' : Heap} {x : AV} (hn : roots.Nodup) (hlt : ∀ r ∈ roots, r < h.length) (hlen : roots.length ≤ h'.length) :
    (backTo wr S roots live h h' x).2.1.length = h.length + live.length ∧
      ∀ r, (backTo wr S roots live h h' x).2.1[r]? = if r < h.length then (if wr = true ∧ r ∈ roots then (h'[idxOf r roots]?).map (renReg (outσ roots live (baseOf live h.length))) else
        (h[r]?).map (roIn (marksOf wr (hasSl x) live S roots) r)) else (live[r - h.length]?).map (regOr h' (outσ roots live (baseOf live h.length))) := by
  simp only [backTo]
  generalize marksOf wr (hasSl x) live S roots = mk
  generalize outσ roots live (baseOf live h.length) = σ
  have hl2 : (wroteBack wr (markRo h mk) σ roots h').length = h.length := by
    cases wr
    · exact markRo_length _ _
    · simp only [wroteBack]; rw [writeBack_length, markRo_length]
  refine ⟨by rw [List.length_append, length_restrict, hl2], fun r => ?_⟩
  by_cases hr : r < h.length
  · rw [List.getElem?_append_left (by rw [hl2]; exact hr), if_pos hr]
    cases wr with
    | true =>
      simp only [true_and, wroteBack]
      rw [writeBack_get _ _ _ _ _ hn (fun q hq => by rw [markRo_length]; exact hlt q hq) hlen, markRo_get]
    | false => simp [markRo_get, wroteBack]
  · rw [List.getElem?_append_right (by rw [hl2]; omega), if_neg hr, hl2, restrict_get]

theorem callBy_frame {run : List AV → Heap → Option (Out × Heap)} {way : Way} {args : List AV} {h h3 : Heap} {x : AV} {f : FP} (e : callBy run way args h = some (.val x h3 f)) :
    Framed h f h3 x (callBy run way args) := by
  unfold callBy at e
  split at e
  · cases e
  next S args' hin =>
  split at e
  · cases e
  next roots hroots =>
  split at e
  · cases e
  next hcond =>
  have hcond' := hcond
  simp only [Bool.or_eq_false_iff, Bool.not_eq_false', Bool.and_eq_true] at hcond'
  obtain ⟨hd, hltS, hlt⟩ := hcond'
  rw [allLt_iff] at hlt hltS
  have hn := (reach_spec _ _ _ _ hroots).2.2.2 List.nodup_nil
  split at e
  · next x0 h' hr =>
    split at e
    · next y h3' f' hb =>
      cases e
      unfold back at hb
      split at hb
      · cases hb
      next live0 hlive0 =>
      split at hb
      · cases hb
      next S2 x' hout' =>
      split at hb
      · cases hb
      next all hall =>
      split at hb
      case h_2 => cases hb
      next hc2 =>
      have hc2' := hc2
      simp only [Bool.and_eq_true] at hc2'
      have hlen : roots.length ≤ h'.length := Nat.le_of_ble_eq_true hc2'.1.2
      simp only [Option.some.injEq] at hb
      obtain ⟨live, hlive⟩ : ∃ live, live = all.filter (fun r => Nat.ble roots.length r) := ⟨_, rfl⟩
      rw [← hlive] at hb
      obtain ⟨mk, hmk⟩ : ∃ mk, mk = marksOf way.wr (hasSl x') live S roots := ⟨_, rfl⟩
      have hmks : ∀ r ∈ mk, r ∈ S ∨ r ∈ roots := by
        intro r hr
        rw [hmk] at hr
        unfold marksOf at hr
        split at hr
        · exact .inl hr
        · exact List.mem_append.1 hr
        · cases hr
      obtain ⟨hl3, hget⟩ := backTo_get (wr := way.wr) (S := S) (live := live) (x := x') hn hlt hlen
      rw [hb] at hl3 hget
      simp only at hl3 hget
      have hf : f = ⟨S ++ roots, ifWr way.wr roots ++ mk, !live.isEmpty⟩ := by
        have := congrArg (fun p => p.2.2) hb
        simpa [backTo, hmk] using this.symm
      have hx : x = ren (outσ roots live (baseOf live h.length)) x' := by
        have := congrArg (fun p => p.1) hb
        simpa [backTo] using this.symm
      have happ : f.app = !live.isEmpty := by rw [hf]
      have hwr : ∀ r, r ∈ f.wr ↔ (way.wr = true ∧ r ∈ roots) ∨ r ∈ mk := by
        intro r
        rw [hf]
        simp only [List.mem_append]
        cases way.wr <;> simp [ifWr]
      have hSlt : ∀ r ∈ mk, r < h.length := by
        intro r hr
        rcases hmks r hr with hr | hr
        · exact hltS r hr
        · exact hlt r hr
      refine ⟨by omega, ?_, ?_, ?_, ?_⟩
      · intro ha
        rw [happ] at ha
        have : live = [] := by simpa using ha
        rw [hl3, this]; rfl
      · intro r hr hnw
        rw [hwr] at hnw
        rw [hget, if_pos hr, if_neg (fun h => hnw (.inl h)), ← hmk]
        cases h[r]? with
        | none => rfl
        | some g => simp [roIn_not (fun h => hnw (.inr h))]
      · intro r hr
        rcases (hwr r).1 hr with ⟨_, hr⟩ | hr
        · exact hlt r hr
        · exact hSlt r hr
      · intro h2 h2rd h2wr h2len
        have hag : ∀ r, r ∈ S ∨ r ∈ roots → h2[r]? = h[r]? := fun r hr => h2rd r (by rw [hf]; exact List.mem_append.2 hr)
        have hlt2 : ∀ r ∈ roots, r < h2.length := fun r hr => lt_of_agree (hag r (.inr hr)) (hlt r hr)
        have hbase : baseOf live h2.length = baseOf live h.length := by
          cases hlv : live with
          | nil => rfl
          | cons a l => rw [h2len (by rw [happ, hlv]; rfl)]
        obtain ⟨hl3', hget'⟩ := backTo_get (wr := way.wr) (S := S) (live := live) (x := x') (h := h2) hn hlt2 hlen
        refine ⟨(backTo way.wr S roots live h2 h' x').2.1, ?_, by rw [hl3', hl3]; omega, ?_, ?_, ?_⟩
        · unfold callBy
          rw [inOf_frame hin (fun r hr => hag r (.inl hr))]
          simp only
          rw [reach_frame _ _ _ _ hroots (fun r hr => hag r (.inr hr))]
          simp only
          have : (meets S roots || !(allLt h2.length S && allLt h2.length roots)) = false := by
            simp only [Bool.or_eq_false_iff, Bool.not_eq_false', Bool.and_eq_true]
            exact ⟨hd, allLt_iff.2 fun r hr => lt_of_agree (hag r (.inl hr)) (hltS r hr), allLt_iff.2 hlt2⟩
          rw [this]
          simp only
          rw [memFor_frame (fun r hr => hag r (.inr hr)), hr]
          simp only
          unfold back
          rw [hlive0]
          simp only
          rw [hout']
          simp only
          rw [hall]
          simp only
          rw [hc2]
          simp only [← hlive]
          have e1 : backTo way.wr S roots live h2 h' x' = (x, (backTo way.wr S roots live h2 h' x').2.1, f) := by
            rw [hx, hf, hmk]
            simp only [backTo, hbase]
          rw [e1]
        · intro r hr hnw
          rw [hwr] at hnw
          rw [hget', if_pos hr, if_neg (fun h => hnw (.inl h)), ← hmk]
          cases h2[r]? with
          | none => rfl
          | some g => simp [roIn_not (fun h => hnw (.inr h))]
        · intro r hr
          have hrl : r < h.length := by
            rcases (hwr r).1 hr with ⟨_, hr⟩ | hr
            · exact hlt r hr
            · exact hSlt r hr
          have hag' := h2wr r hr
          rw [hget', hget, if_pos hrl, if_pos (lt_of_agree hag' hrl), hbase, hag']
        · intro ha r hr
          have := h2len ha
          rw [hget', hget, if_neg (by omega), if_neg (by omega), this]
    · cases e
  · next x0 h' hr =>
    split at e
    · cases e
    · cases e
  · cases e
end Go.AM
