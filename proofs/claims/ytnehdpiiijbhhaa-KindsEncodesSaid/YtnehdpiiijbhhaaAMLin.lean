/- A part of the proof that the machine of AM is sound: each lemma is under its own hypotheses alone. -/
import Derived.Test.YtnehdpiiijbhhaaAMOpE
set_option autoImplicit false
set_option linter.unusedVariables false
set_option linter.unusedSimpArgs false
namespace Go.AM
open Go Go.RowKit

/-! What comes before what -/
def deps (ops : Array Oper) (j : Nat) : List Nat := match ops.toList[j]? with
  | some o => (o.after.toList.filter fun e => Region.binds .any e).map (·.on)
  | none => []

theorem or_bits (acc : Array Nat) (a : Nat) : ∀ (l : List Edge) (s : Nat), (l.foldl (fun s e => if Region.binds .any e then s ||| 2 ^ e.on ||| acc.getD e.on 0 else s) s).testBit a = true →
    s.testBit a = true ∨ ∃ e ∈ l, Region.binds .any e = true ∧ (e.on = a ∨ (acc.getD e.on 0).testBit a = true)
  | [], s, h => .inl h
  | e :: l, s, h => by
    rw [List.foldl_cons] at h
    rcases or_bits acc a l _ h with h | ⟨e', he, h⟩
    · split at h
      · next hb =>
        simp only [Nat.testBit_or, Bool.or_eq_true] at h
        rcases h with (h | h) | h
        · exact .inl h
        · rw [Nat.testBit_two_pow] at h
          exact .inr ⟨e, by simp, hb, .inl (by simpa using h)⟩
        · exact .inr ⟨e, by simp, hb, .inr h⟩
      · exact .inl h
    · exact .inr ⟨e', by simp [he], h⟩

def befStep (acc : Array Nat) (o : Oper) : Array Nat := acc.push (o.after.foldl (fun s e => if Region.binds .any e then s ||| 2 ^ e.on ||| acc.getD e.on 0 else s) 0)

theorem before_eq (ops : Array Oper) : Region.before ops = ops.toList.foldl befStep #[] := by
  unfold Region.before
  rw [← Array.foldl_toList]
  rfl

theorem bef_inv : ∀ (l pre : List Oper) (acc : Array Nat), acc.size = pre.length →
    (∀ j o a, pre[j]? = some o → (acc.getD j 0).testBit a = true → ∃ e ∈ o.after.toList, Region.binds .any e = true ∧ (e.on = a ∨ (acc.getD e.on 0).testBit a = true)) →
    ∀ j o a, (pre ++ l)[j]? = some o → ((l.foldl befStep acc).getD j 0).testBit a = true → ∃ e ∈ o.after.toList, Region.binds .any e = true ∧ (e.on = a ∨ ((l.foldl befStep acc).getD e.on 0).testBit a = true)
  | [], pre, acc, hs, h => by simpa using h
  | o' :: l, pre, acc, hs, h => by
    intro j o a hj hb
    rw [List.foldl_cons] at hb ⊢
    have keep : ∀ i x, (acc.getD i 0).testBit x = true → ((befStep acc o').getD i 0).testBit x = true := by
      intro i x hx
      by_cases hi : i < acc.size
      · simp only [befStep, Array.getD_eq_getD_getElem?] at hx ⊢
        rw [Array.getElem?_push, if_neg (by omega)]
        exact hx
      · rw [Array.getD_eq_getD_getElem?, Array.getElem?_eq_none (by omega)] at hx
        simp at hx
    refine bef_inv l (pre ++ [o']) (befStep acc o') (by simp [befStep, hs]) ?_ j o a (by simpa using hj) hb
    intro j o a hj hb
    by_cases hl : j < pre.length
    · rw [List.getElem?_append_left hl] at hj
      have : (befStep acc o').getD j 0 = acc.getD j 0 := by
        simp only [befStep, Array.getD_eq_getD_getElem?]
        rw [Array.getElem?_push, if_neg (by omega)]
      rw [this] at hb
      obtain ⟨e, he, h1, h2⟩ := h j o a hj hb
      exact ⟨e, he, h1, h2.imp id (keep _ _)⟩
    · rw [List.getElem?_append_right (by omega)] at hj
      have hj0 : j = pre.length := by
        cases hq : j - pre.length with
        | zero => omega
        | succ q => rw [hq] at hj; simp at hj
      subst hj0
      simp at hj
      subst hj
      have : (befStep acc o').getD pre.length 0 = o'.after.foldl (fun s e => if Region.binds .any e then s ||| 2 ^ e.on ||| acc.getD e.on 0 else s) 0 := by
        simp only [befStep, Array.getD_eq_getD_getElem?]
        rw [Array.getElem?_push, if_pos hs.symm]
        rfl
      rw [this, ← Array.foldl_toList] at hb
      rcases or_bits acc a _ _ hb with hb | ⟨e, he, h1, h2⟩
      · simp at hb
      · exact ⟨e, he, h1, h2.imp id (keep _ _)⟩

def BefB (ops : Array Oper) (j a : Nat) : Prop := ((Region.before ops).getD j 0).testBit a = true

theorem bef_dep {ops : Array Oper} {j a : Nat} (hj : j < ops.size) (h : BefB ops j a) : ∃ d ∈ deps ops j, d = a ∨ BefB ops d a := by
  unfold BefB at h ⊢
  rw [before_eq] at h ⊢
  have ho : ops.toList[j]? = some ops[j] := by simp [hj]
  obtain ⟨e, he, h1, h2⟩ := bef_inv ops.toList [] #[] rfl (by simp) j _ a (by rw [List.nil_append]; exact ho) h
  refine ⟨e.on, ?_, h2⟩
  unfold deps
  rw [ho]
  exact List.mem_map.2 ⟨e, List.mem_filter.2 ⟨he, h1⟩, rfl⟩

/-- Each comes behind what it hangs on. -/
def Resp (ops : Array Oper) (l : List Nat) : Prop := ∀ p j s, l = p ++ j :: s → ∀ d ∈ deps ops j, d ∈ p

theorem resp_bef {ops : Array Oper} (hd : ∀ j, ∀ d ∈ deps ops j, d < j) : ∀ (j : Nat) (l p s : List Nat), Resp ops l → (∀ i ∈ l, i < ops.size) → l = p ++ j :: s → ∀ a, BefB ops j a → a ∈ p := by
  intro j
  induction j using Nat.strongRecOn with
  | _ j ih =>
    intro l p s hr hlt e a hb
    obtain ⟨d, hdm, h⟩ := bef_dep (hlt j (by rw [e]; simp)) hb
    have hdp := hr p j s e d hdm
    rcases h with rfl | h
    · exact hdp
    · obtain ⟨p1, p2, rfl⟩ := List.append_of_mem hdp
      have := ih d (hd j d hdm) l p1 (p2 ++ j :: s) hr hlt (by rw [e]; simp) a h
      exact List.mem_append_left _ this

theorem resp_pairwise {ops : Array Oper} (hd : ∀ j, ∀ d ∈ deps ops j, d < j) {l : List Nat} (hr : Resp ops l) (hlt : ∀ i ∈ l, i < ops.size) (hn : l.Nodup) : l.Pairwise (fun j a => ¬ BefB ops j a) := by
  have main : ∀ (s p : List Nat), l = p ++ s → s.Pairwise (fun j a => ¬ BefB ops j a) := by
    intro s
    induction s with
    | nil => intro p _; exact .nil
    | cons j s ih =>
      intro p e
      rw [List.pairwise_cons]
      refine ⟨fun a ha hb => ?_, ih (p ++ [j]) (by rw [e]; simp)⟩
      have := resp_bef hd j l p s hr hlt e a hb
      rw [e, List.nodup_append] at hn
      exact hn.2.2 a this a (List.mem_cons_of_mem _ ha) rfl
  exact main l [] rfl

/-! The orders that are drawn -/
structure LinInv (ops : Array Oper) (listed : Array Bool) (acc : List Nat) : Prop where
  size : listed.size = ops.size
  listed : ∀ i < ops.size, listed.getD i true = decide (i ∈ acc) ∧ listed.getD i false = decide (i ∈ acc)
  lt : ∀ i ∈ acc, i < ops.size
  nodup : acc.Nodup
  resp : Resp ops acc.reverse

theorem dep_iff {ops : Array Oper} {listed : Array Bool} {acc : List Nat} (h : LinInv ops listed acc) {i : Nat} (hi : i < ops.size) :
    ((ops[i]?).map (·.after.all fun e => !Region.binds .any e || listed.getD e.on false)).getD false = true ↔ ∀ d ∈ deps ops i, d ∈ acc := by
  have ho : ops[i]? = some ops[i] := by simp [hi]
  have ho' : ops.toList[i]? = some ops[i] := by simp [hi]
  have hget : ∀ d, listed.getD d false = true ↔ d ∈ acc := by
    intro d
    by_cases hd : d < ops.size
    · rw [(h.listed d hd).2]; simp
    · rw [Array.getD_eq_getD_getElem?, Array.getElem?_eq_none (by rw [h.size]; omega)]
      simp only [Option.getD_none, Bool.false_eq_true, false_iff]
      exact fun hm => hd (h.lt d hm)
  unfold deps
  rw [ho, ho']
  simp only [Option.map_some, Option.getD_some]
  rw [← Array.all_toList, List.all_eq_true]
  constructor
  · intro k d hd
    obtain ⟨e, he, rfl⟩ := List.mem_map.1 hd
    obtain ⟨he, hb⟩ := List.mem_filter.1 he
    have := k e he
    rw [hb] at this
    exact (hget _).1 (by simpa using this)
  · intro k e he
    cases hb : Region.binds .any e with
    | false => rfl
    | true => simpa using (hget _).2 (k _ (List.mem_map.2 ⟨e, List.mem_filter.2 ⟨he, hb⟩, rfl⟩))

theorem lin_go {ops : Array Oper} (hd : ∀ j, ∀ d ∈ deps ops j, d < j) : ∀ (fuel t : Nat) (listed : Array Bool) (acc : List Nat), LinInv ops listed acc → acc.length + fuel = ops.size →
    ∃ listed' acc', LinInv ops listed' acc' ∧ acc'.length = ops.size ∧ Region.linearise.go .any ops fuel t listed acc = acc'.reverse
  | 0, t, listed, acc, h, hf => ⟨listed, acc, h, by omega, by rw [Region.linearise.go]⟩
  | fuel + 1, t, listed, acc, h, hf => by
    rw [Region.linearise.go]
    generalize hrs : (List.range ops.size).filter (fun i => !listed.getD i true && ((ops[i]?).map (·.after.all fun e => !Region.binds .any e || listed.getD e.on false)).getD false) = rs
    have hmem : ∀ i, i ∈ rs ↔ i < ops.size ∧ i ∉ acc ∧ ∀ d ∈ deps ops i, d ∈ acc := by
      intro i
      rw [← hrs, List.mem_filter, List.mem_range, Bool.and_eq_true]
      constructor
      · rintro ⟨hi, h1, h2⟩
        rw [(h.listed i hi).1] at h1
        exact ⟨hi, by simpa using h1, (dep_iff h hi).1 h2⟩
      · rintro ⟨hi, h1, h2⟩
        refine ⟨hi, ?_, (dep_iff h hi).2 h2⟩
        rw [(h.listed i hi).1]
        simpa using h1
    -- something can come next
    have hex : ∃ i, i < ops.size ∧ i ∉ acc := by
      refine Classical.byContradiction fun hno => ?_
      have hsub : List.range ops.size ⊆ acc := by
        intro i hi
        refine Classical.byContradiction fun hm => hno ⟨i, List.mem_range.1 hi, hm⟩
      have := (List.nodup_range (n := ops.size)).length_le_of_subset hsub
      simp at this
      omega
    have hmin : ∀ n i, i < n → i < ops.size → i ∉ acc → ∃ k, k ∈ rs := by
      intro n
      induction n with
      | zero => intro i hi; omega
      | succ n ih =>
        intro i hi h1 h2
        by_cases hall : ∀ d ∈ deps ops i, d ∈ acc
        · exact ⟨i, (hmem i).2 ⟨h1, h2, hall⟩⟩
        · have : ∃ d, d ∈ deps ops i ∧ d ∉ acc := by
            refine Classical.byContradiction fun hno => hall fun d hd' => Classical.byContradiction fun hm => hno ⟨d, hd', hm⟩
          obtain ⟨d, hdm, hda⟩ := this
          have := hd i d hdm
          exact ih d (by omega) (by omega) hda
    obtain ⟨i0, h1, h2⟩ := hex
    obtain ⟨k, hk⟩ := hmin (i0 + 1) i0 (by omega) h1 h2
    have hpos : 0 < rs.length := List.length_pos_of_mem hk
    have hlt : t % rs.length < rs.length := Nat.mod_lt _ hpos
    rw [List.getElem?_eq_getElem hlt]
    simp only
    have him := (hmem _).1 (List.getElem_mem hlt)
    generalize rs[t % rs.length] = i at him
    obtain ⟨hi, hia, hid⟩ := him
    refine lin_go hd fuel _ _ (i :: acc) ⟨by simp [h.size], ?_, ?_, ?_, ?_⟩ (by simp; omega)
    · intro j hj
      have hjl : j < listed.size := by rw [h.size]; exact hj
      simp only [Array.getD_eq_getD_getElem?, Array.getElem?_setIfInBounds]
      by_cases e : i = j
      · subst e; simp [hjl]
      · have := h.listed j hj
        simp only [Array.getD_eq_getD_getElem?] at this
        simp only [if_neg e, List.mem_cons, Ne.symm e, false_or]
        exact this
    · intro j hj
      rcases List.mem_cons.1 hj with rfl | hj
      · exact hi
      · exact h.lt j hj
    · exact List.nodup_cons.2 ⟨hia, h.nodup⟩
    · intro p j s e d hdm
      rw [List.reverse_cons] at e
      rcases List.append_eq_append_iff.1 e with ⟨a', rfl, h3⟩ | ⟨c', h3, h4⟩
      · cases a' with
        | nil =>
          simp only [List.nil_append, List.cons.injEq] at h3
          obtain ⟨rfl, _⟩ := h3
          simpa using hid d hdm
        | cons x a' =>
          simp only [List.cons_append, List.cons.injEq] at h3
          have := congrArg List.length h3.2
          simp at this
      · cases c' with
        | nil =>
          simp only [List.nil_append, List.cons.injEq] at h4
          obtain ⟨rfl, _⟩ := h4
          simp only [List.append_nil] at h3
          rw [← h3]
          simpa using hid d hdm
        | cons x c' =>
          simp only [List.cons_append, List.cons.injEq] at h4
          obtain ⟨rfl, _⟩ := h4
          exact h.resp p _ c' h3 d hdm

theorem linearise_ok {ops : Array Oper} (hd : ∀ j, ∀ d ∈ deps ops j, d < j) (t : Nat) : (Region.linearise .any ops t).Perm (List.range ops.size) ∧ (Region.linearise .any ops t).Pairwise (fun j a => ¬ BefB ops j a) := by
  obtain ⟨listed', acc', h, hl, e⟩ := lin_go hd ops.size t (Array.replicate ops.size false) [] ⟨by simp, fun i hi => by simp [Array.getD_eq_getD_getElem?, hi], fun i hi => (by cases hi), List.nodup_nil, fun p j s e => absurd (congrArg List.length e) (by simp)⟩ (by simp)
  unfold Region.linearise
  rw [e]
  have hn : acc'.reverse.Nodup := List.pairwise_reverse.2 (h.nodup.imp Ne.symm)
  have hlt : ∀ i ∈ acc'.reverse, i < ops.size := fun i hi => h.lt i (by simpa using hi)
  refine ⟨?_, resp_pairwise hd h.resp hlt hn⟩
  refine (List.perm_ext_iff_of_nodup hn List.nodup_range).2 fun i => ⟨fun hi => List.mem_range.2 (hlt i hi), fun hi => ?_⟩
  refine Classical.byContradiction fun hm => ?_
  have hn2 : (i :: acc'.reverse).Nodup := List.nodup_cons.2 ⟨hm, hn⟩
  have := hn2.length_le_of_subset (l₂ := List.range ops.size) (by
    intro j hj
    rcases List.mem_cons.1 hj with rfl | hj
    · exact hi
    · exact List.mem_range.2 (hlt j hj))
  simp at this
  omega
end Go.AM
