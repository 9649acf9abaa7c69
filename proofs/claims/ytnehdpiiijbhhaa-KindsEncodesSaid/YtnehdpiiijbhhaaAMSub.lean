/- A part of the proof that the machine of AM is sound: each lemma is under its own hypotheses alone. -/
import Derived.Test.YtnehdpiiijbhhaaAMOp
set_option autoImplicit false
set_option linter.unusedVariables false
set_option linter.unusedSimpArgs false
namespace Go.AM
open Go Go.RowKit

/-! What is reached -/
theorem mem_false {r : Nat} {l : List Nat} : mem r l = false ↔ r ∉ l := by
  rw [← mem_iff]; cases mem r l <;> simp

theorem reach_step {H : Heap} {n r : Nat} {acc rest L : List Nat} (h : mem r acc = false)
    (hr : reach H (n + 1) acc (r :: rest) = some L) : ∃ todo, reach H n (acc ++ [r]) todo = some L ∧ (∀ q ∈ rest, q ∈ todo) ∧ (∀ g, H[r]? = some g → ∀ q ∈ regRefs g, q ∈ todo) ∧
      (∀ H2 : Heap, H2[r]? = H[r]? → reach H2 (n + 1) acc (r :: rest) = reach H2 n (acc ++ [r]) todo) := by
  rw [reach] at hr
  simp only [h] at hr
  refine ⟨_, hr, ?_, ?_, ?_⟩
  · intro q hq
    split
    · split
      · exact hq
      · exact List.mem_append_left _ hq
    · exact hq
  · intro g hg q hq
    simp only [hg]
    split
    · next e => rw [e] at hq; cases hq
    · exact List.mem_append_right _ hq
  · intro H2 e
    rw [reach]
    simp only [h, e]

theorem reach_spec {H : Heap} : ∀ (n : Nat) (acc todo L : List Nat), reach H n acc todo = some L →
    (∀ r ∈ acc, r ∈ L) ∧ (∀ r ∈ todo, r ∈ L) ∧ (∀ r ∈ L, r ∉ acc → ∀ g, H[r]? = some g → ∀ q ∈ regRefs g, q ∈ L) ∧ (acc.Nodup → L.Nodup)
  | 0, _, _, _, h => by simp [reach] at h
  | n + 1, acc, [], L, h => by
    simp [reach] at h; subst h
    exact ⟨fun _ h => h, fun _ h => (by cases h), fun r h h' => absurd h h', id⟩
  | n + 1, acc, r :: rest, L, h => by
    cases hm : mem r acc with
    | true =>
      have h' := h
      rw [reach] at h'
      simp only [hm] at h'
      obtain ⟨h1, h2, h3, h4⟩ := reach_spec n acc rest L h'
      exact ⟨h1, fun q hq => by rcases List.mem_cons.1 hq with rfl | hq; exact h1 _ ((mem_iff _ _).1 hm); exact h2 q hq, h3, h4⟩
    | false =>
      obtain ⟨todo, h', ht, hg, _⟩ := reach_step hm h
      obtain ⟨h1, h2, h3, h4⟩ := reach_spec n _ todo L h'
      refine ⟨fun q hq => h1 q (List.mem_append_left _ hq), fun q hq => ?_, fun q hq hna g hgq p hp => ?_, fun hn => h4 ?_⟩
      · rcases List.mem_cons.1 hq with rfl | hq
        · exact h1 _ (by simp)
        · exact h2 q (ht q hq)
      · by_cases e : q = r
        · subst e; exact h2 p (hg g hgq p hp)
        · exact h3 q hq (by simp [hna, e]) g hgq p hp
      · rw [List.nodup_append]
        exact ⟨hn, by simp, fun a ha b hb => by simp at hb; subst hb; rintro rfl; exact (mem_false.1 hm) ha⟩

theorem reach_frame {H H2 : Heap} : ∀ (n : Nat) (acc todo L : List Nat), reach H n acc todo = some L → (∀ r ∈ L, H2[r]? = H[r]?) → reach H2 n acc todo = some L
  | 0, _, _, _, h, _ => by simp [reach] at h
  | n + 1, acc, [], L, h, _ => by simpa [reach] using h
  | n + 1, acc, r :: rest, L, h, he => by
    cases hm : mem r acc with
    | true =>
      rw [reach] at h ⊢
      simp only [hm] at h ⊢
      exact reach_frame n acc rest L h he
    | false =>
      obtain ⟨todo, h', ht, hg, hf⟩ := reach_step hm h
      have hr : r ∈ L := (reach_spec n _ todo L h').1 r (by simp)
      rw [hf H2 (he r hr)]
      exact reach_frame n _ todo L h' he

/-! Renamed regions -/
theorem renReg_arr {σ : Nat → Nat} {v : Nat} {ro : Bool} {sz : Nat} {rf : List Nat} {l : List (List AV)} (h : ∀ q ∈ refsE l, q ∈ rf) :
    renReg σ (.arr v ro sz rf l) = .arr v ro sz (rf.map σ) (l.map (renL σ)) := by
  unfold renReg
  cases rf with
  | nil => simp only [List.map_nil]; rw [renE_closed σ l (eq_nil_of_sub h rfl)]
  | cons a rf => rfl

theorem refs_ren (σ : Nat → Nat) : ∀ x : AV, refs (ren σ x) = (refs x).map σ := by
  intro x
  induction x using AV.rec (motive_2 := fun l => refsL (renL σ l) = (refsL l).map σ) (motive_3 := fun _ => True) <;> simp_all [ren, renL, refs, refsL]

theorem refsL_ren (σ : Nat → Nat) : ∀ l : List AV, refsL (renL σ l) = (refsL l).map σ
  | [] => rfl
  | x :: l => by simp [renL, refsL, refs_ren σ x, refsL_ren σ l]

theorem refsE_ren (σ : Nat → Nat) : ∀ l : List (List AV), refsE (l.map (renL σ)) = (refsE l).map σ
  | [] => rfl
  | x :: l => by simp [refsE, refsL_ren σ x, refsE_ren σ l]

theorem RegOk.ren {cs c2 : Ctx} {σ : Nat → Nat} {r i ver sz : Nat} {ro ro' : Bool} {rf : List Nat} {l : List (List AV)} (h : RegOk cs r ver ro sz rf l) (hi : ImmLe cs c2)
    (hb : c2.w.heap[(cs.ρ r ver).blk]? = cs.w.heap[(cs.ρ r ver).blk]?) (hρ : c2.ρ i ver = cs.ρ r ver) (hv : c2.V i ver) (ht : Takes σ cs c2 rf)
    (him : ro' = true → c2.imm (cs.ρ r ver).blk) (hmu : ro' = false → ¬ c2.imm (cs.ρ r ver).blk) : RegOk c2 i ver ro' sz (rf.map σ) (l.map (renL σ)) where
  hv := hv
  hsz := by rw [hρ]; exact h.hsz
  blk := by rw [hρ, hb]; exact h.blk
  cap := by rw [hρ, List.length_map]; exact h.cap
  mem := by rw [hρ]; exact RelE_ren hi hb l _ sz (ht.sub h.hrf) h.mem
  hrf := by
    intro q hq
    rw [refsE_ren] at hq
    obtain ⟨p, hp, rfl⟩ := List.mem_map.1 hq
    exact List.mem_map.2 ⟨p, h.hrf p hp, rfl⟩
  im := by rw [hρ]; exact him
  mu := by rw [hρ]; exact hmu

/-! By value -/
theorem freezeC_length {H : Heap} {S : List Nat} : ∀ (n : Nat) {l l' : List AV}, freezeC H S n l = some l' → l'.length = l.length
  | 0, l, l', h => by simp [freezeC] at h
  | n + 1, [], l', h => by simp [freezeC] at h; simp [← h]
  | n + 1, x :: l, l', h => by
    rw [freezeC] at h
    split at h
    · split at h
      · next l'' hl => cases h; simp [freezeC_length n hl]
      · cases h
    · cases h

theorem freezeE_length {H : Heap} {S : List Nat} : ∀ (n : Nat) {l l' : List (List AV)}, freezeE H S n l = some l' → l'.length = l.length
  | 0, l, l', h => by simp [freezeE] at h
  | n + 1, [], l', h => by simp [freezeE] at h; simp [← h]
  | n + 1, x :: l, l', h => by
    rw [freezeE] at h
    split at h
    · split at h
      · next l'' hl => cases h; simp [freezeE_length n hl]
      · cases h
    · cases h

/-- The blocks of S's regions. -/
def Frz (c : Ctx) (H : Heap) (S : List Nat) (b : Nat) : Prop := ∃ r ∈ S, ∃ ver ro sz rf l, H[r]? = some (.arr ver ro sz rf l) ∧ b = (c.ρ r ver).blk

theorem freeze_sound {c cS : Ctx} {H : Heap} {S : List Nat} (hh : HR c H) (hle : Le c cS) (hw : cS.w = c.w) (hS : ∀ b, Frz c H S b → cS.imm b) : ∀ n : Nat,
    (∀ (x x' : AV) (u : Value), freezeN H S n x = some x' → Rel c x u → Rel cS x' u ∧ (one x = true → one x' = true)) ∧
    (∀ (l l' : List AV), freezeC H S n l = some l' → (∀ ys, RelL c l ys → RelL cS l' ys) ∧ (∀ b o, RelM c b o l → RelM cS b o l') ∧ (l.all one = true → l'.all one = true)) ∧
    (∀ (l l' : List (List AV)), freezeE H S n l = some l' → ∀ b sz o, RelE c b sz o l → RelE cS b sz o l')
  | 0 => ⟨fun x x' u h => by simp [freezeN] at h, fun l l' h => by simp [freezeC] at h, fun l l' h => by simp [freezeE] at h⟩
  | n + 1 => by
    obtain ⟨hN, hC, hE⟩ := freeze_sound hh hle hw hS n
    refine ⟨fun x x' u h hx => ?_, fun l l' h => ?_, fun l l' h b sz o hl => ?_⟩
    · rw [freezeN.eq_def] at h
      split at h
      · next e => cases e
      next m e =>
      cases e
      split at h
      · next r ver off len =>
        split at h
        · cases h
        next hm =>
        split at h
        case h_2 => cases h
        next ver' ro sz rf l hg =>
        obtain ⟨⟨hv, hlen⟩, h'⟩ := ite_some h
        clear h
        have h := h'
        clear h'
        subst hv
        have ok := hh.arr _ _ _ _ _ _ hg
        obtain ⟨_, hcap, a, cap', rfl, h2, h3⟩ := hx
        have him : cS.imm (c.ρ r ver').blk := hS _ ⟨r, (mem_iff _ _).1 hm, _, _, _, _, _, hg, rfl⟩
        have main : ∀ l' : List (List AV), l'.length = len → refsE l' = [] → RelE cS (c.ρ r ver').blk sz ((c.ρ r ver').off + off * sz) l' → Rel cS (.sl false l') (.slice a len cap') := by
          intro l' e1 e2 e3
          refine ⟨a, cap', by rw [e1], by omega, by simp, e2, ?_⟩
          by_cases hl : l' = []
          · exact .inl hl
          · have : l'.length ≠ 0 := by simpa using hl
            rcases h3 with h3 | h3
            · omega
            · rw [ok.hsz] at h3
              exact .inr ⟨_, _, sz, h3, him, e3⟩
        have hsl := ok.mem.slice off len
        split at h
        · cases h
          refine ⟨main _ (length_slice _ _ _ hlen) ?_ (hsl.mono hle (by rw [hw])), fun _ => rfl⟩
          exact refsE_slice_nil (eq_nil_of_sub ok.hrf rfl)
        · split at h
          · next l' hl =>
            obtain ⟨hnil, h⟩ := ite_some h
            cases h
            exact ⟨main _ ((freezeE_length _ hl).trans (length_slice _ _ _ hlen)) (List.isEmpty_iff.1 hnil) (hE _ _ hl _ _ _ hsl), fun _ => rfl⟩
          · cases h
      · next l =>
        split at h
        · next l' hl =>
          cases h
          obtain ⟨ys, rfl, h1, h2⟩ := hx
          obtain ⟨k1, k2, k3⟩ := hC _ _ hl
          exact ⟨⟨ys, rfl, k1 _ h1, k3 h2⟩, fun e => by cases e⟩
        · cases h
      · next l =>
        split at h
        · next l' hl =>
          cases h
          obtain ⟨ys, rfl, h1⟩ := hx
          obtain ⟨k1, k2, k3⟩ := hC _ _ hl
          exact ⟨⟨ys, rfl, k1 _ h1⟩, fun e => by cases e⟩
        · cases h
      · cases h; exact ⟨hx.mono hle, id⟩
    · rw [freezeC.eq_def] at h
      split at h
      · next e => cases e
      next m e =>
      cases e
      split at h
      · cases h; exact ⟨fun ys h => h, fun _ _ _ => trivial, fun _ => rfl⟩
      next x l =>
      split at h
      case h_2 => cases h
      next x' hx' =>
      split at h
      case h_2 => cases h
      next l'' hl'' =>
      cases h
      obtain ⟨k1, k2, k3⟩ := hC _ _ hl''
      refine ⟨fun ys h => ?_, fun b o h => ?_, fun h => ?_⟩
      · obtain ⟨y, ys', rfl, h1, h2⟩ := h
        exact ⟨y, ys', rfl, (hN _ _ _ hx' h1).1, k1 _ h2⟩
      · obtain ⟨⟨y, hy, h1, ho⟩, h2⟩ := h
        obtain ⟨h1', h2'⟩ := hN _ _ _ hx' h1
        exact ⟨⟨y, by rw [hw]; exact hy, h1', h2' ho⟩, k2 _ _ h2⟩
      · simp only [List.all_cons, Bool.and_eq_true] at h ⊢
        refine ⟨?_, k3 h.2⟩
        rw [freezeN.eq_def] at hx'
        split at hx'
        · cases hx'
        split at hx'
        · (repeat' split at hx') <;> first | (cases hx'; done) | (cases hx'; rfl)
        · cases h.1
        · cases h.1
        · cases hx'; exact h.1
    · rw [freezeE.eq_def] at h
      split at h
      · next e => cases e
      next m e =>
      cases e
      split at h
      · cases h; trivial
      next x l =>
      split at h
      case h_2 => cases h
      next x' hx' =>
      split at h
      case h_2 => cases h
      next l'' hl'' =>
      cases h
      obtain ⟨h1, h2, h3⟩ := hl
      exact ⟨by rw [freezeC_length _ hx']; exact h1, (hC _ _ hx').2.1 _ _ h2, hE _ _ hl'' _ _ _ h3⟩
end Go.AM
