/- A part of the proof that the machine of AM is sound: each lemma is under its own hypotheses alone. -/
import Derived.Test.YtnehdpiiijbhhaaAMRest
set_option autoImplicit false
set_option linter.unusedVariables false
set_option linter.unusedSimpArgs false
namespace Go.AM
open Go Go.RowKit
variable {P : Program}

def RelO (c : Ctx) : Option AV → Option Value → Prop
  | none, none => True
  | some x, some u => Rel c x u
  | _, _ => False

theorem bound_sound {c : Ctx} {x : Option AV} {u : Option Value} {dflt most n : Nat} (h : bound x dflt most = some n) (hx : RelO c x u) :
    (x = none ∧ u = none ∧ n = dflt ∧ dflt ≤ most) ∨ (∃ y k i, x = some y ∧ u = some (.int k i) ∧ 0 ≤ i ∧ i ≤ most ∧ n = i.toNat ∧ n ≤ most) := by
  unfold bound at h
  split at h
  · cases u with
    | none =>
      split at h
      · cases h; exact .inl ⟨rfl, rfl, rfl, by assumption⟩
      · cases h
    | some u => exact hx.elim
  · next k i =>
    cases u with
    | none => exact hx.elim
    | some u =>
      obtain ⟨_, rfl⟩ := hx
      split at h
      · next hc => cases h; exact .inr ⟨_, k, i, rfl, rfl, hc.1, hc.2, rfl, by omega⟩
      · cases h
  · cases h

theorem run_bound {k : IntKind} {i : Int} {y : Nat} (code : BoundsCode) (h0 : 0 ≤ i) (h1 : i ≤ y) (w : World) : (Instr.sliceBound (.int k i) y code).run P w = .ok i.toNat w := by
  simp [Instr.sliceBound, asIntOf, h0, h1]

/-- The bounds of a slice expression. -/
theorem run_bounds {c : Ctx} {lo hi mx : Option AV} {ul uh um : Option Value} {isS : Bool} {len cap m b a mc : Nat}
    (hmx : bound mx len len = some m) (hhi : bound hi len m = some b) (hlo : bound lo 0 b = some a) (hl : RelO c lo ul) (hh : RelO c hi uh) (hm : RelO c mx um)
    (hcap : len ≤ cap) (hno : mx.isSome = true → hi.isSome = true) :
    ∃ mc, (Instr.sliceBounds isS len cap ul uh um).run P c.w = .ok (a, b, mc) c.w ∧ a ≤ b ∧ b ≤ mc ∧ (mx.isSome = true → mc = m ∧ m ≤ len) ∧ (mx = none → mc = cap ∧ m = len) ∧ b ≤ len := by
  rcases bound_sound hmx hm with ⟨rfl, rfl, rfl, _⟩ | ⟨ym, km, im, rfl, rfl, m0, m1, rfl, m2⟩
  · refine ⟨cap, ?_⟩
    rcases bound_sound hhi hh with ⟨rfl, rfl, rfl, _⟩ | ⟨yh, kh, ih, rfl, rfl, h0, h1, rfl, h2⟩
    · rcases bound_sound hlo hl with ⟨rfl, rfl, rfl, _⟩ | ⟨yl, kl, il, rfl, rfl, l0, l1, rfl, l2⟩
      · exact ⟨by simp [Instr.sliceBounds], by omega, hcap, by simp, fun _ => ⟨rfl, rfl⟩, by omega⟩
      · exact ⟨by simp [Instr.sliceBounds, run_bound _ l0 l1], by omega, hcap, by simp, fun _ => ⟨rfl, rfl⟩, by omega⟩
    · have h3 : ih ≤ cap := by omega
      rcases bound_sound hlo hl with ⟨rfl, rfl, rfl, _⟩ | ⟨yl, kl, il, rfl, rfl, l0, l1, rfl, l2⟩
      · exact ⟨by simp [Instr.sliceBounds, run_bound _ h0 h3], by omega, by omega, by simp, fun _ => ⟨rfl, rfl⟩, by omega⟩
      · exact ⟨by simp [Instr.sliceBounds, run_bound _ h0 h3, run_bound _ l0 l1], by omega, by omega, by simp, fun _ => ⟨rfl, rfl⟩, by omega⟩
  · refine ⟨im.toNat, ?_⟩
    have hc : im ≤ cap := by omega
    rcases bound_sound hhi hh with ⟨rfl, rfl, rfl, _⟩ | ⟨yh, kh, ih, rfl, rfl, h0, h1, rfl, h2⟩
    · simp at hno
    · rcases bound_sound hlo hl with ⟨rfl, rfl, rfl, _⟩ | ⟨yl, kl, il, rfl, rfl, l0, l1, rfl, l2⟩
      · exact ⟨by simp [Instr.sliceBounds, run_bound _ m0 hc, run_bound _ h0 h1], by omega, by omega, fun _ => ⟨rfl, m2⟩, by simp, by omega⟩
      · exact ⟨by simp [Instr.sliceBounds, run_bound _ m0 hc, run_bound _ h0 h1, run_bound _ l0 l1], by omega, by omega, fun _ => ⟨rfl, m2⟩, by simp, by omega⟩
end Go.AM
namespace Go.AM
open Go Go.RowKit
variable {P : Program}

def Ctx.froze (c : Ctx) (b : Nat) : Ctx := { c with imm := fun b' => c.imm b' ∨ b' = b }

theorem Le.froze (c : Ctx) (b : Nat) : Le c (c.froze b) := ⟨fun _ _ h => ⟨h, rfl⟩, fun _ h => ⟨.inl h, rfl⟩⟩

theorem blkM_froze (c : Ctx) (b r : Nat) (g : Reg) : blkM (c.froze b) r g = blkM c r g := by
  cases g with
  | arr v ro _ _ _ => cases ro <;> rfl
  | map _ _ => rfl
  | dead => rfl

/-- From here on a region is not written. -/
theorem HR.froze {c : Ctx} {H : Heap} (h : HR c H) {r ver sz : Nat} {ro : Bool} {rf : List Nat} {l : List (List AV)} (h0 : H[r]? = some (.arr ver ro sz rf l)) :
    HR (c.froze (c.ρ r ver).blk) (H.set r (.arr ver true sz rf l)) := by
  have hk0 := h.arr _ _ _ _ _ _ h0
  have hle := Le.froze c (c.ρ r ver).blk
  have hother : ∀ r' g' b, r' ≠ r → H[r']? = some g' → blkM c r' g' = some b → b ≠ (c.ρ r ver).blk := by
    intro r' g' b hne hg hb e
    cases ro
    · exact hne (h.sep _ _ _ _ _ hg h0 hb (by rw [e]; rfl))
    · exact h.not_imm hg hb (e ▸ hk0.im rfl)
  refine ⟨?_, ?_, ?_, ?_, ?_⟩
  · intro r' ver' ro' sz' rf' l' hg
    rcases get_set_some hg with ⟨rfl, _, e⟩ | ⟨hne, hg⟩
    · cases e
      exact ⟨hk0.hv, hk0.hsz, hk0.blk, hk0.cap, hk0.mem.mono hle rfl, hk0.hrf, fun _ => .inr rfl, by simp⟩
    · have hk := h.arr _ _ _ _ _ _ hg
      obtain ⟨a1, a2, a3, a4, a5, a6, a7, a8⟩ := hk
      refine ⟨a1, a2, a3, a4, a5.mono hle rfl, a6, fun e => .inl (a7 e), fun e => ?_⟩
      subst e
      rintro (hi | hi)
      · exact a8 rfl hi
      · exact hother r' _ _ (Ne.symm hne) hg rfl hi
  · intro r' rf' l' hg
    rcases get_set_some hg with ⟨rfl, _, e⟩ | ⟨hne, hg⟩
    · cases e
    · exact h.nomap _ _ _ hg
  · intro r1 r2 g1 g2 b h1 h2 hb1 hb2
    rw [blkM_froze] at hb1 hb2
    rcases get_set_some h1 with ⟨rfl, _, rfl⟩ | ⟨hne1, h1⟩
    · cases hb1
    · rcases get_set_some h2 with ⟨rfl, _, rfl⟩ | ⟨hne2, h2⟩
      · cases hb2
      · exact h.sep _ _ _ _ _ h1 h2 hb1 hb2
  · intro r' v hv
    obtain ⟨g, hg, hvb⟩ := h.vb r' v hv
    by_cases hr : r = r'
    · subst hr
      rw [h0] at hg; cases hg
      exact ⟨.arr ver true sz rf l, by rw [get_set, if_pos rfl, if_pos (List.getElem?_eq_some_iff.1 h0).1], hvb⟩
    · exact ⟨g, by rw [get_set, if_neg hr]; exact hg, hvb⟩
  · rintro b (hb | rfl)
    · exact h.im b hb
    · exact hk0.blk_lt

theorem BR.froze {B : Base} {c : Ctx} {H : Heap} (hB : BR B c H) (h : HR c H) {r ver sz : Nat} {ro : Bool} {rf : List Nat} {l : List (List AV)} (h0 : H[r]? = some (.arr ver ro sz rf l)) :
    BR B (c.froze (c.ρ r ver).blk) (H.set r (.arr ver true sz rf l)) := by
  refine ⟨hB.size, hB.os, hB.tape, hB.output, hB.frame, ?_, fun b hb => .inl (hB.i0 b hb), ?_, hB.fz⟩
  · intro r' g b hg hb
    rw [blkM_froze] at hb
    rcases get_set_some hg with ⟨rfl, _, rfl⟩ | ⟨_, hg⟩
    · cases hb
    · exact hB.mu _ _ _ hg hb
  · rintro b (hb | rfl)
    · exact hB.i1 b hb
    · cases ro
      · exact .inr (hB.mu _ _ _ h0 rfl)
      · exact hB.i1 _ ((h.arr _ _ _ _ _ _ h0).im rfl)

theorem relE_chunks {c : Ctx} {b : Nat} (s : Nat) : ∀ (n o : Nat) (l : List AV), n * s ≤ l.length → RelM c b o l → RelE c b s o (chunks s n l)
  | 0, _, _, _, _ => trivial
  | n + 1, o, l, h, hm => by
    rw [Nat.add_mul] at h
    refine ⟨by simp; omega, ?_, relE_chunks s n (o + s) (l.drop s) (by simp; omega) (hm.drop s)⟩
    have := hm.slice 0 s
    simpa [slice] using this

theorem slice_sound {B : Base} {c : Ctx} {H H' : Heap} (hh : HR c H) (hB : BR B c H) {t : TypeId} {x y : AV} {lo hi mx : Option AV} {u : Value} {ul uh um : Option Value} {f : FP}
    (hs : sliceAV P H t x lo hi mx = some (y, H', f)) (hx : Rel c x u) (hl : RelO c lo ul) (hhi : RelO c hi uh) (hm : RelO c mx um) :
    Comes B c H' y ((Instr.sliceAt t u ul uh um).run P c.w) := by
  unfold sliceAV at hs
  split at hs
  · -- a slice by value
    next elem full l hu =>
    split at hs
    · cases hs
    next hno =>
    split at hs
    case h_2 => cases hs
    case h_1 m hbm =>
    split at hs
    case h_2 => cases hs
    case h_1 b hbh =>
    split at hs
    case h_2 => cases hs
    case h_1 a hbl =>
    split at hs
    case isFalse => cases hs
    case isTrue hcond =>
    simp only [Bool.and_eq_true] at hcond
    obtain ⟨hall, hsome⟩ := hcond
    cases hs
    obtain ⟨ad, cap, rfl, k1, k2, k3, k4⟩ := hx
    obtain ⟨mc, hrun, e1, e2, e3, e4, e5⟩ := run_bounds (P := P) (isS := true) (mc := 0) hbm hbh hbl hl hhi hm k1 (by
      intro e
      cases hi with
      | none => simp [e] at hno
      | some _ => rfl)
    have hres : (Instr.sliceAt t (.slice ad l.length cap) ul uh um).run P c.w = .ok (.slice (if mc = a then ad else ad.map (·.add (a * P.cellsOf elem))) (b - a) (mc - a)) c.w := by
      simp only [Instr.sliceAt, Sem.run_bind, run_underlying hu, Result.andThen_ok, Instr.slice]
      simp [hrun, run_sizeOf' hsome]
    refine .same hres hh hB ?_
    have hlen : (slice l a (b - a)).length = b - a := length_slice _ _ _ (by omega)
    refine ⟨_, _, by rw [hlen], by rw [hlen]; omega, ?_, refsE_slice_nil k3, ?_⟩
    · intro hf
      rw [hlen]
      cases mx with
      | none =>
        simp at hf
        obtain ⟨rfl, _⟩ := e4 rfl
        rw [k2 hf.1]; omega
      | some v =>
        simp at hf
        obtain ⟨rfl, _⟩ := e3 rfl
        omega
    · by_cases hab : a = b
      · left; subst hab; simp [slice]
      · right
        rcases k4 with k4 | ⟨bl, o, sz, rfl, hb, hE⟩
        · subst k4; simp at e5; omega
        · have hsz : sz = P.cellsOf elem := by
            cases l with
            | nil => simp at e5; omega
            | cons e0 l =>
              have := allLen_iff.1 hall e0 (by simp)
              have h2 := hE.1
              omega
          subst hsz
          refine ⟨bl, o + a * P.cellsOf elem, P.cellsOf elem, ?_, hb, hE.slice a (b - a)⟩
          rw [if_neg (by omega)]
          simp [addr_add]
  · -- a slice of a region
    next elem r ver off len hu =>
    split at hs
    · cases hs
    split at hs
    case h_2 => cases hs
    case h_1 b hbh =>
    split at hs
    case h_2 => cases hs
    case h_1 a hbl =>
    split at hs
    case h_2 => cases hs
    case h_1 ver' ro sz rf l hr =>
    split at hs
    case isFalse => cases hs
    case isTrue hc =>
    obtain ⟨⟨rfl, rfl⟩, hsome⟩ := hc
    cases hs
    obtain ⟨hv, hcap, ad, cap', rfl, k1, k2⟩ := hx
    have hk := hh.arr _ _ _ _ _ _ hr
    obtain ⟨mc, hrun, e1, e2, e3, e4, e5⟩ := run_bounds (P := P) (mx := none) (isS := true) (mc := 0) (m := len) (by simp [bound]) hbh hbl hl hhi hm (show len ≤ cap' by omega) (by simp)
    obtain ⟨rfl, _⟩ := e4 rfl
    cases um with
    | some _ => exact hm.elim
    | none =>
    have hres : (Instr.sliceAt t (.slice ad len mc) ul uh none).run P c.w = .ok (.slice (if mc = a then ad else ad.map (·.add (a * P.cellsOf elem))) (b - a) (mc - a)) c.w := by
      simp only [Instr.sliceAt, Sem.run_bind, run_underlying hu, Result.andThen_ok, Instr.slice]
      simp [hrun, run_sizeOf' hsome]
    refine .same hres hh hB ⟨hv, by omega, _, mc - a, rfl, by omega, ?_⟩
    by_cases hma : mc = a
    · left; omega
    · right
      rw [if_neg hma]
      rcases k2 with k2 | rfl
      · omega
      · simp only [Option.map_some, addr_add]
        rw [hk.hsz, Nat.add_mul, Nat.add_assoc]
  · -- an array in a variable
    next n elem r ver i off hu =>
    split at hs
    case h_2 => cases hs
    case h_1 ver' ro sz l b hr hbh =>
    split at hs
    case h_2 => cases hs
    case h_1 e a he hbl =>
    split at hs
    case isFalse => cases hs
    case isTrue hc =>
    obtain ⟨⟨rfl, hfit⟩, hsome⟩ := hc
    cases hs
    obtain ⟨hv, rfl⟩ := hx
    have hk := hh.arr _ _ _ _ _ _ hr
    obtain ⟨mc, hrun, e1, e2, e3, e4, e5⟩ := run_bounds (P := P) (mx := none) (isS := false) (mc := 0) (m := n) (len := n) (by simp [bound]) hbh hbl hl hhi hm (Nat.le_refl n) (by simp)
    obtain ⟨rfl, _⟩ := e4 rfl
    cases um with
    | some _ => exact hm.elim
    | none =>
    obtain ⟨h1, h2⟩ := RelE_iff.1 hk.mem _ _ he
    refine ⟨.slice (some (if mc = a then ⟨(c.ρ r ver').blk, (c.ρ r ver').off + i * (c.ρ r ver').sz + off, none⟩ else ⟨(c.ρ r ver').blk, (c.ρ r ver').off + i * (c.ρ r ver').sz + off + a * P.cellsOf elem, none⟩)) (b - a) (mc - a), c.w, c.froze (c.ρ r ver').blk, ?_, rfl, Le.froze _ _, hh.froze hr, hB.froze hh hr, ?_⟩
    · simp only [Instr.sliceAt, Sem.run_bind, run_underlying hu, Result.andThen_ok]
      simp [Instr.sureAddr, hrun, run_sizeOf' hsome, addr_add]
    · have hlen : (slice (chunks (P.cellsOf elem) mc (e.drop off)) a (b - a)).length = b - a := length_slice _ _ _ (by rw [length_chunks]; omega)
      have hcl : refsL e = [] := eq_nil_of_sub (fun q hq => hk.hrf q (mem_refsE (List.mem_of_getElem? he) hq)) rfl
      refine ⟨_, _, by rw [hlen], by rw [hlen]; omega, ?_, ?_, ?_⟩
      · intro hf
        rw [hlen]
        simp at hf
        omega
      · exact refsE_slice_nil (eq_nil_of_sub (fun q hq => refsE_chunks hq) (refsL_drop_nil hcl))
      · by_cases hab : a = b
        · left; subst hab; simp [slice]
        · right
          refine ⟨(c.ρ r ver').blk, (c.ρ r ver').off + i * (c.ρ r ver').sz + off + a * P.cellsOf elem, P.cellsOf elem, ?_, .inr rfl, ?_⟩
          · rw [if_neg (by omega)]
          · refine RelE.slice ?_ a (b - a)
            refine relE_chunks _ _ _ _ (by simp; omega) ?_
            have := (h2.drop off).mono (Le.froze c (c.ρ r ver').blk) rfl
            rw [hk.hsz]
            exact this
  · next s hu =>
    split at hs
    case h_2 => cases hs
    case h_1 b hbh =>
    split at hs
    case h_2 => cases hs
    case h_1 a hbl =>
    cases hs
    obtain ⟨_, rfl⟩ := hx
    cases um with
    | some _ => exact hm.elim
    | none =>
    obtain ⟨mc, hrun, e1, e2, e3, e4, e5⟩ := run_bounds (P := P) (mx := none) (isS := false) (mc := 0) (m := s.size) (len := s.size) (by simp [bound]) hbh hbl hl hhi (um := none) trivial (Nat.le_refl s.size) (by simp)
    refine .same (v := .string (s.extract a b)) ?_ hh hB ⟨rfl, rfl⟩
    simp only [Instr.sliceAt, Sem.run_bind, run_underlying hu, Result.andThen_ok, Instr.slice]
    simp [hrun]
  · cases hs
end Go.AM
