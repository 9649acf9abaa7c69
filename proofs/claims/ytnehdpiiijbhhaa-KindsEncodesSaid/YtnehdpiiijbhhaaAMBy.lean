/- A part of the proof that the machine of AM is sound: each lemma is under its own hypotheses alone. -/
import Derived.Test.YtnehdpiiijbhhaaAMBack
set_option autoImplicit false
set_option linter.unusedVariables false
set_option linter.unusedSimpArgs false
namespace Go.AM
open Go Go.RowKit
variable {P : Program}

/-- Of the first k regions nothing is lost. -/
structure LeK (k : Nat) (c c' : Ctx) : Prop where
  v : ∀ r < k, ∀ v, c.V r v → c'.V r v ∧ c'.ρ r v = c.ρ r v
  i : ImmLe c c'

theorem Le.k {c c' : Ctx} (h : Le c c') (k : Nat) : LeK k c c' := ⟨fun r _ v hv => h.v r v hv, h.i⟩
theorem LeK.trans {k : Nat} {a b c : Ctx} (h : LeK k a b) (h' : LeK k b c) : LeK k a c :=
  ⟨fun r hr v hv => let ⟨h1, h2⟩ := h.v r hr v hv; let ⟨k1, k2⟩ := h'.v r hr v h1; ⟨k1, k2.trans h2⟩, h.i.trans h'.i⟩
theorem LeK.sub {k k' : Nat} {a b : Ctx} (h : LeK k a b) (hk : k' ≤ k) : LeK k' a b := ⟨fun r hr => h.v r (by omega), h.i⟩

/-- What a call ends with. -/
def OutR (c : Ctx) : Out → Ending → Prop
  | .ret x, .returned v => Rel c x v
  | .pan x, .panicked ch => ∃ v, ch = [{ v, recovered := false }] ∧ Rel c x v
  | _, _ => False

def Ends (B : Base) (c : Ctx) (k : Nat) (o : Out) (h' : Heap) (e : Ending) (w' : World) : Prop :=
  ∃ c', c'.w = w' ∧ LeK k c c' ∧ HR c' h' ∧ BR B c' h' ∧ OutR c' o e

def Closed (G : Nat → AV) : Prop := ∀ g, refs (G g) = []

theorem GR.closed {c c' : Ctx} {G : Nat → AV} (hG : Closed G) (hg : GR c G) (h : ImmLe c c') : GR c' G := fun g => (hg g).closed h (hG g)

/-- A function does what 'run' says. -/
def RunOk (P : Program) (G : Nat → AV) (f : FuncId) (run : List AV → Heap → Option (Out × Heap)) : Prop :=
  ∀ args h o h', run args h = some (o, h') → ∀ (c : Ctx) (B : Base) (ys : Array Value), HR c h → BR B c h → GR c G → RelL c args ys.toList → Calls P f ys c.w (Ends B c h.length o h')

theorem freeze1_sound {c : Ctx} {h : Heap} (hh : HR c h) {S live0 : List Nat} {x x' : AV} {u : Value} (e : freeze1 h S live0 x = some x') (hx : Rel c x u) : Rel (c.with h S) x' u := by
  unfold freeze1 at e
  split at e
  · cases e; exact hx.mono (Le.with c h S)
  · exact ((freeze_sound hh (Le.with c h S) rfl (fun b hb => .inr hb) much).1 _ _ _ e hx).1

theorem freezeOut_sound {c : Ctx} {h : Heap} (hh : HR c h) {S live0 : List Nat} : ∀ {l l' : List AV} {ys : List Value}, freezeOut h S live0 l = some l' → RelL c l ys → RelL (c.with h S) l' ys
  | [], l', ys, e, hl => by
    simp only [freezeOut, Option.some.injEq] at e; subst e; exact hl
  | x :: l, l', ys, e, hl => by
    obtain ⟨y, ys', rfl, hx, hl⟩ := hl
    rw [freezeOut] at e
    split at e
    · next x' l'' hx' hl'' =>
      cases e
      exact ⟨y, ys', rfl, freeze1_sound hh hx' hx, freezeOut_sound hh hl'' hl⟩
    · cases e

theorem outOf_sound {c : Ctx} {h : Heap} (hh : HR c h) {way : Way} {live0 : List Nat} {x x' : AV} {S : List Nat} {v : Value} (e : outOf way h live0 x = some (S, x')) (hx : Rel c x v) :
    Rel (c.with h S) x' v := by
  unfold outOf at e
  split at e
  · cases e; exact hx.mono (Le.with c h [])
  · split at e
    · split at e
      · cases e
      · split at e
        · next l hl =>
          cases e
          obtain ⟨ys, rfl, h1⟩ := hx
          exact ⟨ys, rfl, freezeOut_sound hh hl h1⟩
        · cases e
    · split at e
      · cases e
      · split at e
        · next l hl =>
          cases e
          exact freeze1_sound hh hl hx
        · cases e

/-- What a call by 'callBy' comes to. -/
def CallEnds (B : Base) (c : Ctx) : R → Ending → World → Prop
  | .val x h' _, e, w' => ∃ c2 v, e = .returned v ∧ c2.w = w' ∧ Le c c2 ∧ HR c2 h' ∧ BR B c2 h' ∧ Rel c2 x v
  | .pan x h', e, w' => ∃ c2 v, e = .panicked [{ v, recovered := false }] ∧ c2.w = w' ∧ Le c c2 ∧ HR c2 h' ∧ BR B c2 h' ∧ Rel c2 x v

theorem length_memFor (wr : Bool) (roots : List Nat) (h : Heap) : (memFor wr roots h).length = roots.length := by
  cases wr <;> simp [memFor, length_restrict]

theorem inOf_sound {c : Ctx} {h : Heap} (hh : HR c h) {way : Way} {args args' : List AV} {S : List Nat} {ys : List Value} (e : inOf way args h = some (S, args')) (hx : RelL c args ys) {roots : List Nat} {wr : Bool} :
    RelL { c with imm := immIn c h S roots wr } args' ys := by
  have hle : Le c { c with imm := immIn c h S roots wr } := ⟨fun _ _ hv => ⟨hv, rfl⟩, fun b hb => ⟨.inl hb, rfl⟩⟩
  unfold inOf at e
  split at e
  · cases e; exact hx.mono hle
  · split at e
    · cases e
    · split at e
      · next l hl =>
        cases e
        exact ((freeze_sound hh hle rfl (fun b hb => .inr (.inl hb)) much).2.1 _ _ hl).1 _ hx
      · cases e

theorem callBy_sound {G : Nat → AV} (hG : Closed G) {f : FuncId} {run : List AV → Heap → Option (Out × Heap)} (hrun : RunOk P G f run) {B : Base} {c : Ctx} {h : Heap} (hh : HR c h) (hB : BR B c h) (hg : GR c G)
    {way : Way} {args : List AV} {ys : Array Value} (hx : RelL c args ys.toList) {r : R} (e : callBy run way args h = some r) : Calls P f ys c.w (CallEnds B c r) := by
  unfold callBy at e
  split at e
  · cases e
  next S args' hin =>
  split at e
  · cases e
  next roots hroots =>
  split at e
  · cases e
  next hcond =>
  simp only [Bool.or_eq_false_iff, Bool.not_eq_false', Bool.and_eq_true] at hcond
  obtain ⟨hd, _, hlt⟩ := hcond
  obtain ⟨_, hsub, hclo, hnd⟩ := reach_spec _ _ _ _ hroots
  have hn := hnd List.nodup_nil
  obtain ⟨en1, en2, en3, en4⟩ := enter_sound hh hB (fun r hr g hg => hclo r hr (by simp) g hg) hn hd way.wr
  have hargs : RelL (c.enter roots (immIn c h S roots way.wr)) (renL (fun r => idxOf r roots) args') ys.toList :=
    RelL_ren (c := { c with imm := immIn c h S roots way.wr }) (c' := c.enter roots (immIn c h S roots way.wr)) (σ := fun r => idxOf r roots) (fun b hb => ⟨hb, rfl⟩) _ _
      (Takes.sub (l := roots) (fun r hr v hv => en3 r hr v hv) hsub) (inOf_sound hh hin hx)
  have hgr := hg.closed hG en4
  -- behind the call
  have main : ∀ (o : Out) (h' : Heap) (x : AV), (match o with | .ret x => x | .pan x => x) = x → run (renL (fun r => idxOf r roots) args') (memFor way.wr roots h) = some (o, h') →
      ∀ (y : AV) (h3 : Heap) (fp : FP), back way S roots h (memFor way.wr roots h) h' x = some (y, h3, fp) →
      Calls P f ys c.w (fun e w' => ∃ c2 v, (match o with | .ret _ => e = .returned v | .pan _ => e = .panicked [{ v, recovered := false }]) ∧ c2.w = w' ∧ Le c c2 ∧ HR c2 h3 ∧ BR B c2 h3 ∧ Rel c2 y v) := by
    intro o h' x ho hr y h3 fp hb
    refine Calls.mono (hrun _ _ _ _ hr (c.enter roots (immIn c h S roots way.wr)) _ ys en1 en2 hgr hargs) ?_
    rintro e w' ⟨c1, rfl, hle, hh1, hB1, hout⟩
    rw [length_memFor] at hle
    obtain ⟨v, hv1, hv2⟩ : ∃ v, (match o with | .ret _ => e = .returned v | .pan _ => e = .panicked [{ v, recovered := false }]) ∧ Rel c1 x v := by
      cases o <;> cases e <;> simp only [OutR] at hout
      · subst ho; exact ⟨_, rfl, hout⟩
      · obtain ⟨v, rfl, hv⟩ := hout; subst ho; exact ⟨v, rfl, hv⟩
    unfold back at hb
    split at hb
    · cases hb
    next live0 hlive0 =>
    split at hb
    · cases hb
    next S2 x' hout' =>
    split at hb
    · cases hb
    next all hall =>
    split at hb
    case h_2 => cases hb
    next hcond =>
    simp only [Bool.and_eq_true, Bool.not_eq_true', Bool.or_eq_true] at hcond
    obtain ⟨⟨hS2, hlen⟩, hver⟩ := hcond
    obtain ⟨ha1, ha2, ha3, ha4⟩ := reach_spec _ _ _ _ hall
    have hl0 : live0.Nodup ∧ (∀ i < roots.length, i ∈ live0) ∧ (way.wr = true → ∀ r ∈ live0, ∀ g, h'[r]? = some g → ∀ q ∈ regRefs g, q ∈ live0) ∧ (way.wr = false → ∀ r ∈ live0, r < roots.length) := by
      cases hw : way.wr with
      | true =>
        rw [hw] at hlive0
        obtain ⟨_, b2, b3, b4⟩ := reach_spec _ _ _ _ hlive0
        exact ⟨b4 List.nodup_nil, fun i hi => b2 i (List.mem_range.2 hi), fun _ r hr g hg => b3 r hr (by simp) g hg, fun e => absurd e (by simp)⟩
      | false =>
        rw [hw] at hlive0
        simp only [Option.some.injEq] at hlive0
        subst hlive0
        exact ⟨List.nodup_range, fun i hi => List.mem_range.2 hi, fun e => absurd e (by simp), fun _ r hr => List.mem_range.1 hr⟩
    have hbt : backTo way.wr S roots (all.filter fun r => Nat.ble roots.length r) h h' x' = (y, h3, fp) := by simpa using hb
    obtain ⟨c2, k1, k2, k3, k4, k5⟩ := back_sound (c1 := c1) (S2 := S2) (v := v)
      { hh := hh, hB := hB, hn := hn, hlt := allLt_iff.1 hlt, hh1 := hh1, hB1 := hB1
        hK := fun i hi v hv => hle.v i hi v ⟨hi, hv⟩
        hI := fun b hb => hle.i b hb
        hx := ha2
        hin := fun i hi => ha1 i (hl0.2.1 i hi)
        hcl := fun r hr hw g hg q hq => by
          by_cases hm : r ∈ live0
          · cases hw1 : way.wr with
            | true => exact ha1 q (hl0.2.2.1 hw1 r hm g hg q hq)
            | false => rw [hw1] at hw; exact absurd (hw (hl0.2.2.2 hw1 r hm)) (by simp)
          · exact ha3 r hr hm g hg q hq
        hna := ha4 hl0.1
        hS2 := meets_false.1 hS2
        hlen := Nat.le_of_ble_eq_true hlen
        hver := hver } (outOf_sound hh1 hout' hv2) hbt
    exact ⟨c2, v, hv1, k1, k2, k3, k4, k5⟩
  split at e
  · next x h' hr =>
    split at e
    · next y h3 fp hb =>
      cases e
      exact Calls.mono (main _ _ _ rfl hr _ _ _ hb) fun e w' ⟨c2, v, h1, h2⟩ => ⟨c2, v, h1, h2⟩
    · cases e
  · next x h' hr =>
    split at e
    · next y h3 fp hb =>
      cases e
      exact Calls.mono (main _ _ _ rfl hr _ _ _ hb) fun e w' ⟨c2, v, h1, h2⟩ => ⟨c2, v, h1, h2⟩
    · cases e
  · cases e
end Go.AM
